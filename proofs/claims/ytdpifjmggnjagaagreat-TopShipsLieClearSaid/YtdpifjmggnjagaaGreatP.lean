/- The program's functions compute the plain ones. Conditions: none. Printed by a program (wip/tools/xg.py). -/
import Derived.Test.YtdpifjmggnjagaaGreatP2
import Derived.Test.YtdpifjmggnjagaaGreatAu
set_option linter.unusedVariables false
set_option linter.unusedSimpArgs false
set_option maxRecDepth 4000
namespace Go.Proofs.YtdpifjmggnjagaaGreat
open Go Go.Am Go.Proofs Go.Mx X
open List (map)
set_option maxHeartbeats 4000000 in
theorem zNE {h:zN} {g:ZO} {x:Zi} {by_:(List Int)} {r:Bool} (M:zEt h g x by_=some r):Ct Tryz.prog 7 [zJ h,zi g,ZZ x,(V.sl (map (fun x=>V.lit (.int .u16 x)) by_))] (V.b r):=by
 refine zP zn rfl ?_
 unfold zEt at M
 obtain ⟨y,h_1,M⟩:=zC M
 refine au 10 ?_
 refine ca (zEo h_1) ?_
 obtain ⟨y1,h_2,M⟩:=zC M
 refine au 10 ?_
 refine ca (zFH h_2) (au 3 ?_)
 refine X.opW (H':=[.rows 6 [zJ h],.rows 17 [zi g],.rows 5 [ZZ x],.rows 4 [V.agg [V.i 0,V.i 0,V.i 0,V.i 0]]]) rfl rfl rfl rfl ?_
 refine X.op0W (H':=[.rows 6 [zJ h],.rows 17 [zi g],.rows 5 [ZZ x],.rows 4 [jE y1.1]]) rfl rfl rfl (au 4 ?_)
 refine X.mid [(41,(V.b ((!y.2)||(!decide (y1.2=0))))),(4,V.ptr 0 0 0),(5,V.ptr 1 0 0),(6,V.ptr 2 0 0),(11,V.ptr 3 0 0)] ?_ ?_
 ·intro hg
  refine X.split (!y.2) (fun h_3=>?_) (fun h_3=>?_)
  ·refine au 7 ?_
   exact ng hg rfl (by simp only [h_3,bb])
  refine au 7 ?_
  exact ng hg rfl (by simp only [h_3,bb])
 refine cm M (fun h_4 M=>?_) (fun h_4 M=>?_)
 ·refine au 3 ?_
  cases M
  exact X.rt
 refine au 11 ?_
 refine X.join (τ:=Int) (fun v=>zAs h g x y1 v=some r) (fun v=>⟨[(4,V.ptr 0 0 0),(5,V.ptr 1 0 0),(6,V.ptr 2 0 0),(11,V.ptr 3 0 0),(13,V.i v)],[.rows 6 [zJ h],.rows 17 [zi g],.rows 5 [ZZ x],.rows 4 [jE y1.1]],0,none,113⟩) ?_ ?_
 ·intro ground M
  replace M:zAs h g x y1 ground=some r:=M
  unfold zAs at M
  refine au 7 ?_
  refine X.join (τ:=Unit) (fun v=>zDW=some r) (fun v=>⟨[],[],0,none,113⟩) ?_ ?_
  ·intro _ M
   replace M:zDW=some r:=M
   unfold zDW at M
   refine au 3 ?_
   cases M
   exact X.rt
  intro hj_2
  refine au 1 ?_
  refine gx [some 0,some 1,some 2,some 3] (X.loop (σ:=Int) (fun v=>⟨[(4,V.ptr 0 0 0),(5,V.ptr 1 0 0),(6,V.ptr 2 0 0),(11,V.ptr 3 0 0),(13,V.i ground),(16,V.i v)],[.rows 6 [zJ h],.rows 17 [zi g],.rows 5 [ZZ x],.rows 4 [jE y1.1]],0,none,113⟩) M ?_ rfl)
  intro n b_1 M hc_3 hr_1
  rw [zDY] at M
  refine au 8 ?_
  refine cm M (fun h_5 M=>?_) (fun h_5 M=>?_)
  ·obtain ⟨y2,h_6,M⟩:=zC M
   refine au 7 ?_
   refine ca (zJX h_6) (au 14 ?_)
   refine X.mid [(93,(V.b ((!decide (y2.2=0))||(decide ((w64 (ground+y2.1))<(w64 ((max (max y1.1.Fore.Hi y1.1.Aft.Hi) 0)+h.Keel))))))),(4,V.ptr 0 0 0),(5,V.ptr 1 0 0),(6,V.ptr 2 0 0),(11,V.ptr 3 0 0),(13,V.i ground),(16,V.i n),(19,V.i (w64 (ground+y2.1)))] ?_ ?_
   ·intro hg
    refine X.split (!decide (y2.2=0)) (fun h_7=>?_) (fun h_7=>?_)
    ·refine au 17 ?_
     exact ng hg rfl (by simp only [h_7,bb])
    refine au 10 ?_
    refine X.opR (on_f rfl rfl rfl h_7) (max3E rfl rfl rfl) rfl (au 6 ?_)
    exact ng hg rfl (by simp only [h_7,bb])
   refine cm M (fun h_8 M=>?_) (fun h_8 M=>?_)
   ·refine au 3 ?_
    have hE:=bf M
    replace hE:=hr_1 _ hE.symm
    subst hE
    exact X.rt
   obtain ⟨y3,h_9,M⟩:=zC M
   refine au 11 ?_
   refine ca (zKi h_9) (au 7 ?_)
   refine X.mid [(112,(V.b ((!decide (y3.2=0))||(!y3.1)))),(4,V.ptr 0 0 0),(5,V.ptr 1 0 0),(6,V.ptr 2 0 0),(11,V.ptr 3 0 0),(13,V.i ground),(16,V.i n)] ?_ ?_
   ·intro hg
    refine X.split (!decide (y3.2=0)) (fun h_10=>?_) (fun h_10=>?_)
    ·refine au 7 ?_
     exact ng hg rfl (by simp only [h_10,bb])
    refine au 7 ?_
    exact ng hg rfl (by simp only [h_10,bb])
   refine cm M (fun h_11 M=>?_) (fun h_11 M=>?_)
   ·refine au 3 ?_
    have hE:=bf M
    replace hE:=hr_1 _ hE.symm
    subst hE
    exact X.rt
   refine au 7 ?_
   have hE:=bf M
   exact gx [some 0,some 1,some 2,some 3] (hc_3 (w64 (n+1)) hE.symm)
  obtain ⟨y_1,M,hy⟩:=zt M
  rw [hr_1 _ hy.symm] at M
  refine au 1 ?_
  exact gx [] (hj_2 () M)
 intro hj_1
 refine au 1 ?_
 refine gx [some 0,some 1,some 2,some 3] (X.loop (σ:=(Int×Int)) (fun v=>⟨[(4,V.ptr 0 0 0),(5,V.ptr 1 0 0),(6,V.ptr 2 0 0),(11,V.ptr 3 0 0),(13,V.i v.1),(43,V.sl (map zX h.Berths)),(44,(V.i (h.Berths.length:Int))),(45,V.i v.2)],[.rows 6 [zJ h],.rows 17 [zi g],.rows 5 [ZZ x],.rows 4 [jE y1.1]],0,none,113⟩) M ?_ rfl)
 rintro ⟨ground2,x2⟩ b_1 M hc_4 hr_1
 rw [zDX] at M
 refine au 3 ?_
 refine GS.seq ?_
 refine cm M (fun h_12 M=>?_) (fun h_12 M=>?_)
 ·refine GS.skip (GS.seq ?_)
  refine X.join (τ:=Int) (fun v=>Q8 x2 v=some b_1) (fun v=>⟨[(4,V.ptr 0 0 0),(5,V.ptr 1 0 0),(6,V.ptr 2 0 0),(11,V.ptr 3 0 0),(13,V.i v),(43,V.sl (map zX h.Berths)),(44,(V.i (h.Berths.length:Int))),(45,V.i x2)],[.rows 6 [zJ h],.rows 17 [zi g],.rows 5 [ZZ x],.rows 4 [jE y1.1]],0,none,113⟩) ?_ ?_
  ·intro ground1 M
   replace M:Q8 x2 ground1=some b_1:=M
   unfold Q8 at M
   refine au 4 ?_
   have hE:=bf M
   exact gx [some 0,some 1,some 2,some 3] (hc_4 (ground1,w64 (x2+1)) hE.symm)
  intro hj_5
  obtain ⟨x1,h_13,M⟩:=zC M
  refine au 4 ?_
  refine X.opW (H':=[.rows 6 [zJ h],.rows 17 [zi g],.rows 5 [ZZ x],.rows 4 [jE y1.1],.rows 2 [V.agg [V.i 0,V.i 0]]]) rfl rfl rfl rfl ?_
  refine X.op0W (H':=[.rows 6 [zJ h],.rows 17 [zi g],.rows 5 [ZZ x],.rows 4 [jE y1.1],.rows 2 [zX x1]]) rfl rfl rfl (au 9 ?_)
  refine cm M (fun h_14 M=>?_) (fun h_14 M=>?_)
  ·refine au 6 ?_
   exact gx [some 0,some 1,some 2,some 3] (hj_5 x1.Depth M)
  refine au 2 ?_
  exact gx [some 0,some 1,some 2,some 3] (hj_5 ground2 M)
 obtain ⟨y_1,M,hy⟩:=zt M
 rw [hr_1 _ hy.symm] at M
 refine au 1 ?_
 exact gx [some 0,some 1,some 2,some 3] (hj_1 ground2 M)
abbrev YW (x:Zu):V:=.agg [V.sl (map V.i x.Calls),V.sl (map zF x.Slots)]
theorem zES {c:zV} {c1:zI} {c2:zK} {c3:(List (Int×Bool))} {r:Bool} (M:yZ c c1 c2 c3=some r):Ct Tryz.prog 54 [zL c,V.fptr [V.fptr [zS c1] 0 0] 0 0,V.fptr [zF c2] 0 0,(V.fptr [(V.fmap (map (fun p:Int×Bool=>V.i p.1) c3) (map (fun p:Int×Bool=>V.b p.2) c3))] 0 0)] (V.b r):=by
 refine zP zn rfl ?_
 unfold yZ at M
 obtain ⟨y,h_1,M⟩:=zC M
 refine au 12 ?_
 refine cca (jr h_1) (au 2 ?_)
 refine X.norm [(1,V.fptr [V.fptr [zS c1] 0 0] 0 0),(2,V.fptr [zF c2] 0 0),(3,(V.fptr [(V.fmap (map (fun p:Int×Bool=>V.i p.1) c3) (map (fun p:Int×Bool=>V.b p.2) c3))] 0 0)),(6,V.i y)] ?_ rfl (sr rfl)
 obtain ⟨x,h_2,M⟩:=zC M
 refine GS.seq ?_
 refine X.draw (by kernel_rfl) (au 5 ?_)
 refine dop rfl (YH (f:=(fun l=>V.fmap (map (fun p=>zF p.1) l) (map (fun p=>zD p.2) l))) h_2 (fun _=>rfl) rfl rfl rfl rfl) rfl rfl (by kernel_rfl) rfl rfl (au 2 ?_)
 refine dop rfl (zJs (f:=zF) (g:=zD) (k:=c2) (l:=x) (z:=(⟨0,0⟩:zB)) (ok:=true) qc rfl rfl rfl rfl rfl) rfl rfl (by kernel_rfl) rfl rfl (au 4 ?_)
 refine dop0 rfl rfl rfl rfl (by kernel_rfl) rfl (au 2 ?_)
 refine X.norm [(3,(V.fptr [(V.fmap (map (fun p:Int×Bool=>V.i p.1) c3) (map (fun p:Int×Bool=>V.b p.2) c3))] 0 0)),(6,V.i y),(8,V.b ((za c2 x).isSome))] ?_ rfl (sr rfl)
 refine sq ?_
 refine X.mid [(5,V.b (((za c2 x).isSome)&&((za y c3).getD false)))] ?_ ?_
 ·intro hg
  refine X.split ((za c2 x).isSome) (fun h_3=>?_) (fun h_3=>?_)
  ·refine au 4 ?_
   refine X.opR (on_t rfl rfl rfl h_3) (zJs (f:=V.i) (g:=V.b) (k:=y) (l:=c3) (z:=false) (ok:=false) zCj rfl rfl rfl rfl rfl) rfl (au 3 ?_)
   exact ng hg rfl (by simp only [h_3,bb])
  refine au 8 ?_
  exact ng hg rfl (by simp only [h_3,bb])
 cases M
 exact X.rt
theorem YG {s:(List zV)} {c:zI} {c1:zK} {c2:(List (Int×Bool))} {r:Int} (M:ZV s c c1 c2=some r):Ct Tryz.prog 55 [V.sl (map zL s),(V.fn 54 [V.fptr [V.fptr [zS c] 0 0] 0 0,V.fptr [zF c1] 0 0,(V.fptr [(V.fmap (map (fun p:Int×Bool=>V.i p.1) c2) (map (fun p:Int×Bool=>V.b p.2) c2))] 0 0)])] (V.i r):=by
 refine zP zn rfl ?_
 unfold ZV at M
 refine au 9 ?_
 refine X.join (τ:=Unit) (fun v=>Zh=some r) (fun v=>⟨[],[],0,none,19⟩) ?_ ?_
 ·intro _ M
  replace M:Zh=some r:=M
  unfold Zh at M
  refine au 3 ?_
  cases M
  exact X.rt
 intro hj_1
 refine au 1 ?_
 refine gx [] (X.loop (σ:=Int) (fun v=>⟨[(0,V.sl (map zL s)),(1,(V.fn 54 [V.fptr [V.fptr [zS c] 0 0] 0 0,V.fptr [zF c1] 0 0,(V.fptr [(V.fmap (map (fun p:Int×Bool=>V.i p.1) c2) (map (fun p:Int×Bool=>V.b p.2) c2))] 0 0)])),(7,(V.i (s.length:Int))),(8,V.i v)],[],0,none,19⟩) M ?_ rfl)
 intro x1 b_1 M hc_2 hr_1
 rw [jA] at M
 refine au 3 ?_
 refine GS.seq ?_
 refine cm M (fun h_1 M=>?_) (fun h_1 M=>?_)
 ·obtain ⟨x,h_2,M⟩:=zC M
  obtain ⟨y,h_3,M⟩:=zC M
  refine au 13 ?_
  refine ca (zES h_3) ?_
  refine GS.ZT ?_
  refine cm M (fun h_4 M=>?_) (fun h_4 M=>?_)
  ·refine au 4 ?_
   have hE:=bf M
   replace hE:=hr_1 _ hE.symm
   subst hE
   exact X.rt
  refine au 6 ?_
  have hE:=bf M
  exact gx [] (hc_2 (w64 (x1+1)) hE.symm)
 obtain ⟨y_1,M,hy⟩:=zt M
 rw [hr_1 _ hy.symm] at M
 refine au 1 ?_
 exact gx [] (hj_1 () M)
theorem yg {s:(List zV)} {c:zI} {c1:zK} {c2:(List (Int×Bool))} {r:Bool} (M:ZQ s c c1 c2=some r):Ct Tryz.prog 53 [V.sl (map zL s),(V.fn 54 [V.fptr [V.fptr [zS c] 0 0] 0 0,V.fptr [zF c1] 0 0,(V.fptr [(V.fmap (map (fun p:Int×Bool=>V.i p.1) c2) (map (fun p:Int×Bool=>V.b p.2) c2))] 0 0)])] (V.b r):=by
 refine zP zn rfl ?_
 unfold ZQ at M
 obtain ⟨y,h_1,M⟩:=zC M
 refine au 6 ?_
 refine ca (YG h_1) (au 3 ?_)
 cases M
 exact X.rt
set_option maxHeartbeats 4000000 in
theorem zCI {b:zI} {ships:(List (Int×Bool))} {r:Zu} (M:yL b ships=some r):Ct Tryz.prog 24 [V.fptr [zS b] 0 0,(V.fmap (map (fun p:Int×Bool=>V.i p.1) ships) (map (fun p:Int×Bool=>V.b p.2) ships))] (YW r):=by
 refine zP zn rfl ?_
 unfold yL at M
 refine au 6 ?_
 refine X.opW (H':=[.rows 1 [V.fptr [zS b] 0 0],.rows 1 [(V.fmap (map (fun p:Int×Bool=>V.i p.1) ships) (map (fun p:Int×Bool=>V.b p.2) ships))],.rows 2 [V.agg [V.nil,V.nil]],.rows 2 [V.agg [V.nil,V.nil]]]) rfl rfl rfl rfl (au 10 ?_)
 refine X.join (τ:=(List Int)) (fun v=>JR b ships v=some r) (fun v=>⟨[(2,V.ptr 0 0 0),(3,V.ptr 1 0 0),(4,V.ptr 2 0 0),(5,V.ptr 3 0 0)],[.rows 1 [V.fptr [zS b] 0 0],.rows 1 [(V.fmap (map (fun p:Int×Bool=>V.i p.1) ships) (map (fun p:Int×Bool=>V.b p.2) ships))],.rows 2 [V.agg [V.nil,V.nil]],.rows 2 [V.agg [ovl 4 v,V.nil]],obl 1 V.i v],0,none,57⟩) ?_ ?_
 ·intro l M
  replace M:JR b ships l=some r:=M
  unfold JR at M
  obtain ⟨l1,h_1,M⟩:=zC M
  refine au 3 ?_
  refine X.norm [(2,V.ptr 0 0 0),(3,V.ptr 1 0 0),(4,V.ptr 2 0 0),(5,V.ptr 3 0 0),(31,V.ptr 3 0 0),(32,ovl 4 l)] ?_ rfl (sr rfl)
  refine X.sortInt (z:=true) h_1 sort_C zQV (fun _ _ _ h=>h) (K':=[(2,V.ptr 0 0 0),(3,V.ptr 1 0 0),(4,V.ptr 2 0 0),(5,V.ptr 3 0 0),(31,V.ptr 3 0 0),(32,ovl 4 l1)]) (H':=[.rows 1 [V.fptr [zS b] 0 0],.rows 1 [(V.fmap (map (fun p:Int×Bool=>V.i p.1) ships) (map (fun p:Int×Bool=>V.b p.2) ships))],.rows 2 [V.agg [V.nil,V.nil]],.rows 2 [V.agg [ovl 4 l1,V.nil]],obl 1 V.i l1]) rfl rfl rfl rfl rfl rfl ?_ ?_ ?_
  ·first | rfl | rw [zC5 (zGw h_1)] | simp only [ovl,zC5 (zGw h_1)] | simp only [zGw h_1]
  ·first | rfl | (simp only [hput]; rfl) | (simp only [ovl,obl]; rw [zC5 (zGw h_1)] <;> rfl)
  refine au 10 ?_
  refine X.join (τ:=(List zK)) (fun v=>J9 l1 v=some r) (fun v=>⟨[(4,V.ptr 0 0 0),(5,V.ptr 1 0 0)],[.rows 2 [V.agg [V.nil,V.nil]],.rows 2 [V.agg [ovl 2 l1,ovl 3 v]],obl 1 V.i l1,obl 2 zF v],0,none,57⟩) ?_ ?_
  ·intro l2 M
   replace M:J9 l1 l2=some r:=M
   unfold J9 at M
   refine au 2 ?_
   refine X.op0W (H':=[.rows 2 [V.agg [ovl 2 l1,ovl 3 l2]],.rows 2 [V.agg [ovl 2 l1,ovl 3 l2]],obl 1 V.i l1,obl 2 zF l2]) rfl (v:=jT) (wr:=[(0,.rows 2 [V.agg [ovl 2 l1,ovl 3 l2]])]) (by rcases yM (z:=true) 2 l1 with h0 | ⟨n0,h0⟩ <;> rcases yM (z:=true) 3 l2 with h1 | ⟨n1,h1⟩ <;> simp only [h0,h1] <;> rfl) rfl ?_
   refine GS.ZT ?_
   have hE:=bf M
   subst hE
   exact GS.ret ⟨_,rfl,FR.agg (.cons (FR.ovl (f:=V.i) (l:=l1) 9 rfl rfl (fun _=>rfl)) (.cons (FR.ovl (f:=zF) (l:=l2) 9 rfl rfl (fun _=>rfl)) .nil))⟩
  intro hj_2
  refine au 1 ?_
  refine X.gc [some 0,some 1,some 2,some 3,some 4,none] (X.loop (σ:=(Int×(List zK))) (fun v=>⟨[(2,V.ptr 0 0 0),(3,V.ptr 1 0 0),(4,V.ptr 2 0 0),(5,V.ptr 3 0 0),(37,V.sl (map zF b.slots)),(38,(V.i (b.slots.length:Int))),(39,V.i v.1)],[.rows 1 [V.fptr [zS b] 0 0],.rows 1 [(V.fmap (map (fun p:Int×Bool=>V.i p.1) ships) (map (fun p:Int×Bool=>V.b p.2) ships))],.rows 2 [V.agg [V.nil,V.nil]],.rows 2 [V.agg [ovl 4 l1,ovl 5 v.2]],obl 1 V.i l1,obl 2 zF v.2],0,none,57⟩) M ?_ rfl) rfl rfl rfl (ga rfl rfl) (gb9 rfl rfl rfl (gb9 rfl rfl rfl (gb9 rfl rfl rfl (Zj rfl rfl (Qv (.cons (Am.zY rfl) (.cons ⟨9,rfl⟩ .nil))) (ZB 9 rfl rfl (fun _=>rfl) (gb_pad' rfl zb))))))
  rintro ⟨x1,l5⟩ b_1 M hc_3 hr_1
  rw [yB] at M
  refine au 3 ?_
  refine GS.seq ?_
  refine cm M (fun h_2 M=>?_) (fun h_2 M=>?_)
  ·refine GS.skip (GS.seq ?_)
   refine X.join (τ:=(List zK)) (fun v=>jm x1 v=some b_1) (fun v=>⟨[(2,V.ptr 0 0 0),(3,V.ptr 1 0 0),(4,V.ptr 2 0 0),(5,V.ptr 3 0 0),(37,V.sl (map zF b.slots)),(38,(V.i (b.slots.length:Int))),(39,V.i x1)],[.rows 1 [V.fptr [zS b] 0 0],.rows 1 [(V.fmap (map (fun p:Int×Bool=>V.i p.1) ships) (map (fun p:Int×Bool=>V.b p.2) ships))],.rows 2 [V.agg [V.nil,V.nil]],.rows 2 [V.agg [ovl 4 l1,ovl 5 v]],obl 1 V.i l1,obl 2 zF v],0,none,57⟩) ?_ ?_
   ·intro l3 M
    replace M:jm x1 l3=some b_1:=M
    unfold jm at M
    refine au 4 ?_
    have hE:=bf M
    exact X.gc [some 0,some 1,some 2,some 3,some 4,some 5] (hc_3 (w64 (x1+1),l3) hE.symm) rfl rfl rfl (ga rfl rfl) (gb9 rfl rfl rfl (gb9 rfl rfl rfl (gb9 rfl rfl rfl (Zj rfl rfl (Qv (.cons (Am.zY rfl) (.cons (Am.zY rfl) .nil))) (ZB 9 rfl rfl (fun _=>rfl) (ZB 9 rfl rfl (fun _=>rfl) zb))))))
   intro hj_4
   obtain ⟨x,h_3,M⟩:=zC M
   refine au 4 ?_
   refine X.opW (H':=[.rows 1 [V.fptr [zS b] 0 0],.rows 1 [(V.fmap (map (fun p:Int×Bool=>V.i p.1) ships) (map (fun p:Int×Bool=>V.b p.2) ships))],.rows 2 [V.agg [V.nil,V.nil]],.rows 2 [V.agg [ovl 4 l1,ovl 5 l5]],obl 1 V.i l1,obl 2 zF l5,.rows 2 [V.agg [V.i 0,V.i 0]]]) rfl rfl rfl rfl ?_
   refine X.op0W (H':=[.rows 1 [V.fptr [zS b] 0 0],.rows 1 [(V.fmap (map (fun p:Int×Bool=>V.i p.1) ships) (map (fun p:Int×Bool=>V.b p.2) ships))],.rows 2 [V.agg [V.nil,V.nil]],.rows 2 [V.agg [ovl 4 l1,ovl 5 l5]],obl 1 V.i l1,obl 2 zF l5,.rows 2 [zF x]]) rfl rfl rfl ?_
   obtain ⟨y,h_4,M⟩:=zC M
   refine au 7 ?_
   refine X.zBk (yg h_4) rfl rfl rfl (m:=9) rfl (.cons (.shut (n:=9) rfl) (.cons (FR.arg ⟨30,rfl⟩) .nil)) ?_
   refine GS.ZT ?_
   refine cm M (fun h_5 M=>?_) (fun h_5 M=>?_)
   ·obtain ⟨l4,h_6,M⟩:=zC M
    refine au 4 ?_
    refine X.opW (H':=[.rows 1 [V.fptr [zS b] 0 0],.rows 1 [(V.fmap (map (fun p:Int×Bool=>V.i p.1) ships) (map (fun p:Int×Bool=>V.b p.2) ships))],.rows 2 [V.agg [V.nil,V.nil]],.rows 2 [V.agg [ovl 4 l1,ovl 5 l5]],obl 1 V.i l1,obl 2 zF l5,.rows 2 [zF x],.rows 2 (map zF ([x]))]) rfl rfl rfl rfl ?_
    refine appN (f:=zF) h_6 (fun _=>rfl) (by rfl) (by rfl) (by rfl) (by rfl) (by rfl) (by rfl) (by rfl) (by rfl) (by rfl) (by rfl) (by rfl) (by exact rfl) (by rfl) (by rfl) (X.q rfl ?_)
    refine X.op0W (H':=[.rows 1 [V.fptr [zS b] 0 0],.rows 1 [(V.fmap (map (fun p:Int×Bool=>V.i p.1) ships) (map (fun p:Int×Bool=>V.b p.2) ships))],.rows 2 [V.agg [V.nil,V.nil]],.rows 2 [V.agg [ovl 4 l1,V.osl 8 0 (List.length l4)]],obl 1 V.i l1,.dead,.rows 2 [zF x],.rows 2 (map zF ([x])),.rows 2 (map zF l4)]) rfl rfl rfl (au 2 ?_)
    exact X.gc [some 0,some 1,some 2,some 3,some 4,some 8] (hj_4 l4 M) rfl rfl rfl (ga rfl rfl) (gb9 rfl rfl rfl (gb9 rfl rfl rfl (gb9 rfl rfl rfl (Zj rfl rfl (Qv (.cons (Am.zY rfl) (.cons (qz (jH h_6) rfl) .nil))) (ZB 9 rfl rfl (fun _=>rfl) (gb_obl' 9 (jH h_6) rfl rfl (fun _=>rfl) zb))))))
   refine au 2 ?_
   exact X.gc [some 0,some 1,some 2,some 3,some 4,some 5] (hj_4 l5 M) rfl rfl rfl (ga rfl rfl) (gb9 rfl rfl rfl (gb9 rfl rfl rfl (gb9 rfl rfl rfl (Zj rfl rfl (Qv (.cons (Am.zY rfl) (.cons (Am.zY rfl) .nil))) (ZB 9 rfl rfl (fun _=>rfl) (ZB 9 rfl rfl (fun _=>rfl) zb))))))
  obtain ⟨y_1,M,hy⟩:=zt M
  rw [hr_1 _ hy.symm] at M
  refine au 1 ?_
  exact X.gc [some 2,some 3,some 4,some 5] (hj_2 l5 M) rfl rfl rfl (ga rfl rfl) (gb9 rfl rfl rfl (Zj rfl rfl (Qv (.cons (Am.zY rfl) (.cons (Am.zY rfl) .nil))) (ZB 9 rfl rfl (fun _=>rfl) (ZB 9 rfl rfl (fun _=>rfl) zb))))
 intro hj_1
 refine au 1 ?_
 refine gx [some 0,some 1,some 2,some 3,none] (X.loop (σ:=(Int×(List Int))) (fun v=>⟨[(2,V.ptr 0 0 0),(3,V.ptr 1 0 0),(4,V.ptr 2 0 0),(5,V.ptr 3 0 0),(13,V.sl (map zL b.calls)),(14,(V.i (b.calls.length:Int))),(15,V.i v.1)],[.rows 1 [V.fptr [zS b] 0 0],.rows 1 [(V.fmap (map (fun p:Int×Bool=>V.i p.1) ships) (map (fun p:Int×Bool=>V.b p.2) ships))],.rows 2 [V.agg [V.nil,V.nil]],.rows 2 [V.agg [ovl 4 v.2,V.nil]],obl 1 V.i v.2],0,none,57⟩) M ?_ rfl)
 rintro ⟨x3,l8⟩ b_1 M hc_5 hr_1
 rw [yA] at M
 refine au 3 ?_
 refine GS.seq ?_
 refine cm M (fun h_7 M=>?_) (fun h_7 M=>?_)
 ·refine GS.skip (GS.seq ?_)
  refine X.join (τ:=(List Int)) (fun v=>jk x3 v=some b_1) (fun v=>⟨[(2,V.ptr 0 0 0),(3,V.ptr 1 0 0),(4,V.ptr 2 0 0),(5,V.ptr 3 0 0),(13,V.sl (map zL b.calls)),(14,(V.i (b.calls.length:Int))),(15,V.i x3)],[.rows 1 [V.fptr [zS b] 0 0],.rows 1 [(V.fmap (map (fun p:Int×Bool=>V.i p.1) ships) (map (fun p:Int×Bool=>V.b p.2) ships))],.rows 2 [V.agg [V.nil,V.nil]],.rows 2 [V.agg [ovl 4 v,V.nil]],obl 1 V.i v],0,none,57⟩) ?_ ?_
  ·intro l6 M
   replace M:jk x3 l6=some b_1:=M
   unfold jk at M
   refine au 4 ?_
   have hE:=bf M
   exact X.gc [some 0,some 1,some 2,some 3,some 4] (hc_5 (w64 (x3+1),l6) hE.symm) rfl rfl rfl (ga rfl rfl) (gb9 rfl rfl rfl (gb9 rfl rfl rfl (gb9 rfl rfl rfl (Zj rfl rfl (Qv (.cons (Am.zY rfl) (.cons ⟨9,rfl⟩ .nil))) (ZB 9 rfl rfl (fun _=>rfl) zb)))))
  intro hj_6
  obtain ⟨x2,h_8,M⟩:=zC M
  refine au 5 ?_
  refine X.opW (H':=[.rows 1 [V.fptr [zS b] 0 0],.rows 1 [(V.fmap (map (fun p:Int×Bool=>V.i p.1) ships) (map (fun p:Int×Bool=>V.b p.2) ships))],.rows 2 [V.agg [V.nil,V.nil]],.rows 2 [V.agg [ovl 4 l8,V.nil]],obl 1 V.i l8,.rows 5 [V.agg [V.i 0,V.i 0,V.i 0,V.i 0,V.i 0]]]) rfl rfl rfl rfl (X.q rfl ?_)
  refine X.op0W (H':=[.rows 1 [V.fptr [zS b] 0 0],.rows 1 [(V.fmap (map (fun p:Int×Bool=>V.i p.1) ships) (map (fun p:Int×Bool=>V.b p.2) ships))],.rows 2 [V.agg [V.nil,V.nil]],.rows 2 [V.agg [ovl 4 l8,V.nil]],obl 1 V.i l8,.rows 5 [zL x2]]) rfl rfl rfl (au 4 ?_)
  refine X.opR rfl (zJs (f:=V.i) (g:=V.b) (k:=x3) (l:=ships) (z:=false) (ok:=false) zCj rfl rfl rfl rfl rfl) rfl ?_
  refine GS.ZT ?_
  refine cm M (fun h_9 M=>?_) (fun h_9 M=>?_)
  ·obtain ⟨l7,h_10,M⟩:=zC M
   refine au 5 ?_
   refine X.opW (H':=[.rows 1 [V.fptr [zS b] 0 0],.rows 1 [(V.fmap (map (fun p:Int×Bool=>V.i p.1) ships) (map (fun p:Int×Bool=>V.b p.2) ships))],.rows 2 [V.agg [V.nil,V.nil]],.rows 2 [V.agg [ovl 4 l8,V.nil]],obl 1 V.i l8,.rows 5 [zL x2],.rows 1 (map V.i ([x2.ID]))]) rfl rfl rfl rfl ?_
   refine appN (f:=V.i) h_10 (fun _=>rfl) (by rfl) (by rfl) (by rfl) (by rfl) (by rfl) (by rfl) (by rfl) (by rfl) (by rfl) (by rfl) (by rfl) (by exact rfl) (by rfl) (by rfl) (X.q rfl ?_)
   refine X.op0W (H':=[.rows 1 [V.fptr [zS b] 0 0],.rows 1 [(V.fmap (map (fun p:Int×Bool=>V.i p.1) ships) (map (fun p:Int×Bool=>V.b p.2) ships))],.rows 2 [V.agg [V.nil,V.nil]],.rows 2 [V.agg [V.osl 7 0 (List.length l7),V.nil]],.dead,.rows 5 [zL x2],.rows 1 (map V.i ([x2.ID])),.rows 1 (map V.i l7)]) rfl rfl rfl (au 2 ?_)
   exact X.gc [some 0,some 1,some 2,some 3,some 7] (hj_6 l7 M) rfl rfl rfl (ga rfl rfl) (gb9 rfl rfl rfl (gb9 rfl rfl rfl (gb9 rfl rfl rfl (Zj rfl rfl (Qv (.cons (qz (jH h_10) rfl) (.cons ⟨9,rfl⟩ .nil))) (gb_obl' 9 (jH h_10) rfl rfl (fun _=>rfl) zb)))))
  refine au 2 ?_
  exact X.gc [some 0,some 1,some 2,some 3,some 4] (hj_6 l8 M) rfl rfl rfl (ga rfl rfl) (gb9 rfl rfl rfl (gb9 rfl rfl rfl (gb9 rfl rfl rfl (Zj rfl rfl (Qv (.cons (Am.zY rfl) (.cons ⟨9,rfl⟩ .nil))) (ZB 9 rfl rfl (fun _=>rfl) zb)))))
 obtain ⟨y_1,M,hy⟩:=zt M
 rw [hr_1 _ hy.symm] at M
 refine au 1 ?_
 exact X.gc [some 0,some 1,some 2,some 3,some 4] (hj_1 l8 M) rfl rfl rfl (ga rfl rfl) (gb9 rfl rfl rfl (gb9 rfl rfl rfl (gb9 rfl rfl rfl (Zj rfl rfl (Qv (.cons (Am.zY rfl) (.cons ⟨9,rfl⟩ .nil))) (ZB 9 rfl rfl (fun _=>rfl) zb)))))
set_option maxHeartbeats 4000000 in
theorem zKk {h:zN} {l:(List zV)} {r:Zu×Bool×Int} (M:zBw h l=some r):Ct Tryz.prog 8 [zJ h,V.sl (map zL l)] (V.tup [YW r.1,V.b r.2.1,V.i r.2.2]):=by
 refine zP zn rfl ?_
 unfold zBw at M
 obtain ⟨y,h_1,M⟩:=zC M
 refine au 10 ?_
 refine ca (zAG h_1) (au 6 ?_)
 refine cm M (fun h_2 M=>?_) (fun h_2 M=>?_)
 ·refine au 3 ?_
  refine X.op0W rfl rfl rfl (au 3 ?_)
  cases M
  exact X.rt
 obtain ⟨y1,h_3,M⟩:=zC M
 refine au 4 ?_
 refine ca (zDq h_3) ?_
 obtain ⟨y2,h_4,M⟩:=zC M
 refine au 4 ?_
 refine ca (zAF h_4) (au 11 ?_)
 refine X.opW (H':=[.rows 6 [zJ h],.rows 2 [V.agg [V.nil,V.nil]],.map (map (fun p:Int×Bool=>V.i p.1) []) (map (fun p:Int×Bool=>V.b p.2) []),.map (map (fun p:Int×Int=>V.i p.1) []) (map (fun p:Int×Int=>V.i p.2) [])]) rfl rfl rfl rfl (au 8 ?_)
 refine X.join (τ:=(List (Int×Bool))×(List (Int×Int))) (fun v=>Qt l y1 v.1 v.2=some r) (fun v=>⟨[(1,V.sl (map zL l)),(4,V.ptr 0 0 0),(8,V.fptr [zS y1] 0 0),(11,V.map 1),(12,V.map 2)],[.rows 2 [V.agg [V.nil,V.nil]],.map (map (fun p:Int×Bool=>V.i p.1) v.1) (map (fun p:Int×Bool=>V.b p.2) v.1),.map (map (fun p:Int×Int=>V.i p.1) v.2) (map (fun p:Int×Int=>V.i p.2) v.2)],0,none,118⟩) ?_ ?_
 ·rintro ⟨m,m1⟩ M
  replace M:Qt l y1 m m1=some r:=M
  unfold Qt at M
  refine au 3 ?_
  refine X.opR rfl (lenMo (l:=m) rfl rfl rfl rfl) rfl (au 2 ?_)
  refine cm M (fun h_5 M=>?_) (fun h_5 M=>?_)
  ·refine au 2 ?_
   refine X.op0W rfl rfl rfl (au 3 ?_)
   cases M
   exact X.rt
  refine au 5 ?_
  refine X.join (τ:=(List (Int×Bool))) (fun v=>J4 y1 v=some r) (fun v=>⟨[(4,V.ptr 0 0 0),(8,V.fptr [zS y1] 0 0),(11,V.map 1)],[.rows 2 [V.agg [V.nil,V.nil]],.map (map (fun p:Int×Bool=>V.i p.1) v) (map (fun p:Int×Bool=>V.b p.2) v)],0,none,118⟩) ?_ ?_
  ·intro m2 M
   replace M:J4 y1 m2=some r:=M
   unfold J4 at M
   obtain ⟨y3,h_6,M⟩:=zC M
   refine au 3 ?_
   refine X.zI2 (f:=V.i) (g:=V.b) (pa:=fun p=>p.1) (pb:=fun p=>p.2) (l:=m2) 116 rfl rfl rfl (fun _=>rfl) (fun _=>rfl) ?_
   refine ca (zCI h_6) ?_
   refine X.op0W rfl rfl rfl (au 3 ?_)
   cases M
   exact X.rt
  intro hj_2
  refine au 1 ?_
  refine X.gc [some 0,some 1,some 2] (X.loop (σ:=(Bool×(List (Int×Bool)))) (fun v=>⟨[(1,V.sl (map zL l)),(4,V.ptr 0 0 0),(8,V.fptr [zS y1] 0 0),(11,V.map 1),(12,V.map 2),(15,V.b v.1)],[.rows 2 [V.agg [V.nil,V.nil]],.map (map (fun p:Int×Bool=>V.i p.1) v.2) (map (fun p:Int×Bool=>V.b p.2) v.2),.map (map (fun p:Int×Int=>V.i p.1) m1) (map (fun p:Int×Int=>V.i p.2) m1)],0,none,118⟩) M ?_ rfl) rfl rfl rfl (ga rfl rfl) (gb9 rfl rfl rfl (ZU 9 rfl rfl (fun _=>rfl) (fun _=>rfl) (ZU 9 rfl rfl (fun _=>rfl) (fun _=>rfl) zb)))
  rintro ⟨more4,m7⟩ b_1 M hc_3 hr_1
  rw [Qu] at M
  refine au 4 ?_
  refine cm M (fun h_7 M=>?_) (fun h_7 M=>?_)
  ·refine au 14 ?_
   refine X.gc [some 0,some 1,some 2] (X.loop (σ:=(Bool×Int×(List (Int×Bool)))) (fun v=>⟨[(1,V.sl (map zL l)),(4,V.ptr 0 0 0),(8,V.fptr [zS y1] 0 0),(11,V.map 1),(12,V.map 2),(15,V.b v.1),(68,V.sl (map zF y1.slots)),(69,(V.i (y1.slots.length:Int))),(70,V.i v.2.1)],[.rows 2 [V.agg [V.nil,V.nil]],.map (map (fun p:Int×Bool=>V.i p.1) v.2.2) (map (fun p:Int×Bool=>V.b p.2) v.2.2),.map (map (fun p:Int×Int=>V.i p.1) m1) (map (fun p:Int×Int=>V.i p.2) m1)],0,none,118⟩) M ?_ rfl) rfl rfl rfl (ga rfl rfl) (gb9 rfl rfl rfl (ZU 9 rfl rfl (fun _=>rfl) (fun _=>rfl) (ZU 9 rfl rfl (fun _=>rfl) (fun _=>rfl) zb)))
   rintro ⟨more3,x3,m6⟩ b_2 M hc_4 hr_2
   rw [zCD] at M
   refine au 3 ?_
   refine GS.seq ?_
   refine cm M (fun h_8 M=>?_) (fun h_8 M=>?_)
   ·refine GS.skip (GS.seq ?_)
    refine X.join (τ:=Bool×(List (Int×Bool))) (fun v=>Yh x3 v.1 v.2=some b_2) (fun v=>⟨[(1,V.sl (map zL l)),(4,V.ptr 0 0 0),(8,V.fptr [zS y1] 0 0),(11,V.map 1),(12,V.map 2),(15,V.b v.1),(68,V.sl (map zF y1.slots)),(69,(V.i (y1.slots.length:Int))),(70,V.i x3)],[.rows 2 [V.agg [V.nil,V.nil]],.map (map (fun p:Int×Bool=>V.i p.1) v.2) (map (fun p:Int×Bool=>V.b p.2) v.2),.map (map (fun p:Int×Int=>V.i p.1) m1) (map (fun p:Int×Int=>V.i p.2) m1)],0,none,118⟩) ?_ ?_
    ·rintro ⟨more,m3⟩ M
     replace M:Yh x3 more m3=some b_2:=M
     unfold Yh at M
     refine au 4 ?_
     have hE:=bf M
     exact X.gc [some 0,some 1,some 2] (hc_4 (more,w64 (x3+1),m3) hE.symm) rfl rfl rfl (ga rfl rfl) (gb9 rfl rfl rfl (ZU 9 rfl rfl (fun _=>rfl) (fun _=>rfl) (ZU 9 rfl rfl (fun _=>rfl) (fun _=>rfl) zb)))
    intro hj_5
    obtain ⟨x,h_9,M⟩:=zC M
    refine au 5 ?_
    refine X.opW (H':=[.rows 2 [V.agg [V.nil,V.nil]],.map (map (fun p:Int×Bool=>V.i p.1) m6) (map (fun p:Int×Bool=>V.b p.2) m6),.map (map (fun p:Int×Int=>V.i p.1) m1) (map (fun p:Int×Int=>V.i p.2) m1),.rows 2 [V.agg [V.i 0,V.i 0]]]) rfl rfl rfl rfl (X.q rfl ?_)
    refine X.op0W (H':=[.rows 2 [V.agg [V.nil,V.nil]],.map (map (fun p:Int×Bool=>V.i p.1) m6) (map (fun p:Int×Bool=>V.b p.2) m6),.map (map (fun p:Int×Int=>V.i p.1) m1) (map (fun p:Int×Int=>V.i p.2) m1),.rows 2 [zF x]]) rfl rfl rfl (au 4 ?_)
    refine X.opR rfl (lookW (f:=V.i) (g:=V.i) (k:=x3) (l:=m1) (z:=0) (ok:=true) zCj rfl rfl rfl rfl rfl rfl) rfl (au 8 ?_)
    refine X.mid [(87,(V.b ((!(za x3 m1).isSome)||((za ((za x3 m1).getD 0) m6).getD false)))),(1,V.sl (map zL l)),(4,V.ptr 0 0 0),(8,V.fptr [zS y1] 0 0),(11,V.map 1),(12,V.map 2),(15,V.b more3),(17,V.ptr 3 0 0),(18,V.i ((za x3 m1).getD 0)),(68,V.sl (map zF y1.slots)),(69,(V.i (y1.slots.length:Int))),(70,V.i x3)] ?_ ?_
    ·intro hg
     refine X.split (!(za x3 m1).isSome) (fun h_10=>?_) (fun h_10=>?_)
     ·refine au 8 ?_
      exact ng hg rfl (by simp only [h_10,bb])
     refine au 5 ?_
     refine X.opR (on_f rfl rfl rfl h_10) (lookW (f:=V.i) (g:=V.b) (k:=((za x3 m1).getD 0)) (l:=m6) (z:=false) (ok:=false) zCj rfl rfl rfl rfl rfl rfl) rfl (au 2 ?_)
     exact ng hg rfl (by simp only [h_10,bb])
    refine cm M (fun h_11 M=>?_) (fun h_11 M=>?_)
    ·refine au 1 ?_
     exact X.gc [some 0,some 1,some 2] (hj_5 (more3,m6) M) rfl rfl rfl (ga rfl rfl) (gb9 rfl rfl rfl (ZU 9 rfl rfl (fun _=>rfl) (fun _=>rfl) (ZU 9 rfl rfl (fun _=>rfl) (fun _=>rfl) zb)))
    refine au 7 ?_
    refine X.gc [some 0,some 1,some 2,some 3] (X.loop (σ:=(Bool×Int×(List (Int×Bool)))) (fun v=>⟨[(1,V.sl (map zL l)),(4,V.ptr 0 0 0),(8,V.fptr [zS y1] 0 0),(11,V.map 1),(12,V.map 2),(15,V.b v.1),(17,V.ptr 3 0 0),(18,V.i ((za x3 m1).getD 0)),(68,V.sl (map zF y1.slots)),(69,(V.i (y1.slots.length:Int))),(70,V.i x3),(89,(V.i (l.length:Int))),(90,V.i v.2.1)],[.rows 2 [V.agg [V.nil,V.nil]],.map (map (fun p:Int×Bool=>V.i p.1) v.2.2) (map (fun p:Int×Bool=>V.b p.2) v.2.2),.map (map (fun p:Int×Int=>V.i p.1) m1) (map (fun p:Int×Int=>V.i p.2) m1),.rows 2 [zF x]],0,none,118⟩) M ?_ rfl) rfl rfl rfl (ga rfl rfl) (gb9 rfl rfl rfl (ZU 9 rfl rfl (fun _=>rfl) (fun _=>rfl) (ZU 9 rfl rfl (fun _=>rfl) (fun _=>rfl) (gb9 rfl rfl rfl zb))))
    rintro ⟨more2,x2,m5⟩ b_3 M hc_6 hr_3
    rw [zCC] at M
    refine au 3 ?_
    refine GS.seq ?_
    refine cm M (fun h_12 M=>?_) (fun h_12 M=>?_)
    ·refine GS.skip (GS.seq ?_)
     refine X.join (τ:=Bool×(List (Int×Bool))) (fun v=>Yg x2 v.1 v.2=some b_3) (fun v=>⟨[(1,V.sl (map zL l)),(4,V.ptr 0 0 0),(8,V.fptr [zS y1] 0 0),(11,V.map 1),(12,V.map 2),(15,V.b v.1),(17,V.ptr 3 0 0),(18,V.i ((za x3 m1).getD 0)),(68,V.sl (map zF y1.slots)),(69,(V.i (y1.slots.length:Int))),(70,V.i x3),(89,(V.i (l.length:Int))),(90,V.i x2)],[.rows 2 [V.agg [V.nil,V.nil]],.map (map (fun p:Int×Bool=>V.i p.1) v.2) (map (fun p:Int×Bool=>V.b p.2) v.2),.map (map (fun p:Int×Int=>V.i p.1) m1) (map (fun p:Int×Int=>V.i p.2) m1),.rows 2 [zF x]],0,none,118⟩) ?_ ?_
     ·rintro ⟨more1,m4⟩ M
      replace M:Yg x2 more1 m4=some b_3:=M
      unfold Yg at M
      refine au 4 ?_
      have hE:=bf M
      exact X.gc [some 0,some 1,some 2,some 3] (hc_6 (more1,w64 (x2+1),m4) hE.symm) rfl rfl rfl (ga rfl rfl) (gb9 rfl rfl rfl (ZU 9 rfl rfl (fun _=>rfl) (fun _=>rfl) (ZU 9 rfl rfl (fun _=>rfl) (fun _=>rfl) (gb9 rfl rfl rfl zb))))
     intro hj_7
     obtain ⟨x1,h_13,M⟩:=zC M
     refine au 5 ?_
     refine GS.seq ?_
     refine X.draw (by kernel_rfl) (au 5 ?_)
     refine dop rfl (YH (f:=(fun l=>V.fmap (map (fun p=>zF p.1) l) (map (fun p=>zD p.2) l))) h_13 (fun _=>rfl) rfl rfl rfl rfl) rfl rfl (by kernel_rfl) rfl rfl (au 2 ?_)
     refine dop rfl (zJs (f:=zF) (g:=zD) (k:=x) (l:=x1) (z:=(⟨0,0⟩:zB)) (ok:=true) qc rfl rfl rfl rfl rfl) rfl rfl (by kernel_rfl) rfl rfl (au 4 ?_)
     refine dop0 rfl rfl rfl rfl (by kernel_rfl) rfl (au 2 ?_)
     refine X.norm [(1,V.sl (map zL l)),(4,V.ptr 0 0 0),(8,V.fptr [zS y1] 0 0),(11,V.map 1),(12,V.map 2),(15,V.b more2),(17,V.ptr 3 0 0),(18,V.i ((za x3 m1).getD 0)),(20,V.i x2),(22,V.b ((za x x1).isSome)),(68,V.sl (map zF y1.slots)),(69,(V.i (y1.slots.length:Int))),(70,V.i x3),(89,(V.i (l.length:Int))),(90,V.i x2)] ?_ rfl (sr rfl)
     refine sq ?_
     refine X.mid [(110,V.b (((za x x1).isSome)&&((za x2 m5).getD false))),(1,V.sl (map zL l)),(4,V.ptr 0 0 0),(8,V.fptr [zS y1] 0 0),(11,V.map 1),(12,V.map 2),(15,V.b more2),(17,V.ptr 3 0 0),(18,V.i ((za x3 m1).getD 0)),(68,V.sl (map zF y1.slots)),(69,(V.i (y1.slots.length:Int))),(70,V.i x3),(89,(V.i (l.length:Int))),(90,V.i x2)] ?_ ?_
     ·intro hg
      refine X.split ((za x x1).isSome) (fun h_14=>?_) (fun h_14=>?_)
      ·refine au 4 ?_
       refine X.opR (on_t rfl rfl rfl h_14) (lookW (f:=V.i) (g:=V.b) (k:=x2) (l:=m5) (z:=false) (ok:=false) zCj rfl rfl rfl rfl rfl rfl) rfl (au 2 ?_)
       exact ng hg rfl (by simp only [h_14,bb])
      refine au 7 ?_
      exact ng hg rfl (by simp only [h_14,bb])
     refine cm M (fun h_15 M=>?_) (fun h_15 M=>?_)
     ·refine au 3 ?_
      refine X.op0W (H':=[.rows 2 [V.agg [V.nil,V.nil]],.map (map (fun p:Int×Bool=>V.i p.1) (putM posI m5 ((za x3 m1).getD 0) true)) (map (fun p:Int×Bool=>V.b p.2) (putM posI m5 ((za x3 m1).getD 0) true)),.map (map (fun p:Int×Int=>V.i p.1) m1) (map (fun p:Int×Int=>V.i p.2) m1),.rows 2 [zF x],.rows 2 [(zD ((za x x1).getD (⟨0,0⟩:zB)))]]) rfl (putW (f:=V.i) (g:=V.b) (pos:=posI) (k:=((za x3 m1).getD 0)) (v:=true) (l:=m5) zCj (zG7 _) rfl rfl rfl rfl rfl rfl rfl) rfl (au 3 ?_)
      exact X.gc [some 0,some 1,some 2,some 3] (hj_7 (true,putM posI m5 ((za x3 m1).getD 0) true) M) rfl rfl rfl (ga rfl rfl) (gb9 rfl rfl rfl (ZU 9 rfl rfl (fun _=>rfl) (fun _=>rfl) (ZU 9 rfl rfl (fun _=>rfl) (fun _=>rfl) (gb9 rfl rfl rfl zb))))
     refine au 2 ?_
     exact X.gc [some 0,some 1,some 2,some 3] (hj_7 (more2,m5) M) rfl rfl rfl (ga rfl rfl) (gb9 rfl rfl rfl (ZU 9 rfl rfl (fun _=>rfl) (fun _=>rfl) (ZU 9 rfl rfl (fun _=>rfl) (fun _=>rfl) (gb9 rfl rfl rfl zb))))
    obtain ⟨y_3,M,hy⟩:=zt M
    rw [hr_3 _ hy.symm] at M
    refine au 2 ?_
    exact X.gc [some 0,some 1,some 2] (hj_5 (more2,m5) M) rfl rfl rfl (ga rfl rfl) (gb9 rfl rfl rfl (ZU 9 rfl rfl (fun _=>rfl) (fun _=>rfl) (ZU 9 rfl rfl (fun _=>rfl) (fun _=>rfl) zb)))
   refine au 2 ?_
   have hE:=bf M
   replace hE:=hr_2 _ hE.symm
   exact X.gc [some 0,some 1,some 2] (hc_3 (more3,m6) hE.symm) rfl rfl rfl (ga rfl rfl) (gb9 rfl rfl rfl (ZU 9 rfl rfl (fun _=>rfl) (fun _=>rfl) (ZU 9 rfl rfl (fun _=>rfl) (fun _=>rfl) zb)))
  obtain ⟨y_1,M,hy⟩:=zt M
  rw [hr_1 _ hy.symm] at M
  refine au 1 ?_
  exact X.gc [some 0,some 1] (hj_2 m7 M) rfl rfl rfl (ga rfl rfl) (gb9 rfl rfl rfl (ZU 9 rfl rfl (fun _=>rfl) (fun _=>rfl) zb))
 intro hj_1
 refine au 1 ?_
 refine X.gc [some 1,some 2,some 3] (X.loop (σ:=(Int×(List (Int×Bool))×(List (Int×Int)))) (fun v=>⟨[(1,V.sl (map zL l)),(4,V.ptr 0 0 0),(8,V.fptr [zS y1] 0 0),(11,V.map 1),(12,V.map 2),(40,V.sl (map V.i y2.1)),(41,(V.i (y2.1.length:Int))),(42,V.i v.1)],[.rows 2 [V.agg [V.nil,V.nil]],.map (map (fun p:Int×Bool=>V.i p.1) v.2.1) (map (fun p:Int×Bool=>V.b p.2) v.2.1),.map (map (fun p:Int×Int=>V.i p.1) v.2.2) (map (fun p:Int×Int=>V.i p.2) v.2.2)],0,none,118⟩) M ?_ rfl) rfl rfl rfl (ga rfl rfl) (gb9 rfl rfl rfl (ZU 9 rfl rfl (fun _=>rfl) (fun _=>rfl) (ZU 9 rfl rfl (fun _=>rfl) (fun _=>rfl) zb)))
 rintro ⟨x5,m10,m11⟩ b_1 M hc_8 hr_1
 rw [zAc] at M
 refine au 3 ?_
 refine GS.seq ?_
 refine cm M (fun h_16 M=>?_) (fun h_16 M=>?_)
 ·refine GS.skip (GS.seq ?_)
  refine X.join (τ:=(List (Int×Bool))×(List (Int×Int))) (fun v=>Yf x5 v.1 v.2=some b_1) (fun v=>⟨[(1,V.sl (map zL l)),(4,V.ptr 0 0 0),(8,V.fptr [zS y1] 0 0),(11,V.map 1),(12,V.map 2),(40,V.sl (map V.i y2.1)),(41,(V.i (y2.1.length:Int))),(42,V.i x5)],[.rows 2 [V.agg [V.nil,V.nil]],.map (map (fun p:Int×Bool=>V.i p.1) v.1) (map (fun p:Int×Bool=>V.b p.2) v.1),.map (map (fun p:Int×Int=>V.i p.1) v.2) (map (fun p:Int×Int=>V.i p.2) v.2)],0,none,118⟩) ?_ ?_
  ·rintro ⟨m8,m9⟩ M
   replace M:Yf x5 m8 m9=some b_1:=M
   unfold Yf at M
   refine au 4 ?_
   have hE:=bf M
   exact X.gc [some 0,some 1,some 2] (hc_8 (w64 (x5+1),m8,m9) hE.symm) rfl rfl rfl (ga rfl rfl) (gb9 rfl rfl rfl (ZU 9 rfl rfl (fun _=>rfl) (fun _=>rfl) (ZU 9 rfl rfl (fun _=>rfl) (fun _=>rfl) zb)))
  intro hj_9
  obtain ⟨x4,h_17,M⟩:=zC M
  refine au 17 ?_
  refine cm M (fun h_18 M=>?_) (fun h_18 M=>?_)
  ·refine au 3 ?_
   refine X.op0W rfl (putW (f:=V.i) (g:=V.b) (pos:=posI) (k:=x5) (v:=true) (l:=m10) zCj (zG7 _) rfl rfl rfl rfl rfl rfl rfl) rfl (au 2 ?_)
   exact X.gc [some 0,some 1,some 2] (hj_9 (putM posI m10 x5 true,m11) M) rfl rfl rfl (ga rfl rfl) (gb9 rfl rfl rfl (ZU 9 rfl rfl (fun _=>rfl) (fun _=>rfl) (ZU 9 rfl rfl (fun _=>rfl) (fun _=>rfl) zb)))
  refine au 4 ?_
  refine X.op0W rfl (putW (f:=V.i) (g:=V.i) (pos:=posI) (k:=x4) (v:=x5) (l:=m11) zCj (zG7 _) rfl rfl rfl rfl rfl rfl rfl) rfl (au 2 ?_)
  exact X.gc [some 0,some 1,some 2] (hj_9 (m10,putM posI m11 x4 x5) M) rfl rfl rfl (ga rfl rfl) (gb9 rfl rfl rfl (ZU 9 rfl rfl (fun _=>rfl) (fun _=>rfl) (ZU 9 rfl rfl (fun _=>rfl) (fun _=>rfl) zb)))
 obtain ⟨y_1,M,hy⟩:=zt M
 rw [hr_1 _ hy.symm] at M
 refine au 1 ?_
 exact X.gc [some 0,some 1,some 2] (hj_1 (m10,m11) M) rfl rfl rfl (ga rfl rfl) (gb9 rfl rfl rfl (ZU 9 rfl rfl (fun _=>rfl) (fun _=>rfl) (ZU 9 rfl rfl (fun _=>rfl) (fun _=>rfl) zb)))
set_option maxHeartbeats 4000000 in
theorem zAE {s1:(List Int)} {s2:(List Int)} {r:Bool} (M:slices_Equal_int s1 s2=some r):Ct Tryz.prog 27 [V.sl (map V.i s1),V.sl (map V.i s2)] (V.b r):=by
 refine zP zn rfl ?_
 unfold slices_Equal_int at M
 refine au 11 ?_
 refine cm M (fun h_1 M=>?_) (fun h_1 M=>?_)
 ·refine au 3 ?_
  cases M
  exact X.rt
 refine au 7 ?_
 refine X.join (τ:=Unit) (fun v=>yS=some r) (fun v=>⟨[],[],0,none,26⟩) ?_ ?_
 ·intro _ M
  replace M:yS=some r:=M
  unfold yS at M
  refine au 3 ?_
  cases M
  exact X.rt
 intro hj_1
 refine au 1 ?_
 refine gx [] (X.loop (σ:=Int) (fun v=>⟨[(0,V.sl (map V.i s1)),(1,V.sl (map V.i s2)),(12,(V.i (s1.length:Int))),(13,V.i v)],[],0,none,26⟩) M ?_ rfl)
 intro x2 b_1 M hc_2 hr_1
 rw [Yl] at M
 refine au 3 ?_
 refine GS.seq ?_
 refine cm M (fun h_2 M=>?_) (fun h_2 M=>?_)
 ·obtain ⟨x,h_3,M⟩:=zC M
  obtain ⟨x1,h_4,M⟩:=zC M
  refine au 19 ?_
  refine X.norm [(0,V.sl (map V.i s1)),(1,V.sl (map V.i s2)),(12,(V.i (s1.length:Int))),(13,V.i x2),(24,V.b (!decide (x=x1)))] ?_ rfl (sr rfl)
  refine cm M (fun h_5 M=>?_) (fun h_5 M=>?_)
  ·refine au 3 ?_
   have hE:=bf M
   replace hE:=hr_1 _ hE.symm
   subst hE
   exact X.rt
  refine au 6 ?_
  have hE:=bf M
  exact gx [] (hc_2 (w64 (x2+1)) hE.symm)
 obtain ⟨y_1,M,hy⟩:=zt M
 rw [hr_1 _ hy.symm] at M
 refine au 1 ?_
 exact gx [] (hj_1 () M)
theorem zNb (a b:zK):eqA CC.ty 43 (zF a) (zF b)=some (decide (a=b)):=by
 refine (eqa rfl rfl (eqp rfl rfl rfl (eqp rfl rfl rfl eqn'))).trans ?_
 congr 1
 rw [Bool.eq_iff_iff]
 simp only [bn,bj,beq_iff_eq,and_true]
 constructor
 ·intro h
  obtain ⟨a1,a2⟩:=a
  obtain ⟨b3,b4⟩:=b
  simp at h
  simp [h]
 ·rintro rfl
  simp
set_option maxHeartbeats 4000000 in
theorem zAO {s1:(List zK)} {s2:(List zK)} {r:Bool} (M:Jk s1 s2=some r):Ct Tryz.prog 28 [V.sl (map zF s1),V.sl (map zF s2)] (V.b r):=by
 refine zP zn rfl ?_
 unfold Jk at M
 refine au 11 ?_
 refine cm M (fun h_1 M=>?_) (fun h_1 M=>?_)
 ·refine au 3 ?_
  cases M
  exact X.rt
 refine au 7 ?_
 refine X.join (τ:=Unit) (fun v=>JI=some r) (fun v=>⟨[],[],0,none,26⟩) ?_ ?_
 ·intro _ M
  replace M:JI=some r:=M
  unfold JI at M
  refine au 3 ?_
  cases M
  exact X.rt
 intro hj_1
 refine au 1 ?_
 refine gx [] (X.loop (σ:=Int) (fun v=>⟨[(0,V.sl (map zF s1)),(1,V.sl (map zF s2)),(12,(V.i (s1.length:Int))),(13,V.i v)],[],0,none,26⟩) M ?_ rfl)
 intro x2 b_1 M hc_2 hr_1
 rw [Ju] at M
 refine au 3 ?_
 refine GS.seq ?_
 refine cm M (fun h_2 M=>?_) (fun h_2 M=>?_)
 ·obtain ⟨x,h_3,M⟩:=zC M
  obtain ⟨x1,h_4,M⟩:=zC M
  refine au 17 ?_
  refine cop rfl (neqE (zNb x x1) rfl rfl) rfl rfl (au 1 ?_)
  refine X.norm [(0,V.sl (map zF s1)),(1,V.sl (map zF s2)),(12,(V.i (s1.length:Int))),(13,V.i x2),(24,V.b (!decide (x=x1)))] ?_ rfl (sr rfl)
  refine cm M (fun h_5 M=>?_) (fun h_5 M=>?_)
  ·refine au 3 ?_
   have hE:=bf M
   replace hE:=hr_1 _ hE.symm
   subst hE
   exact X.rt
  refine au 6 ?_
  have hE:=bf M
  exact gx [] (hc_2 (w64 (x2+1)) hE.symm)
 obtain ⟨y_1,M,hy⟩:=zt M
 rw [hr_1 _ hy.symm] at M
 refine au 1 ?_
 exact gx [] (hj_1 () M)
set_option maxHeartbeats 4000000 in
theorem zGZ {h:zN} {l:(List zV)} {x:Zu} {r:Int×Int} (M:Qk h l x=some r):Ct Tryz.prog 9 [zJ h,V.sl (map zL l),YW x] (V.tup [V.i r.1,V.i r.2]):=by
 refine zP zn rfl ?_
 unfold Qk at M
 obtain ⟨y,h_1,M⟩:=zC M
 refine au 10 ?_
 refine ca (zAG h_1) (au 6 ?_)
 refine cm M (fun h_2 M=>?_) (fun h_2 M=>?_)
 ·refine au 5 ?_
  cases M
  exact X.rt
 refine au 12 ?_
 refine X.join (τ:=(List (Int×Bool))) (fun v=>Jq h l x v=some r) (fun v=>⟨[(1,V.sl (map zL l)),(3,V.ptr 0 0 0),(5,V.ptr 1 0 0),(9,V.map 2)],[.rows 6 [zJ h],.rows 2 [YW x],.map (map (fun p:Int×Bool=>V.i p.1) v) (map (fun p:Int×Bool=>V.b p.2) v)],0,none,77⟩) ?_ ?_
 ·intro m M
  replace M:Jq h l x m=some r:=M
  unfold Jq at M
  obtain ⟨y1,h_3,M⟩:=zC M
  obtain ⟨y2,h_4,M⟩:=zC M
  refine au 3 ?_
  refine ca (zDq h_3) (X.q rfl ?_)
  refine X.zI2 (f:=V.i) (g:=V.b) (pa:=fun p=>p.1) (pb:=fun p=>p.2) (l:=m) 39 rfl rfl rfl (fun _=>rfl) (fun _=>rfl) ?_
  refine ca (zCI h_4) ?_
  refine X.opW (H':=[.rows 6 [zJ h],.rows 2 [YW x],.dead,.rows 2 [V.agg [V.nil,V.nil]]]) rfl rfl rfl rfl ?_
  refine X.op0W (H':=[.rows 6 [zJ h],.rows 2 [YW x],.dead,.rows 2 [YW y2]]) rfl rfl rfl ?_
  obtain ⟨y3,h_5,M⟩:=Yw M
  obtain ⟨y4,h_6,M⟩:=Yw M
  refine au 3 ?_
  refine X.mid [(69,(V.b ((((decide ((x.Calls.length:Int)=0))||(!y3))||(!y4))||(decide ((x.Calls.length:Int)≤(x.Slots.length:Int)))))),(5,V.ptr 1 0 0)] ?_ ?_
  ·intro hg
   refine X.split (decide ((x.Calls.length:Int)=0)) (fun h_7=>?_) (fun h_7=>?_)
   ·refine au 30 ?_
    exact ng hg rfl (by simp only [h_7,bb])
   refine X.split (!y3) (fun h_8=>?_) (fun h_8=>?_)
   ·refine au 9 ?_
    refine ca (zAE (h_5 (nt h_7))) (au 20 ?_)
    exact ng hg rfl (by simp only [h_7,h_8,bb])
   refine X.split (!y4) (fun h_9=>?_) (fun h_9=>?_)
   ·refine au 9 ?_
    refine ca (zAE (h_5 (nt h_7))) (au 7 ?_)
    refine ca (zAO (h_6 (nt (zDa h_7 h_8)))) (au 12 ?_)
    exact ng hg rfl (by simp only [h_7,h_8,h_9,bb])
   refine au 9 ?_
   refine ca (zAE (h_5 (nt h_7))) (au 7 ?_)
   refine ca (zAO (h_6 (nt (zDa h_7 h_8)))) (au 12 ?_)
   exact ng hg rfl (by simp only [h_7,h_8,h_9,bb])
  refine cm M (fun h_10 M=>?_) (fun h_10 M=>?_)
  ·refine au 4 ?_
   cases M
   exact X.rt
  refine au 12 ?_
  cases M
  exact X.rt
 intro hj_1
 refine au 1 ?_
 refine X.gc [some 0,some 1,some 2] (X.loop (σ:=(Int×(List (Int×Bool)))) (fun v=>⟨[(1,V.sl (map zL l)),(3,V.ptr 0 0 0),(5,V.ptr 1 0 0),(9,V.map 2),(22,V.sl (map V.i x.Calls)),(23,(V.i (x.Calls.length:Int))),(24,V.i v.1)],[.rows 6 [zJ h],.rows 2 [YW x],.map (map (fun p:Int×Bool=>V.i p.1) v.2) (map (fun p:Int×Bool=>V.b p.2) v.2)],0,none,77⟩) M ?_ rfl) rfl rfl rfl (ga rfl rfl) (gb9 rfl rfl rfl (gb9 rfl rfl rfl (ZU 9 rfl rfl (fun _=>rfl) (fun _=>rfl) zb)))
 rintro ⟨x2,m2⟩ b_1 M hc_2 hr_1
 rw [YE] at M
 refine au 3 ?_
 refine GS.seq ?_
 refine cm M (fun h_11 M=>?_) (fun h_11 M=>?_)
 ·refine GS.skip (GS.seq ?_)
  refine X.join (τ:=(List (Int×Bool))) (fun v=>JN x2 v=some b_1) (fun v=>⟨[(1,V.sl (map zL l)),(3,V.ptr 0 0 0),(5,V.ptr 1 0 0),(9,V.map 2),(22,V.sl (map V.i x.Calls)),(23,(V.i (x.Calls.length:Int))),(24,V.i x2)],[.rows 6 [zJ h],.rows 2 [YW x],.map (map (fun p:Int×Bool=>V.i p.1) v) (map (fun p:Int×Bool=>V.b p.2) v)],0,none,77⟩) ?_ ?_
  ·intro m1 M
   replace M:JN x2 m1=some b_1:=M
   unfold JN at M
   refine au 4 ?_
   have hE:=bf M
   exact X.gc [some 0,some 1,some 2] (hc_2 (w64 (x2+1),m1) hE.symm) rfl rfl rfl (ga rfl rfl) (gb9 rfl rfl rfl (gb9 rfl rfl rfl (ZU 9 rfl rfl (fun _=>rfl) (fun _=>rfl) zb)))
  intro hj_3
  obtain ⟨x1,h_12,M⟩:=zC M
  refine au 6 ?_
  refine GS.seq ?_
  obtain ⟨y5,h_13,M⟩:=zC M
  refine au 3 ?_
  refine ca (jr h_13) (au 6 ?_)
  refine cm M (fun h_14 M=>?_) (fun h_14 M=>?_)
  ·refine au 3 ?_
   refine X.op0W rfl (putW (f:=V.i) (g:=V.b) (pos:=posI) (k:=y5) (v:=true) (l:=m2) zCj (zG7 _) rfl rfl rfl rfl rfl rfl rfl) rfl (au 2 ?_)
   exact X.gc [some 0,some 1,some 2] (hj_3 (putM posI m2 y5 true) M) rfl rfl rfl (ga rfl rfl) (gb9 rfl rfl rfl (gb9 rfl rfl rfl (ZU 9 rfl rfl (fun _=>rfl) (fun _=>rfl) zb)))
  refine au 2 ?_
  exact X.gc [some 0,some 1,some 2] (hj_3 m2 M) rfl rfl rfl (ga rfl rfl) (gb9 rfl rfl rfl (gb9 rfl rfl rfl (ZU 9 rfl rfl (fun _=>rfl) (fun _=>rfl) zb)))
 obtain ⟨y_1,M,hy⟩:=zt M
 rw [hr_1 _ hy.symm] at M
 refine au 1 ?_
 exact X.gc [some 0,some 1,some 2] (hj_1 m2 M) rfl rfl rfl (ga rfl rfl) (gb9 rfl rfl rfl (gb9 rfl rfl rfl (ZU 9 rfl rfl (fun _=>rfl) (fun _=>rfl) zb)))
abbrev ZM (x:ZH):V:=.agg [V.i x.Hold,V.i x.Mass]
abbrev zM (x:zA):V:=.agg [V.i x.a0,V.i x.a1,V.i x.a2,V.i x.a3,V.i x.a4,V.i x.a5,V.i x.a6,V.i x.a7]
abbrev zl (x:zR):V:=.agg [V.i x.ship.ID,V.i x.ship.Light,V.i x.ship.Lever,V.i x.ship.Height,V.sl (map ZW x.ship.Holds),V.sl (map zx x.ship.Mean.Knots),V.i x.ship.Mean.Err,V.sl (map zx x.ship.Mtac.Knots),V.i x.ship.Mtac.Err,V.i x.ship.Turn,V.i x.ship.Least,V.sl (map V.i x.from_),V.sl (map V.i x.to),V.i x.step]
theorem zD4 {u:zR} {hold:Int} {r:Int} (M:J7 u hold=some r):Ct Tryz.prog 57 [zl u,V.i hold] (V.i r):=by
 refine zP zn rfl ?_
 unfold J7 at M
 obtain ⟨x,h_1,M⟩:=zC M
 obtain ⟨x1,h_2,M⟩:=zC M
 obtain ⟨q,h_3,M⟩:=zC M
 refine au 23 ?_
 refine cop rfl (quoE h_3 rfl rfl) rfl rfl (au 2 ?_)
 refine X.norm [(4,V.i q)] ?_ rfl (sr rfl)
 cases M
 exact X.rt
theorem zKg {s:zH} {total:Int} {r:Int×Int} (M:zDF s total=some r):Ct Tryz.prog 95 [zU s,V.i total] (V.tup [V.i r.1,V.i r.2]):=by
 refine zP zn rfl ?_
 unfold zDF at M
 obtain ⟨y,h_1,M⟩:=zC M
 refine au 17 ?_
 refine ca (zD5 h_1) (au 23 ?_)
 cases M
 exact X.rt
theorem zIm {s:zH} {r:(List Int)} (M:zBP s=some r):Ct Tryz.prog 132 [zU s] (V.sl (map V.i r)):=by
 refine zP zn rfl ?_
 unfold zBP at M
 refine au 14 ?_
 refine X.join (τ:=(List Int)) (fun v=>zAh v=some r) (fun v=>⟨[(3,ovl 0 v)],[obl 1 V.i v],0,none,20⟩) ?_ ?_
 ·intro l M
  replace M:zAh l=some r:=M
  unfold zAh at M
  refine au 4 ?_
  have hE:=bf M
  subst hE
  exact GS.ret ⟨_,rfl,FR.ovl (f:=V.i) (l:=l) 9 rfl rfl (fun _=>rfl)⟩
 intro hj_1
 refine au 1 ?_
 refine gx [none] (X.loop (σ:=(Int×(List Int))) (fun v=>⟨[(3,ovl 0 v.2),(7,V.sl (map ZW s.Holds)),(8,(V.i (s.Holds.length:Int))),(9,V.i v.1)],[obl 1 V.i v.2],0,none,20⟩) M ?_ rfl)
 rintro ⟨x1,l2⟩ b_1 M hc_2 hr_1
 rw [QW] at M
 refine au 3 ?_
 refine GS.seq ?_
 refine cm M (fun h_1 M=>?_) (fun h_1 M=>?_)
 ·obtain ⟨x,h_2,M⟩:=zC M
  refine au 7 ?_
  refine X.op0W rfl rfl rfl ?_
  obtain ⟨l1,h_3,M⟩:=zC M
  refine au 6 ?_
  refine appN (f:=V.i) h_3 (fun _=>rfl) (by rfl) (by rfl) (by rfl) (by rfl) (by rfl) (by rfl) (by rfl) (by rfl) (by rfl) (by rfl) (by rfl) (by exact rfl) (by rfl) (by rfl) (au 7 ?_)
  have hE:=bf M
  exact X.gc [some 3] (hc_2 (w64 (x1+1),l1) hE.symm) rfl rfl rfl (zG rfl (qz (jH h_3) rfl) (ga rfl rfl)) (gb_obl' 9 (jH h_3) rfl rfl (fun _=>rfl) zb)
 obtain ⟨y_1,M,hy⟩:=zt M
 rw [hr_1 _ hy.symm] at M
 refine au 1 ?_
 exact gy [some 0] (hj_1 l2 M) (zG rfl (Am.zY rfl) QO)
theorem zL5 {s:zH} {x:(List Int)} {r:Int} (M:zEA s x=some r):Ct Tryz.prog 96 [zU s,V.sl (map V.i x)] (V.i r):=by
 refine zP zn rfl ?_
 unfold zEA at M
 obtain ⟨y,h_1,M⟩:=zC M
 obtain ⟨y1,h_2,M⟩:=zC M
 refine au 12 ?_
 refine cca (zIm h_1) (au 1 ?_)
 refine cca (zF5 h_2) (au 3 ?_)
 refine X.norm [(4,V.i (w64 ((w64 (s.Light*s.Height))+y1)))] ?_ rfl (sr rfl)
 cases M
 exact X.rt
theorem qE {s:zH} {x:(List Int)} {r:Bool} (M:QB s x=some r):Ct Tryz.prog 58 [zU s,V.sl (map V.i x)] (V.b r):=by
 refine zP zn rfl ?_
 unfold QB at M
 obtain ⟨y,h_1,M⟩:=zC M
 obtain ⟨y1,h_2,M⟩:=zC M
 refine au 8 ?_
 refine cca (zDb h_1) ?_
 refine cca (zKg h_2) (au 6 ?_)
 refine X.norm [(1,V.sl (map V.i x)),(2,V.ptr 0 0 0),(5,V.i y1.1),(6,V.i y1.2)] ?_ rfl (sr rfl)
 obtain ⟨y2,h_3,M⟩:=zC M
 refine au 4 ?_
 refine ca (zL5 h_3) (au 5 ?_)
 cases M
 exact X.rt
theorem Ql (a b:zA):zBJ (zM a) (zM b)=some (decide (a=b)):=by
 have h:zBJ (zM a) (zM b)=some (decide ([(IntKind.i64,a.a0),(IntKind.i64,a.a1),(IntKind.i64,a.a2),(IntKind.i64,a.a3),(IntKind.i64,a.a4),(IntKind.i64,a.a5),(IntKind.i64,a.a6),(IntKind.i64,a.a7)]=[(IntKind.i64,b.a0),(IntKind.i64,b.a1),(IntKind.i64,b.a2),(IntKind.i64,b.a3),(IntKind.i64,b.a4),(IntKind.i64,b.a5),(IntKind.i64,b.a6),(IntKind.i64,b.a7)])):=rfl
 rw [h]
 congr 1
 cases a
 cases b
 simp
set_option maxHeartbeats 4000000 in
theorem Yb {u:zR} {d:zA} {r:(List Int)} (M:ja u d=some r):Ct Tryz.prog 97 [zl u,zM d] (V.sl (map V.i r)):=by
 refine zP zn rfl ?_
 unfold ja at M
 refine au 15 ?_
 refine X.join (τ:=(List Int)) (fun v=>J2 v=some r) (fun v=>⟨[(5,ovl 0 v)],[obl 1 V.i v],0,none,35⟩) ?_ ?_
 ·intro l M
  replace M:J2 l=some r:=M
  unfold J2 at M
  refine au 4 ?_
  have hE:=bf M
  subst hE
  exact GS.ret ⟨_,rfl,FR.ovl (f:=V.i) (l:=l) 9 rfl rfl (fun _=>rfl)⟩
 intro hj_1
 refine au 1 ?_
 refine gx [some 0,some 1,none] (X.loop (σ:=(Int×(List Int))) (fun v=>⟨[(2,V.ptr 0 0 0),(3,V.ptr 1 0 0),(5,ovl 2 v.2),(9,V.sl (map V.i u.from_)),(10,(V.i (u.from_.length:Int))),(11,V.i v.1)],[.rows 14 [zl u],.rows 8 [zM d],obl 1 V.i v.2],0,none,35⟩) M ?_ rfl)
 rintro ⟨x2,l2⟩ b_1 M hc_2 hr_1
 rw [JJ] at M
 refine au 3 ?_
 refine GS.seq ?_
 refine cm M (fun h_1 M=>?_) (fun h_1 M=>?_)
 ·obtain ⟨x,h_2,M⟩:=zC M
  refine au 10 ?_
  obtain ⟨y,h_3,M⟩:=zC M
  obtain ⟨x1,h_4,M⟩:=zC M
  obtain ⟨l1,h_5,M⟩:=zC M
  refine X.draw (by kernel_rfl) (au 3 ?_)
  refine dop rfl (QV (k:=8) (l:=zA.toL d) h_3 rfl rfl rfl rfl rfl) rfl rfl (by kernel_rfl) rfl rfl ?_
  refine dop rfl (zCi (l:=zA.toL d) (pre:=[]) (post:=[]) h_3 rfl rfl rfl rfl rfl rfl rfl) rfl rfl (by kernel_rfl) rfl rfl (au 9 ?_)
  refine dca (yU (w64 (x - (w64 (y*u.step)))) x1) (au 1 ?_)
  refine zKH (f:=V.i) h_5 (fun _=>rfl) (by rfl) (by rfl) (by rfl) (by rfl) (by rfl) (by rfl) (by rfl) (by rfl) (by rfl) (by rfl) (by rfl) (by exact rfl) (by rfl) (by rfl) (by kernel_rfl) (by rfl) (by rfl) (au 2 ?_)
  refine X.norm [(2,V.ptr 0 0 0),(3,V.ptr 1 0 0),(5,V.osl 4 0 (List.length l1)),(9,V.sl (map V.i u.from_)),(10,(V.i (u.from_.length:Int))),(11,V.i x2)] ?_ rfl (sr rfl)
  refine au 5 ?_
  have hE:=bf M
  exact X.gc [some 0,some 1,some 4] (hc_2 (w64 (x2+1),l1) hE.symm) rfl rfl rfl (zG rfl ⟨9,rfl⟩ (zG rfl ⟨9,rfl⟩ (zG rfl (qz (jH h_5) rfl) (ga rfl rfl)))) (gb9 rfl rfl rfl (gb9 rfl rfl rfl (gb_obl' 9 (jH h_5) rfl rfl (fun _=>rfl) zb)))
 obtain ⟨y_1,M,hy⟩:=zt M
 rw [hr_1 _ hy.symm] at M
 refine au 1 ?_
 exact gy [some 2] (hj_1 l2 M) (zG rfl (Am.zY rfl) QO)
theorem zMW (a b:zA):eqA CC.ty 154 (zM a) (zM b)=some (decide (a=b)):=by
 refine (eqArr rfl rfl (eqel rfl rfl rfl (eqel rfl rfl rfl (eqel rfl rfl rfl (eqel rfl rfl rfl (eqel rfl rfl rfl (eqel rfl rfl rfl (eqel rfl rfl rfl (eqel rfl rfl rfl zRI))))))))).trans ?_
 congr 1
 rw [Bool.eq_iff_iff]
 simp only [bn,bj,beq_iff_eq,and_true]
 constructor
 ·intro h
  obtain ⟨a1,a2,a3,a4,a5,a6,a7,a8⟩:=a
  obtain ⟨b9,b10,b11,b12,b13,b14,b15,b16⟩:=b
  simp at h
  simp [h]
 ·rintro rfl
  simp
set_option maxHeartbeats 4000000 in
theorem zDo {u:zR} {end_:zA} {r:(List ZH)×Int} (M:JH u end_=some r):Ct Tryz.prog 59 [zl u,zM end_] (V.tup [V.sl (map ZM r.1),V.i r.2]):=by
 refine zP zn rfl ?_
 unfold JH at M
 refine au 6 ?_
 refine GS.scope (au 3 ?_)
 refine X.op0W rfl (putV (f:=zM) (g:=V.i) (pos:=posE) (k:=(⟨0,0,0,0,0,0,0,0⟩:zA)) (v:=(-1)) (l:=[]) Ql (fun l=>(zHx _ _).trans (List.length_map ..)) rfl rfl rfl rfl rfl rfl rfl) rfl (au 5 ?_)
 refine X.opW (H':=[.rows 14 [zl u],.rows 8 [zM end_],.map (map (fun p:zA×Int=>zM p.1) (putM posE [] (⟨0,0,0,0,0,0,0,0⟩:zA) (-1))) (map (fun p:zA×Int=>V.i p.2) (putM posE [] (⟨0,0,0,0,0,0,0,0⟩:zA) (-1))),.rows 8 (map zM ([(⟨0,0,0,0,0,0,0,0⟩:zA)]))]) rfl rfl rfl rfl (au 2 ?_)
 refine GS.seq ?_
 refine GS.label ?_
 refine GS.seq ?_
 refine X.join (τ:=(List (zA×Int))) (fun v=>Zq u end_ v=some r) (fun v=>⟨[(2,V.ptr 0 0 0),(3,V.ptr 1 0 0),(6,V.map 2)],[.rows 14 [zl u],.rows 8 [zM end_],.map (map (fun p:zA×Int=>zM p.1) v) (map (fun p:zA×Int=>V.i p.2) v)],0,none,125⟩) ?_ ?_
 ·intro m M
  replace M:Zq u end_ m=some r:=M
  unfold Zq at M
  refine au 4 ?_
  refine X.opR rfl (lookW (f:=zM) (g:=V.i) (k:=end_) (l:=m) (z:=0) (ok:=true) Ql rfl rfl rfl rfl rfl rfl) rfl (au 10 ?_)
  refine cm M (fun h_1 M=>?_) (fun h_1 M=>?_)
  ·refine au 4 ?_
   cases M
   exact X.rt
  refine au 7 ?_
  refine X.opW (H':=[.rows 14 [zl u],.rows 8 [zM end_],.map (map (fun p:zA×Int=>zM p.1) m) (map (fun p:zA×Int=>V.i p.2) m),.rows 8 [V.agg [V.i 0,V.i 0,V.i 0,V.i 0,V.i 0,V.i 0,V.i 0,V.i 0]]]) rfl rfl rfl rfl ?_
  refine X.op0W (H':=[.rows 14 [zl u],.rows 8 [zM end_],.map (map (fun p:zA×Int=>zM p.1) m) (map (fun p:zA×Int=>V.i p.2) m),.rows 8 [zM end_]]) rfl rfl rfl ?_
  refine GS.ZT ?_
  refine X.join (τ:=(List ZH)) (fun v=>jW v=some r) (fun v=>⟨[(15,ovl 0 v)],[obl 2 ZM v],0,none,125⟩) ?_ ?_
  ·intro l M
   replace M:jW l=some r:=M
   unfold jW at M
   refine au 2 ?_
   refine X.zPE (τ:=(List ZH)) (fun v=>Jv v=some r) (fun v=>⟨[(15,ovl 0 v)],[obl 2 ZM v],0,none,125⟩) ?_ ?_
   ·intro l1 M
    replace M:Jv l1=some r:=M
    unfold Jv at M
    refine au 6 ?_
    have hE:=bf M
    subst hE
    exact GS.ret ⟨_,rfl,FR.tup (.cons (FR.ovl (f:=ZM) (l:=l1) 9 rfl rfl (fun _=>rfl)) (.cons ⟨30,rfl⟩ .nil))⟩
   intro hj_3
   refine inl rfl rfl rfl rfl (au 2 ?_)
   refine X.opR rfl (lenN (l:=l) rfl rfl rfl) rfl (au 5 ?_)
   refine gy [] (X.loop (σ:=(Int×Int×(List ZH))) (fun v=>⟨[(0,ovl 0 v.2.2),(2,V.i v.1),(3,V.i v.2.1)],[obl 2 ZM v.2.2],0,none,28⟩) M ?_ rfl) (zG rfl (Am.zY rfl) (ga rfl rfl))
   rintro ⟨i,j,l2⟩ b_1 M hc_4 hr_1
   rw [Jz] at M
   refine au 6 ?_
   refine cm M (fun h_2 M=>?_) (fun h_2 M=>?_)
   ·obtain ⟨x,h_3,M⟩:=zC M
    obtain ⟨x1,h_4,M⟩:=zC M
    obtain ⟨x2,h_5,M⟩:=zC M
    obtain ⟨x3,h_6,M⟩:=zC M
    refine au 3 ?_
    refine X.draw (by kernel_rfl) (au 6 ?_)
    refine dop rfl (JY h_3 rfl rfl rfl rfl rfl) rfl rfl (by kernel_rfl) rfl rfl ?_
    refine dop rfl (zBh h_3 rfl rfl rfl rfl) rfl rfl (by kernel_rfl) rfl rfl (au 2 ?_)
    refine dop rfl (JY h_4 rfl rfl rfl rfl rfl) rfl rfl (by kernel_rfl) rfl rfl ?_
    refine dop rfl (zBh h_4 rfl rfl rfl rfl) rfl rfl (by kernel_rfl) rfl rfl ?_
    refine dop rfl (JY h_5 rfl rfl rfl rfl rfl) rfl rfl (by kernel_rfl) rfl rfl ?_
    refine dop0 rfl (X.Q9 (b:=x) h_5 rfl rfl rfl rfl rfl rfl rfl) rfl rfl (by kernel_rfl) rfl ?_
    refine dop rfl (JY h_6 rfl rfl (zJw rfl YS) rfl rfl) rfl rfl (by kernel_rfl) rfl rfl ?_
    refine dop0 rfl (X.Q9 (b:=x1) h_6 rfl rfl rfl rfl rfl rfl rfl) rfl rfl (by kernel_rfl) rfl (au 1 ?_)
    refine X.norm [(0,ovl 0 l2),(2,V.i i),(3,V.i j)] ?_ rfl (sr rfl)
    refine au 9 ?_
    have hE:=bf M
    exact gy [] (hc_4 (w64 (i+1),w64 (j - 1),put (put l2 i x) j x1) hE.symm) (zG rfl (Yi (Eq.trans YS YS) (Am.zY rfl)) (ga rfl rfl))
   obtain ⟨_,h_7,M⟩:=zC M
   refine au 1 ?_
   replace h_7:=zGy h_7
   refine GS.nil ⟨_,rfl,?_⟩
   refine X.norm (H':=[obl 2 ZM l2]) [(15,ovl 0 l2)] ?_ rfl (zHn rfl (zC5 h_7) W.zGt)
   obtain ⟨y_1,M,hy⟩:=zt M
   rw [hr_1 _ hy.symm] at M
   exact gy [some 0] (hj_3 l2 M) (zG rfl (Am.zY rfl) QO)
  intro hj_2
  refine au 1 ?_
  refine X.gc [some 0,some 2,none,some 3] (X.loop (σ:=((List ZH)×zA)) (fun v=>⟨[(2,V.ptr 0 0 0),(6,V.map 1),(15,ovl 2 v.1),(16,V.ptr 3 0 0)],[.rows 14 [zl u],.map (map (fun p:zA×Int=>zM p.1) m) (map (fun p:zA×Int=>V.i p.2) m),obl 2 ZM v.1,.rows 8 [zM v.2]],0,none,125⟩) M ?_ rfl) rfl rfl rfl (ga rfl rfl) (gb9 rfl rfl rfl (ZU 9 rfl rfl (fun _=>rfl) (fun _=>rfl) (gb_pad' rfl (gb9 rfl rfl rfl zb))))
  rintro ⟨l4,at_⟩ b_1 M hc_5 hr_1
  rw [Jy] at M
  refine au 4 ?_
  refine X.opR rfl (lookW (f:=zM) (g:=V.i) (k:=at_) (l:=m) (z:=0) (ok:=false) Ql rfl rfl rfl rfl rfl rfl) rfl (au 2 ?_)
  refine cm M (fun h_8 M=>?_) (fun h_8 M=>?_)
  ·refine au 6 ?_
   refine X.opR rfl (lookW (f:=zM) (g:=V.i) (k:=at_) (l:=m) (z:=0) (ok:=false) Ql rfl rfl rfl rfl rfl rfl) rfl (au 4 ?_)
   refine X.opW (H':=[.rows 14 [zl u],.map (map (fun p:zA×Int=>zM p.1) m) (map (fun p:zA×Int=>V.i p.2) m),obl 2 ZM l4,.rows 8 [zM at_],.rows 8 [V.agg [V.i 0,V.i 0,V.i 0,V.i 0,V.i 0,V.i 0,V.i 0,V.i 0]]]) rfl rfl rfl rfl ?_
   refine X.op0W (H':=[.rows 14 [zl u],.map (map (fun p:zA×Int=>zM p.1) m) (map (fun p:zA×Int=>V.i p.2) m),obl 2 ZM l4,.rows 8 [zM at_],.rows 8 [zM at_]]) rfl rfl rfl ?_
   obtain ⟨y,h_9,M⟩:=zC M
   obtain ⟨y1,h_10,M⟩:=zC M
   refine au 3 ?_
   refine X.opR rfl (QV (k:=8) (l:=zA.toL at_) h_9 rfl rfl rfl rfl rfl) rfl ?_
   refine X.opR rfl (zCi (l:=zA.toL at_) (pre:=[]) (post:=[]) h_9 rfl rfl rfl rfl rfl rfl rfl) rfl (au 1 ?_)
   refine X.opR rfl (QV (k:=8) (l:=zA.toL at_) h_10 rfl rfl rfl rfl rfl) rfl ?_
   refine X.op0W (H':=[.rows 14 [zl u],.map (map (fun p:zA×Int=>zM p.1) m) (map (fun p:zA×Int=>V.i p.2) m),obl 2 ZM l4,.rows 8 [zM at_],.rows 8 [zM (zA.set at_ ((za at_ m).getD 0) (w64 (y - 1)))]]) rfl (zJD (l:=zA.toL at_) (l':=zA.toL (zA.set at_ ((za at_ m).getD 0) (w64 (y - 1)))) (pre:=[]) (post:=[]) h_10 (zA.zEM _ _ _) rfl rfl rfl rfl rfl rfl rfl rfl rfl) rfl ?_
   obtain ⟨y2,h_11,M⟩:=zC M
   obtain ⟨x4,h_12,M⟩:=zC M
   obtain ⟨y3,h_13,M⟩:=zC M
   obtain ⟨x5,h_14,M⟩:=zC M
   obtain ⟨l3,h_15,M⟩:=zC M
   refine GS.ZT (GS.seq ?_)
   refine X.draw (by kernel_rfl) (au 4 ?_)
   refine dca (Yb h_11) (au 5 ?_)
   refine dca (Yb h_13) (au 6 ?_)
   refine zKH (f:=ZM) h_15 (fun _=>rfl) (by rfl) (by rfl) (by rfl) (by rfl) (by rfl) (by rfl) (by rfl) (by rfl) (by rfl) (by rfl) (by rfl) (by exact rfl) (by rfl) (by rfl) (by kernel_rfl) (by rfl) (by rfl) (au 2 ?_)
   refine X.norm [(2,V.ptr 0 0 0),(6,V.map 1),(15,V.osl 6 0 (List.length l3)),(16,V.ptr 3 0 0),(18,V.ptr 4 0 0)] ?_ rfl (sr rfl)
   refine au 2 ?_
   refine X.op0W (H':=[.rows 14 [zl u],.map (map (fun p:zA×Int=>zM p.1) m) (map (fun p:zA×Int=>V.i p.2) m),.dead,.rows 8 [zM (zA.set at_ ((za at_ m).getD 0) (w64 (y - 1)))],.rows 8 [zM (zA.set at_ ((za at_ m).getD 0) (w64 (y - 1)))],.rows 2 (map ZM ([(⟨(za at_ m).getD 0,w64 (x4 - x5)⟩:ZH)])),.rows 2 (map ZM l3)]) rfl rfl rfl (au 6 ?_)
   refine X.opW (H':=[.rows 14 [zl u],.map (map (fun p:zA×Int=>zM p.1) m) (map (fun p:zA×Int=>V.i p.2) m),.dead,.rows 8 [zM (zA.set at_ ((za at_ m).getD 0) (w64 (y - 1)))],.rows 8 [zM (zA.set at_ ((za at_ m).getD 0) (w64 (y - 1)))],.rows 2 (map ZM ([(⟨(za at_ m).getD 0,w64 (x4 - x5)⟩:ZH)])),.rows 2 (map ZM l3),.rows 8 [V.agg [V.i 0,V.i 0,V.i 0,V.i 0,V.i 0,V.i 0,V.i 0,V.i 0]]]) rfl rfl rfl rfl ?_
   refine X.op0W (H':=[.rows 14 [zl u],.map (map (fun p:zA×Int=>zM p.1) m) (map (fun p:zA×Int=>V.i p.2) m),.dead,.rows 8 [zM (zA.set at_ ((za at_ m).getD 0) (w64 (y - 1)))],.rows 8 [zM (zA.set at_ ((za at_ m).getD 0) (w64 (y - 1)))],.rows 2 (map ZM ([(⟨(za at_ m).getD 0,w64 (x4 - x5)⟩:ZH)])),.rows 2 (map ZM l3),.rows 8 [zM (zA.set at_ ((za at_ m).getD 0) (w64 (y - 1)))]]) rfl rfl rfl ?_
   refine GS.ZT ?_
   have hE:=bf M
   exact X.gc [some 0,some 1,some 6,some 7] (hc_5 (l3,zA.set at_ ((za at_ m).getD 0) (w64 (y - 1))) hE.symm) rfl rfl rfl (zG rfl ⟨9,rfl⟩ (zG rfl ⟨9,rfl⟩ (zG rfl (qz (jH h_15) rfl) (ga rfl rfl)))) (gb9 rfl rfl rfl (ZU 9 rfl rfl (fun _=>rfl) (fun _=>rfl) (gb_obl' 9 (jH h_15) rfl rfl (fun _=>rfl) (gb9 rfl rfl rfl zb))))
  obtain ⟨y_1,M,hy⟩:=zt M
  rw [hr_1 _ hy.symm] at M
  refine au 1 ?_
  exact gy [some 2] (hj_2 l4 M) (zG rfl (Am.zY rfl) QO)
 intro hj_1
 refine au 1 ?_
 refine X.gc [some 0,some 1,some 2,some 3] (X.loop (σ:=(Int×(List (zA×Int))×(List zA))) (fun v=>⟨[(2,V.ptr 0 0 0),(3,V.ptr 1 0 0),(6,V.map 2),(7,oqv 3 v.2.2 v.1)],[.rows 14 [zl u],.rows 8 [zM end_],.map (map (fun p:zA×Int=>zM p.1) v.2.1) (map (fun p:zA×Int=>V.i p.2) v.2.1),.rows 8 (map zM v.2.2)],0,none,125⟩) M ?_ rfl) rfl rfl rfl (ga rfl rfl) (gb9 rfl rfl rfl (gb9 rfl rfl rfl (ZU 9 rfl rfl (fun _=>rfl) (fun _=>rfl) (Q0 9 rfl rfl (fun _=>rfl) zb))))
 rintro ⟨a3,m3,l8⟩ b_1 M hc_6 hr_1
 rw [Yc] at M
 refine au 3 ?_
 refine X.opR rfl (lenQ rfl rfl rfl) rfl (au 2 ?_)
 refine cm M (fun h_16 M=>?_) (fun h_16 M=>?_)
 ·obtain ⟨x6,h_17,M⟩:=zC M
  refine au 4 ?_
  refine X.opR rfl (indexQ (f:=zM) h_17 rfl rfl rfl rfl rfl) rfl ?_
  refine X.opR rfl (Y9 (ix_drop h_17) rfl rfl rfl rfl) rfl ?_
  refine X.opW (H':=[.rows 14 [zl u],.rows 8 [zM end_],.map (map (fun p:zA×Int=>zM p.1) m3) (map (fun p:zA×Int=>V.i p.2) m3),.rows 8 (map zM l8),.rows 8 [V.agg [V.i 0,V.i 0,V.i 0,V.i 0,V.i 0,V.i 0,V.i 0,V.i 0]]]) rfl rfl rfl rfl ?_
  refine X.op0W (H':=[.rows 14 [zl u],.rows 8 [zM end_],.map (map (fun p:zA×Int=>zM p.1) m3) (map (fun p:zA×Int=>V.i p.2) m3),.rows 8 (map zM l8),.rows 8 [zM x6]]) rfl rfl rfl ?_
  obtain ⟨a,h_18,M⟩:=zC M
  refine au 3 ?_
  refine X.opR rfl (sliceQ (f:=zM) (l:=l8) (a:=a3) h_18 rfl rfl rfl rfl rfl rfl (zGm rfl)) rfl (au 9 ?_)
  refine X.gc [some 0,some 1,some 2,some 3,some 4] (X.loop (σ:=(Int×Int×(List (zA×Int))×(List zA))) (fun v=>⟨[(2,V.ptr 0 0 0),(3,V.ptr 1 0 0),(6,V.map 2),(7,oqv 3 v.2.2.2 v.1),(8,V.ptr 4 0 0),(34,(V.i (u.from_.length:Int))),(35,V.i v.2.1)],[.rows 14 [zl u],.rows 8 [zM end_],.map (map (fun p:zA×Int=>zM p.1) v.2.2.1) (map (fun p:zA×Int=>V.i p.2) v.2.2.1),.rows 8 (map zM v.2.2.2),.rows 8 [zM x6]],0,none,125⟩) M ?_ rfl) rfl rfl rfl (ga rfl rfl) (gb9 rfl rfl rfl (gb9 rfl rfl rfl (ZU 9 rfl rfl (fun _=>rfl) (fun _=>rfl) (Q0 9 rfl rfl (fun _=>rfl) (gb9 rfl rfl rfl zb)))))
  rintro ⟨a2,x7,m2,l7⟩ b_2 M hc_7 hr_2
  rw [Jw] at M
  refine au 3 ?_
  refine GS.seq ?_
  refine cm M (fun h_19 M=>?_) (fun h_19 M=>?_)
  ·refine GS.skip (GS.seq ?_)
   refine X.join (τ:=Int×(List (zA×Int))×(List zA)) (fun v=>jI x7 v.1 v.2.1 v.2.2=some b_2) (fun v=>⟨[(2,V.ptr 0 0 0),(3,V.ptr 1 0 0),(6,V.map 2),(7,oqv 3 v.2.2 v.1),(8,V.ptr 4 0 0),(34,(V.i (u.from_.length:Int))),(35,V.i x7)],[.rows 14 [zl u],.rows 8 [zM end_],.map (map (fun p:zA×Int=>zM p.1) v.2.1) (map (fun p:zA×Int=>V.i p.2) v.2.1),.rows 8 (map zM v.2.2),.rows 8 [zM x6]],0,none,125⟩) ?_ ?_
   ·rintro ⟨a1,m1,l5⟩ M
    replace M:jI x7 a1 m1 l5=some b_2:=M
    unfold jI at M
    refine au 4 ?_
    have hE:=bf M
    exact X.gc [some 0,some 1,some 2,some 3,some 4] (hc_7 (a1,w64 (x7+1),m1,l5) hE.symm) rfl rfl rfl (ga rfl rfl) (gb9 rfl rfl rfl (gb9 rfl rfl rfl (ZU 9 rfl rfl (fun _=>rfl) (fun _=>rfl) (Q0 9 rfl rfl (fun _=>rfl) (gb9 rfl rfl rfl zb)))))
   intro hj_8
   refine au 7 ?_
   refine X.opW (H':=[.rows 14 [zl u],.rows 8 [zM end_],.map (map (fun p:zA×Int=>zM p.1) m2) (map (fun p:zA×Int=>V.i p.2) m2),.rows 8 (map zM l7),.rows 8 [zM x6],.rows 8 [V.agg [V.i 0,V.i 0,V.i 0,V.i 0,V.i 0,V.i 0,V.i 0,V.i 0]]]) rfl rfl rfl rfl ?_
   refine X.op0W (H':=[.rows 14 [zl u],.rows 8 [zM end_],.map (map (fun p:zA×Int=>zM p.1) m2) (map (fun p:zA×Int=>V.i p.2) m2),.rows 8 (map zM l7),.rows 8 [zM x6],.rows 8 [zM x6]]) rfl rfl rfl ?_
   obtain ⟨y4,h_20,M⟩:=zC M
   obtain ⟨y5,h_21,M⟩:=zC M
   refine au 3 ?_
   refine X.opR rfl (QV (k:=8) (l:=zA.toL x6) h_20 rfl rfl rfl rfl rfl) rfl ?_
   refine X.opR rfl (zCi (l:=zA.toL x6) (pre:=[]) (post:=[]) h_20 rfl rfl rfl rfl rfl rfl rfl) rfl (au 1 ?_)
   refine X.opR rfl (QV (k:=8) (l:=zA.toL x6) h_21 rfl rfl rfl rfl rfl) rfl ?_
   refine X.op0W (H':=[.rows 14 [zl u],.rows 8 [zM end_],.map (map (fun p:zA×Int=>zM p.1) m2) (map (fun p:zA×Int=>V.i p.2) m2),.rows 8 (map zM l7),.rows 8 [zM x6],.rows 8 [zM (zA.set x6 x7 (w64 (y4+1)))]]) rfl (zJD (l:=zA.toL x6) (l':=zA.toL (zA.set x6 x7 (w64 (y4+1)))) (pre:=[]) (post:=[]) h_21 (zA.zEM _ _ _) rfl rfl rfl rfl rfl rfl rfl rfl rfl) rfl (au 5 ?_)
   refine X.opR rfl (lookW (f:=zM) (g:=V.i) (k:=(zA.set x6 x7 (w64 (y4+1)))) (l:=m2) (z:=0) (ok:=true) Ql rfl rfl rfl rfl rfl rfl) rfl ?_
   obtain ⟨y6,h_22,M⟩:=Yw M
   obtain ⟨y7,h_23,M⟩:=Yw M
   obtain ⟨y8,h_24,M⟩:=Yw M
   obtain ⟨y9,h_25,M⟩:=Yw M
   refine au 6 ?_
   refine GS.seq ?_
   refine X.mid [(68,(V.b ((((za (zA.set x6 x7 (w64 (y4+1))) m2).isSome)||(decide (y7<y6)))||(!y9)))),(2,V.ptr 0 0 0),(3,V.ptr 1 0 0),(6,V.map 2),(7,oqv 3 l7 a2),(8,V.ptr 4 0 0),(9,V.i x7),(10,V.ptr 5 0 0),(34,(V.i (u.from_.length:Int))),(35,V.i x7)] ?_ ?_
   ·intro hg
    refine X.split ((za (zA.set x6 x7 (w64 (y4+1))) m2).isSome) (fun h_26=>?_) (fun h_26=>?_)
    ·refine au 21 ?_
     exact ng hg rfl (by simp only [h_26,bb])
    refine X.split (decide (y7<y6)) (fun h_27=>?_) (fun h_27=>?_)
    ·refine au 4 ?_
     refine cop (on_f rfl rfl rfl h_26) (QV (k:=8) (l:=zA.toL (zA.set x6 x7 (w64 (y4+1)))) (h_22 (nt h_26)) rfl rfl rfl rfl rfl) rfl rfl ?_
     refine cop (on_f rfl rfl rfl h_26) (zCi (l:=zA.toL (zA.set x6 x7 (w64 (y4+1)))) (pre:=[]) (post:=[]) (h_22 (nt h_26)) rfl rfl rfl rfl rfl rfl rfl) rfl rfl (au 1 ?_)
     refine cop (on_f rfl rfl rfl h_26) (QV (k:=8) (l:=zA.toL end_) (h_23 (nt h_26)) rfl rfl rfl rfl rfl) rfl rfl ?_
     refine cop (on_f rfl rfl rfl h_26) (zCi (l:=zA.toL end_) (pre:=[]) (post:=[]) (h_23 (nt h_26)) rfl rfl rfl rfl rfl rfl rfl) rfl rfl (au 12 ?_)
     exact ng hg rfl (by simp only [h_26,h_27,bb])
    refine au 4 ?_
    refine cop (on_f rfl rfl rfl h_26) (QV (k:=8) (l:=zA.toL (zA.set x6 x7 (w64 (y4+1)))) (h_22 (nt h_26)) rfl rfl rfl rfl rfl) rfl rfl ?_
    refine cop (on_f rfl rfl rfl h_26) (zCi (l:=zA.toL (zA.set x6 x7 (w64 (y4+1)))) (pre:=[]) (post:=[]) (h_22 (nt h_26)) rfl rfl rfl rfl rfl rfl rfl) rfl rfl (au 1 ?_)
    refine cop (on_f rfl rfl rfl h_26) (QV (k:=8) (l:=zA.toL end_) (h_23 (nt h_26)) rfl rfl rfl rfl rfl) rfl rfl ?_
    refine cop (on_f rfl rfl rfl h_26) (zCi (l:=zA.toL end_) (pre:=[]) (post:=[]) (h_23 (nt h_26)) rfl rfl rfl rfl rfl rfl rfl) rfl rfl (au 7 ?_)
    refine cca (Yb (h_24 (nt (zDa h_26 h_27)))) ?_
    refine cca (qE (h_25 (nt (zDa h_26 h_27)))) (au 3 ?_)
    exact ng hg rfl (by simp only [h_26,h_27,bb])
   refine cm M (fun h_28 M=>?_) (fun h_28 M=>?_)
   ·refine au 1 ?_
    exact X.gc [some 0,some 1,some 2,some 3,some 4] (hj_8 (a2,m2,l7) M) rfl rfl rfl (ga rfl rfl) (gb9 rfl rfl rfl (gb9 rfl rfl rfl (ZU 9 rfl rfl (fun _=>rfl) (fun _=>rfl) (Q0 9 rfl rfl (fun _=>rfl) (gb9 rfl rfl rfl zb)))))
   refine au 5 ?_
   refine X.op0W (H':=[.rows 14 [zl u],.rows 8 [zM end_],.map (map (fun p:zA×Int=>zM p.1) (putM posE m2 (zA.set x6 x7 (w64 (y4+1))) x7)) (map (fun p:zA×Int=>V.i p.2) (putM posE m2 (zA.set x6 x7 (w64 (y4+1))) x7)),.rows 8 (map zM l7),.rows 8 [zM x6],.rows 8 [zM (zA.set x6 x7 (w64 (y4+1)))]]) rfl (putW (f:=zM) (g:=V.i) (pos:=posE) (k:=(zA.set x6 x7 (w64 (y4+1)))) (v:=x7) (l:=m2) Ql (fun l=>(zHx _ _).trans (List.length_map ..)) rfl rfl rfl rfl rfl rfl rfl) rfl ?_
   refine au 5 ?_
   refine X.opR rfl (eqlE (zMW (zA.set x6 x7 (w64 (y4+1))) end_) rfl rfl) rfl ?_
   refine GS.ZT ?_
   refine cm M (fun h_29 M=>?_) (fun h_29 M=>?_)
   ·obtain ⟨y_2,M,hy⟩:=zt M
    rw [hr_2 _ hy.symm] at M
    obtain ⟨y_1,M,hy⟩:=zt M
    rw [hr_1 _ hy.symm] at M
    refine au 1 ?_
    exact X.gc [some 0,some 1,some 2] (hj_1 (putM posE m2 (zA.set x6 x7 (w64 (y4+1))) x7) M) rfl rfl rfl (ga rfl rfl) (gb9 rfl rfl rfl (gb9 rfl rfl rfl (ZU 9 rfl rfl (fun _=>rfl) (fun _=>rfl) zb)))
   obtain ⟨l6,h_30,M⟩:=zC M
   refine au 4 ?_
   refine X.opW (H':=[.rows 14 [zl u],.rows 8 [zM end_],.map (map (fun p:zA×Int=>zM p.1) (putM posE m2 (zA.set x6 x7 (w64 (y4+1))) x7)) (map (fun p:zA×Int=>V.i p.2) (putM posE m2 (zA.set x6 x7 (w64 (y4+1))) x7)),.rows 8 (map zM l7),.rows 8 [zM x6],.rows 8 [zM (zA.set x6 x7 (w64 (y4+1)))],.rows 8 (map zM ([zA.set x6 x7 (w64 (y4+1))]))]) rfl rfl rfl rfl ?_
   refine X.opW (H':=[.rows 14 [zl u],.rows 8 [zM end_],.map (map (fun p:zA×Int=>zM p.1) (putM posE m2 (zA.set x6 x7 (w64 (y4+1))) x7)) (map (fun p:zA×Int=>V.i p.2) (putM posE m2 (zA.set x6 x7 (w64 (y4+1))) x7)),.dead,.rows 8 [zM x6],.rows 8 [zM (zA.set x6 x7 (w64 (y4+1)))],.rows 8 (map zM ([zA.set x6 x7 (w64 (y4+1))])),.rows 8 (map zM l6)]) rfl (appQ (f:=zM) (l:=l7) (a:=a2) h_30 (fun _=>rfl) rfl rfl rfl rfl rfl rfl rfl rfl rfl rfl) rfl rfl ?_
   refine au 3 ?_
   exact X.gc [some 0,some 1,some 2,some 7,some 4] (hj_8 (0,putM posE m2 (zA.set x6 x7 (w64 (y4+1))) x7,l6) M) rfl rfl rfl (ga rfl rfl) (gb9 rfl rfl rfl (gb9 rfl rfl rfl (ZU 9 rfl rfl (fun _=>rfl) (fun _=>rfl) (Q0 9 rfl rfl (fun _=>rfl) (gb9 rfl rfl rfl zb)))))
  refine au 2 ?_
  have hE:=bf M
  replace hE:=hr_2 _ hE.symm
  exact X.gc [some 0,some 1,some 2,some 3] (hc_6 (a2,m2,l7) hE.symm) rfl rfl rfl (ga rfl rfl) (gb9 rfl rfl rfl (gb9 rfl rfl rfl (ZU 9 rfl rfl (fun _=>rfl) (fun _=>rfl) (Q0 9 rfl rfl (fun _=>rfl) zb))))
 obtain ⟨y_1,M,hy⟩:=zt M
 rw [hr_1 _ hy.symm] at M
 refine au 1 ?_
 exact X.gc [some 0,some 1,some 2] (hj_1 m3 M) rfl rfl rfl (ga rfl rfl) (gb9 rfl rfl rfl (gb9 rfl rfl rfl (ZU 9 rfl rfl (fun _=>rfl) (fun _=>rfl) zb)))
set_option maxHeartbeats 4000000 in
theorem zKh {s:zH} {from_:(List Int)} {to:(List Int)} {step:Int} {r:(List ZH)×Int} (M:zDG s from_ to step=some r):Ct Tryz.prog 29 [zU s,V.sl (map V.i from_),V.sl (map V.i to),V.i step] (V.tup [V.sl (map ZM r.1),V.i r.2]):=by
 refine zP zn rfl ?_
 unfold zDG at M
 obtain ⟨y,h_1,M⟩:=zC M
 refine au 10 ?_
 refine GS.bldF rfl rfl rfl rfl ?_
 refine ca (zC7 h_1) (au 6 ?_)
 refine cm M (fun h_2 M=>?_) (fun h_2 M=>?_)
 ·refine au 5 ?_
  cases M
  exact X.rt
 refine au 7 ?_
 refine X.join (τ:=Unit) (fun v=>Yd s from_ to step=some r) (fun v=>⟨[(1,V.sl (map V.i from_)),(2,V.sl (map V.i to)),(3,V.i step),(4,V.ptr 0 0 0)],[.rows 11 [zU s]],0,none,94⟩) ?_ ?_
 ·intro _ M
  replace M:Yd s from_ to step=some r:=M
  unfold Yd at M
  refine au 3 ?_
  refine ca (zm step 1 65536) (au 2 ?_)
  refine cm M (fun h_3 M=>?_) (fun h_3 M=>?_)
  ·refine au 4 ?_
   cases M
   exact X.rt
  refine au 8 ?_
  refine X.op0W rfl rfl rfl (au 14 ?_)
  refine X.join (τ:=Int×Int×zA) (fun v=>J3 s from_ to step v.1 v.2.1 v.2.2=some r) (fun v=>⟨[(1,V.sl (map V.i from_)),(2,V.sl (map V.i to)),(4,V.ptr 0 0 0),(12,V.ptr 1 0 0),(13,V.ptr 2 0 0),(14,V.i v.1),(15,V.i v.2.1)],[.rows 11 [zU s],.rows 14 [V.agg [V.i s.ID,V.i s.Light,V.i s.Lever,V.i s.Height,V.sl (map ZW s.Holds),V.sl (map zx s.Mean.Knots),V.i s.Mean.Err,V.sl (map zx s.Mtac.Knots),V.i s.Mtac.Err,V.i s.Turn,V.i s.Least,V.sl (map V.i from_),V.sl (map V.i to),V.i step]],.rows 8 [zM v.2.2]],0,none,94⟩) ?_ ?_
  ·rintro ⟨states,all,end_⟩ M
   replace M:J3 s from_ to step states all end_=some r:=M
   unfold J3 at M
   refine au 3 ?_
   refine X.mid [(71,(V.b ((decide (2000<states))||(decide (60<all))))),(1,V.sl (map V.i from_)),(2,V.sl (map V.i to)),(4,V.ptr 0 0 0),(12,V.ptr 1 0 0),(13,V.ptr 2 0 0)] ?_ ?_
   ·intro hg
    refine X.split (decide (2000<states)) (fun h_4=>?_) (fun h_4=>?_)
    ·refine au 8 ?_
     exact ng hg rfl (by simp only [h_4,bb])
    refine au 8 ?_
    exact ng hg rfl (by simp only [h_4,bb])
   refine cm M (fun h_5 M=>?_) (fun h_5 M=>?_)
   ·refine au 4 ?_
    cases M
    exact X.rt
   obtain ⟨y1,h_6,M⟩:=zC M
   obtain ⟨y2,h_7,M⟩:=Yw M
   refine sq ?_
   refine X.mid [(78,(V.b ((!y1)||(!y2)))),(12,V.ptr 1 0 0),(13,V.ptr 2 0 0)] ?_ ?_
   ·intro hg
    refine X.split (!y1) (fun h_8=>?_) (fun h_8=>?_)
    ·refine au 2 ?_
     refine ca (qE h_6) (au 9 ?_)
     exact ng hg rfl (by simp only [h_8,bb])
    refine au 2 ?_
    refine ca (qE h_6) (au 4 ?_)
    refine ca (qE (h_7 (nt h_8))) (au 4 ?_)
    exact ng hg rfl (by simp only [h_8,bb])
   refine cm M (fun h_9 M=>?_) (fun h_9 M=>?_)
   ·refine au 4 ?_
    cases M
    exact X.rt
   obtain ⟨y3,h_10,M⟩:=zC M
   refine au 5 ?_
   refine ca (zDo h_10) (au 5 ?_)
   cases M
   exact X.rt
  intro hj_2
  refine au 1 ?_
  refine gx [some 0,some 1,some 2] (X.loop (σ:=(Int×Int×Int×zA)) (fun v=>⟨[(1,V.sl (map V.i from_)),(2,V.sl (map V.i to)),(4,V.ptr 0 0 0),(12,V.ptr 1 0 0),(13,V.ptr 2 0 0),(14,V.i v.1),(15,V.i v.2.1),(49,(V.i (from_.length:Int))),(50,V.i v.2.2.1)],[.rows 11 [zU s],.rows 14 [V.agg [V.i s.ID,V.i s.Light,V.i s.Lever,V.i s.Height,V.sl (map ZW s.Holds),V.sl (map zx s.Mean.Knots),V.i s.Mean.Err,V.sl (map zx s.Mtac.Knots),V.i s.Mtac.Err,V.i s.Turn,V.i s.Least,V.sl (map V.i from_),V.sl (map V.i to),V.i step]],.rows 8 [zM v.2.2.2]],0,none,94⟩) M ?_ rfl)
  rintro ⟨states1,all1,x,end_1⟩ b_1 M hc_3 hr_1
  rw [zAV] at M
  refine au 3 ?_
  refine GS.seq ?_
  refine cm M (fun h_11 M=>?_) (fun h_11 M=>?_)
  ·obtain ⟨y4,h_12,M⟩:=zC M
   obtain ⟨y5,h_13,M⟩:=zC M
   refine au 11 ?_
   refine ca (zD4 h_12) ?_
   refine X.opR rfl (QV (k:=8) (l:=zA.toL end_1) h_13 rfl rfl rfl rfl rfl) rfl ?_
   refine X.op0W rfl (zJD (l:=zA.toL end_1) (l':=zA.toL (zA.set end_1 x y4)) (pre:=[]) (post:=[]) h_13 (zA.zEM _ _ _) rfl rfl rfl rfl rfl rfl rfl rfl rfl) rfl ?_
   obtain ⟨y6,h_14,M⟩:=zC M
   obtain ⟨y7,h_15,M⟩:=zC M
   refine au 4 ?_
   refine cop rfl (QV (k:=8) (l:=zA.toL (zA.set end_1 x y4)) h_14 rfl rfl rfl rfl rfl) rfl rfl ?_
   refine cop rfl (zCi (l:=zA.toL (zA.set end_1 x y4)) (pre:=[]) (post:=[]) h_14 rfl rfl rfl rfl rfl rfl rfl) rfl rfl (au 5 ?_)
   refine cop rfl (QV (k:=8) (l:=zA.toL (zA.set end_1 x y4)) h_15 rfl rfl rfl rfl rfl) rfl rfl ?_
   refine cop rfl (zCi (l:=zA.toL (zA.set end_1 x y4)) (pre:=[]) (post:=[]) h_15 rfl rfl rfl rfl rfl rfl rfl) rfl rfl (au 4 ?_)
   refine X.norm [(1,V.sl (map V.i from_)),(2,V.sl (map V.i to)),(4,V.ptr 0 0 0),(12,V.ptr 1 0 0),(13,V.ptr 2 0 0),(14,V.i (min (w64 (states1*(w64 (y6+1)))) 2001)),(15,V.i (w64 (all1+y7))),(49,(V.i (from_.length:Int))),(50,V.i x)] ?_ rfl (sr rfl)
   refine au 5 ?_
   have hE:=bf M
   exact gx [some 0,some 1,some 2] (hc_3 (min (w64 (states1*(w64 (y6+1)))) 2001,w64 (all1+y7),w64 (x+1),zA.set end_1 x y4) hE.symm)
  obtain ⟨y_1,M,hy⟩:=zt M
  rw [hr_1 _ hy.symm] at M
  refine au 1 ?_
  exact gx [some 0,some 1,some 2] (hj_2 (states1,all1,end_1) M)
 intro hj_1
 refine au 1 ?_
 refine gx [some 0] (X.loop (σ:=Int) (fun v=>⟨[(1,V.sl (map V.i from_)),(2,V.sl (map V.i to)),(3,V.i step),(4,V.ptr 0 0 0),(26,(V.i (from_.length:Int))),(27,V.i v)],[.rows 11 [zU s]],0,none,94⟩) M ?_ rfl)
 intro x3 b_1 M hc_4 hr_1
 rw [Qp] at M
 refine au 3 ?_
 refine GS.seq ?_
 refine cm M (fun h_16 M=>?_) (fun h_16 M=>?_)
 ·obtain ⟨x1,h_17,M⟩:=zC M
  obtain ⟨x2,h_18,M⟩:=zC M
  refine au 19 ?_
  refine X.norm [(1,V.sl (map V.i from_)),(2,V.sl (map V.i to)),(3,V.i step),(4,V.ptr 0 0 0),(26,(V.i (from_.length:Int))),(27,V.i x3),(38,V.b (decide (x2<x1)))] ?_ rfl (sr rfl)
  refine cm M (fun h_19 M=>?_) (fun h_19 M=>?_)
  ·refine au 4 ?_
   have hE:=bf M
   replace hE:=hr_1 _ hE.symm
   subst hE
   exact X.rt
  refine au 6 ?_
  have hE:=bf M
  exact gx [some 0] (hc_4 (w64 (x3+1)) hE.symm)
 obtain ⟨y_1,M,hy⟩:=zt M
 rw [hr_1 _ hy.symm] at M
 refine au 1 ?_
 exact gx [some 0] (hj_1 () M)
set_option maxHeartbeats 4000000 in
theorem zGX {s:zH} {from_:(List Int)} {drops:(List ZH)} {r:(List Int)×Int×Int} (M:YM s from_ drops=some r):Ct Tryz.prog 30 [zU s,V.sl (map V.i from_),V.sl (map ZM drops)] (V.tup [V.sl (map V.i r.1),V.i r.2.1,V.i r.2.2]):=by
 refine zP zn rfl ?_
 unfold YM at M
 obtain ⟨y,h_1,M⟩:=zC M
 refine au 10 ?_
 refine GS.bldF rfl rfl rfl rfl ?_
 refine ca (zC7 h_1) (au 6 ?_)
 refine cm M (fun h_2 M=>?_) (fun h_2 M=>?_)
 ·refine au 6 ?_
  cases M
  exact X.rt
 refine au 7 ?_
 refine cm M (fun h_3 M=>?_) (fun h_3 M=>?_)
 ·refine au 5 ?_
  cases M
  exact X.rt
 obtain ⟨l,h_4,M⟩:=zC M
 refine au 3 ?_
 refine zQD (r:=l) (i:=2) h_4 rfl rfl rfl rfl rfl (fun z_1=>(au 11 ?_))
 refine X.join (τ:=Int×(List Int)) (fun v=>QM v.1 v.2=some r) (fun v=>⟨[(10,ovlz z_1 0 v.2),(11,V.i v.1)],[oblz z_1 1 V.i v.2],0,none,72⟩) ?_ ?_
 ·rintro ⟨bad,l1⟩ M
  replace M:QM bad l1=some r:=M
  unfold QM at M
  refine au 7 ?_
  have hE:=bf M
  subst hE
  exact GS.ret ⟨_,rfl,FR.tup (.cons (FR.ovl (f:=V.i) (l:=l1) 9 rfl rfl (fun _=>rfl)) (.cons ⟨30,rfl⟩ (.cons ⟨30,rfl⟩ .nil)))⟩
 intro hj_1
 refine au 1 ?_
 refine gy [some 0,some 2] (X.loop (σ:=(Int×Int×(List Int))) (fun v=>⟨[(3,V.ptr 0 0 0),(10,ovlz z_1 1 v.2.2),(11,V.i v.1),(26,V.sl (map ZM drops)),(27,(V.i (drops.length:Int))),(28,V.i v.2.1)],[.rows 11 [zU s],oblz z_1 1 V.i v.2.2],0,none,72⟩) M ?_ rfl) (zG rfl ⟨9,rfl⟩ (zG rfl (Am.zY rfl) (ga rfl rfl)))
 rintro ⟨bad2,x4,l3⟩ b_1 M hc_2 hr_1
 rw [YB] at M
 refine au 3 ?_
 refine GS.seq ?_
 refine cm M (fun h_5 M=>?_) (fun h_5 M=>?_)
 ·refine GS.skip (GS.seq ?_)
  refine X.join (τ:=Int×(List Int)) (fun v=>Jm x4 v.1 v.2=some b_1) (fun v=>⟨[(3,V.ptr 0 0 0),(10,ovlz z_1 1 v.2),(11,V.i v.1),(26,V.sl (map ZM drops)),(27,(V.i (drops.length:Int))),(28,V.i x4)],[.rows 11 [zU s],oblz z_1 1 V.i v.2],0,none,72⟩) ?_ ?_
  ·rintro ⟨bad1,l2⟩ M
   replace M:Jm x4 bad1 l2=some b_1:=M
   unfold Jm at M
   refine au 4 ?_
   have hE:=bf M
   exact gy [some 0,some 1] (hc_2 (bad1,w64 (x4+1),l2) hE.symm) (zG rfl ⟨9,rfl⟩ (zG rfl (Am.zY rfl) (ga rfl rfl)))
  intro hj_3
  obtain ⟨x,h_6,M⟩:=zC M
  refine au 7 ?_
  refine X.op0W rfl rfl rfl ?_
  obtain ⟨x1,h_7,M⟩:=Yw M
  refine au 2 ?_
  refine GS.seq ?_
  refine X.mid [(50,(V.b ((!(zT x.Hold 0 (w64 ((l3.length:Int) - 1))))||(!(zT x.Mass 1 x1))))),(3,V.ptr 0 0 0),(10,ovlz z_1 1 l3),(11,V.i bad2),(12,V.i x4),(13,V.ptr 2 0 0),(26,V.sl (map ZM drops)),(27,(V.i (drops.length:Int))),(28,V.i x4)] ?_ ?_
  ·intro hg
   refine X.split (!(zT x.Hold 0 (w64 ((l3.length:Int) - 1)))) (fun h_8=>?_) (fun h_8=>?_)
   ·refine au 4 ?_
    refine cop rfl (lenN (l:=l3) rfl rfl rfl) rfl rfl (au 1 ?_)
    refine cca (zm x.Hold 0 (w64 ((l3.length:Int) - 1))) (au 13 ?_)
    exact ng hg rfl (by simp only [h_8,bb])
   refine au 4 ?_
   refine cop rfl (lenN (l:=l3) rfl rfl rfl) rfl rfl (au 1 ?_)
   refine cca (zm x.Hold 0 (w64 ((l3.length:Int) - 1))) (au 7 ?_)
   refine cop (on_f rfl rfl rfl h_8) (JY (h_7 (nt h_8)) rfl rfl rfl rfl rfl) rfl rfl ?_
   refine cop (on_f rfl rfl rfl h_8) (zBh (h_7 (nt h_8)) rfl rfl rfl rfl) rfl rfl ?_
   refine cca (zm x.Mass 1 x1) (au 3 ?_)
   exact ng hg rfl (by simp only [h_8,bb])
  refine cm M (fun h_9 M=>?_) (fun h_9 M=>?_)
  ·refine au 5 ?_
   have hE:=bf M
   replace hE:=hr_1 _ hE.symm
   subst hE
   exact X.rt
  obtain ⟨x2,h_10,M⟩:=zC M
  obtain ⟨x3,h_11,M⟩:=zC M
  refine GS.skip (GS.seq ?_)
  refine X.draw (by kernel_rfl) (au 3 ?_)
  refine dop rfl (JY h_10 rfl rfl rfl rfl rfl) rfl rfl (by kernel_rfl) rfl rfl ?_
  refine dop rfl (zBh h_10 rfl rfl rfl rfl) rfl rfl (by kernel_rfl) rfl rfl (au 3 ?_)
  refine dop rfl (JY h_11 rfl rfl rfl rfl rfl) rfl rfl (by kernel_rfl) rfl rfl ?_
  refine dop0 rfl (X.Q9 (b:=w64 (x2 - x.Mass)) h_11 rfl rfl rfl rfl rfl rfl rfl) rfl rfl (by kernel_rfl) rfl (au 1 ?_)
  refine X.norm [(3,V.ptr 0 0 0),(10,ovlz z_1 1 l3),(11,V.i bad2),(12,V.i x4),(26,V.sl (map ZM drops)),(27,(V.i (drops.length:Int))),(28,V.i x4)] ?_ rfl (sr rfl)
  obtain ⟨y1,h_12,M⟩:=Yw M
  refine sq ?_
  refine X.mid [(67,V.b ((decide (bad2<0))&&(!y1))),(3,V.ptr 0 0 0),(10,ovlz z_1 1 l3),(11,V.i bad2),(12,V.i x4),(26,V.sl (map ZM drops)),(27,(V.i (drops.length:Int))),(28,V.i x4)] ?_ ?_
  ·intro hg
   refine X.split (decide (bad2<0)) (fun h_13=>?_) (fun h_13=>?_)
   ·refine au 5 ?_
    refine X.zBk (qE (h_12 h_13)) (on_t rfl rfl rfl h_13) rfl rfl (m:=9) rfl (.cons (.shut (n:=9) rfl) (.cons (FR.arg (FR.eq YS (FR.ovl (f:=V.i) (l:=(put l3 x.Hold (w64 (x2 - x.Mass)))) 9 rfl rfl (fun _=>rfl)))) .nil)) (au 3 ?_)
    exact ng hg rfl (by simp only [h_13,bb])
   refine au 9 ?_
   exact ng hg rfl (by simp only [h_13,bb])
  refine cm M (fun h_14 M=>?_) (fun h_14 M=>?_)
  ·refine au 5 ?_
   exact gy [some 0,some 1] (hj_3 (x4,put l3 x.Hold (w64 (x2 - x.Mass))) M) (zG rfl ⟨9,rfl⟩ (zG rfl (Yi YS (Am.zY rfl)) (ga rfl rfl)))
  refine au 2 ?_
  exact gy [some 0,some 1] (hj_3 (bad2,put l3 x.Hold (w64 (x2 - x.Mass))) M) (zG rfl ⟨9,rfl⟩ (zG rfl (Yi YS (Am.zY rfl)) (ga rfl rfl)))
 obtain ⟨y_1,M,hy⟩:=zt M
 rw [hr_1 _ hy.symm] at M
 refine au 1 ?_
 exact gy [some 1] (hj_1 (bad2,l3) M) (zG rfl (Am.zY rfl) (ga rfl rfl))
set_option maxHeartbeats 4000000 in
theorem zJZ {s:zH} {l:zQ} {out:(List zB)} {r:zQ×Int} (M:zA2 s l out=some r):Ct Tryz.prog 31 [zU s,zO l,V.sl (map zD out)] (V.tup [zO r.1,V.i r.2]):=by
 refine zP zn rfl ?_
 unfold zA2 at M
 obtain ⟨y,h_1,M⟩:=zC M
 refine au 10 ?_
 refine ca (yH h_1) (au 6 ?_)
 refine cm M (fun h_2 M=>?_) (fun h_2 M=>?_)
 ·refine au 3 ?_
  refine X.op0W rfl rfl rfl (au 2 ?_)
  cases M
  exact X.rt
 refine au 10 ?_
 refine cm M (fun h_3 M=>?_) (fun h_3 M=>?_)
 ·refine au 2 ?_
  refine X.op0W rfl rfl rfl (au 2 ?_)
  cases M
  exact X.rt
 refine au 2 ?_
 refine X.opW (H':=[.rows 11 [zU s],.rows 3 [zO l],.rows 3 [V.agg [V.nil,V.i 0,V.i 0]],.rows 3 [V.agg [V.nil,V.i 0,V.i 0]]]) rfl rfl rfl rfl (au 7 ?_)
 refine X.join (τ:=(List zB)) (fun v=>Yv s l out v=some r) (fun v=>⟨[(2,V.sl (map zD out)),(3,V.ptr 0 0 0),(4,V.ptr 1 0 0),(6,V.ptr 2 0 0),(9,V.ptr 3 0 0)],[.rows 11 [zU s],.rows 3 [zO l],.rows 3 [V.agg [V.nil,V.i 0,V.i 0]],.rows 3 [V.agg [ovl 4 v,V.i 0,V.i 0]],obl 2 zD v],0,none,120⟩) ?_ ?_
 ·intro l1 M
  replace M:Yv s l out l1=some r:=M
  unfold Yv at M
  obtain ⟨y1,h_4,M⟩:=zC M
  refine au 2 ?_
  refine ca (zHB h_4) ?_
  refine X.opW (H':=[.rows 11 [zU s],.rows 3 [zO l],.rows 3 [V.agg [V.nil,V.i 0,V.i 0]],.rows 3 [V.agg [ovl 4 l1,V.i 0,V.i 0]],obl 2 zD l1,.rows 2 [V.agg [V.i 0,V.i 0]]]) rfl rfl rfl rfl ?_
  refine X.op0W (H':=[.rows 11 [zU s],.rows 3 [zO l],.rows 3 [V.agg [V.nil,V.i 0,V.i 0]],.rows 3 [V.agg [ovl 4 l1,V.i 0,V.i 0]],obl 2 zD l1,.rows 2 [zD y1]]) rfl rfl rfl (au 10 ?_)
  refine cm M (fun h_5 M=>?_) (fun h_5 M=>?_)
  ·refine au 2 ?_
   refine X.op0W (H':=[.rows 11 [zU s],.rows 3 [zO l],.rows 3 [V.agg [V.nil,V.i 0,V.i 0]],.rows 3 [V.agg [ovl 4 l1,V.i 0,V.i 0]],obl 2 zD l1,.rows 2 [zD y1]]) rfl rfl rfl (au 2 ?_)
   cases M
   exact X.rt
  refine GS.skip (GS.seq ?_)
  refine X.draw (by kernel_rfl) (au 6 ?_)
  refine dca (yU 0 (w64 (l.All.Lo - y1.Hi))) (au 8 ?_)
  refine dop0 rfl rfl rfl rfl (by kernel_rfl) rfl (au 1 ?_)
  refine X.norm [(3,V.ptr 0 0 0),(6,V.ptr 2 0 0),(9,V.ptr 3 0 0)] ?_ rfl (sr rfl)
  obtain ⟨y2,h_6,M⟩:=zC M
  refine au 4 ?_
  refine X.zBk (yH h_6) rfl rfl rfl (m:=9) rfl (.cons (.shut (n:=9) rfl) (.cons (FR.arg (FR.agg (.cons (FR.ovl (f:=zD) (l:=l1) 9 rfl rfl (fun _=>rfl)) (.cons ⟨30,rfl⟩ (.cons ⟨30,rfl⟩ .nil))))) .nil)) (au 6 ?_)
  refine cm M (fun h_7 M=>?_) (fun h_7 M=>?_)
  ·refine au 3 ?_
   refine X.op0W (H':=[.rows 11 [zU s],.rows 3 [zO l],.rows 3 [V.agg [V.nil,V.i 0,V.i 0]],.rows 3 [V.agg [ovl 4 l1,V.i (ZC 0 (w64 (l.All.Lo - y1.Hi))),V.i (w64 (l.All.Hi - y1.Lo))]],obl 2 zD l1,.rows 2 [zD y1]]) rfl rfl rfl (au 2 ?_)
   cases M
   exact X.rt
  refine au 3 ?_
  refine X.op0W (H':=[.rows 11 [zU s],.rows 3 [zO l],.rows 3 [V.agg [ovl 4 l1,V.i (ZC 0 (w64 (l.All.Lo - y1.Hi))),V.i (w64 (l.All.Hi - y1.Lo))]],.rows 3 [V.agg [ovl 4 l1,V.i (ZC 0 (w64 (l.All.Lo - y1.Hi))),V.i (w64 (l.All.Hi - y1.Lo))]],obl 2 zD l1,.rows 2 [zD y1]]) rfl (v:=jT) (wr:=[(2,.rows 3 [V.agg [ovl 4 l1,V.i (ZC 0 (w64 (l.All.Lo - y1.Hi))),V.i (w64 (l.All.Hi - y1.Lo))]])]) (by rcases yM (z:=true) 4 l1 with h0 | ⟨n0,h0⟩ <;> simp only [h0] <;> rfl) rfl (au 2 ?_)
  have hE:=bf M
  subst hE
  exact GS.ret ⟨_,rfl,FR.tup (.cons (FR.agg (.cons (FR.ovl (f:=zD) (l:=l1) 9 rfl rfl (fun _=>rfl)) (.cons ⟨30,rfl⟩ (.cons ⟨30,rfl⟩ .nil)))) (.cons ⟨30,rfl⟩ .nil))⟩
 intro hj_1
 refine au 1 ?_
 refine gx [some 0,some 1,some 2,some 3,none] (X.loop (σ:=(Int×(List zB))) (fun v=>⟨[(2,V.sl (map zD out)),(3,V.ptr 0 0 0),(4,V.ptr 1 0 0),(6,V.ptr 2 0 0),(9,V.ptr 3 0 0),(29,V.sl (map zD out)),(30,(V.i (out.length:Int))),(31,V.i v.1)],[.rows 11 [zU s],.rows 3 [zO l],.rows 3 [V.agg [V.nil,V.i 0,V.i 0]],.rows 3 [V.agg [ovl 4 v.2,V.i 0,V.i 0]],obl 2 zD v.2],0,none,120⟩) M ?_ rfl)
 rintro ⟨x3,l3⟩ b_1 M hc_2 hr_1
 rw [qJ] at M
 refine au 3 ?_
 refine GS.seq ?_
 refine cm M (fun h_8 M=>?_) (fun h_8 M=>?_)
 ·obtain ⟨x,h_9,M⟩:=zC M
  refine au 7 ?_
  refine X.opW (H':=[.rows 11 [zU s],.rows 3 [zO l],.rows 3 [V.agg [V.nil,V.i 0,V.i 0]],.rows 3 [V.agg [ovl 4 l3,V.i 0,V.i 0]],obl 2 zD l3,.rows 2 [V.agg [V.i 0,V.i 0]]]) rfl rfl rfl rfl (X.q rfl ?_)
  refine X.op0W (H':=[.rows 11 [zU s],.rows 3 [zO l],.rows 3 [V.agg [V.nil,V.i 0,V.i 0]],.rows 3 [V.agg [ovl 4 l3,V.i 0,V.i 0]],obl 2 zD l3,.rows 2 [zD x]]) rfl rfl rfl ?_
  obtain ⟨x1,h_10,M⟩:=zC M
  refine au 7 ?_
  refine X.opW (H':=[.rows 11 [zU s],.rows 3 [zO l],.rows 3 [V.agg [V.nil,V.i 0,V.i 0]],.rows 3 [V.agg [ovl 4 l3,V.i 0,V.i 0]],obl 2 zD l3,.rows 2 [zD x],.rows 2 [V.agg [V.i 0,V.i 0]]]) rfl rfl rfl rfl ?_
  refine X.op0W (H':=[.rows 11 [zU s],.rows 3 [zO l],.rows 3 [V.agg [V.nil,V.i 0,V.i 0]],.rows 3 [V.agg [ovl 4 l3,V.i 0,V.i 0]],obl 2 zD l3,.rows 2 [zD x],.rows 2 [zD x1]]) rfl rfl rfl ?_
  obtain ⟨x2,h_11,M⟩:=Yw M
  refine au 2 ?_
  refine GS.seq ?_
  refine X.mid [(68,(V.b ((((decide (x.Lo<0))||(decide (x.Hi<x.Lo)))||(decide (x2.Room<x.Hi)))||(decide (x1.Hi<x.Lo))))),(2,V.sl (map zD out)),(3,V.ptr 0 0 0),(4,V.ptr 1 0 0),(6,V.ptr 2 0 0),(9,V.ptr 3 0 0),(11,V.ptr 5 0 0),(12,V.ptr 6 0 0),(29,V.sl (map zD out)),(30,(V.i (out.length:Int))),(31,V.i x3)] ?_ ?_
  ·intro hg
   refine X.split (decide (x.Lo<0)) (fun h_12=>?_) (fun h_12=>?_)
   ·refine au 30 ?_
    exact ng hg rfl (by simp only [h_12,bb])
   refine X.split (decide (x.Hi<x.Lo)) (fun h_13=>?_) (fun h_13=>?_)
   ·refine au 30 ?_
    exact ng hg rfl (by simp only [h_12,h_13,bb])
   refine X.split (decide (x2.Room<x.Hi)) (fun h_14=>?_) (fun h_14=>?_)
   ·refine au 17 ?_
    refine cop (on_f rfl rfl rfl h_13) (YH (f:=ZW) (h_11 (nt (zDa h_12 h_13))) (fun _=>rfl) rfl rfl rfl rfl) rfl rfl (au 1 ?_)
    refine cop (on_f rfl rfl rfl h_13) (zDC (h_11 (nt (zDa h_12 h_13))) rfl rfl rfl) rfl rfl (au 10 ?_)
    exact ng hg rfl (by simp only [h_12,h_13,h_14,bb])
   refine au 17 ?_
   refine cop (on_f rfl rfl rfl h_13) (YH (f:=ZW) (h_11 (nt (zDa h_12 h_13))) (fun _=>rfl) rfl rfl rfl rfl) rfl rfl (au 1 ?_)
   refine cop (on_f rfl rfl rfl h_13) (zDC (h_11 (nt (zDa h_12 h_13))) rfl rfl rfl) rfl rfl (au 10 ?_)
   exact ng hg rfl (by simp only [h_12,h_13,h_14,bb])
  refine cm M (fun h_15 M=>?_) (fun h_15 M=>?_)
  ·refine au 2 ?_
   refine X.op0W (H':=[.rows 11 [zU s],.rows 3 [zO l],.rows 3 [V.agg [V.nil,V.i 0,V.i 0]],.rows 3 [V.agg [ovl 4 l3,V.i 0,V.i 0]],obl 2 zD l3,.rows 2 [zD x],.rows 2 [zD x1]]) rfl rfl rfl (au 2 ?_)
   have hE:=bf M
   replace hE:=hr_1 _ hE.symm
   subst hE
   exact X.rt
  obtain ⟨l2,h_16,M⟩:=zC M
  refine GS.skip ?_
  refine X.draw (by kernel_rfl) (au 7 ?_)
  refine dca (yU 0 (w64 (x1.Lo - x.Hi))) (au 7 ?_)
  refine zKH (f:=zD) h_16 (fun _=>rfl) (by rfl) (by rfl) (by rfl) (by rfl) (by rfl) (by rfl) (by rfl) (by rfl) (by rfl) (by rfl) (by rfl) (by exact rfl) (by rfl) (by rfl) (by kernel_rfl) (by rfl) (by rfl) (au 1 ?_)
  refine dop0 rfl rfl rfl rfl (by kernel_rfl) rfl (au 1 ?_)
  refine X.norm [(2,V.sl (map zD out)),(3,V.ptr 0 0 0),(4,V.ptr 1 0 0),(6,V.ptr 2 0 0),(9,V.ptr 3 0 0),(29,V.sl (map zD out)),(30,(V.i (out.length:Int))),(31,V.i x3)] ?_ rfl (sr rfl)
  refine au 5 ?_
  have hE:=bf M
  exact X.gc [some 0,some 1,some 2,some 3,some 8] (hc_2 (w64 (x3+1),l2) hE.symm) rfl rfl rfl (ga rfl rfl) (gb9 rfl rfl rfl (gb9 rfl rfl rfl (gb9 rfl rfl rfl (Zj rfl rfl (Qv (.cons (qz (jH h_16) rfl) (.cons ⟨9,rfl⟩ (.cons ⟨9,rfl⟩ .nil)))) (gb_obl' 9 (jH h_16) rfl rfl (fun _=>rfl) zb)))))
 obtain ⟨y_1,M,hy⟩:=zt M
 rw [hr_1 _ hy.symm] at M
 refine au 1 ?_
 exact X.gc [some 0,some 1,some 2,some 3,some 4] (hj_1 l3 M) rfl rfl rfl (ga rfl rfl) (gb9 rfl rfl rfl (gb9 rfl rfl rfl (gb9 rfl rfl rfl (Zj rfl rfl (Qv (.cons (Am.zY rfl) (.cons ⟨9,rfl⟩ (.cons ⟨9,rfl⟩ .nil)))) (ZB 9 rfl rfl (fun _=>rfl) zb)))))
set_option maxHeartbeats 4000000 in
theorem zL6 {l:zQ} {x:(List Int)} {r:Bool} (M:zEB l x=some r):Ct Tryz.prog 61 [zO l,V.sl (map V.i x)] (V.b r):=by
 refine zP zn rfl ?_
 unfold zEB at M
 refine au 13 ?_
 refine cm M (fun h_1 M=>?_) (fun h_1 M=>?_)
 ·refine au 3 ?_
  cases M
  exact X.rt
 refine au 7 ?_
 refine X.join (τ:=Unit) (fun v=>zBQ l x=some r) (fun v=>⟨[(1,V.sl (map V.i x)),(2,V.ptr 0 0 0)],[.rows 3 [zO l]],0,none,45⟩) ?_ ?_
 ·intro _ M
  replace M:zBQ l x=some r:=M
  unfold zBQ at M
  obtain ⟨y,h_2,M⟩:=zC M
  refine au 3 ?_
  refine cca (zDb h_2) (au 6 ?_)
  refine cca (zm y l.All.Lo l.All.Hi) (au 2 ?_)
  refine X.norm [(4,V.b (zT y l.All.Lo l.All.Hi))] ?_ rfl (sr rfl)
  cases M
  exact X.rt
 intro hj_1
 refine au 1 ?_
 refine gx [some 0] (X.loop (σ:=Int) (fun v=>⟨[(1,V.sl (map V.i x)),(2,V.ptr 0 0 0),(13,V.sl (map V.i x)),(14,(V.i (x.length:Int))),(15,V.i v)],[.rows 3 [zO l]],0,none,45⟩) M ?_ rfl)
 intro x4 b_1 M hc_2 hr_1
 rw [zBR] at M
 refine au 3 ?_
 refine GS.seq ?_
 refine cm M (fun h_3 M=>?_) (fun h_3 M=>?_)
 ·obtain ⟨x1,h_4,M⟩:=zC M
  refine au 5 ?_
  refine X.opR rfl (YH (f:=V.i) h_4 (fun _=>rfl) rfl rfl rfl rfl) rfl ?_
  refine X.opR rfl (zDC h_4 rfl rfl rfl) rfl ?_
  obtain ⟨x2,h_5,M⟩:=zC M
  obtain ⟨x3,h_6,M⟩:=zC M
  refine au 9 ?_
  refine cop rfl (YH (f:=zD) h_5 (fun _=>rfl) rfl rfl rfl rfl) rfl rfl (au 1 ?_)
  refine cop rfl (zDC h_5 rfl rfl rfl) rfl rfl (au 3 ?_)
  refine cop rfl (YH (f:=zD) h_6 (fun _=>rfl) rfl rfl rfl rfl) rfl rfl (au 1 ?_)
  refine cop rfl (zDC h_6 rfl rfl rfl) rfl rfl ?_
  refine cca (zm x1 x2.Lo x3.Hi) (au 2 ?_)
  refine X.norm [(1,V.sl (map V.i x)),(2,V.ptr 0 0 0),(13,V.sl (map V.i x)),(14,(V.i (x.length:Int))),(15,V.i x4),(34,V.b (!(zT x1 x2.Lo x3.Hi)))] ?_ rfl (sr rfl)
  refine cm M (fun h_7 M=>?_) (fun h_7 M=>?_)
  ·refine au 3 ?_
   have hE:=bf M
   replace hE:=hr_1 _ hE.symm
   subst hE
   exact X.rt
  refine au 6 ?_
  have hE:=bf M
  exact gx [some 0] (hc_2 (w64 (x4+1)) hE.symm)
 obtain ⟨y_1,M,hy⟩:=zt M
 rw [hr_1 _ hy.symm] at M
 refine au 1 ?_
 exact gx [some 0] (hj_1 () M)
theorem zL9 {s:zH} {l:zQ} {x:(List Int)} {r:Bool} (M:zEC s l x=some r):Ct Tryz.prog 32 [zU s,zO l,V.sl (map V.i x)] (V.b r):=by
 refine zP zn rfl ?_
 unfold zEC at M
 obtain ⟨y,h_1,M⟩:=zC M
 obtain ⟨y1,h_2,M⟩:=Yw M
 refine au 6 ?_
 refine X.mid [(6,V.b ((decide (y=0))&&y1))] ?_ ?_
 ·intro hg
  refine X.split (decide (y=0)) (fun h_3=>?_) (fun h_3=>?_)
  ·refine au 2 ?_
   refine ca (yH h_1) (au 4 ?_)
   refine ca (zL6 (h_2 h_3)) (au 3 ?_)
   exact ng hg rfl (by simp only [h_3,bb])
  refine au 2 ?_
  refine ca (yH h_1) (au 8 ?_)
  exact ng hg rfl (by simp only [h_3,bb])
 cases M
 exact X.rt
set_option maxHeartbeats 4000000 in
theorem zL3 {g:ZO} {by_:(List Int)} {out:(List Int)} {r:Bool} (M:zDy g by_ out=some r):Ct Tryz.prog 10 [zi g,(V.sl (map (fun x=>V.lit (.int .u16 x)) by_)),(V.sl (map (fun x=>V.lit (.int .u16 x)) out))] (V.b r):=by
 refine zP zn rfl ?_
 unfold zDy at M
 obtain ⟨y,h_1,M⟩:=zC M
 refine au 8 ?_
 refine ca (zEo h_1) (au 11 ?_)
 refine cm M (fun h_2 M=>?_) (fun h_2 M=>?_)
 ·refine au 3 ?_
  cases M
  exact X.rt
 obtain ⟨l,h_3,M⟩:=zC M
 refine au 4 ?_
 refine X.opW rfl (appO (f:=V.i) h_3 (fun _=>rfl) rfl rfl rfl rfl rfl rfl rfl rfl rfl rfl) rfl rfl (au 5 ?_)
 refine X.opR rfl (lenO (l:=l) rfl rfl rfl) rfl (au 2 ?_)
 refine X.join (τ:=(List Int)) (fun v=>qV g y v=some r) (fun v=>⟨[(3,V.ptr 0 0 0),(7,V.sl (map V.i y.1)),(9,V.osl 1 0 (List.length v))],[.rows 17 [zi g],.rows 1 (map V.i v)],0,none,208⟩) ?_ ?_
 ·intro l1 M
  replace M:qV g y l1=some r:=M
  unfold qV at M
  refine GS.seq ?_
  refine zHQ (z:=false) (f:=V.i) (l:=l1) (es:=1) 9 rfl rfl rfl rfl (fun _=>rfl) ?_
  obtain ⟨y1,h_4,M⟩:=zC M
  refine au 5 ?_
  refine ca (zKh h_4) (au 11 ?_)
  refine cm M (fun h_5 M=>?_) (fun h_5 M=>?_)
  ·refine sq ?_
   refine X.mid [(6,(V.b (((decide (y1.2=4))||(decide (y1.2=5)))||(decide (y1.2=2)))))] ?_ ?_
   ·intro hg
    refine X.split (decide (y1.2=4)) (fun h_6=>?_) (fun h_6=>?_)
    ·refine au 12 ?_
     exact ng hg rfl (by simp only [h_6,bb])
    refine X.split (decide (y1.2=5)) (fun h_7=>?_) (fun h_7=>?_)
    ·refine au 12 ?_
     exact ng hg rfl (by simp only [h_6,h_7,bb])
    refine au 12 ?_
    exact ng hg rfl (by simp only [h_6,h_7,bb])
   cases M
   exact X.rt
  obtain ⟨y2,h_8,M⟩:=zC M
  refine au 6 ?_
  refine ca (zGX h_8) (au 10 ?_)
  refine X.mid [(108,(V.b (((!decide (y2.2.2=0))||(!decide (y2.2.1=(-1))))||(!decide ((y2.1.length:Int)=(l1.length:Int)))))),(3,V.ptr 0 0 0),(7,V.sl (map V.i y.1)),(9,V.sl (map V.i l1)),(11,V.sl (map ZM y1.1))] ?_ ?_
  ·intro hg
   refine X.split (!decide (y2.2.2=0)) (fun h_9=>?_) (fun h_9=>?_)
   ·refine au 14 ?_
    exact ng hg rfl (by simp only [h_9,bb])
   refine X.split (!decide (y2.2.1=(-1))) (fun h_10=>?_) (fun h_10=>?_)
   ·refine au 14 ?_
    exact ng hg rfl (by simp only [h_9,h_10,bb])
   refine au 14 ?_
   exact ng hg rfl (by simp only [h_9,h_10,bb])
  refine cm M (fun h_11 M=>?_) (fun h_11 M=>?_)
  ·refine au 3 ?_
   cases M
   exact X.rt
  refine au 10 ?_
  refine X.join (τ:=(List zB)) (fun v=>qU g y y1 v=some r) (fun v=>⟨[(3,V.ptr 0 0 0),(7,V.sl (map V.i y.1)),(11,V.sl (map ZM y1.1)),(16,ovl 1 v)],[.rows 17 [zi g],obl 2 zD v],0,none,208⟩) ?_ ?_
  ·intro l2 M
   replace M:qU g y y1 l2=some r:=M
   unfold qU at M
   refine GS.seq ?_
   refine zHQ (z:=true) (f:=zD) (l:=l2) (es:=2) 16 rfl rfl rfl rfl (fun _=>rfl) ?_
   obtain ⟨y3,h_12,M⟩:=zC M
   refine au 6 ?_
   refine ca (zJZ h_12) (au 4 ?_)
   refine X.op0W rfl rfl rfl (au 7 ?_)
   refine cm M (fun h_13 M=>?_) (fun h_13 M=>?_)
   ·refine au 5 ?_
    cases M
    exact X.rt
   obtain ⟨l3,h_14,M⟩:=zC M
   refine au 2 ?_
   refine X.opW (H':=[.rows 17 [zi g],.dead,.rows 3 [zO y3.1],.rows 1 (map V.i [])]) rfl rfl rfl rfl (X.q rfl ?_)
   refine X.opW (H':=[.rows 17 [zi g],.dead,.rows 3 [zO y3.1],.dead,.rows 1 (map V.i l3)]) rfl (appO (f:=V.i) h_14 (fun _=>rfl) rfl rfl rfl rfl rfl rfl rfl rfl rfl rfl) rfl rfl (au 8 ?_)
   refine X.join (τ:=Unit) (fun v=>zA8=some r) (fun v=>⟨[],[],0,none,208⟩) ?_ ?_
   ·intro _ M
    replace M:zA8=some r:=M
    unfold zA8 at M
    refine au 3 ?_
    cases M
    exact X.rt
   intro hj_3
   refine au 1 ?_
   refine gx [some 0,some 2,some 4] (X.loop (σ:=(Int×(List Int))) (fun v=>⟨[(3,V.ptr 0 0 0),(18,V.ptr 1 0 0),(20,V.osl 2 0 (List.length v.2)),(144,V.sl (map ZM y1.1)),(145,(V.i (y1.1.length:Int))),(146,V.i v.1)],[.rows 17 [zi g],.rows 3 [zO y3.1],.rows 1 (map V.i v.2)],0,none,208⟩) M ?_ rfl)
   rintro ⟨x3,l4⟩ b_1 M hc_4 hr_1
   rw [qW] at M
   refine au 3 ?_
   refine GS.seq ?_
   refine cm M (fun h_15 M=>?_) (fun h_15 M=>?_)
   ·obtain ⟨x,h_16,M⟩:=zC M
    refine au 6 ?_
    refine X.opW (H':=[.rows 17 [zi g],.rows 3 [zO y3.1],.rows 1 (map V.i l4),.rows 2 [V.agg [V.i 0,V.i 0]]]) rfl rfl rfl rfl ?_
    refine X.op0W (H':=[.rows 17 [zi g],.rows 3 [zO y3.1],.rows 1 (map V.i l4),.rows 2 [ZM x]]) rfl rfl rfl (au 3 ?_)
    refine X.mid [(159,(V.b ((decide (x.Hold<0))||(decide ((l4.length:Int)≤x.Hold))))),(3,V.ptr 0 0 0),(18,V.ptr 1 0 0),(20,V.osl 2 0 (List.length l4)),(22,V.ptr 3 0 0),(144,V.sl (map ZM y1.1)),(145,(V.i (y1.1.length:Int))),(146,V.i x3)] ?_ ?_
    ·intro hg
     refine X.split (decide (x.Hold<0)) (fun h_17=>?_) (fun h_17=>?_)
     ·refine au 11 ?_
      exact ng hg rfl (by simp only [h_17,bb])
     refine au 7 ?_
     refine X.opR (on_f rfl rfl rfl h_17) (lenO (l:=l4) rfl rfl rfl) rfl (au 3 ?_)
     exact ng hg rfl (by simp only [h_17,bb])
    refine cm M (fun h_18 M=>?_) (fun h_18 M=>?_)
    ·refine au 3 ?_
     have hE:=bf M
     replace hE:=hr_1 _ hE.symm
     subst hE
     exact X.rt
    obtain ⟨x1,h_19,M⟩:=zC M
    obtain ⟨x2,h_20,M⟩:=zC M
    refine GS.skip (GS.seq ?_)
    refine X.draw (by kernel_rfl) (au 3 ?_)
    refine dop rfl (jB h_19 rfl rfl rfl rfl rfl) rfl rfl (by kernel_rfl) rfl rfl ?_
    refine dop rfl (Y9 h_19 rfl rfl rfl rfl) rfl rfl (by kernel_rfl) rfl rfl (au 3 ?_)
    refine dop rfl (jB h_20 rfl rfl rfl rfl rfl) rfl rfl (by kernel_rfl) rfl rfl ?_
    refine dop0 rfl (YY (b:=w64 (x1 - x.Mass)) h_20 rfl rfl rfl rfl rfl rfl rfl) rfl rfl (by kernel_rfl) rfl (au 1 ?_)
    refine X.norm [(3,V.ptr 0 0 0),(18,V.ptr 1 0 0),(20,V.osl 2 0 (List.length l4)),(144,V.sl (map ZM y1.1)),(145,(V.i (y1.1.length:Int))),(146,V.i x3)] ?_ rfl (sr rfl)
    obtain ⟨y4,h_21,M⟩:=zC M
    refine au 6 ?_
    refine X.zBk (zL9 h_21) rfl rfl rfl (m:=9) rfl (.cons (.shut (n:=9) rfl) (.cons (.shut (n:=9) rfl) (.cons (FR.arg (FR.eq JE (FR.osl (f:=V.i) (l:=(put l4 x.Hold (w64 (x1 - x.Mass)))) 9 rfl rfl (fun _=>rfl)))) .nil))) (au 2 ?_)
    refine cm M (fun h_22 M=>?_) (fun h_22 M=>?_)
    ·refine au 3 ?_
     have hE:=bf M
     replace hE:=hr_1 _ hE.symm
     subst hE
     exact X.rt
    obtain ⟨y5,h_23,M⟩:=zC M
    refine au 5 ?_
    refine X.zBk (zFH h_23) rfl rfl rfl (m:=9) rfl (.cons (.shut (n:=9) rfl) (.cons (FR.arg (FR.eq JE (FR.osl (f:=V.i) (l:=(put l4 x.Hold (w64 (x1 - x.Mass)))) 9 rfl rfl (fun _=>rfl)))) .nil)) (au 3 ?_)
    refine X.opW (H':=[.rows 17 [zi g],.rows 3 [zO y3.1],.rows 1 (map V.i (put l4 x.Hold (w64 (x1 - x.Mass)))),.rows 2 [ZM x],.rows 4 [V.agg [V.i 0,V.i 0,V.i 0,V.i 0]]]) rfl rfl rfl rfl ?_
    refine X.op0W (H':=[.rows 17 [zi g],.rows 3 [zO y3.1],.rows 1 (map V.i (put l4 x.Hold (w64 (x1 - x.Mass)))),.rows 2 [ZM x],.rows 4 [jE y5.1]]) rfl rfl rfl ?_
    obtain ⟨y6,h_24,M⟩:=zC M
    refine au 6 ?_
    refine ca (zCX h_24) (au 9 ?_)
    refine X.mid [(206,(V.b (((!decide (y5.2=0))||(!decide (y6.2.2=0)))||(decide (y6.1<(max y5.1.Fore.Hi y5.1.Aft.Hi)))))),(3,V.ptr 0 0 0),(18,V.ptr 1 0 0),(20,V.osl 2 0 (List.length l4)),(144,V.sl (map ZM y1.1)),(145,(V.i (y1.1.length:Int))),(146,V.i x3)] ?_ ?_
    ·intro hg
     refine X.split (!decide (y5.2=0)) (fun h_25=>?_) (fun h_25=>?_)
     ·refine au 18 ?_
      exact ng hg rfl (by simp only [h_25,bb])
     refine X.split (!decide (y6.2.2=0)) (fun h_26=>?_) (fun h_26=>?_)
     ·refine au 18 ?_
      exact ng hg rfl (by simp only [h_25,h_26,bb])
     refine au 18 ?_
     exact ng hg rfl (by simp only [h_25,h_26,bb])
    refine cm M (fun h_27 M=>?_) (fun h_27 M=>?_)
    ·refine au 3 ?_
     have hE:=bf M
     replace hE:=hr_1 _ hE.symm
     subst hE
     exact X.rt
    refine au 6 ?_
    have hE:=bf M
    exact gy [some 0,some 1,some 2] (hc_4 (w64 (x3+1),put l4 x.Hold (w64 (x1 - x.Mass))) hE.symm) (zG rfl ⟨9,rfl⟩ (zG rfl ⟨9,rfl⟩ (zG rfl (Yi JE ⟨9,rfl⟩) (ga rfl rfl))))
   obtain ⟨y_1,M,hy⟩:=zt M
   rw [hr_1 _ hy.symm] at M
   refine au 1 ?_
   exact gx [] (hj_3 () M)
  intro hj_2
  refine au 1 ?_
  refine gx [some 0,none] (X.loop (σ:=(Int×(List zB))) (fun v=>⟨[(3,V.ptr 0 0 0),(7,V.sl (map V.i y.1)),(9,V.sl (map V.i l1)),(11,V.sl (map ZM y1.1)),(16,ovl 1 v.2),(110,(V.i (y.1.length:Int))),(111,V.i v.1)],[.rows 17 [zi g],obl 2 zD v.2],0,none,208⟩) M ?_ rfl)
  rintro ⟨x6,l6⟩ b_1 M hc_5 hr_1
  rw [zCd] at M
  refine au 3 ?_
  refine GS.seq ?_
  refine cm M (fun h_28 M=>?_) (fun h_28 M=>?_)
  ·obtain ⟨x4,h_29,M⟩:=zC M
   obtain ⟨x5,h_30,M⟩:=zC M
   obtain ⟨l5,h_31,M⟩:=zC M
   refine au 7 ?_
   refine X.draw (by kernel_rfl) (au 12 ?_)
   refine zKH (f:=zD) h_31 (fun _=>rfl) (by rfl) (by rfl) (by rfl) (by rfl) (by rfl) (by rfl) (by rfl) (by rfl) (by rfl) (by rfl) (by rfl) (by exact rfl) (by rfl) (by rfl) (by kernel_rfl) (by rfl) (by rfl) (au 2 ?_)
   refine X.norm [(3,V.ptr 0 0 0),(7,V.sl (map V.i y.1)),(9,V.sl (map V.i l1)),(11,V.sl (map ZM y1.1)),(16,V.osl 3 0 (List.length l5)),(110,(V.i (y.1.length:Int))),(111,V.i x6)] ?_ rfl (sr rfl)
   refine au 5 ?_
   have hE:=bf M
   exact X.gc [some 0,some 3] (hc_5 (w64 (x6+1),l5) hE.symm) rfl rfl rfl (zG rfl ⟨9,rfl⟩ (zG rfl ⟨9,rfl⟩ (zG rfl ⟨9,rfl⟩ (zG rfl ⟨9,rfl⟩ (zG rfl (qz (jH h_31) rfl) (ga rfl rfl)))))) (gb9 rfl rfl rfl (gb_obl' 9 (jH h_31) rfl rfl (fun _=>rfl) zb))
  obtain ⟨y_1,M,hy⟩:=zt M
  rw [hr_1 _ hy.symm] at M
  refine au 1 ?_
  exact gy [some 0,some 1] (hj_2 l6 M) (zG rfl ⟨9,rfl⟩ (zG rfl ⟨9,rfl⟩ (zG rfl ⟨9,rfl⟩ (zG rfl (Am.zY rfl) QO))))
 intro hj_1
 refine au 1 ?_
 refine gx [some 0,some 2] (X.loop (σ:=(Int×(List Int))) (fun v=>⟨[(2,(V.sl (map (fun x=>V.lit (.int .u16 x)) out))),(3,V.ptr 0 0 0),(7,V.sl (map V.i y.1)),(9,V.osl 1 0 (List.length v.2)),(41,(V.i (l.length:Int))),(42,V.i v.1)],[.rows 17 [zi g],.rows 1 (map V.i v.2)],0,none,208⟩) M ?_ rfl)
 rintro ⟨x11,l8⟩ b_1 M hc_6 hr_1
 rw [zCc] at M
 refine au 3 ?_
 refine GS.seq ?_
 refine cm M (fun h_32 M=>?_) (fun h_32 M=>?_)
 ·refine GS.skip (GS.seq ?_)
  refine X.join (τ:=(List Int)) (fun v=>QE x11 v=some b_1) (fun v=>⟨[(2,(V.sl (map (fun x=>V.lit (.int .u16 x)) out))),(3,V.ptr 0 0 0),(7,V.sl (map V.i y.1)),(9,V.osl 1 0 (List.length v)),(41,(V.i (l.length:Int))),(42,V.i x11)],[.rows 17 [zi g],.rows 1 (map V.i v)],0,none,208⟩) ?_ ?_
  ·intro l7 M
   replace M:QE x11 l7=some b_1:=M
   unfold QE at M
   refine au 4 ?_
   have hE:=bf M
   exact gx [some 0,some 1] (hc_6 (w64 (x11+1),l7) hE.symm)
  intro hj_7
  refine au 11 ?_
  refine cm M (fun h_33 M=>?_) (fun h_33 M=>?_)
  ·obtain ⟨x7,h_34,M⟩:=zC M
   obtain ⟨x8,h_35,M⟩:=zC M
   obtain ⟨x9,h_36,M⟩:=zC M
   obtain ⟨q,h_37,M⟩:=zC M
   obtain ⟨x10,h_38,M⟩:=zC M
   refine X.draw (by kernel_rfl) (au 2 ?_)
   refine dop rfl (jB h_34 rfl rfl rfl rfl rfl) rfl rfl (by kernel_rfl) rfl rfl ?_
   refine dop rfl (Y9 h_34 rfl rfl rfl rfl) rfl rfl (by kernel_rfl) rfl rfl (au 2 ?_)
   refine dop rfl (YH (f:=(fun x=>V.lit (.int .u16 x))) h_35 (fun _=>rfl) rfl rfl rfl rfl) rfl rfl (by kernel_rfl) rfl rfl (au 1 ?_)
   refine dop rfl (convE rfl rfl rfl rfl) rfl rfl (by kernel_rfl) rfl rfl (au 2 ?_)
   refine dop rfl (jB h_36 rfl rfl rfl rfl rfl) rfl rfl (by kernel_rfl) rfl rfl ?_
   refine dop rfl (Y9 h_36 rfl rfl rfl rfl) rfl rfl (by kernel_rfl) rfl rfl (au 1 ?_)
   refine dop rfl (remE h_37 rfl rfl) rfl rfl (by kernel_rfl) rfl rfl (au 1 ?_)
   refine dop rfl (jB h_38 rfl rfl rfl rfl rfl) rfl rfl (by kernel_rfl) rfl rfl ?_
   refine dop0 rfl (YY (b:=w64 (x7 - q)) h_38 rfl rfl rfl rfl rfl rfl rfl) rfl rfl (by kernel_rfl) rfl (au 1 ?_)
   refine X.norm [(2,(V.sl (map (fun x=>V.lit (.int .u16 x)) out))),(3,V.ptr 0 0 0),(7,V.sl (map V.i y.1)),(9,V.osl 1 0 (List.length l8)),(41,(V.i (l.length:Int))),(42,V.i x11)] ?_ rfl (sr rfl)
   refine au 1 ?_
   exact gy [some 0,some 1] (hj_7 (put l8 x11 (w64 (x7 - q))) M) (zG rfl ⟨9,rfl⟩ (zG rfl ⟨9,rfl⟩ (zG rfl ⟨9,rfl⟩ (zG rfl (Yi JE ⟨9,rfl⟩) (ga rfl rfl)))))
  refine au 2 ?_
  exact gx [some 0,some 1] (hj_7 l8 M)
 obtain ⟨y_1,M,hy⟩:=zt M
 rw [hr_1 _ hy.symm] at M
 refine au 1 ?_
 exact gx [some 0,some 1] (hj_1 l8 M)
set_option maxHeartbeats 4000000 in
theorem zD3 {h:zN} {l:(List ZO)} {by_:(List Int)} {out:(List Int)} {r:Bool} (M:J5 h l by_ out=some r):Ct Tryz.prog 3 [zJ h,V.sl (map zi l),(V.sl (map (fun x=>V.lit (.int .u16 x)) by_)),(V.sl (map (fun x=>V.lit (.int .u16 x)) out))] (V.b r):=by
 refine zP zn rfl ?_
 unfold J5 at M
 refine au 6 ?_
 refine X.mid [(45,(V.b ((((decide (3<(l.length:Int)))||(decide (3<(h.Tides.length:Int))))||(decide (6<(h.Berths.length:Int))))||(decide (6<(h.Water.Cycles.length:Int)))))),(1,V.sl (map zi l)),(2,(V.sl (map (fun x=>V.lit (.int .u16 x)) by_))),(3,(V.sl (map (fun x=>V.lit (.int .u16 x)) out))),(4,V.ptr 0 0 0)] ?_ ?_
 ·intro hg
  refine X.split (decide (3<(l.length:Int))) (fun h_1=>?_) (fun h_1=>?_)
  ·refine au 23 ?_
   exact ng hg rfl (by simp only [h_1,bb])
  refine X.split (decide (3<(h.Tides.length:Int))) (fun h_2=>?_) (fun h_2=>?_)
  ·refine au 23 ?_
   exact ng hg rfl (by simp only [h_1,h_2,bb])
  refine X.split (decide (6<(h.Berths.length:Int))) (fun h_3=>?_) (fun h_3=>?_)
  ·refine au 23 ?_
   exact ng hg rfl (by simp only [h_1,h_2,h_3,bb])
  refine au 23 ?_
  exact ng hg rfl (by simp only [h_1,h_2,h_3,bb])
 refine cm M (fun h_4 M=>?_) (fun h_4 M=>?_)
 ·obtain ⟨y,h_5,M⟩:=zC M
  refine sq ?_
  refine X.call (qC h_5) rfl rfl rfl .nil (au 2 ?_)
  cases M
  exact X.rt
 refine au 8 ?_
 refine X.join (τ:=Unit) (fun v=>jg h l by_ out=some r) (fun v=>⟨[(1,V.sl (map zi l)),(2,(V.sl (map (fun x=>V.lit (.int .u16 x)) by_))),(3,(V.sl (map (fun x=>V.lit (.int .u16 x)) out))),(4,V.ptr 0 0 0)],[.rows 6 [zJ h]],0,none,159⟩) ?_ ?_
 ·intro _ M
  replace M:jg h l by_ out=some r:=M
  unfold jg at M
  obtain ⟨y1,h_6,M⟩:=zC M
  refine au 2 ?_
  refine ca (zFA h_6) (au 11 ?_)
  refine cm M (fun h_7 M=>?_) (fun h_7 M=>?_)
  ·obtain ⟨y2,h_8,M⟩:=zC M
   refine sq ?_
   refine X.call (qC h_8) rfl rfl rfl .nil (au 2 ?_)
   cases M
   exact X.rt
  obtain ⟨y3,h_9,M⟩:=zC M
  refine au 4 ?_
  refine ca (zF8 h_9) (au 11 ?_)
  refine cm M (fun h_10 M=>?_) (fun h_10 M=>?_)
  ·obtain ⟨y4,h_11,M⟩:=zC M
   refine sq ?_
   refine X.call (qC h_11) rfl rfl rfl .nil (au 2 ?_)
   cases M
   exact X.rt
  refine au 7 ?_
  refine X.join (τ:=Unit) (fun v=>jf h l by_ out y1 y3=some r) (fun v=>⟨[(1,V.sl (map zi l)),(2,(V.sl (map (fun x=>V.lit (.int .u16 x)) by_))),(3,(V.sl (map (fun x=>V.lit (.int .u16 x)) out))),(4,V.ptr 0 0 0),(11,V.sl (map zL y1.1)),(13,V.sl (map ZZ y3.1))],[.rows 6 [zJ h]],0,none,159⟩) ?_ ?_
  ·intro _ M
   replace M:jf h l by_ out y1 y3=some r:=M
   unfold jf at M
   obtain ⟨y5,h_12,M⟩:=zC M
   refine au 3 ?_
   refine ca (zKk h_12) (au 5 ?_)
   refine X.op0W rfl rfl rfl (au 5 ?_)
   refine X.mid [(126,(V.b ((!decide (y5.2.2=0))||(!(y5.2.1==(decide ((y3.1.length:Int)<(y1.1.length:Int)))))))),(1,V.sl (map zi l)),(2,(V.sl (map (fun x=>V.lit (.int .u16 x)) by_))),(3,(V.sl (map (fun x=>V.lit (.int .u16 x)) out))),(4,V.ptr 0 0 0),(11,V.sl (map zL y1.1)),(13,V.sl (map ZZ y3.1)),(17,V.ptr 1 0 0),(18,V.b y5.2.1)] ?_ ?_
   ·intro hg
    refine X.split (!decide (y5.2.2=0)) (fun h_13=>?_) (fun h_13=>?_)
    ·refine au 12 ?_
     exact ng hg rfl (by simp only [h_13,bb])
    refine au 12 ?_
    exact ng hg rfl (by simp only [h_13,bb])
   refine cm M (fun h_14 M=>?_) (fun h_14 M=>?_)
   ·refine au 3 ?_
    cases M
    exact X.rt
   refine au 5 ?_
   refine X.join (τ:=Unit) (fun v=>jN l by_ out=some r) (fun v=>⟨[(1,V.sl (map zi l)),(2,(V.sl (map (fun x=>V.lit (.int .u16 x)) by_))),(3,(V.sl (map (fun x=>V.lit (.int .u16 x)) out)))],[],0,none,159⟩) ?_ ?_
   ·intro _ M
    replace M:jN l by_ out=some r:=M
    unfold jN at M
    refine au 6 ?_
    refine X.join (τ:=Unit) (fun v=>JP=some r) (fun v=>⟨[],[],0,none,159⟩) ?_ ?_
    ·intro _ M
     replace M:JP=some r:=M
     unfold JP at M
     obtain ⟨y6,h_15,M⟩:=zC M
     refine sq ?_
     refine X.call (qC h_15) rfl rfl rfl .nil (au 2 ?_)
     cases M
     exact X.rt
    intro hj_4
    refine au 1 ?_
    refine gx [] (X.loop (σ:=Int) (fun v=>⟨[(2,(V.sl (map (fun x=>V.lit (.int .u16 x)) by_))),(3,(V.sl (map (fun x=>V.lit (.int .u16 x)) out))),(146,V.sl (map zi l)),(147,(V.i (l.length:Int))),(148,V.i v)],[],0,none,159⟩) M ?_ rfl)
    intro x1 b_1 M hc_5 hr_1
    rw [yF] at M
    refine au 3 ?_
    refine GS.seq ?_
    refine cm M (fun h_16 M=>?_) (fun h_16 M=>?_)
    ·obtain ⟨x,h_17,M⟩:=zC M
     refine au 7 ?_
     refine X.op0W (H':=[.rows 17 [zi x]]) rfl (stA rfl rfl rfl rfl rfl rfl rfl) rfl ?_
     obtain ⟨y7,h_18,M⟩:=zC M
     refine au 5 ?_
     refine ca (zL3 h_18) (au 2 ?_)
     refine cm M (fun h_19 M=>?_) (fun h_19 M=>?_)
     ·refine au 3 ?_
      have hE:=bf M
      replace hE:=hr_1 _ hE.symm
      subst hE
      exact X.rt
     refine au 6 ?_
     have hE:=bf M
     exact gx [] (hc_5 (w64 (x1+1)) hE.symm)
    obtain ⟨y_1,M,hy⟩:=zt M
    rw [hr_1 _ hy.symm] at M
    refine au 1 ?_
    exact gx [] (hj_4 () M)
   intro hj_3
   refine cm M (fun h_20 M=>?_) (fun h_20 M=>?_)
   ·obtain ⟨y8,h_21,M⟩:=zC M
    refine au 4 ?_
    refine ca (zGZ h_21) (au 7 ?_)
    refine X.mid [(145,(V.b ((!decide (y8.2=0))||(!decide (y8.1=(w64 ((y1.1.length:Int) - (y3.1.length:Int)))))))),(1,V.sl (map zi l)),(2,(V.sl (map (fun x=>V.lit (.int .u16 x)) by_))),(3,(V.sl (map (fun x=>V.lit (.int .u16 x)) out)))] ?_ ?_
    ·intro hg
     refine X.split (!decide (y8.2=0)) (fun h_22=>?_) (fun h_22=>?_)
     ·refine au 12 ?_
      exact ng hg rfl (by simp only [h_22,bb])
     refine au 12 ?_
     exact ng hg rfl (by simp only [h_22,bb])
    refine cm M (fun h_23 M=>?_) (fun h_23 M=>?_)
    ·refine au 3 ?_
     cases M
     exact X.rt
    refine GS.skip ?_
    exact gx [] (hj_3 () M)
   refine GS.skip ?_
   exact gx [] (hj_3 () M)
  intro hj_2
  refine au 1 ?_
  refine gx [some 0] (X.loop (σ:=Int) (fun v=>⟨[(1,V.sl (map zi l)),(2,(V.sl (map (fun x=>V.lit (.int .u16 x)) by_))),(3,(V.sl (map (fun x=>V.lit (.int .u16 x)) out))),(4,V.ptr 0 0 0),(11,V.sl (map zL y1.1)),(13,V.sl (map ZZ y3.1)),(79,V.sl (map ZZ y3.1)),(80,(V.i (y3.1.length:Int))),(81,V.i v)],[.rows 6 [zJ h]],0,none,159⟩) M ?_ rfl)
  intro x4 b_1 M hc_6 hr_1
  rw [yE] at M
  refine au 3 ?_
  refine GS.seq ?_
  refine cm M (fun h_24 M=>?_) (fun h_24 M=>?_)
  ·obtain ⟨x2,h_25,M⟩:=zC M
   refine au 7 ?_
   refine X.op0W rfl rfl rfl ?_
   obtain ⟨x3,h_26,M⟩:=Yw M
   obtain ⟨y9,h_27,M⟩:=Yw M
   refine GS.ZT (GS.seq ?_)
   refine X.mid [(107,(V.b (((decide (x2.Call<1))||(decide ((l.length:Int)<x2.Call)))||(!y9)))),(1,V.sl (map zi l)),(2,(V.sl (map (fun x=>V.lit (.int .u16 x)) by_))),(3,(V.sl (map (fun x=>V.lit (.int .u16 x)) out))),(4,V.ptr 0 0 0),(11,V.sl (map zL y1.1)),(13,V.sl (map ZZ y3.1)),(79,V.sl (map ZZ y3.1)),(80,(V.i (y3.1.length:Int))),(81,V.i x4)] ?_ ?_
   ·intro hg
    refine X.split (decide (x2.Call<1)) (fun h_28=>?_) (fun h_28=>?_)
    ·refine au 25 ?_
     exact ng hg rfl (by simp only [h_28,bb])
    refine X.split (decide ((l.length:Int)<x2.Call)) (fun h_29=>?_) (fun h_29=>?_)
    ·refine au 25 ?_
     exact ng hg rfl (by simp only [h_28,h_29,bb])
    refine au 17 ?_
    refine cop (on_f rfl rfl rfl h_29) (YH (f:=zi) (h_26 (nt (zDa h_28 h_29))) (fun _=>rfl) rfl rfl rfl rfl) rfl rfl ?_
    refine cop (on_f rfl rfl rfl h_29) (zDC (h_26 (nt (zDa h_28 h_29))) rfl rfl rfl) rfl rfl (au 2 ?_)
    refine cca (zNE (h_27 (nt (zDa h_28 h_29)))) (au 3 ?_)
    exact ng hg rfl (by simp only [h_28,h_29,bb])
   refine cm M (fun h_30 M=>?_) (fun h_30 M=>?_)
   ·refine au 3 ?_
    have hE:=bf M
    replace hE:=hr_1 _ hE.symm
    subst hE
    exact X.rt
   refine au 6 ?_
   have hE:=bf M
   exact gx [some 0] (hc_6 (w64 (x4+1)) hE.symm)
  obtain ⟨y_1,M,hy⟩:=zt M
  rw [hr_1 _ hy.symm] at M
  refine au 1 ?_
  exact gx [some 0] (hj_2 () M)
 intro hj_1
 refine au 1 ?_
 refine gx [some 0] (X.loop (σ:=Int) (fun v=>⟨[(1,V.sl (map zi l)),(2,(V.sl (map (fun x=>V.lit (.int .u16 x)) by_))),(3,(V.sl (map (fun x=>V.lit (.int .u16 x)) out))),(4,V.ptr 0 0 0),(48,V.sl (map zD h.Tides)),(49,(V.i (h.Tides.length:Int))),(50,V.i v)],[.rows 6 [zJ h]],0,none,159⟩) M ?_ rfl)
 intro x6 b_1 M hc_7 hr_1
 rw [yD] at M
 refine au 3 ?_
 refine GS.seq ?_
 refine cm M (fun h_31 M=>?_) (fun h_31 M=>?_)
 ·obtain ⟨x5,h_32,M⟩:=zC M
  refine au 7 ?_
  refine X.op0W rfl rfl rfl (au 9 ?_)
  refine cm M (fun h_33 M=>?_) (fun h_33 M=>?_)
  ·obtain ⟨y10,h_34,M⟩:=zC M
   refine sq ?_
   refine X.call (qC h_34) rfl rfl rfl .nil (au 2 ?_)
   have hE:=bf M
   replace hE:=hr_1 _ hE.symm
   subst hE
   exact X.rt
  refine au 6 ?_
  have hE:=bf M
  exact gx [some 0] (hc_7 (w64 (x6+1)) hE.symm)
 obtain ⟨y_1,M,hy⟩:=zt M
 rw [hr_1 _ hy.symm] at M
 refine au 1 ?_
 exact gx [some 0] (hj_1 () M)
end Go.Proofs.YtdpifjmggnjagaaGreat
