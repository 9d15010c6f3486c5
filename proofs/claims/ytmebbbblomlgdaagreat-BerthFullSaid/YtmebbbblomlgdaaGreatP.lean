/- The program's functions compute the plain ones. Conditions: none. Printed by a program (wip/tools/xg.py). -/
import Derived.Test.YtmebbbblomlgdaaGreatP2
import Derived.Test.YtmebbbblomlgdaaGreatAu
set_option linter.unusedVariables false
set_option linter.unusedSimpArgs false
set_option maxRecDepth 4000
namespace Go.Proofs.YtmebbbblomlgdaaGreat
open Go Go.Am Go.Proofs Go.Mx
theorem zHj (c:zJ):Ct Tryz.prog 59 [(zH c)] (V.b (qX c)):=by
 refine zP zl rfl ?_
 generalize hM:qX c=r
 unfold qX at hM
 refine au 5 ?_
 refine X.mid [(2,(V.b (((((ZT c.ID 1 1099511627776)&&(ZT c.Draught 0 8000))&&(ZT c.From 0 1048576))&&(ZT c.To c.From 1048576))&&(ZT c.Long 1 1440))))] ?_ ?_
 ·intro hg
  refine X.split ((ZT c.ID 1 1099511627776)) (fun h_1=>?_) (fun h_1=>?_)
  ·refine X.split ((ZT c.Draught 0 8000)) (fun h_2=>?_) (fun h_2=>?_)
   ·refine X.split ((ZT c.From 0 1048576)) (fun h_3=>?_) (fun h_3=>?_)
    ·refine X.split ((ZT c.To c.From 1048576)) (fun h_4=>?_) (fun h_4=>?_)
     ·refine au 2 ?_
      refine X.ca (Zj c.ID 1 1099511627776) ?_
      refine au 3 ?_
      refine X.ca (Zj c.Draught 0 8000) ?_
      refine au 4 ?_
      refine X.ca (Zj c.From 0 1048576) ?_
      refine au 6 ?_
      refine X.ca (Zj c.To c.From 1048576) ?_
      refine au 4 ?_
      refine X.ca (Zj c.Long 1 1440) ?_
      refine au 3 ?_
      exact X.ng hg rfl (by simp only [h_1,h_2,h_3,h_4,X.bb])
     refine au 2 ?_
     refine X.ca (Zj c.ID 1 1099511627776) ?_
     refine au 3 ?_
     refine X.ca (Zj c.Draught 0 8000) ?_
     refine au 4 ?_
     refine X.ca (Zj c.From 0 1048576) ?_
     refine au 6 ?_
     refine X.ca (Zj c.To c.From 1048576) ?_
     refine au 8 ?_
     exact X.ng hg rfl (by simp only [h_1,h_2,h_3,h_4,X.bb])
    refine au 2 ?_
    refine X.ca (Zj c.ID 1 1099511627776) ?_
    refine au 3 ?_
    refine X.ca (Zj c.Draught 0 8000) ?_
    refine au 4 ?_
    refine X.ca (Zj c.From 0 1048576) ?_
    refine au 15 ?_
    exact X.ng hg rfl (by simp only [h_1,h_2,h_3,X.bb])
   refine au 2 ?_
   refine X.ca (Zj c.ID 1 1099511627776) ?_
   refine au 3 ?_
   refine X.ca (Zj c.Draught 0 8000) ?_
   refine au 20 ?_
   exact X.ng hg rfl (by simp only [h_1,h_2,X.bb])
  refine au 2 ?_
  refine X.ca (Zj c.ID 1 1099511627776) ?_
  refine au 24 ?_
  exact X.ng hg rfl (by simp only [h_1,X.bb])
 subst hM
 exact X.rt
theorem Qr {h:zG} {l:(List zJ)} {r:Int} (hM:jq h l=some r):Ct Tryz.prog 25 [(zD h),(V.sl (List.map zH l))] (V.i r):=by
 refine zP zl rfl ?_
 unfold jq at hM
 obtain ⟨y,h_1,hM⟩:=zF hM
 refine au 6 ?_
 refine X.ca (zHo h_1) ?_
 refine au 7 ?_
 refine X.cm hM (fun h_2 hM=>?_) (fun h_2 hM=>?_)
 ·refine au 4 ?_
  cases hM
  exact X.rt
 refine au 7 ?_
 refine X.cm hM (fun h_3 hM=>?_) (fun h_3 hM=>?_)
 ·refine au 3 ?_
  cases hM
  exact X.rt
 refine au 5 ?_
 refine X.join (τ:=Unit) (fun v=>yV=some r) (fun v=>⟨[],[],0,none,46⟩) ?_ ?_
 ·intro _ hM
  replace hM:yV=some r:=hM
  unfold yV at hM
  refine au 3 ?_
  cases hM
  exact X.rt
 intro hj_1
 refine au 1 ?_
 refine X.gx [] (X.loop (σ:=Int) (fun v=>⟨[(1,(V.sl (List.map zH l))),(6,(V.i v))],[],0,none,46⟩) hM ?_ rfl)
 intro i b_1 hM hc_2 hr_1
 rw [yY] at hM
 refine au 7 ?_
 refine X.cm hM (fun h_4 hM=>?_) (fun h_4 hM=>?_)
 ·obtain ⟨x,h_5,hM⟩:=zF hM
  refine au 8 ?_
  refine X.ca (zHj x) ?_
  refine au 7 ?_
  refine X.cm hM (fun h_6 hM=>?_) (fun h_6 hM=>?_)
  ·refine au 3 ?_
   have hE:=Option.some.inj hM
   replace hE:=hr_1 _ hE.symm
   subst hE
   exact X.rt
  refine au 4 ?_
  refine X.join (τ:=Unit) (fun v=>JY i=some b_1) (fun v=>⟨[(1,(V.sl (List.map zH l))),(6,(V.i i))],[],0,none,46⟩) ?_ ?_
  ·intro _ hM
   replace hM:JY i=some b_1:=hM
   unfold JY at hM
   refine au 6 ?_
   have hE:=Option.some.inj hM
   exact X.gx [] (hc_2 (w64 (i+1)) hE.symm)
  intro hj_3
  refine au 1 ?_
  refine X.gx [] (X.loop (σ:=Int) (fun v=>⟨[(1,(V.sl (List.map zH l))),(6,(V.i i)),(8,(V.i v))],[],0,none,46⟩) hM ?_ rfl)
  intro k b_2 hM hc_4 hr_2
  rw [yX] at hM
  refine au 6 ?_
  refine X.cm hM (fun h_7 hM=>?_) (fun h_7 hM=>?_)
  ·obtain ⟨x1,h_8,hM⟩:=zF hM
   obtain ⟨x2,h_9,hM⟩:=zF hM
   refine au 17 ?_
   refine X.norm [(1,(V.sl (List.map zH l))),(6,(V.i i)),(8,(V.i k)),(45,(V.b (decide (x1.ID=x2.ID))))] ?_ rfl (sr rfl)
   refine X.cm hM (fun h_10 hM=>?_) (fun h_10 hM=>?_)
   ·refine au 3 ?_
    have hE:=Option.some.inj hM
    replace hE:=hr_2 _ hE.symm
    replace hE:=hr_1 _ hE.symm
    subst hE
    exact X.rt
   refine au 7 ?_
   have hE:=Option.some.inj hM
   exact X.gx [] (hc_4 (w64 (k+1)) hE.symm)
  obtain ⟨y_2,hM,hy⟩:=zz hM
  rw [hr_2 _ hy.symm] at hM
  refine au 1 ?_
  exact X.gx [] (hj_3 () hM)
 obtain ⟨y_1,hM,hy⟩:=zz hM
 rw [hr_1 _ hy.symm] at hM
 refine au 1 ?_
 exact X.gx [] (hj_1 () hM)
abbrev zEk (x:zA9):V:=.agg [(V.i x.N),(V.i x.E)]
theorem zHn {h:zG} {id:Int} {r:Int} (hM:zA8 h id=some r):Ct Tryz.prog 105 [(zD h),(V.i id)] (V.i r):=by
 refine zP zl rfl ?_
 unfold zA8 at hM
 refine au 8 ?_
 refine X.join (τ:=Unit) (fun v=>qz=some r) (fun v=>⟨[],[],0,none,22⟩) ?_ ?_
 ·intro _ hM
  replace hM:qz=some r:=hM
  unfold qz at hM
  refine au 3 ?_
  cases hM
  exact X.rt
 intro hj_1
 refine au 1 ?_
 refine X.gx [some 0] (X.loop (σ:=Int) (fun v=>⟨[(1,(V.i id)),(2,(V.ptr 0 0 0)),(5,(V.i v))],[.rows 6 [(zD h)]],0,none,22⟩) hM ?_ rfl)
 intro i b_1 hM hc_2 hr_1
 rw [Y8] at hM
 refine au 8 ?_
 refine X.cm hM (fun h_1 hM=>?_) (fun h_1 hM=>?_)
 ·obtain ⟨x,h_2,hM⟩:=zF hM
  refine au 13 ?_
  refine X.cm hM (fun h_3 hM=>?_) (fun h_3 hM=>?_)
  ·refine au 4 ?_
   have hE:=Option.some.inj hM
   replace hE:=hr_1 _ hE.symm
   subst hE
   exact X.rt
  refine au 7 ?_
  have hE:=Option.some.inj hM
  exact X.gx [some 0] (hc_2 (w64 (i+1)) hE.symm)
 obtain ⟨y_1,hM,hy⟩:=zz hM
 rw [hr_1 _ hy.symm] at hM
 refine au 1 ?_
 exact X.gx [] (hj_1 () hM)
theorem zEX {w:zO} {tick:Int} {r:Int} (hM:YB w tick=some r):Ct Tryz.prog 125 [(zY w),(V.i tick)] (V.i r):=by
 refine zP zl rfl ?_
 unfold YB at hM
 obtain ⟨q,h_1,hM⟩:=zF hM
 refine au 6 ?_
 refine X.opR rfl (X.quoE h_1 rfl rfl) rfl ?_
 refine au 6 ?_
 refine X.join (τ:=Unit) (fun v=>yZ=some r) (fun v=>⟨[],[],0,none,40⟩) ?_ ?_
 ·intro _ hM
  replace hM:yZ=some r:=hM
  unfold yZ at hM
  refine au 3 ?_
  cases hM
  exact X.rt
 intro hj_1
 refine au 1 ?_
 refine X.gx [some 0] (X.loop (σ:=Int) (fun v=>⟨[(2,(V.ptr 0 0 0)),(5,(V.i q)),(6,(V.i v))],[.rows 3 [(zY w)]],0,none,40⟩) hM ?_ rfl)
 intro i b_1 hM hc_2 hr_1
 rw [yc] at hM
 refine au 8 ?_
 refine X.cm hM (fun h_2 hM=>?_) (fun h_2 hM=>?_)
 ·obtain ⟨x,h_3,hM⟩:=zF hM
  obtain ⟨x1,h_4,hM⟩:=Q5 hM
  refine au 4 ?_
  refine X.mid [(33,(V.b ((decide (x.From≤q))&&(decide (q≤x1.To))))),(2,(V.ptr 0 0 0)),(5,(V.i q)),(6,(V.i i))] ?_ ?_
  ·intro hg
   refine X.split (decide (x.From≤q)) (fun h_5=>?_) (fun h_5=>?_)
   ·refine au 13 ?_
    refine X.opR (X.on_t rfl rfl rfl h_5) (X.Zh (f:=ZN) (h_4 h_5) (fun _=>rfl) rfl rfl rfl rfl) rfl ?_
    refine au 1 ?_
    refine X.opR (X.on_t rfl rfl rfl h_5) (X.JA (h_4 h_5) rfl rfl rfl) rfl ?_
    refine au 3 ?_
    exact X.ng hg rfl (by simp only [h_5,X.bb])
   refine au 19 ?_
   exact X.ng hg rfl (by simp only [h_5,X.bb])
  refine X.cm hM (fun h_6 hM=>?_) (fun h_6 hM=>?_)
  ·obtain ⟨x2,h_7,hM⟩:=zF hM
   refine au 9 ?_
   have hE:=Option.some.inj hM
   replace hE:=hr_1 _ hE.symm
   subst hE
   exact X.rt
  refine au 7 ?_
  have hE:=Option.some.inj hM
  exact X.gx [some 0] (hc_2 (w64 (i+1)) hE.symm)
 obtain ⟨y_1,hM,hy⟩:=zz hM
 rw [hr_1 _ hy.symm] at hM
 refine au 1 ?_
 exact X.gx [] (hj_1 () hM)
theorem zDt {a:Int} {b:Int} {r:Int} (hM:qZ a b=some r):Ct Tryz.prog 127 [(V.i a),(V.i b)] (V.i r):=by
 refine zP zl rfl ?_
 unfold qZ at hM
 obtain ⟨q,h_1,hM⟩:=zF hM
 refine au 6 ?_
 refine X.opR rfl (X.quoE h_1 rfl rfl) rfl ?_
 obtain ⟨q1,h_2,hM⟩:=zF hM
 refine au 6 ?_
 refine X.opR rfl (X.remE h_2 rfl rfl) rfl ?_
 refine au 2 ?_
 refine X.join (τ:=Int) (fun v=>YA v=some r) (fun v=>⟨[(5,(V.i v))],[],0,none,16⟩) ?_ ?_
 ·intro q2 hM
  replace hM:YA q2=some r:=hM
  unfold YA at hM
  refine au 4 ?_
  cases hM
  exact X.rt
 intro hj_1
 refine X.cm hM (fun h_3 hM=>?_) (fun h_3 hM=>?_)
 ·refine au 5 ?_
  exact X.gx [] (hj_1 (w64 (q - 1)) hM)
 refine GS.skip ?_
 exact X.gx [] (hj_1 q hM)
theorem zKk {c:zX} {tick:Int} {r:Int} (hM:zDk c tick=some r):Ct Tryz.prog 126 [(zk c),(V.i tick)] (V.i r):=by
 refine zP zl rfl ?_
 unfold zDk at hM
 obtain ⟨y,h_1,hM⟩:=zF hM
 refine au 17 ?_
 refine X.ca (zDt h_1) ?_
 obtain ⟨y1,h_2,hM⟩:=zF hM
 obtain ⟨x,h_3,hM⟩:=zF hM
 refine au 9 ?_
 refine X.cca (zDt h_2) ?_
 refine au 7 ?_
 refine X.norm [(4,(V.i x))] ?_ rfl (sr rfl)
 cases hM
 exact X.rt
theorem zIy {w:zO} {tick:Int} {r:Int} (hM:zBz w tick=some r):Ct Tryz.prog 124 [(zY w),(V.i tick)] (V.i r):=by
 refine zP zl rfl ?_
 unfold zBz at hM
 obtain ⟨y,h_1,hM⟩:=zF hM
 refine au 7 ?_
 refine X.ca (zEX h_1) ?_
 refine au 6 ?_
 refine X.join (τ:=Int) (fun v=>Q0 v=some r) (fun v=>⟨[(5,(V.i v))],[],0,none,27⟩) ?_ ?_
 ·intro h hM
  replace hM:Q0 h=some r:=hM
  unfold Q0 at hM
  refine au 4 ?_
  cases hM
  exact X.rt
 intro hj_1
 refine au 1 ?_
 refine X.gx [some 0] (X.loop (σ:=(Int×Int)) (fun v=>⟨[(1,(V.i tick)),(2,(V.ptr 0 0 0)),(5,(V.i v.1)),(6,(V.i v.2))],[.rows 3 [(zY w)]],0,none,27⟩) hM ?_ rfl)
 rintro ⟨h1,i⟩ b_1 hM hc_2 hr_1
 rw [zAr] at hM
 refine au 8 ?_
 refine X.cm hM (fun h_2 hM=>?_) (fun h_2 hM=>?_)
 ·obtain ⟨x,h_3,hM⟩:=zF hM
  obtain ⟨y1,h_4,hM⟩:=zF hM
  refine au 11 ?_
  refine X.ca (zKk h_4) ?_
  refine au 9 ?_
  have hE:=Option.some.inj hM
  exact X.gx [some 0] (hc_2 (w64 (h1+y1),w64 (i+1)) hE.symm)
 obtain ⟨y_1,hM,hy⟩:=zz hM
 rw [hr_1 _ hy.symm] at hM
 refine au 1 ?_
 exact X.gx [] (hj_1 h1 hM)
theorem zKl {w:zO} {tick:Int} {r:Int} (hM:zDl w tick=some r):Ct Tryz.prog 120 [(zY w),(V.i tick)] (V.i r):=by
 refine zP zl rfl ?_
 unfold zDl at hM
 obtain ⟨y,h_1,hM⟩:=zF hM
 refine au 10 ?_
 refine X.cca (zIy h_1) ?_
 refine au 3 ?_
 refine X.norm [(4,(V.i (w64 (w.Level+y))))] ?_ rfl (sr rfl)
 cases hM
 exact X.rt
theorem zHm {h:zG} {at_:Int} {tick:Int} {r:Int} (hM:zA7 h at_ tick=some r):Ct Tryz.prog 106 [(zD h),(V.i at_),(V.i tick)] (V.i r):=by
 refine zP zl rfl ?_
 unfold zA7 at hM
 obtain ⟨x,h_1,hM⟩:=zF hM
 obtain ⟨y,h_2,hM⟩:=zF hM
 refine au 15 ?_
 refine X.cca (zKl h_2) ?_
 refine au 3 ?_
 refine X.norm [(6,(V.i (w64 (x.Depth+y))))] ?_ rfl (sr rfl)
 cases hM
 exact X.rt
theorem zIu {h:zG} {c:zJ} {x:zB} {r:zC×Bool} (hM:zBx h c x=some r):Ct Tryz.prog 81 [(zD h),(zH c),(zA x)] (V.tup [(zI r.1),(V.b r.2)]):=by
 refine zP zl rfl ?_
 unfold zBx at hM
 refine au 4 ?_
 refine X.opW (H':=[.rows 6 [(zD h)],.rows 5 [(zH c)],.rows 2 [(zA x)],.rows 2 [(V.agg [(V.i 0),(V.i 0)])]]) rfl rfl rfl rfl ?_
 obtain ⟨x1,h_1,hM⟩:=zF hM
 refine au 9 ?_
 refine X.opW (H':=[.rows 6 [(zD h)],.rows 5 [(zH c)],.rows 2 [(zA x)],.rows 2 [(V.agg [(V.i 0),(V.i 0)])],.rows 2 [(V.agg [(V.i 0),(V.i 0)])]]) rfl rfl rfl rfl ?_
 refine X.op0W (H':=[.rows 6 [(zD h)],.rows 5 [(zH c)],.rows 2 [(zA x)],.rows 2 [(V.agg [(V.i 0),(V.i 0)])],.rows 2 [(zI x1)]]) rfl rfl rfl ?_
 obtain ⟨y,h_2,hM⟩:=zF hM
 refine au 5 ?_
 refine X.ca (zHn h_2) ?_
 refine au 15 ?_
 refine X.join (τ:=Unit) (fun v=>zAo=some r) (fun v=>⟨[(6,(V.ptr 0 0 0))],[.rows 2 [(V.agg [(V.i 0),(V.i 0)])]],0,none,61⟩) ?_ ?_
 ·intro _ hM
  replace hM:zAo=some r:=hM
  unfold zAo at hM
  refine au 2 ?_
  refine X.op0W rfl rfl rfl ?_
  refine au 2 ?_
  cases hM
  exact X.rt
 intro hj_1
 refine au 1 ?_
 refine X.gx [some 0,some 1,some 3,some 4] (X.loop (σ:=(Int×Int)) (fun v=>⟨[(3,(V.ptr 0 0 0)),(4,(V.ptr 1 0 0)),(6,(V.ptr 2 0 0)),(8,(V.ptr 3 0 0)),(9,(V.i (max 0 y))),(10,(V.i v.1)),(11,(V.i v.2))],[.rows 6 [(zD h)],.rows 5 [(zH c)],.rows 2 [(V.agg [(V.i 0),(V.i 0)])],.rows 2 [(zI x1)]],0,none,61⟩) hM ?_ rfl)
 rintro ⟨run1,n⟩ b_1 hM hc_2 hr_1
 rw [Qx] at hM
 refine au 10 ?_
 refine X.cm hM (fun h_3 hM=>?_) (fun h_3 hM=>?_)
 ·obtain ⟨y1,h_4,hM⟩:=zF hM
  refine au 14 ?_
  refine X.cca (zHm h_4) ?_
  refine au 7 ?_
  refine X.norm [(3,(V.ptr 0 0 0)),(4,(V.ptr 1 0 0)),(6,(V.ptr 2 0 0)),(8,(V.ptr 3 0 0)),(9,(V.i (max 0 y))),(10,(V.i (w64 (run1+1)))),(11,(V.i n)),(48,(V.b (decide (y1<(w64 (c.Draught+h.Keel))))))] ?_ rfl (sr rfl)
  refine X.join (τ:=Int) (fun v=>Yn c n v=some b_1) (fun v=>⟨[(3,(V.ptr 0 0 0)),(4,(V.ptr 1 0 0)),(6,(V.ptr 2 0 0)),(8,(V.ptr 3 0 0)),(9,(V.i (max 0 y))),(10,(V.i v)),(11,(V.i n))],[.rows 6 [(zD h)],.rows 5 [(zH c)],.rows 2 [(V.agg [(V.i 0),(V.i 0)])],.rows 2 [(zI x1)]],0,none,61⟩) ?_ ?_
  ·intro run hM
   replace hM:Yn c n run=some b_1:=hM
   unfold Yn at hM
   refine au 6 ?_
   refine X.cm hM (fun h_5 hM=>?_) (fun h_5 hM=>?_)
   ·refine au 8 ?_
    refine X.op0W (H':=[.rows 6 [(zD h)],.rows 5 [(zH c)],.rows 2 [(V.agg [(V.i (w64 ((w64 (n - c.Long))+1))),(V.i n)])],.rows 2 [(zI x1)]]) rfl rfl rfl ?_
    refine au 2 ?_
    have hE:=Option.some.inj hM
    replace hE:=hr_1 _ hE.symm
    subst hE
    exact X.rt
   refine au 7 ?_
   have hE:=Option.some.inj hM
   exact X.gx [some 0,some 1,some 2,some 3] (hc_2 (run,w64 (n+1)) hE.symm)
  intro hj_3
  refine X.cm hM (fun h_6 hM=>?_) (fun h_6 hM=>?_)
  ·refine au 3 ?_
   exact X.gx [some 0,some 1,some 2,some 3] (hj_3 0 hM)
  refine GS.skip ?_
  exact X.gx [some 0,some 1,some 2,some 3] (hj_3 (w64 (run1+1)) hM)
 obtain ⟨y_1,hM,hy⟩:=zz hM
 rw [hr_1 _ hy.symm] at hM
 refine au 1 ?_
 exact X.gx [some 2] (hj_1 () hM)
theorem zDs {h:zG} {c:zJ} {r:(List zB)} (hM:qY h c=some r):Ct Tryz.prog 61 [(zD h),(zH c)] (V.sl (List.map zA r)):=by
 refine zP zl rfl ?_
 unfold qY at hM
 refine au 12 ?_
 refine X.join (τ:=(List zB)) (fun v=>Y6 v=some r) (fun v=>⟨[(5,(ovl 0 v))],[obl 2 zA v],0,none,46⟩) ?_ ?_
 ·intro l hM
  replace hM:Y6 l=some r:=hM
  unfold Y6 at hM
  refine au 4 ?_
  have hE:=Option.some.inj hM
  subst hE
  exact GS.ret ⟨_,rfl,FR.ovl (f:=zA) (l:=l) 9 rfl rfl (fun _=>rfl)⟩
 intro hj_1
 refine au 1 ?_
 refine X.gx [some 0,some 1,none] (X.loop (σ:=(Int×(List zB))) (fun v=>⟨[(2,(V.ptr 0 0 0)),(3,(V.ptr 1 0 0)),(5,(ovl 2 v.2)),(6,(V.i v.1))],[.rows 6 [(zD h)],.rows 5 [(zH c)],obl 2 zA v.2],0,none,46⟩) hM ?_ rfl)
 rintro ⟨t,l5⟩ b_1 hM hc_2 hr_1
 rw [Y7] at hM
 refine au 8 ?_
 refine X.cm hM (fun h_1 hM=>?_) (fun h_1 hM=>?_)
 ·refine au 6 ?_
  refine X.join (τ:=(List zB)) (fun v=>Y5 t v=some b_1) (fun v=>⟨[(2,(V.ptr 0 0 0)),(3,(V.ptr 1 0 0)),(5,(ovl 2 v)),(6,(V.i t))],[.rows 6 [(zD h)],.rows 5 [(zH c)],obl 2 zA v],0,none,46⟩) ?_ ?_
  ·intro l1 hM
   replace hM:Y5 t l1=some b_1:=hM
   unfold Y5 at hM
   refine au 6 ?_
   have hE:=Option.some.inj hM
   exact X.gy [some 0,some 1,some 2] (hc_2 (w64 (t+1),l1) hE.symm) (zM rfl ⟨9,rfl⟩ (zM rfl ⟨9,rfl⟩ (zM rfl (ze rfl) (ga rfl rfl))))
  intro hj_3
  refine au 1 ?_
  refine X.gy [some 0,some 1,some 2] (X.loop (σ:=(Int×(List zB))) (fun v=>⟨[(2,(V.ptr 0 0 0)),(3,(V.ptr 1 0 0)),(5,(ovl 2 v.2)),(6,(V.i t)),(7,(V.i v.1))],[.rows 6 [(zD h)],.rows 5 [(zH c)],obl 2 zA v.2],0,none,46⟩) hM ?_ rfl) (zM rfl ⟨9,rfl⟩ (zM rfl ⟨9,rfl⟩ (zM rfl (ze rfl) (ga rfl rfl))))
  rintro ⟨b,l4⟩ b_2 hM hc_4 hr_2
  rw [yx] at hM
  refine au 8 ?_
  refine X.cm hM (fun h_2 hM=>?_) (fun h_2 hM=>?_)
  ·refine GS.skip (GS.seq ?_)
   refine X.join (τ:=(List zB)) (fun v=>yw b v=some b_2) (fun v=>⟨[(2,(V.ptr 0 0 0)),(3,(V.ptr 1 0 0)),(5,(ovl 2 v)),(6,(V.i t)),(7,(V.i b))],[.rows 6 [(zD h)],.rows 5 [(zH c)],obl 2 zA v],0,none,46⟩) ?_ ?_
   ·intro l2 hM
    replace hM:yw b l2=some b_2:=hM
    unfold yw at hM
    refine au 5 ?_
    have hE:=Option.some.inj hM
    exact X.gy [some 0,some 1,some 2] (hc_4 (w64 (b+1),l2) hE.symm) (zM rfl ⟨9,rfl⟩ (zM rfl ⟨9,rfl⟩ (zM rfl (ze rfl) (ga rfl rfl))))
   intro hj_5
   obtain ⟨x,h_3,hM⟩:=zF hM
   refine au 10 ?_
   refine X.opW (H':=[.rows 6 [(zD h)],.rows 5 [(zH c)],obl 2 zA l4,.rows 2 [(V.agg [(V.i 0),(V.i 0)])]]) rfl rfl rfl rfl ?_
   refine X.op0W (H':=[.rows 6 [(zD h)],.rows 5 [(zH c)],obl 2 zA l4,.rows 2 [(V.agg [(V.i t),(V.i x.ID)])]]) rfl rfl rfl ?_
   obtain ⟨y,h_4,hM⟩:=zF hM
   refine au 5 ?_
   refine X.ca (zIu h_4) ?_
   refine au 3 ?_
   refine X.opW (H':=[.rows 6 [(zD h)],.rows 5 [(zH c)],obl 2 zA l4,.rows 2 [(V.agg [(V.i t),(V.i x.ID)])],.rows 2 [(V.agg [(V.i 0),(V.i 0)])]]) rfl rfl rfl rfl ?_
   refine X.op0W (H':=[.rows 6 [(zD h)],.rows 5 [(zH c)],obl 2 zA l4,.rows 2 [(V.agg [(V.i t),(V.i x.ID)])],.rows 2 [(zI y.1)]]) rfl rfl rfl ?_
   refine au 5 ?_
   refine X.cm hM (fun h_5 hM=>?_) (fun h_5 hM=>?_)
   ·obtain ⟨l3,h_6,hM⟩:=zF hM
    refine au 3 ?_
    refine X.opW (H':=[.rows 6 [(zD h)],.rows 5 [(zH c)],obl 2 zA l4,.rows 2 [(V.agg [(V.i t),(V.i x.ID)])],.rows 2 [(zI y.1)],.rows 2 (List.map zA ([(⟨t,x.ID⟩:zB)]))]) rfl rfl rfl rfl ?_
    refine X.appN (f:=zA) h_6 (fun _=>rfl) (by rfl) (by rfl) (by rfl) (by rfl) (by rfl) (by rfl) (by rfl) (by rfl) (by rfl) (by rfl) (by rfl) (by exact rfl) (by rfl) (by rfl) ?_
    refine au 3 ?_
    exact X.gc [some 0,some 1,some 6] (hj_5 l3 hM) rfl rfl rfl (zM rfl ⟨9,rfl⟩ (zM rfl ⟨9,rfl⟩ (zM rfl (zAa (Z6 h_6) rfl) (ga rfl rfl)))) (gb9 rfl rfl rfl (gb9 rfl rfl rfl (gb_obl' 9 (Z6 h_6) rfl rfl (fun _=>rfl) ZA)))
   refine au 2 ?_
   exact X.gy [some 0,some 1,some 2] (hj_5 l4 hM) (zM rfl ⟨9,rfl⟩ (zM rfl ⟨9,rfl⟩ (zM rfl (ze rfl) (ga rfl rfl))))
  obtain ⟨y_2,hM,hy⟩:=zz hM
  rw [hr_2 _ hy.symm] at hM
  refine au 1 ?_
  exact X.gy [some 0,some 1,some 2] (hj_3 l4 hM) (zM rfl ⟨9,rfl⟩ (zM rfl ⟨9,rfl⟩ (zM rfl (ze rfl) (ga rfl rfl))))
 obtain ⟨y_1,hM,hy⟩:=zz hM
 rw [hr_1 _ hy.symm] at hM
 refine au 1 ?_
 exact X.gy [some 2] (hj_1 l5 hM) (zM rfl (ze rfl) zD8)
abbrev zw (x:zm):V:=.agg [(V.sl (List.map (fun l=>V.sl (List.map zA l)) x.l))]
theorem zCl {h:zG} {l:(List zJ)} {r:zm} (hM:Yo h l=some r):Ct Tryz.prog 27 [(zD h),(V.sl (List.map zH l))] (zw r):=by
 refine zP zl rfl ?_
 unfold Yo at hM
 refine au 11 ?_
 refine X.join (τ:=(List (List zB))) (fun v=>yz v=some r) (fun v=>⟨[(4,(V.ptr 0 0 0)),(5,(V.ptr 1 0 0))],[.rows 1 [(V.agg [V.nil])],.rows 1 [(V.agg [(ovl 2 v)])],obl 1 (fun l=>V.sl (List.map zA l)) v],0,none,25⟩) ?_ ?_
 ·intro l1 hM
  replace hM:yz l1=some r:=hM
  unfold yz at hM
  refine au 2 ?_
  refine X.op0W rfl (v:=jF) (wr:=[(0,.rows 1 [(V.agg [(ovl 2 l1)])])]) (by rcases X.Yv (z:=true) 2 l1 with h0 | ⟨n0,h0⟩ <;> simp only [h0] <;> rfl) rfl ?_
  refine GS.zV ?_
  have hE:=Option.some.inj hM
  subst hE
  exact GS.ret ⟨_,rfl,FR.agg (.cons (FR.ovl (f:=(fun l=>V.sl (List.map zA l))) (l:=l1) 9 rfl rfl (fun _=>rfl)) .nil)⟩
 intro hj_1
 refine au 1 ?_
 refine X.gx [some 0,some 1,some 2,none] (X.loop (σ:=(Int×(List (List zB)))) (fun v=>⟨[(1,(V.sl (List.map zH l))),(2,(V.ptr 0 0 0)),(4,(V.ptr 1 0 0)),(5,(V.ptr 2 0 0)),(6,(V.i v.1))],[.rows 6 [(zD h)],.rows 1 [(V.agg [V.nil])],.rows 1 [(V.agg [(ovl 3 v.2)])],obl 1 (fun l=>V.sl (List.map zA l)) v.2],0,none,25⟩) hM ?_ rfl)
 rintro ⟨i,l3⟩ b_1 hM hc_2 hr_1
 rw [QX] at hM
 refine au 7 ?_
 refine X.cm hM (fun h_1 hM=>?_) (fun h_1 hM=>?_)
 ·obtain ⟨x,h_2,hM⟩:=zF hM
  obtain ⟨y,h_3,hM⟩:=zF hM
  obtain ⟨l2,h_4,hM⟩:=zF hM
  refine au 3 ?_
  refine X.draw (by kernel_rfl) ?_
  refine au 7 ?_
  refine X.dca (zDs h_3) ?_
  refine au 1 ?_
  refine X.zIV (f:=(fun l=>V.sl (List.map zA l))) h_4 (fun _=>rfl) (by rfl) (by rfl) (by rfl) (by rfl) (by rfl) (by rfl) (by rfl) (by rfl) (by rfl) (by rfl) (by rfl) (by exact rfl) (by rfl) (by rfl) (by kernel_rfl) (by rfl) (by rfl) ?_
  refine au 1 ?_
  refine X.dop0 rfl rfl rfl rfl (by kernel_rfl) rfl ?_
  refine au 1 ?_
  refine X.norm [(1,(V.sl (List.map zH l))),(2,(V.ptr 0 0 0)),(4,(V.ptr 1 0 0)),(5,(V.ptr 2 0 0)),(6,(V.i i))] ?_ rfl (sr rfl)
  refine au 6 ?_
  have hE:=Option.some.inj hM
  exact X.gc [some 0,some 1,some 2,some 5] (hc_2 (w64 (i+1),l2) hE.symm) rfl rfl rfl (ga rfl rfl) (gb9 rfl rfl rfl (gb9 rfl rfl rfl (jI rfl rfl (J7 (.cons (zAa (Z6 h_4) rfl) .nil)) (gb_obl' 9 (Z6 h_4) rfl rfl (fun _=>rfl) ZA))))
 obtain ⟨y_1,hM,hy⟩:=zz hM
 rw [hr_1 _ hy.symm] at hM
 refine au 1 ?_
 exact X.gc [some 1,some 2,some 3] (hj_1 l3 hM) rfl rfl rfl (ga rfl rfl) (gb9 rfl rfl rfl (jI rfl rfl (J7 (.cons (ze rfl) .nil)) (Ze 9 rfl rfl (fun _=>rfl) ZA)))
theorem zC5 {l:(List zB)} {x:zB} {r:Bool} (hM:zAf l x=some r):Ct Tryz.prog 62 [(V.sl (List.map zA l)),(zA x)] (V.b r):=by
 refine zP zl rfl ?_
 unfold zAf at hM
 refine au 8 ?_
 refine X.join (τ:=Unit) (fun v=>zBe=some r) (fun v=>⟨[],[],0,none,18⟩) ?_ ?_
 ·intro _ hM
  replace hM:zBe=some r:=hM
  unfold zBe at hM
  refine au 3 ?_
  cases hM
  exact X.rt
 intro hj_1
 refine au 1 ?_
 refine X.gx [some 0] (X.loop (σ:=Int) (fun v=>⟨[(0,(V.sl (List.map zA l))),(3,(V.ptr 0 0 0)),(5,(V.i v))],[.rows 2 [(zA x)]],0,none,18⟩) hM ?_ rfl)
 intro i b_1 hM hc_2 hr_1
 rw [zBf] at hM
 refine au 7 ?_
 refine X.cm hM (fun h_1 hM=>?_) (fun h_1 hM=>?_)
 ·obtain ⟨x1,h_2,hM⟩:=zF hM
  refine au 10 ?_
  refine X.cop rfl (X.eqlE (zCO x1 x) rfl rfl) rfl rfl ?_
  refine au 1 ?_
  refine X.norm [(0,(V.sl (List.map zA l))),(3,(V.ptr 0 0 0)),(5,(V.i i)),(17,(V.b (decide (x1=x))))] ?_ rfl (sr rfl)
  refine X.cm hM (fun h_3 hM=>?_) (fun h_3 hM=>?_)
  ·refine au 3 ?_
   have hE:=Option.some.inj hM
   replace hE:=hr_1 _ hE.symm
   subst hE
   exact X.rt
  refine au 7 ?_
  have hE:=Option.some.inj hM
  exact X.gx [some 0] (hc_2 (w64 (i+1)) hE.symm)
 obtain ⟨y_1,hM,hy⟩:=zz hM
 rw [hr_1 _ hy.symm] at hM
 refine au 1 ?_
 exact X.gx [] (hj_1 () hM)
abbrev zEj (x:zCI):V:=.agg [(V.sl (List.map zA x.slots)),(V.sl (List.map V.i x.by_))]
theorem zHk {m:zCI} {x:zB} {r:Int} (hM:zA5 m x=some r):Ct Tryz.prog 80 [(zEj m),(zA x)] (V.i r):=by
 refine zP zl rfl ?_
 unfold zA5 at hM
 refine au 9 ?_
 refine X.join (τ:=Unit) (fun v=>qx=some r) (fun v=>⟨[],[],0,none,21⟩) ?_ ?_
 ·intro _ hM
  replace hM:qx=some r:=hM
  unfold qx at hM
  refine au 3 ?_
  cases hM
  exact X.rt
 intro hj_1
 refine au 1 ?_
 refine X.gx [some 0,some 1] (X.loop (σ:=Int) (fun v=>⟨[(2,(V.ptr 0 0 0)),(3,(V.ptr 1 0 0)),(5,(V.i v))],[.rows 2 [(zEj m)],.rows 2 [(zA x)]],0,none,21⟩) hM ?_ rfl)
 intro i b_1 hM hc_2 hr_1
 rw [qy] at hM
 refine au 8 ?_
 refine X.cm hM (fun h_1 hM=>?_) (fun h_1 hM=>?_)
 ·obtain ⟨x1,h_2,hM⟩:=zF hM
  refine au 11 ?_
  refine X.cop rfl (X.eqlE (zCO x1 x) rfl rfl) rfl rfl ?_
  refine au 1 ?_
  refine X.norm [(2,(V.ptr 0 0 0)),(3,(V.ptr 1 0 0)),(5,(V.i i)),(19,(V.b (decide (x1=x))))] ?_ rfl (sr rfl)
  refine X.cm hM (fun h_3 hM=>?_) (fun h_3 hM=>?_)
  ·refine au 4 ?_
   have hE:=Option.some.inj hM
   replace hE:=hr_1 _ hE.symm
   subst hE
   exact X.rt
  refine au 7 ?_
  have hE:=Option.some.inj hM
  exact X.gx [some 0,some 1] (hc_2 (w64 (i+1)) hE.symm)
 obtain ⟨y_1,hM,hy⟩:=zz hM
 rw [hr_1 _ hy.symm] at hM
 refine au 1 ?_
 exact X.gx [] (hj_1 () hM)
abbrev eT (z1 z2 z3:Bool) (i1 i2 i3:Nat) (t:Tried):V:=.agg [ovlz z1 i1 t.s,ovlz z2 i2 t.b,ovlz z3 i3 t.n,.b t.ok]
abbrev LT (z1 z2 z3:Bool) (i1 i2 i3:Nat) (t:Tried):Hp:=[(i1,isB (oblz z1 2 zA t.s)),(i2,isB (oblz z2 1 V.i t.b)),(i3,isB (oblz z3 2 zA t.n))]
abbrev LS (c:zm) (z1 z2 z3:Bool) (ir it ic i1 i2 i3:Nat) (t:Tried) (R:Hp):Hp:=(ir,isB (.rows 4 [.agg [V.nil,V.nil,V.nil,.b false]])) :: (it,isB (.rows 4 [eT z1 z2 z3 i1 i2 i3 t])) :: (ic,isB (.rows 1 [zw c])) :: (LT z1 z2 z3 i1 i2 i3 t++R)
def TT (z1 z2 z3:Bool) (i1 i2:Nat) (t':Tried):V→Hp→Prop:=fun v L => ∃ j1 j2 j3,v=eT z1 z2 z3 j1 j2 j3 t'∧L=LT z1 z2 z3 j1 j2 j3 t'∧(t'.ok=false→j1=i1∧j2=i2)
theorem zJn {g:Int→Tried→Option Tried} (hg:∀ o t t',g o t=some t'→t'.ok=false→t'.s=t.s∧t'.b=t.b) {ship:Int}:∀ (r:List zB) (t t':Tried),JM g ship r t=some t'→t'.ok=false→t'.s=t.s∧t'.b=t.b
 | [],t,t',h,_=>by
  simp only [JM,Option.some.injEq] at h
  subst h; exact ⟨rfl,rfl⟩
 | x :: r,t,t',h,ho=>by
  unfold JM at h
  obtain ⟨was,_,h⟩:=zF h
  cases was with
  | true=>exact zJn hg r t t' (Qn rfl h) ho
  | false =>
   replace h:=Qo rfl h
   obtain ⟨n,_,h⟩:=zF h
   obtain ⟨k,_,h⟩:=zF h
   cases hk:decide (k<0) with
   | true =>
    replace h:=Qn hk h
    obtain ⟨s,_,h⟩:=zF h
    obtain ⟨b,_,h⟩:=zF h
    cases h; cases ho
   | false =>
    replace h:=Qo hk h
    obtain ⟨o,_,h⟩:=zF h
    obtain ⟨t1,h1,h⟩:=zF h
    cases h2:t1.ok with
    | true =>
     replace h:=Qn h2 h
     obtain ⟨_,_,h⟩:=zF h
     cases h; cases ho
    | false =>
     replace h:=Qo h2 h
     obtain ⟨q1,q2⟩:=zJn hg r t1 t' h ho
     obtain ⟨q3,q4⟩:=hg _ _ _ h1 h2
     exact ⟨q1.trans q3,q2.trans q4⟩
theorem zMM {c:zm}:∀ (f:Nat) (ship:Int) (t t':Tried),Jv c f ship t=some t'→t'.ok=false→t'.s=t.s∧t'.b=t.b
 | 0,_,_,_,h,_=>by cases h
 | f+1,ship,t,t',h,ho=>by
  unfold Jv at h
  obtain ⟨row,_,h⟩:=zF h
  cases hk:decide ((row.length:Int)≤9223372036854775807) with
  | true=>exact zJn (fun o t t' h ho=>zMM f o t t' h ho) row t t' (Qn hk h) ho
  | false=>cases Qo hk h
theorem frT {H:List Blk} {R:Hp} {z1 z2 z3:Bool} {i1 i2 i3:Nat} {t:Tried} {A:Hp} (h:Has H (A++(LT z1 z2 z3 i1 i2 i3 t++R))):hget H i1=oblz z1 2 zA t.s∧hget H i2=oblz z2 1 V.i t.b∧hget H i3=oblz z3 2 zA t.n:=by
 have key:∀ (A:Hp) (L:Hp),Has H (A++L)→Has H L:=by
  intro A
  induction A with
  | nil=>exact fun L h=>h
  | cons a r ih=>exact fun L h=>ih L h.tail
 have h1:=key A _ h
 exact ⟨h1.is (k:=0) rfl,h1.is (k:=1) rfl,h1.is (k:=2) rfl⟩
theorem zOT (c:zm):∀ (f:Nat) (ship:Int) (t t':Tried),Jv c f ship t=some t'→∀ (z1 z2 z3:Bool) (i1 i2 i3:Nat),ImCt CC 60 [zw c,V.i ship,eT z1 z2 z3 i1 i2 i3 t] (LT z1 z2 z3 i1 i2 i3 t) (TT z1 z2 z3 i1 i2 t')
 | 0,_,_,_,h=>by cases h
 | f+1,ship,t,t',h=>by
  intro z1 z2 z3 i1 i2 i3
  unfold Jv at h
  obtain ⟨row,hrow,h⟩:=zF h
  cases hlen:decide ((row.length:Int)≤9223372036854775807) with
  | false=>cases Qo hlen h
  | true =>
  replace h:=Qn hlen h
  have hlen':row.length≤9223372036854775807:=by have:=of_decide_eq_true hlen; omega
  refine ⟨_,_,rfl,fun R H0 g0=>?_⟩
  refine X.sq ?_
  refine S.box g0 rfl rfl rfl fun ic H1 g1=>?_
  refine S.box g1 rfl rfl rfl fun it H2 g2=>?_
  refine S.box g2 rfl rfl rfl fun ir H3 g3=>?_
  refine GS.zV (GS.seq (X.sq (X.q rfl (GS.zV ?_))))
  refine GS.block ?_
  refine X.norm [(1,V.i ship),(3,.ptr ic 0 0),(5,.ptr it 0 0),(6,.ptr ir 0 0),(7,V.i ((0:Nat):Int))] ?_ rfl (sr rfl)
  refine X.zGc (α:=List Blk×Tried×Nat×Nat×Nat×Nat) (fun a=>⟨[(1,V.i ship),(3,.ptr ic 0 0),(5,.ptr it 0 0),(6,.ptr ir 0 0),(7,V.i ((a.2.2.1:Nat):Int))],a.1,0,none,83⟩)
   (fun a=>a.2.2.1≤row.length∧a.2.2.2.1=i1∧a.2.2.2.2.1=i2∧JM (Jv c f) ship (row.drop a.2.2.1) a.2.1=some t'∧Has a.1 (LS c z1 z2 z3 ir it ic a.2.2.2.1 a.2.2.2.2.1 a.2.2.2.2.2 a.2.1 R))
   (fun a=>row.length - a.2.2.1) ?_ (H3,t,0,i1,i2,i3) ⟨Nat.zero_le _,rfl,rfl,h,g3⟩
  clear h
  rintro ⟨H,t,j,k1,k2,i3⟩ ⟨hj,e1,e2,h,hH⟩ hc
  simp only at hj e1 e2 h hH hc ⊢
  subst e1 e2
  refine GS.seq (X.sq (X.q rfl (X.q rfl ?_)))
  refine X.opR rfl (S.ld 2 hH rfl rfl rfl rfl rfl) rfl (X.q rfl ?_)
  refine X.opR rfl (X.Zh (f:=fun l=>V.sl (List.map zA l)) hrow (fun _=>rfl) rfl rfl rfl rfl) rfl ?_
  refine X.opR rfl (X.JA hrow rfl rfl rfl) rfl ?_
  refine X.opR rfl (X.lenF rfl rfl rfl) rfl (X.q rfl (GS.zV ?_))
  refine X.cond rfl (fun h1=>?_) (fun h1=>?_)
  ·have hj':j<row.length:=by have:=of_decide_eq_true h1; omega
   have hx:=S.ixn hj'
   rw [List.drop_eq_getElem_cons hj'] at h
   refine GS.skip (GS.seq (X.join (τ:=List Blk×Tried×Nat) (fun v=>JM (Jv c f) ship (row.drop (j+1)) v.2.1=some t'∧Has v.1 (LS c z1 z2 z3 ir it ic k1 k2 v.2.2 v.2.1 R)) (fun v=>⟨[(1,V.i ship),(3,.ptr ic 0 0),(5,.ptr it 0 0),(6,.ptr ir 0 0),(7,V.i ((j:Nat):Int))],v.1,0,none,83⟩) ?_ ?_))
   ·rintro ⟨H,t,i3⟩ ⟨h,hH⟩
    refine GS.region (X.q rfl ?_)
    refine X.opR rfl (X.addE rfl rfl) rfl ?_
    rw [S.w64n hj' hlen']
    refine X.q rfl (GS.zV ?_)
    exact X.norm [(1,V.i ship),(3,.ptr ic 0 0),(5,.ptr it 0 0),(6,.ptr ir 0 0),(7,V.i ((j+1:Nat):Int))] (hc ⟨H,t,j+1,k1,k2,i3⟩ ⟨hj',rfl,rfl,h,hH⟩ (by simp only; omega)) rfl (sr rfl)
   intro hn
   refine GS.block ?_
   refine X.sq (X.q rfl ?_)
   refine X.opR rfl (S.ld 2 hH rfl rfl rfl rfl rfl) rfl (X.q rfl ?_)
   refine X.opR rfl (X.Zh (f:=fun l=>V.sl (List.map zA l)) hrow (fun _=>rfl) rfl rfl rfl rfl) rfl ?_
   refine X.opR rfl (X.JA hrow rfl rfl rfl) rfl (X.q rfl ?_)
   refine X.opR rfl (X.Zh (f:=zA) hx (fun _=>rfl) rfl rfl rfl rfl) rfl ?_
   refine X.opR rfl (X.JA hx rfl rfl rfl) rfl ?_
   refine S.box hH rfl rfl rfl fun ix H hH=>?_
   refine S.w0 0 hH rfl rfl (S.st 0 hH rfl rfl rfl rfl rfl rfl rfl) fun H hH=>?_
   replace hH:Has H ((ix,isB (.rows 2 [zA row[j]])) :: LS c z1 z2 z3 ir it ic k1 k2 i3 t R):=hH
   generalize row[j]=x at hH h hx ⊢
   unfold JM at h
   obtain ⟨was,h2,h⟩:=zF h
   refine GS.zV (X.sq (X.q rfl ?_))
   refine X.opR rfl (S.ld 2 hH rfl rfl rfl rfl rfl) rfl ?_
   refine X.opR rfl (S.ld 0 hH rfl rfl rfl rfl rfl) rfl ?_
   refine X.zCG (m:=9) (zC5 h2) rfl rfl rfl rfl (.cons (FR.arg (FR.ovl 9 S.b0 (hH.is (k:=6) rfl) fun _=>rfl)) (.cons (.shut (n:=9) rfl) .nil)) (X.q rfl (GS.zV ?_))
   refine GS.seq (X.sq (X.q rfl (GS.zV ?_)))
   refine X.cond rfl (fun h3=>?_) (fun h3=>?_)
   ·replace h:=Qn h3 h
    refine GS.exit rfl ?_
    exact X.norm _ (hn (H,t,i3) ⟨h,hH.tail⟩) rfl (sr rfl)
   replace h:=Qo h3 h
   obtain ⟨n,h4,h⟩:=zF h
   obtain ⟨kk,h5,h⟩:=zF h
   refine GS.skip (X.sq (X.q rfl ?_))
   refine X.opR rfl (S.ld 2 hH rfl rfl rfl rfl rfl) rfl ?_
   refine X.opR rfl (S.ld 0 hH rfl rfl rfl rfl rfl) rfl ?_
   refine GS.bldF rfl rfl rfl rfl ?_
   refine S.app 6 hH rfl h4 (fun _=>rfl) rfl rfl rfl rfl rfl rfl rfl S.b0 rfl rfl rfl fun i4 H hH=>?_
   replace hH:Has H ((ix,isB (.rows 2 [zA x])) :: (ir,isB (.rows 4 [.agg [V.nil,V.nil,V.nil,.b false]])) :: (it,isB (.rows 4 [eT z1 z2 z3 k1 k2 i3 t])) :: (ic,isB (.rows 1 [zw c])) :: (LT z1 z2 z3 k1 k2 i4 ⟨t.s,t.b,n,t.ok⟩++R)):=hH
   refine X.q rfl ?_
   refine S.w0 2 hH rfl rfl (S.stO 2 hH rfl rfl rfl rfl rfl rfl rfl) fun H hH=>?_
   replace hH:Has H ((ix,isB (.rows 2 [zA x])) :: LS c z1 z2 z3 ir it ic k1 k2 i4 ⟨t.s,t.b,n,t.ok⟩ R):=hH
   refine GS.zV (X.sq (X.q rfl ?_))
   refine X.opR rfl (S.ld 2 hH rfl rfl rfl rfl rfl) rfl ?_
   refine X.opR rfl (S.ld 0 hH rfl rfl rfl rfl rfl) rfl ?_
   refine X.zCG (m:=9) (zHk h5) rfl rfl rfl rfl (.cons (FR.arg (FR.agg (.cons (FR.ovl 9 S.b0 (hH.is (k:=4) rfl) fun _=>rfl) (.cons (FR.ovl 9 S.b0 (hH.is (k:=5) rfl) fun _=>rfl) .nil)))) (.cons (.shut (n:=9) rfl) .nil)) (X.q rfl (GS.zV ?_))
   refine GS.seq (X.sq (X.q rfl (X.q rfl (GS.zV ?_))))
   refine X.cond rfl (fun h6=>?_) (fun h6=>?_)
   ·replace h:=Qn h6 h
    obtain ⟨s',h7,h⟩:=zF h
    obtain ⟨b',h8,h⟩:=zF h
    cases h
    refine X.sq (X.q rfl (X.q rfl ?_))
    refine X.opR rfl (S.ld 2 hH rfl rfl rfl rfl rfl) rfl ?_
    refine X.opR rfl (S.ld 0 hH rfl rfl rfl rfl rfl) rfl ?_
    refine GS.bldF rfl rfl rfl rfl ?_
    refine S.app 4 hH rfl h7 (fun _=>rfl) rfl rfl rfl rfl rfl rfl rfl S.b0 rfl rfl rfl fun i5 H hH=>?_
    replace hH:Has H ((ix,isB (.rows 2 [zA x])) :: (ir,isB (.rows 4 [.agg [V.nil,V.nil,V.nil,.b false]])) :: (it,isB (.rows 4 [eT z1 z2 z3 k1 k2 i4 ⟨t.s,t.b,n,t.ok⟩])) :: (ic,isB (.rows 1 [zw c])) :: (LT z1 z2 z3 i5 k2 i4 ⟨s',t.b,n,t.ok⟩++R)):=hH
    refine X.q rfl (X.q rfl ?_)
    refine S.w0 2 hH rfl rfl (S.stO 2 hH rfl rfl rfl rfl rfl rfl rfl) fun H hH=>?_
    replace hH:Has H ((ix,isB (.rows 2 [zA x])) :: LS c z1 z2 z3 ir it ic i5 k2 i4 ⟨s',t.b,n,t.ok⟩ R):=hH
    refine X.nq (X.q rfl (X.q rfl ?_))
    refine X.opR rfl (S.ld 2 hH rfl rfl rfl rfl rfl) rfl (X.q rfl ?_)
    refine GS.bldF rfl rfl rfl rfl ?_
    refine S.app 5 hH rfl h8 (fun _=>rfl) rfl rfl rfl rfl rfl rfl rfl S.b0 rfl rfl rfl fun i6 H hH=>?_
    replace hH:Has H ((ix,isB (.rows 2 [zA x])) :: (ir,isB (.rows 4 [.agg [V.nil,V.nil,V.nil,.b false]])) :: (it,isB (.rows 4 [eT z1 z2 z3 i5 k2 i4 ⟨s',t.b,n,t.ok⟩])) :: (ic,isB (.rows 1 [zw c])) :: (LT z1 z2 z3 i5 i6 i4 ⟨s',b',n,t.ok⟩++R)):=hH
    refine X.q rfl (X.q rfl ?_)
    refine S.w0 2 hH rfl rfl (S.stO 2 hH rfl rfl rfl rfl rfl rfl rfl) fun H hH=>?_
    replace hH:Has H ((ix,isB (.rows 2 [zA x])) :: LS c z1 z2 z3 ir it ic i5 i6 i4 ⟨s',b',n,t.ok⟩ R):=hH
    refine X.nq (X.q rfl ?_)
    refine S.w0 2 hH rfl rfl (S.st 2 hH rfl rfl rfl rfl rfl rfl rfl) fun H hH=>?_
    replace hH:Has H ((ix,isB (.rows 2 [zA x])) :: LS c z1 z2 z3 ir it ic i5 i6 i4 ⟨s',b',n,true⟩ R):=hH
    refine X.nq ?_
    refine X.opR rfl (S.ld 2 hH rfl rfl rfl rfl rfl) rfl ?_
    refine S.w0 1 hH rfl rfl (S.st 1 hH rfl rfl rfl rfl rfl rfl rfl) fun H hH=>?_
    refine GS.zV (GS.ret ⟨_,S.finC rfl rfl rfl rfl (hH.is (k:=1) rfl) rfl,_,⟨i5,i6,i4,rfl,rfl,fun h=>by cases h⟩,hH.tail.tail.tail.tail⟩)
   replace h:=Qo h6 h
   obtain ⟨o,h7,h⟩:=zF h
   obtain ⟨t1,h8,h⟩:=zF h
   refine GS.skip (GS.seq ?_)
   refine S.cut 8 rfl (by kernel_rfl) (by kernel_rfl) rfl ?_
   refine X.cop rfl (S.ld 3 hH rfl rfl rfl rfl rfl) rfl rfl ?_
   iterate 2 refine X.cop rfl rfl rfl rfl ?_
   refine X.cop rfl (S.ld 2 hH rfl rfl rfl rfl rfl) rfl rfl ?_
   refine X.cop rfl rfl rfl rfl ?_
   refine X.cop rfl (X.zE5 h7 rfl rfl rfl rfl (hH.is (k:=5) rfl)) rfl rfl ?_
   refine X.cop rfl (X.zOH h7 rfl rfl (hH.is (k:=5) rfl) rfl) rfl rfl ?_
   refine X.cop rfl (S.ld 2 hH rfl rfl rfl rfl rfl) rfl rfl ?_
   refine X.cnil ?_
   have hP:=Has.pick (R:=R) (A:=[_,_,_,_,_,_,_]) [4,5,6,0,1,2,3] rfl (by decide) hH
   refine S.im (R:=(ix,isB (.rows 2 [zA x])) :: (ir,isB (.rows 4 [.agg [V.nil,V.nil,V.nil,.b false]])) :: (it,isB (.rows 4 [eT z1 z2 z3 k1 k2 i4 ⟨t.s,t.b,n,t.ok⟩])) :: (ic,isB (.rows 1 [zw c])) :: R) (zOT c f o _ t1 h8 z1 z2 z3 k1 k2 i4) hP rfl rfl rfl fun v L' H hT hH=>?_
   obtain ⟨j1,j2,j3,rfl,rfl,hT⟩:=hT
   replace hH:=Has.pick (R:=R) (A:=[_,_,_,_,_,_,_]) [3,4,5,6,0,1,2] rfl (by decide) hH
   refine S.w0 2 hH rfl rfl (S.st 2 hH rfl rfl rfl rfl rfl rfl rfl) fun H hH=>?_
   replace hH:Has H ((ix,isB (.rows 2 [zA x])) :: LS c z1 z2 z3 ir it ic j1 j2 j3 t1 R):=hH
   refine GS.zV (X.sq (X.q rfl ?_))
   refine X.opR rfl (S.ld 2 hH rfl rfl rfl rfl rfl) rfl (GS.zV ?_)
   refine X.cond rfl (fun h9=>?_) (fun h9=>?_)
   ·replace h:=Qn h9 h
    obtain ⟨a,h10,h⟩:=zF h
    cases h
    refine X.sq (X.q rfl (X.q rfl ?_))
    refine X.opR rfl (S.ld 2 hH rfl rfl rfl rfl rfl) rfl (X.q rfl (X.q rfl ?_))
    refine X.opR rfl (X.zE5 h10 rfl rfl rfl rfl (hH.is (k:=5) rfl)) rfl ?_
    refine S.w0 5 hH rfl rfl (X.zC2 (b:=ship) h10 rfl rfl rfl S.b0 rfl (hH.is (k:=5) rfl) rfl) fun H hH=>?_
    refine X.nq ?_
    refine X.opR rfl (S.ld 2 hH rfl rfl rfl rfl rfl) rfl ?_
    refine S.w0 1 hH rfl rfl (S.st 1 hH rfl rfl rfl rfl rfl rfl rfl) fun H hH=>?_
    refine GS.zV (GS.ret ⟨_,S.finC rfl rfl rfl rfl (hH.is (k:=1) rfl) rfl,_,⟨j1,j2,j3,?_,rfl,fun h=>by cases h⟩,hH.tail.tail.tail.tail⟩)
    rw [h9,X.zG5 (i:=kk) (a:=ship)]
   replace h:=Qo h9 h
   obtain ⟨e1,e2⟩:=hT h9
   exact GS.skip (X.norm _ (hn (H,t1,j3) ⟨h,by rw [← e1,← e2]; exact hH.tail⟩) rfl (sr rfl))
  ·replace h1:=of_decide_eq_false h1
   have hj':j=row.length:=by omega
   subst hj'
   rw [List.drop_length] at h
   simp only [JM,Option.some.injEq] at h
   subst h
   refine GS.exit rfl ?_
   refine X.sq ?_
   refine X.opR rfl (S.ld 1 hH rfl rfl rfl rfl rfl) rfl ?_
   refine S.w0 0 hH rfl rfl (S.st 0 hH rfl rfl rfl rfl rfl rfl rfl) fun H hH=>?_
   exact GS.zV (GS.ret ⟨_,S.finC rfl rfl rfl rfl (hH.is (k:=0) rfl) rfl,_,⟨k1,k2,i3,rfl,rfl,fun _=>⟨rfl,rfl⟩⟩,hH.tail.tail.tail⟩)
theorem zCX {c:zm} {r:Int} (hM:YQ c=some r):Ct Tryz.prog 26 [zw c] (V.i r):=by
 unfold YQ at hM
 cases hlen:decide ((c.l.length:Int)≤9223372036854775807) with
 | false=>cases Qo hlen hM
 | true =>
 replace hM:=Qn hlen hM
 have hlen':c.l.length≤9223372036854775807:=by have:=of_decide_eq_true hlen; omega
 refine zP zl rfl ?_
 refine S.pad (K:=[(0,zw c)]) (Has.nil (H:=[])) fun i1 H1 g1=>?_
 refine S.pad g1 fun i2 H2 g2=>?_
 refine X.sq ?_
 refine S.box g2 rfl rfl rfl fun ic H3 g3=>X.q rfl ?_
 refine au 5 ?_
 refine S.box g3 rfl rfl rfl fun im H4 g4=>GS.zV ?_
 refine au 5 ?_
 refine X.norm [(1,.ptr ic 0 0),(3,V.i 0),(4,.ptr im 0 0),(5,V.i ((0:Nat):Int))] ?_ rfl (sr rfl)
 refine X.zGc (α:=List Blk×List zB×List Int×Int×Nat×Nat×Nat) (fun a=>⟨[(1,.ptr ic 0 0),(3,V.i a.2.2.2.1),(4,.ptr im 0 0),(5,V.i ((a.2.2.2.2.1:Nat):Int))],a.1,0,none,26⟩)
  (fun a=>a.2.2.2.2.1≤c.l.length∧yE c (c.l.drop a.2.2.2.2.1) (a.2.2.2.2.1:Nat) a.2.1 a.2.2.1 a.2.2.2.1=some r∧Has a.1 [(im,isB (.rows 2 [.agg [ovlz true a.2.2.2.2.2.1 a.2.1,ovlz true a.2.2.2.2.2.2 a.2.2.1]])),(ic,isB (.rows 1 [zw c])),(a.2.2.2.2.2.1,isB (oblz true 2 zA a.2.1)),(a.2.2.2.2.2.2,isB (oblz true 1 V.i a.2.2.1))])
  (fun a=>c.l.length - a.2.2.2.2.1) ?_ (H4,[],[],0,0,i1,i2) ⟨Nat.zero_le _,hM,Has.pick (R:=[]) (A:=[_,_,_,_]) [0,1,3,2] rfl (by decide) g4⟩
 clear hM
 rintro ⟨H,s,b,n,j,i1,i2⟩ ⟨hj,h,hH⟩ hc
 simp only at hj h hH hc ⊢
 refine au 4 ?_
 refine X.opR rfl (S.ld 1 hH rfl rfl rfl rfl rfl) rfl ?_
 refine au 3 ?_
 refine X.cond rfl (fun h1=>?_) (fun h1=>?_)
 ·have hj':j<c.l.length:=by have:=of_decide_eq_true h1; omega
  rw [List.drop_eq_getElem_cons hj'] at h
  unfold yE at h
  obtain ⟨t,h2,h⟩:=zF h
  rw [S.w64n hj' hlen'] at h
  refine GS.skip (GS.seq ?_)
  refine X.join (τ:=List Blk×List zB×List Int×Int×Nat×Nat) (fun v=>yE c (c.l.drop (j+1)) (j+1:Nat) v.2.1 v.2.2.1 v.2.2.2.1=some r∧Has v.1 [(im,isB (.rows 2 [.agg [ovlz true v.2.2.2.2.1 v.2.1,ovlz true v.2.2.2.2.2 v.2.2.1]])),(ic,isB (.rows 1 [zw c])),(v.2.2.2.2.1,isB (oblz true 2 zA v.2.1)),(v.2.2.2.2.2,isB (oblz true 1 V.i v.2.2.1))]) (fun v=>⟨[(1,.ptr ic 0 0),(3,V.i v.2.2.2.1),(4,.ptr im 0 0),(5,V.i ((j:Nat):Int))],v.1,0,none,26⟩) ?_ ?_
  ·rintro ⟨H,s,b,n,i1,i2⟩ ⟨h,hH⟩
   refine au 3 ?_
   rw [S.w64n hj' hlen']
   refine au 2 ?_
   exact X.norm [(1,.ptr ic 0 0),(3,V.i n),(4,.ptr im 0 0),(5,V.i ((j+1:Nat):Int))] (hc ⟨H,s,b,n,j+1,i1,i2⟩ ⟨hj',h,hH⟩ (by simp only; omega)) rfl (sr rfl)
  intro hn
  refine au 1 ?_
  refine S.pad hH fun i3 H hH=>?_
  refine X.sq ?_
  refine X.opR rfl (S.ld 2 hH rfl rfl rfl rfl rfl) rfl (X.q rfl ?_)
  refine X.opR rfl (S.ld 1 hH rfl rfl rfl rfl rfl) rfl (X.q rfl ?_)
  have hP:=Has.pick (R:=[]) (A:=[_,_,_,_,_]) [3,4,0,1,2] rfl (by decide) hH
  refine S.im (R:=[(im,isB (.rows 2 [.agg [ovlz true i1 s,ovlz true i2 b]])),(ic,isB (.rows 1 [zw c]))]) (zOT c fuel _ _ t h2 true true true i1 i2 i3) hP rfl rfl rfl fun v L' H hT hH=>?_
  obtain ⟨j1,j2,j3,rfl,rfl,hT⟩:=hT
  refine S.box hH rfl rfl rfl fun ir H hH=>?_
  refine S.w0 0 hH rfl rfl (S.st 0 hH rfl rfl rfl rfl rfl rfl rfl) fun H hH=>?_
  replace hH:Has H [(ir,isB (.rows 4 [eT true true true j1 j2 j3 t])),(j1,isB (oblz true 2 zA t.s)),(j2,isB (oblz true 1 V.i t.b)),(j3,isB (oblz true 2 zA t.n)),(im,isB (.rows 2 [.agg [ovlz true i1 s,ovlz true i2 b]])),(ic,isB (.rows 1 [zw c]))]:=hH
  refine au 3 ?_
  refine X.opR rfl (S.ld 0 hH rfl rfl rfl rfl rfl) rfl ?_
  refine GS.zV ?_
  refine X.cond rfl (fun h3=>?_) (fun h3=>?_)
  ·replace h:=Qn h3 h
   refine au 2 ?_
   refine X.opR rfl (S.ld 0 hH rfl rfl rfl rfl rfl) rfl ?_
   refine S.w0 4 hH rfl rfl (S.st 4 hH rfl rfl rfl rfl rfl rfl rfl) fun H hH=>?_
   refine au 6 ?_
   exact X.norm _ (hn (H,t.s,t.b,w64 (n+1),j1,j2) ⟨h,Has.pick (R:=[]) (A:=[_,_,_,_,_,_]) [4,5,1,2] rfl (by decide) hH⟩) rfl (sr rfl)
  replace h:=Qo h3 h
  obtain ⟨e1,e2⟩:=hT h3
  obtain ⟨e3,e4⟩:=zMM _ _ _ _ h2 h3
  simp only at e3 e4
  refine GS.skip ?_
  refine X.norm _ (hn (H,s,b,n,i1,i2) ⟨h,?_⟩) rfl (sr rfl)
  have:=Has.pick (R:=[]) (A:=[_,_,_,_,_,_]) [4,5,1,2] rfl (by decide) hH
  rw [e3,e4,e1,e2] at this
  exact this
 ·replace h1:=of_decide_eq_false h1
  have hj':j=c.l.length:=by omega
  subst hj'
  rw [List.drop_length] at h
  simp only [yE,Option.some.injEq] at h
  subst h
  refine au 5 ?_
  exact X.rt
theorem zIx {h:zG} {l:(List zJ)} {r:zA9} (hM:qO h l=some r):Ct Tryz.prog 8 [(zD h),(V.sl (List.map zH l))] (zEk r):=by
 refine zP zl rfl ?_
 unfold qO at hM
 obtain ⟨y,h_1,hM⟩:=zF hM
 refine au 7 ?_
 refine X.ca (Qr h_1) ?_
 refine au 7 ?_
 refine X.cm hM (fun h_2 hM=>?_) (fun h_2 hM=>?_)
 ·refine au 3 ?_
  refine X.op0W rfl rfl rfl ?_
  refine GS.zV ?_
  cases hM
  exact X.rt
 obtain ⟨y1,h_3,hM⟩:=zF hM
 obtain ⟨y2,h_4,hM⟩:=zF hM
 refine au 4 ?_
 refine X.ca (zCl h_3) ?_
 refine X.ca (zCX h_4) (X.q rfl ?_)
 refine X.op0W rfl rfl rfl ?_
 refine GS.zV ?_
 cases hM
 exact X.rt
theorem zAt {l:(List zJ)} {id:Int} {r:Int} (hM:zAg l id=some r):Ct Tryz.prog 28 [(V.sl (List.map zH l)),(V.i id)] (V.i r):=by
 refine zP zl rfl ?_
 unfold zAg at hM
 refine au 7 ?_
 refine X.join (τ:=Unit) (fun v=>zAp=some r) (fun v=>⟨[],[],0,none,20⟩) ?_ ?_
 ·intro _ hM
  replace hM:zAp=some r:=hM
  unfold zAp at hM
  refine au 3 ?_
  cases hM
  exact X.rt
 intro hj_1
 refine au 1 ?_
 refine X.gx [] (X.loop (σ:=Int) (fun v=>⟨[(0,(V.sl (List.map zH l))),(1,(V.i id)),(5,(V.i v))],[],0,none,20⟩) hM ?_ rfl)
 intro i b_1 hM hc_2 hr_1
 rw [zAq] at hM
 refine au 7 ?_
 refine X.cm hM (fun h_1 hM=>?_) (fun h_1 hM=>?_)
 ·obtain ⟨x,h_2,hM⟩:=zF hM
  refine au 12 ?_
  refine X.cm hM (fun h_3 hM=>?_) (fun h_3 hM=>?_)
  ·refine au 4 ?_
   have hE:=Option.some.inj hM
   replace hE:=hr_1 _ hE.symm
   subst hE
   exact X.rt
  refine au 7 ?_
  have hE:=Option.some.inj hM
  exact X.gx [] (hc_2 (w64 (i+1)) hE.symm)
 obtain ⟨y_1,hM,hy⟩:=zz hM
 rw [hr_1 _ hy.symm] at hM
 refine au 1 ?_
 exact X.gx [] (hj_1 () hM)
theorem zGC {h:zG} {l:List zJ} {ids:List Int} {r:List zB} (hM:Qy h l ids=some r):Ct Tryz.prog 29 [zD h,V.sl (List.map zH l),V.sl (List.map V.i ids)] (V.sl (List.map zA r)):=by
 unfold Qy at hM
 cases hlen:decide ((ids.length:Int)≤9223372036854775807∧(h.Tides.length:Int)≤9223372036854775807∧(h.Berths.length:Int)≤9223372036854775807) with
 | false=>cases Qo hlen hM
 | true =>
 replace hM:=Qn hlen hM
 have hl1:ids.length≤9223372036854775807∧h.Tides.length≤9223372036854775807∧h.Berths.length≤9223372036854775807:=by have:=of_decide_eq_true hlen; omega
 obtain ⟨s,hA,hM⟩:=zF hM
 refine zP zl rfl ?_
 refine S.pad (K:=[(0,zD h),(1,V.sl (List.map zH l)),(2,V.sl (List.map V.i ids))]) (Has.nil (H:=[])) fun i1 H1 g1=>?_
 refine X.sq ?_
 refine S.box g1 rfl rfl rfl fun ih H2 g2=>X.q rfl (X.nq (X.q rfl (GS.zV (GS.seq (X.sq (X.q rfl (GS.zV ?_)))))))
 refine X.join (τ:=List Blk×Nat) (fun v=>Has v.1 [(ih,isB (.rows 6 [zD h])),(v.2,isB (oblz true 2 zA s))]) (fun v=>⟨[(3,.ptr ih 0 0),(7,ovlz true v.2 s)],v.1,0,none,65⟩) ?_ ?_
 ·clear hA
  rintro ⟨H,is⟩ hH
  simp only at hH ⊢
  refine S.pad hH fun i2 H hH=>?_
  refine X.sq (X.q rfl (GS.zV (GS.seq (X.sq (X.q rfl (GS.zV ?_))))))
  refine X.norm [(3,.ptr ih 0 0),(7,ovlz true is s),(9,ovlz true i2 ([]:List zB)),(10,V.i ((0:Nat):Int))] ?_ rfl (sr rfl)
  refine GS.block ?_
  refine X.zGc (α:=List Blk×Nat×Nat×List zB) (fun a=>⟨[(3,.ptr ih 0 0),(7,ovlz true is s),(9,ovlz true a.2.1 a.2.2.2),(10,V.i ((a.2.2.1:Nat):Int))],a.1,0,none,65⟩)
   (fun a=>a.2.2.1≤h.Tides.length∧JG h s (h.Tides.drop a.2.2.1) (a.2.2.1:Nat) a.2.2.2=some r∧Has a.1 [(a.2.1,isB (oblz true 2 zA a.2.2.2)),(ih,isB (.rows 6 [zD h])),(is,isB (oblz true 2 zA s))])
   (fun a=>h.Tides.length - a.2.2.1) ?_ (H,i2,0,[]) ⟨Nat.zero_le _,hM,hH⟩
  clear hM
  rintro ⟨H,i2,j,o⟩ ⟨hj,hM,hH⟩ hc
  simp only at hj hM hH hc ⊢
  refine GS.seq (X.sq (X.q rfl (X.q rfl ?_)))
  refine X.opR rfl (S.ld 1 hH rfl rfl rfl rfl rfl) rfl ?_
  refine X.opR rfl (X.lenF rfl rfl rfl) rfl (X.q rfl (GS.zV ?_))
  refine X.cond rfl (fun h1=>?_) (fun h1=>?_)
  ·have hj':j<h.Tides.length:=by have:=of_decide_eq_true h1; omega
   rw [List.drop_eq_getElem_cons hj'] at hM
   unfold JG at hM
   obtain ⟨o2,hR,hM⟩:=zF hM
   rw [S.w64n hj' hl1.2.1] at hM
   refine GS.skip (GS.seq (X.join (τ:=List Blk×Nat) (fun v=>Has v.1 [(v.2,isB (oblz true 2 zA o2)),(ih,isB (.rows 6 [zD h])),(is,isB (oblz true 2 zA s))]) (fun v=>⟨[(3,.ptr ih 0 0),(7,ovlz true is s),(9,ovlz true v.2 o2),(10,V.i ((j:Nat):Int))],v.1,0,none,65⟩) ?_ ?_))
   ·rintro ⟨H,i2⟩ hH
    refine GS.region (X.q rfl ?_)
    refine X.opR rfl (X.addE rfl rfl) rfl ?_
    rw [S.w64n hj' hl1.2.1]
    refine X.q rfl (GS.zV ?_)
    exact X.norm [(3,.ptr ih 0 0),(7,ovlz true is s),(9,ovlz true i2 o2),(10,V.i ((j+1:Nat):Int))] (hc ⟨H,i2,j+1,o2⟩ ⟨hj',hM,hH⟩ (by simp only; omega)) rfl (sr rfl)
   clear hM hc
   intro hn
   refine GS.block ?_
   refine X.sq (X.q rfl (GS.zV ?_))
   refine X.norm [(3,.ptr ih 0 0),(7,ovlz true is s),(9,ovlz true i2 o),(10,V.i ((j:Nat):Int)),(11,V.i ((0:Nat):Int))] ?_ rfl (sr rfl)
   refine GS.block ?_
   refine X.zGc (α:=List Blk×Nat×Nat×List zB) (fun a=>⟨[(3,.ptr ih 0 0),(7,ovlz true is s),(9,ovlz true a.2.1 a.2.2.2),(10,V.i ((j:Nat):Int)),(11,V.i ((a.2.2.1:Nat):Int))],a.1,0,none,65⟩)
    (fun a=>a.2.2.1≤h.Berths.length∧jR s (j:Nat) (h.Berths.drop a.2.2.1) a.2.2.2=some o2∧Has a.1 [(a.2.1,isB (oblz true 2 zA a.2.2.2)),(ih,isB (.rows 6 [zD h])),(is,isB (oblz true 2 zA s))])
    (fun a=>h.Berths.length - a.2.2.1) ?_ (H,i2,0,o) ⟨Nat.zero_le _,hR,hH⟩
   clear hR
   rintro ⟨H,i2,q,o⟩ ⟨hq,hR,hH⟩ hc
   simp only at hq hR hH hc ⊢
   refine GS.seq (X.sq (X.q rfl (X.q rfl ?_)))
   refine X.opR rfl (S.ld 1 hH rfl rfl rfl rfl rfl) rfl ?_
   refine X.opR rfl (X.lenF rfl rfl rfl) rfl (X.q rfl (GS.zV ?_))
   refine X.cond rfl (fun h2=>?_) (fun h2=>?_)
   ·have hq':q<h.Berths.length:=by have:=of_decide_eq_true h2; omega
    have hx:=S.ixn hq'
    rw [List.drop_eq_getElem_cons hq'] at hR
    unfold jR at hR
    obtain ⟨b,h3,hR⟩:=zF hR
    refine GS.skip (GS.seq (X.join (τ:=List Blk×Nat×List zB) (fun v=>jR s (j:Nat) (h.Berths.drop (q+1)) v.2.2=some o2∧Has v.1 [(v.2.1,isB (oblz true 2 zA v.2.2)),(ih,isB (.rows 6 [zD h])),(is,isB (oblz true 2 zA s))]) (fun v=>⟨[(3,.ptr ih 0 0),(7,ovlz true is s),(9,ovlz true v.2.1 v.2.2),(10,V.i ((j:Nat):Int)),(11,V.i ((q:Nat):Int))],v.1,0,none,65⟩) ?_ ?_))
    ·rintro ⟨H,i2,o⟩ ⟨hR,hH⟩
     refine GS.region (X.q rfl ?_)
     refine X.opR rfl (X.addE rfl rfl) rfl ?_
     rw [S.w64n hq' hl1.2.2]
     refine X.q rfl (GS.zV ?_)
     exact X.norm [(3,.ptr ih 0 0),(7,ovlz true is s),(9,ovlz true i2 o),(10,V.i ((j:Nat):Int)),(11,V.i ((q+1:Nat):Int))] (hc ⟨H,i2,q+1,o⟩ ⟨hq',hR,hH⟩ (by simp only; omega)) rfl (sr rfl)
    intro hn
    refine GS.block ?_
    refine X.sq (X.q rfl (X.q rfl ?_))
    refine X.opR rfl (S.ld 1 hH rfl rfl rfl rfl rfl) rfl (X.q rfl ?_)
    refine X.opR rfl (X.Zh (f:=zQ) hx (fun _=>rfl) rfl rfl rfl rfl) rfl (X.q rfl ?_)
    refine X.opR rfl (X.JA hx rfl rfl rfl) rfl (X.q rfl ?_)
    refine S.box hH rfl rfl rfl fun ix H hH=>?_
    refine S.w0 0 hH rfl rfl (S.st 0 hH rfl rfl rfl rfl rfl rfl rfl) fun H hH=>?_
    replace hH:Has H [(ix,isB (.rows 2 [zA ⟨(j:Nat),h.Berths[q].ID⟩])),(i2,isB (oblz true 2 zA o)),(ih,isB (.rows 6 [zD h])),(is,isB (oblz true 2 zA s))]:=hH
    refine GS.zV (X.sq (X.q rfl ?_))
    refine X.opR rfl (S.ld 0 hH rfl rfl rfl rfl rfl) rfl ?_
    refine X.zCG (m:=9) (zC5 h3) rfl rfl rfl rfl (.cons (FR.arg (FR.ovl 9 S.b0 (hH.is (k:=3) rfl) fun _=>rfl)) (.cons (.shut (n:=9) rfl) .nil)) (X.q rfl (GS.zV ?_))
    refine X.sq (X.q rfl (GS.zV ?_))
    refine X.cond rfl (fun h4=>?_) (fun h4=>?_)
    ·replace hR:=Qn h4 hR
     obtain ⟨o1,h5,hR⟩:=zF hR
     refine GS.region (X.q rfl ?_)
     refine X.opR rfl (S.ld 0 hH rfl rfl rfl rfl rfl) rfl ?_
     refine GS.bldF rfl rfl rfl rfl ?_
     refine S.app 1 hH rfl h5 (fun _=>rfl) rfl rfl rfl rfl rfl rfl rfl S.b0 rfl rfl rfl fun i2 H hH=>X.q rfl (GS.zV ?_)
     exact X.norm _ (hn (H,i2,o1) ⟨hR,hH.tail⟩) rfl (sr rfl)
    exact GS.skip (X.norm _ (hn (H,i2,o) ⟨Qo h4 hR,hH.tail⟩) rfl (sr rfl))
   ·replace h2:=of_decide_eq_false h2
    have hq':q=h.Berths.length:=by omega
    subst hq'
    rw [List.drop_length] at hR
    simp only [jR,Option.some.injEq] at hR
    subst hR
    exact GS.exit rfl (X.norm _ (hn (H,i2) hH) rfl (sr rfl))
  ·replace h1:=of_decide_eq_false h1
   have hj':j=h.Tides.length:=by omega
   subst hj'
   rw [List.drop_length] at hM
   simp only [JG,Option.some.injEq] at hM
   subst hM
   refine GS.exit rfl (X.sq (X.q rfl (X.q rfl (GS.zV ?_))))
   exact GS.ret ⟨_,rfl,FR.ovl (f:=zA) 9 S.b0 (hH.is (k:=0) rfl) fun _=>rfl⟩
 clear hM
 intro hn
 refine GS.block ?_
 refine X.norm [(1,V.sl (List.map zH l)),(2,V.sl (List.map V.i ids)),(3,.ptr ih 0 0),(7,ovlz true i1 ([]:List zB)),(8,V.i ((0:Nat):Int))] ?_ rfl (sr rfl)
 refine X.zGc (α:=List Blk×Nat×Nat×List zB) (fun a=>⟨[(1,V.sl (List.map zH l)),(2,V.sl (List.map V.i ids)),(3,.ptr ih 0 0),(7,ovlz true a.2.1 a.2.2.2),(8,V.i ((a.2.2.1:Nat):Int))],a.1,0,none,65⟩)
  (fun a=>a.2.2.1≤ids.length∧Jw h l (ids.drop a.2.2.1) a.2.2.2=some s∧Has a.1 [(ih,isB (.rows 6 [zD h])),(a.2.1,isB (oblz true 2 zA a.2.2.2))])
  (fun a=>ids.length - a.2.2.1) ?_ (H2,i1,0,[]) ⟨Nat.zero_le _,hA,g2⟩
 clear hA
 rintro ⟨H,i1,j,o⟩ ⟨hj,hA,hH⟩ hc
 simp only at hj hA hH hc ⊢
 refine GS.seq (X.sq (X.q rfl (X.q rfl ?_)))
 refine X.opR rfl (X.lenF rfl rfl rfl) rfl (X.q rfl (GS.zV ?_))
 refine X.cond rfl (fun h1=>?_) (fun h1=>?_)
 ·have hj':j<ids.length:=by have:=of_decide_eq_true h1; omega
  have hx:=S.ixn hj'
  rw [List.drop_eq_getElem_cons hj'] at hA
  unfold Jw at hA
  obtain ⟨y,h2,hA⟩:=zF hA
  obtain ⟨x,h3,hA⟩:=zF hA
  obtain ⟨q,h4,hA⟩:=zF hA
  obtain ⟨o2,h5,hA⟩:=zF hA
  refine GS.skip (GS.seq (GS.block ?_))
  refine S.cut 13 rfl (by kernel_rfl) (by kernel_rfl) rfl ?_
  refine X.cop rfl rfl rfl rfl ?_
  refine X.cop rfl (S.ld 0 hH rfl rfl rfl rfl rfl) rfl rfl ?_
  iterate 4 refine X.cop rfl rfl rfl rfl ?_
  refine X.cop rfl (X.Zh (f:=V.i) hx (fun _=>rfl) rfl rfl rfl rfl) rfl rfl ?_
  refine X.cop rfl (X.JA hx rfl rfl rfl) rfl rfl ?_
  refine X.ccall (zAt h2) rfl rfl rfl rfl (.cons (.shut (n:=9) rfl) (.cons (.shut (n:=9) rfl) .nil)) ?_
  refine X.cop rfl (X.maxE rfl rfl) rfl rfl ?_
  refine X.cop rfl (X.Zh (f:=zH) h3 (fun _=>rfl) rfl rfl rfl rfl) rfl rfl ?_
  refine X.cop rfl (X.JA h3 rfl rfl rfl) rfl rfl ?_
  refine X.ccall (zDs h4) rfl rfl rfl rfl (.cons (.shut (n:=9) rfl) (.cons (.shut (n:=9) rfl) .nil)) ?_
  refine X.cnil ?_
  refine S.appL 1 hH rfl h5 (fun _=>rfl) rfl rfl rfl rfl rfl rfl rfl S.b0 rfl rfl rfl fun i2 H hH=>X.q rfl (GS.zV ?_)
  refine GS.endB (GS.region (X.q rfl ?_))
  refine X.opR rfl (X.addE rfl rfl) rfl ?_
  rw [S.w64n hj' hl1.1]
  refine X.q rfl (GS.zV ?_)
  exact X.norm [(1,V.sl (List.map zH l)),(2,V.sl (List.map V.i ids)),(3,.ptr ih 0 0),(7,ovlz true i2 o2),(8,V.i ((j+1:Nat):Int))] (hc ⟨H,i2,j+1,o2⟩ ⟨hj',hA,hH⟩ (by simp only; omega)) rfl (sr rfl)
 ·replace h1:=of_decide_eq_false h1
  have hj':j=ids.length:=by omega
  subst hj'
  rw [List.drop_length] at hA
  simp only [Jw,Option.some.injEq] at hA
  subst hA
  exact GS.exit rfl (X.norm _ (hn (H,i1) hH) rfl (sr rfl))
theorem zEw {a:(List zB)} {b:(List zB)} {r:Bool} (hM:Yc a b=some r):Ct Tryz.prog 30 [(V.sl (List.map zA a)),(V.sl (List.map zA b))] (V.b r):=by
 refine zP zl rfl ?_
 unfold Yc at hM
 refine au 11 ?_
 refine X.cm hM (fun h_1 hM=>?_) (fun h_1 hM=>?_)
 ·refine au 3 ?_
  cases hM
  exact X.rt
 refine au 5 ?_
 refine X.join (τ:=Unit) (fun v=>Jy=some r) (fun v=>⟨[],[],0,none,26⟩) ?_ ?_
 ·intro _ hM
  replace hM:Jy=some r:=hM
  unfold Jy at hM
  refine au 3 ?_
  cases hM
  exact X.rt
 intro hj_1
 refine au 1 ?_
 refine X.gx [] (X.loop (σ:=Int) (fun v=>⟨[(0,(V.sl (List.map zA a))),(1,(V.sl (List.map zA b))),(5,(V.i v))],[],0,none,26⟩) hM ?_ rfl)
 intro i b_1 hM hc_2 hr_1
 rw [YR] at hM
 refine au 7 ?_
 refine X.cm hM (fun h_2 hM=>?_) (fun h_2 hM=>?_)
 ·obtain ⟨x,h_3,hM⟩:=zF hM
  obtain ⟨x1,h_4,hM⟩:=zF hM
  refine au 13 ?_
  refine X.cop rfl (X.neqE (zCO x x1) rfl rfl) rfl rfl ?_
  refine au 1 ?_
  refine X.norm [(0,(V.sl (List.map zA a))),(1,(V.sl (List.map zA b))),(5,(V.i i)),(25,(V.b (!decide (x=x1))))] ?_ rfl (sr rfl)
  refine X.cm hM (fun h_5 hM=>?_) (fun h_5 hM=>?_)
  ·refine au 3 ?_
   have hE:=Option.some.inj hM
   replace hE:=hr_1 _ hE.symm
   subst hE
   exact X.rt
  refine au 7 ?_
  have hE:=Option.some.inj hM
  exact X.gx [] (hc_2 (w64 (i+1)) hE.symm)
 obtain ⟨y_1,hM,hy⟩:=zz hM
 rw [hr_1 _ hy.symm] at hM
 refine au 1 ?_
 exact X.gx [] (hj_1 () hM)
theorem zB1 {h:zG} {l:(List zJ)} {x:zZ} {r:Int×Int} (hM:jh h l x=some r):Ct Tryz.prog 9 [(zD h),(V.sl (List.map zH l)),(Zq x)] (V.tup [(V.i r.1),(V.i r.2)]):=by
 refine zP zl rfl ?_
 unfold jh at hM
 obtain ⟨y,h_1,hM⟩:=zF hM
 refine au 9 ?_
 refine X.ca (Qr h_1) ?_
 refine au 7 ?_
 refine X.cm hM (fun h_2 hM=>?_) (fun h_2 hM=>?_)
 ·refine au 5 ?_
  cases hM
  exact X.rt
 refine au 5 ?_
 refine X.join (τ:=Unit) (fun v=>Jz h l x=some r) (fun v=>⟨[(1,(V.sl (List.map zH l))),(3,(V.ptr 0 0 0)),(5,(V.ptr 1 0 0))],[.rows 6 [(zD h)],.rows 2 [(Zq x)]],0,none,82⟩) ?_ ?_
 ·intro _ hM
  replace hM:Jz h l x=some r:=hM
  unfold Jz at hM
  refine au 7 ?_
  refine X.cm hM (fun h_3 hM=>?_) (fun h_3 hM=>?_)
  ·refine au 4 ?_
   cases hM
   exact X.rt
  obtain ⟨y1,h_4,hM⟩:=zF hM
  refine au 6 ?_
  refine X.ca (zGC h_4) ?_
  obtain ⟨y2,h_5,hM⟩:=zF hM
  refine au 6 ?_
  refine X.ca (zEw h_5) ?_
  refine au 4 ?_
  refine X.mid [(74,(V.b ((!y2)||(decide ((x.Calls.length:Int)≤(x.Slots.length:Int)))))),(5,(V.ptr 1 0 0))] ?_ ?_
  ·intro hg
   refine X.split (!y2) (fun h_6=>?_) (fun h_6=>?_)
   ·refine au 12 ?_
    exact X.ng hg rfl (by simp only [h_6,X.bb])
   refine au 12 ?_
   exact X.ng hg rfl (by simp only [h_6,X.bb])
  refine X.cm hM (fun h_7 hM=>?_) (fun h_7 hM=>?_)
  ·refine au 4 ?_
   cases hM
   exact X.rt
  refine au 12 ?_
  cases hM
  exact X.rt
 intro hj_1
 refine au 1 ?_
 refine X.gx [some 0,some 1] (X.loop (σ:=Int) (fun v=>⟨[(1,(V.sl (List.map zH l))),(3,(V.ptr 0 0 0)),(5,(V.ptr 1 0 0)),(9,(V.i v))],[.rows 6 [(zD h)],.rows 2 [(Zq x)]],0,none,82⟩) hM ?_ rfl)
 intro i b_1 hM hc_2 hr_1
 rw [YS] at hM
 refine au 8 ?_
 refine X.cm hM (fun h_8 hM=>?_) (fun h_8 hM=>?_)
 ·obtain ⟨x1,h_9,hM⟩:=zF hM
  obtain ⟨y3,h_10,hM⟩:=zF hM
  obtain ⟨x2,h_11,hM⟩:=Q5 hM
  obtain ⟨x3,h_12,hM⟩:=Q5 hM
  refine au 3 ?_
  refine GS.seq ?_
  refine X.mid [(50,(V.b ((decide (y3<0))||((decide (0<i))&&(decide (x2≤x3)))))),(1,(V.sl (List.map zH l))),(3,(V.ptr 0 0 0)),(5,(V.ptr 1 0 0)),(9,(V.i i))] ?_ ?_
  ·intro hg
   refine X.split (decide (y3<0)) (fun h_13=>?_) (fun h_13=>?_)
   ·refine au 7 ?_
    refine X.cca (zAt h_10) ?_
    refine au 20 ?_
    exact X.ng hg rfl (by simp only [h_13,X.bb])
   refine X.split (decide (0<i)) (fun h_14=>?_) (fun h_14=>?_)
   ·refine au 7 ?_
    refine X.cca (zAt h_10) ?_
    refine au 8 ?_
    refine X.cop (X.on_t rfl rfl rfl h_14) (X.Zh (f:=V.i) (h_11 (X.zK (X.nt h_13) h_14)) (fun _=>rfl) rfl rfl rfl rfl) rfl rfl ?_
    refine X.cop (X.on_t rfl rfl rfl h_14) (X.JA (h_11 (X.zK (X.nt h_13) h_14)) rfl rfl rfl) rfl rfl ?_
    refine au 4 ?_
    refine X.cop (X.on_t rfl rfl rfl h_14) (X.Zh (f:=V.i) (h_12 (X.zK (X.nt h_13) h_14)) (fun _=>rfl) rfl rfl rfl rfl) rfl rfl ?_
    refine X.cop (X.on_t rfl rfl rfl h_14) (X.JA (h_12 (X.zK (X.nt h_13) h_14)) rfl rfl rfl) rfl rfl ?_
    refine au 4 ?_
    exact X.ng hg rfl (by simp only [h_13,h_14,X.bb])
   refine au 7 ?_
   refine X.cca (zAt h_10) ?_
   refine au 20 ?_
   exact X.ng hg rfl (by simp only [h_13,h_14,X.bb])
  refine X.cm hM (fun h_15 hM=>?_) (fun h_15 hM=>?_)
  ·refine au 4 ?_
   have hE:=Option.some.inj hM
   replace hE:=hr_1 _ hE.symm
   subst hE
   exact X.rt
  refine au 7 ?_
  have hE:=Option.some.inj hM
  exact X.gx [some 0,some 1] (hc_2 (w64 (i+1)) hE.symm)
 obtain ⟨y_1,hM,hy⟩:=zz hM
 rw [hr_1 _ hy.symm] at hM
 refine au 1 ?_
 exact X.gx [some 0,some 1] (hj_1 () hM)
theorem zBV {b:zL} {r:Int} (hM:jr b=some r):Ct Tryz.prog 35 [(V.fptr [(zN b)] 0 0)] (V.i r):=by
 refine zP zl rfl ?_
 unfold jr at hM
 obtain ⟨y,h_1,hM⟩:=zF hM
 refine au 5 ?_
 refine X.ca (yf h_1) ?_
 refine au 15 ?_
 refine X.join (τ:=Int) (fun v=>Jd v=some r) (fun v=>⟨[(5,(V.i v))],[],0,none,30⟩) ?_ ?_
 ·intro n hM
  replace hM:Jd n=some r:=hM
  unfold Jd at hM
  refine au 4 ?_
  cases hM
  exact X.rt
 intro hj_1
 refine au 1 ?_
 refine X.gx [] (X.loop (σ:=(Int×Int)) (fun v=>⟨[(0,(V.fptr [(zN b)] 0 0)),(5,(V.i v.1)),(13,(V.sl (List.map V.i y.1))),(14,(V.i (y.1.length:Int))),(15,(V.i v.2))],[],0,none,30⟩) hM ?_ rfl)
 rintro ⟨n2,x1⟩ b_1 hM hc_2 hr_1
 rw [ym] at hM
 refine au 3 ?_
 refine GS.seq ?_
 refine X.cm hM (fun h_2 hM=>?_) (fun h_2 hM=>?_)
 ·refine GS.skip (GS.seq ?_)
  refine X.join (τ:=Int) (fun v=>jJ x1 v=some b_1) (fun v=>⟨[(0,(V.fptr [(zN b)] 0 0)),(5,(V.i v)),(13,(V.sl (List.map V.i y.1))),(14,(V.i (y.1.length:Int))),(15,(V.i x1))],[],0,none,30⟩) ?_ ?_
  ·intro n1 hM
   replace hM:jJ x1 n1=some b_1:=hM
   unfold jJ at hM
   refine au 4 ?_
   have hE:=Option.some.inj hM
   exact X.gx [] (hc_2 (n1,w64 (x1+1)) hE.symm)
  intro hj_3
  obtain ⟨x,h_3,hM⟩:=zF hM
  refine au 15 ?_
  refine X.cm hM (fun h_4 hM=>?_) (fun h_4 hM=>?_)
  ·refine au 6 ?_
   exact X.gx [] (hj_3 (w64 (n2+1)) hM)
  refine au 2 ?_
  exact X.gx [] (hj_3 n2 hM)
 obtain ⟨y_1,hM,hy⟩:=zz hM
 rw [hr_1 _ hy.symm] at hM
 refine au 1 ?_
 exact X.gx [] (hj_1 n2 hM)
set_option maxHeartbeats 4000000 in
theorem zI0 {h:zG} {l:(List zJ)} {r:(List Int)×Int} (hM:QO h l=some r):Ct Tryz.prog 11 [(zD h),(V.sl (List.map zH l))] (V.tup [(V.sl (List.map V.i r.1)),(V.i r.2)]):=by
 refine zP zl rfl ?_
 unfold QO at hM
 obtain ⟨y,h_1,hM⟩:=zF hM
 refine au 9 ?_
 refine X.ca (yg h_1) ?_
 refine au 6 ?_
 refine X.cm hM (fun h_2 hM=>?_) (fun h_2 hM=>?_)
 ·refine au 5 ?_
  cases hM
  exact X.rt
 obtain ⟨y1,h_3,hM⟩:=zF hM
 refine au 4 ?_
 refine X.ca (zAu h_3) ?_
 obtain ⟨y2,h_4,hM⟩:=zF hM
 refine au 4 ?_
 refine X.ca (zBV h_4) ?_
 refine au 11 ?_
 refine X.join (τ:=(List Int)) (fun v=>Yt v=some r) (fun v=>⟨[(9,(ovl 0 v))],[obl 1 V.i v],0,none,98⟩) ?_ ?_
 ·intro l1 hM
  replace hM:Yt l1=some r:=hM
  unfold Yt at hM
  obtain ⟨l2,h_5,hM⟩:=zF hM
  refine au 2 ?_
  refine X.norm [(9,(ovl 0 l1)),(95,(ovl 0 l1))] ?_ rfl (sr rfl)
  refine X.sortInt (z:=true) h_5 zNm zKV (fun _ _ _ h=>h) (K':=[(9,(ovl 0 l2)),(95,(ovl 0 l2))]) (H':=[obl 1 V.i l2]) rfl rfl rfl rfl rfl rfl ?_ ?_ ?_
  ·first | rfl | rw [X.zCk (zA3 h_5)] | simp only [ovl,X.zCk (zA3 h_5)] | simp only [zA3 h_5]
  ·first | rfl | (simp only [hput]; rfl) | (simp only [ovl,obl]; rw [X.zCk (zA3 h_5)] <;> rfl)
  refine au 6 ?_
  have hE:=Option.some.inj hM
  subst hE
  exact GS.ret ⟨_,rfl,FR.tup (.cons (FR.ovl (f:=V.i) (l:=l2) 9 rfl rfl (fun _=>rfl)) (.cons ⟨30,rfl⟩ .nil))⟩
 intro hj_1
 refine au 1 ?_
 refine X.gx [none] (X.loop (σ:=(Int×(List Int))) (fun v=>⟨[(1,(V.sl (List.map zH l))),(7,(V.fptr [(zN y1)] 0 0)),(8,(V.i y2)),(9,(ovl 0 v.2)),(25,(V.sl (List.map zH l))),(26,(V.i (l.length:Int))),(27,(V.i v.1))],[obl 1 V.i v.2],0,none,98⟩) hM ?_ rfl)
 rintro ⟨x4,l17⟩ b_1 hM hc_2 hr_1
 rw [qD] at hM
 refine au 3 ?_
 refine GS.seq ?_
 refine X.cm hM (fun h_6 hM=>?_) (fun h_6 hM=>?_)
 ·refine GS.skip (GS.seq ?_)
  refine X.join (τ:=(List Int)) (fun v=>yP x4 v=some b_1) (fun v=>⟨[(1,(V.sl (List.map zH l))),(7,(V.fptr [(zN y1)] 0 0)),(8,(V.i y2)),(9,(ovl 0 v)),(25,(V.sl (List.map zH l))),(26,(V.i (l.length:Int))),(27,(V.i x4))],[obl 1 V.i v],0,none,98⟩) ?_ ?_
  ·intro l3 hM
   replace hM:yP x4 l3=some b_1:=hM
   unfold yP at hM
   refine au 4 ?_
   have hE:=Option.some.inj hM
   exact X.gy [some 0] (hc_2 (w64 (x4+1),l3) hE.symm) (zM rfl ⟨9,rfl⟩ (zM rfl ⟨9,rfl⟩ (zM rfl ⟨9,rfl⟩ (zM rfl (ze rfl) (ga rfl rfl)))))
  intro hj_3
  obtain ⟨x,h_7,hM⟩:=zF hM
  refine au 7 ?_
  refine X.op0W rfl rfl rfl ?_
  refine au 16 ?_
  refine X.join (τ:=(List zJ)×(List (List (zB×zC)))×(List Int)) (fun v=>Yr y1 y2 x4 l17 x v.1 v.2.1 v.2.2=some b_1) (fun v=>⟨[(1,(V.sl (List.map zH l))),(7,(V.fptr [(zN y1)] 0 0)),(8,(V.i y2)),(9,(ovl 0 l17)),(11,(V.ptr 1 0 0)),(12,(V.ptr 2 0 0)),(25,(V.sl (List.map zH l))),(26,(V.i (l.length:Int))),(27,(V.i x4))],[obl 1 V.i l17,.rows 5 [(zH x)],.rows 4 [(V.agg [(ovl 3 v.1),(V.sl (List.map zA y1.slots)),(ovl 4 v.2.1),(ovl 5 v.2.2)])],obl 5 zH v.1,obl 1 (fun l=>V.fmap (List.map (fun p=>zA p.1) l) (List.map (fun p=>zI p.2) l)) v.2.1,obl 1 V.i v.2.2],0,none,98⟩) ?_ ?_
  ·rintro ⟨l4,l5,l6⟩ hM
   replace hM:Yr y1 y2 x4 l17 x l4 l5 l6=some b_1:=hM
   unfold Yr at hM
   obtain ⟨y3,h_8,hM⟩:=zF hM
   refine au 2 ?_
   refine X.zCG (zBV h_8) rfl rfl rfl (m:=9) rfl (.cons (FR.arg (FR.ptr rfl rfl (FR.agg (.cons (FR.ovl (f:=zH) (l:=l4) 9 rfl rfl (fun _=>rfl)) (.cons ⟨30,rfl⟩ (.cons (FR.ovl (f:=(fun l=>V.fmap (List.map (fun p=>zA p.1) l) (List.map (fun p=>zI p.2) l))) (l:=l5) 9 rfl rfl (fun _=>rfl)) (.cons (FR.ovl (f:=V.i) (l:=l6) 9 rfl rfl (fun _=>rfl)) .nil))))))) .nil) ?_
   refine au 3 ?_
   refine X.cm hM (fun h_9 hM=>?_) (fun h_9 hM=>?_)
   ·obtain ⟨l7,h_10,hM⟩:=zF hM
    refine au 4 ?_
    refine X.opW (H':=[obl 1 V.i l17,.rows 5 [(zH x)],.rows 4 [(V.agg [(ovl 3 l4),(V.sl (List.map zA y1.slots)),(ovl 4 l5),(ovl 5 l6)])],obl 5 zH l4,obl 1 (fun l=>V.fmap (List.map (fun p=>zA p.1) l) (List.map (fun p=>zI p.2) l)) l5,obl 1 V.i l6,.rows 1 (List.map V.i ([x.ID]))]) rfl rfl rfl rfl ?_
    refine X.appN (f:=V.i) h_10 (fun _=>rfl) (by rfl) (by rfl) (by rfl) (by rfl) (by rfl) (by rfl) (by rfl) (by rfl) (by rfl) (by rfl) (by rfl) (by exact rfl) (by rfl) (by rfl) ?_
    refine au 3 ?_
    exact X.gc [some 7] (hj_3 l7 hM) rfl rfl rfl (zM rfl ⟨9,rfl⟩ (zM rfl ⟨9,rfl⟩ (zM rfl ⟨9,rfl⟩ (zM rfl (zAa (Z6 h_10) rfl) (ga rfl rfl))))) (gb_obl' 9 (Z6 h_10) rfl rfl (fun _=>rfl) ZA)
   refine au 2 ?_
   exact X.gy [some 0] (hj_3 l17 hM) (zM rfl ⟨9,rfl⟩ (zM rfl ⟨9,rfl⟩ (zM rfl ⟨9,rfl⟩ (zM rfl (ze rfl) (ga rfl rfl)))))
  intro hj_4
  refine au 1 ?_
  refine X.gy [some 0,some 1,some 2,none,none,none] (X.loop (σ:=(Int×(List zJ)×(List (List (zB×zC)))×(List Int))) (fun v=>⟨[(1,(V.sl (List.map zH l))),(7,(V.fptr [(zN y1)] 0 0)),(8,(V.i y2)),(9,(ovl 0 l17)),(10,(V.i x4)),(11,(V.ptr 1 0 0)),(12,(V.ptr 2 0 0)),(25,(V.sl (List.map zH l))),(26,(V.i (l.length:Int))),(27,(V.i x4)),(39,(V.i (l.length:Int))),(40,(V.i v.1))],[obl 1 V.i l17,.rows 5 [(zH x)],.rows 4 [(V.agg [(ovl 3 v.2.1),(V.sl (List.map zA y1.slots)),(ovl 4 v.2.2.1),(ovl 5 v.2.2.2)])],obl 5 zH v.2.1,obl 1 (fun l=>V.fmap (List.map (fun p=>zA p.1) l) (List.map (fun p=>zI p.2) l)) v.2.2.1,obl 1 V.i v.2.2.2],0,none,98⟩) hM ?_ rfl) (zM rfl ⟨9,rfl⟩ (zM rfl ⟨9,rfl⟩ (zM rfl ⟨9,rfl⟩ (zM rfl (ze rfl) (ga rfl rfl)))))
  rintro ⟨x3,l14,l15,l16⟩ b_2 hM hc_5 hr_2
  rw [qC] at hM
  refine au 3 ?_
  refine GS.seq ?_
  refine X.cm hM (fun h_11 hM=>?_) (fun h_11 hM=>?_)
  ·refine GS.skip (GS.seq ?_)
   refine X.join (τ:=(List zJ)×(List (List (zB×zC)))×(List Int)) (fun v=>yO x3 v.1 v.2.1 v.2.2=some b_2) (fun v=>⟨[(1,(V.sl (List.map zH l))),(7,(V.fptr [(zN y1)] 0 0)),(8,(V.i y2)),(9,(ovl 0 l17)),(10,(V.i x4)),(11,(V.ptr 1 0 0)),(12,(V.ptr 2 0 0)),(25,(V.sl (List.map zH l))),(26,(V.i (l.length:Int))),(27,(V.i x4)),(39,(V.i (l.length:Int))),(40,(V.i x3))],[obl 1 V.i l17,.rows 5 [(zH x)],.rows 4 [(V.agg [(ovl 3 v.1),(V.sl (List.map zA y1.slots)),(ovl 4 v.2.1),(ovl 5 v.2.2)])],obl 5 zH v.1,obl 1 (fun l=>V.fmap (List.map (fun p=>zA p.1) l) (List.map (fun p=>zI p.2) l)) v.2.1,obl 1 V.i v.2.2],0,none,98⟩) ?_ ?_
   ·rintro ⟨l8,l9,l10⟩ hM
    replace hM:yO x3 l8 l9 l10=some b_2:=hM
    unfold yO at hM
    refine au 4 ?_
    have hE:=Option.some.inj hM
    exact X.gc [some 0,some 1,some 2,some 3,some 4,some 5] (hc_5 (w64 (x3+1),l8,l9,l10) hE.symm) rfl rfl rfl (zM rfl ⟨9,rfl⟩ (zM rfl ⟨9,rfl⟩ (zM rfl ⟨9,rfl⟩ (zM rfl (ze rfl) (ga rfl rfl))))) (Ze 9 rfl rfl (fun _=>rfl) (gb9 rfl rfl rfl (jI rfl rfl (J7 (.cons (ze rfl) (.cons ⟨9,rfl⟩ (.cons (ze rfl) (.cons (ze rfl) .nil))))) (Ze 9 rfl rfl (fun _=>rfl) (Ze 9 rfl rfl (fun _=>rfl) (Ze 9 rfl rfl (fun _=>rfl) ZA))))))
   intro hj_6
   refine au 10 ?_
   refine X.cm hM (fun h_12 hM=>?_) (fun h_12 hM=>?_)
   ·obtain ⟨x1,h_13,hM⟩:=zF hM
    obtain ⟨l11,h_14,hM⟩:=zF hM
    obtain ⟨x2,h_15,hM⟩:=zF hM
    obtain ⟨l12,h_16,hM⟩:=zF hM
    obtain ⟨l13,h_17,hM⟩:=zF hM
    refine X.draw (by kernel_rfl) ?_
    refine au 12 ?_
    refine X.zIV (f:=zH) h_14 (fun _=>rfl) (by rfl) (by rfl) (by rfl) (by rfl) (by rfl) (by rfl) (by rfl) (by rfl) (by rfl) (by rfl) (by rfl) (by exact rfl) (by rfl) (by rfl) (by kernel_rfl) (by rfl) (by rfl) ?_
    refine au 9 ?_
    refine X.dop rfl (X.Zh (f:=(fun l=>V.fmap (List.map (fun p=>zA p.1) l) (List.map (fun p=>zI p.2) l))) h_15 (fun _=>rfl) rfl rfl rfl rfl) rfl rfl (by kernel_rfl) rfl rfl ?_
    refine au 2 ?_
    refine X.zIV (f:=(fun l=>V.fmap (List.map (fun p=>zA p.1) l) (List.map (fun p=>zI p.2) l))) h_16 (fun _=>rfl) (by rfl) (by rfl) (by rfl) (by rfl) (by rfl) (by rfl) (by rfl) (by rfl) (by rfl) (by rfl) (by rfl) (by exact rfl) (by rfl) (by rfl) (by kernel_rfl) (by rfl) (by rfl) ?_
    refine au 5 ?_
    refine X.zIV (f:=V.i) h_17 (fun _=>rfl) (by rfl) (by rfl) (by rfl) (by rfl) (by rfl) (by rfl) (by rfl) (by rfl) (by rfl) (by rfl) (by rfl) (by exact rfl) (by rfl) (by rfl) (by kernel_rfl) (by rfl) (by rfl) ?_
    refine au 2 ?_
    refine X.dop0 rfl rfl rfl rfl (by kernel_rfl) rfl ?_
    refine au 2 ?_
    refine X.dop0 rfl rfl rfl rfl (by kernel_rfl) rfl ?_
    refine au 2 ?_
    refine X.dop0 rfl rfl rfl rfl (by kernel_rfl) rfl ?_
    refine au 1 ?_
    refine X.norm [(1,(V.sl (List.map zH l))),(7,(V.fptr [(zN y1)] 0 0)),(8,(V.i y2)),(9,(ovl 0 l17)),(10,(V.i x4)),(11,(V.ptr 1 0 0)),(12,(V.ptr 2 0 0)),(25,(V.sl (List.map zH l))),(26,(V.i (l.length:Int))),(27,(V.i x4)),(39,(V.i (l.length:Int))),(40,(V.i x3))] ?_ rfl (sr rfl)
    refine au 1 ?_
    exact X.gc [some 0,some 1,some 2,some 7,some 9,some 11] (hj_6 (l11,l12,l13) hM) rfl rfl rfl (zM rfl ⟨9,rfl⟩ (zM rfl ⟨9,rfl⟩ (zM rfl ⟨9,rfl⟩ (zM rfl (ze rfl) (ga rfl rfl))))) (Ze 9 rfl rfl (fun _=>rfl) (gb9 rfl rfl rfl (jI rfl rfl (J7 (.cons (zAa (Z6 h_14) rfl) (.cons ⟨9,rfl⟩ (.cons (zAa (Z6 h_16) rfl) (.cons (zAa (Z6 h_17) rfl) .nil))))) (gb_obl' 9 (Z6 h_14) rfl rfl (fun _=>rfl) (gb_obl' 9 (Z6 h_16) rfl rfl (fun _=>rfl) (gb_obl' 9 (Z6 h_17) rfl rfl (fun _=>rfl) ZA))))))
   refine au 2 ?_
   exact X.gc [some 0,some 1,some 2,some 3,some 4,some 5] (hj_6 (l14,l15,l16) hM) rfl rfl rfl (zM rfl ⟨9,rfl⟩ (zM rfl ⟨9,rfl⟩ (zM rfl ⟨9,rfl⟩ (zM rfl (ze rfl) (ga rfl rfl))))) (Ze 9 rfl rfl (fun _=>rfl) (gb9 rfl rfl rfl (jI rfl rfl (J7 (.cons (ze rfl) (.cons ⟨9,rfl⟩ (.cons (ze rfl) (.cons (ze rfl) .nil))))) (Ze 9 rfl rfl (fun _=>rfl) (Ze 9 rfl rfl (fun _=>rfl) (Ze 9 rfl rfl (fun _=>rfl) ZA))))))
  obtain ⟨y_2,hM,hy⟩:=zz hM
  rw [hr_2 _ hy.symm] at hM
  refine au 1 ?_
  exact X.gc [some 0,some 1,some 2,some 3,some 4,some 5] (hj_4 (l14,l15,l16) hM) rfl rfl rfl (zM rfl ⟨9,rfl⟩ (zM rfl ⟨9,rfl⟩ (zM rfl ⟨9,rfl⟩ (zM rfl (ze rfl) (ga rfl rfl))))) (Ze 9 rfl rfl (fun _=>rfl) (gb9 rfl rfl rfl (jI rfl rfl (J7 (.cons (ze rfl) (.cons ⟨9,rfl⟩ (.cons (ze rfl) (.cons (ze rfl) .nil))))) (Ze 9 rfl rfl (fun _=>rfl) (Ze 9 rfl rfl (fun _=>rfl) (Ze 9 rfl rfl (fun _=>rfl) ZA))))))
 obtain ⟨y_1,hM,hy⟩:=zz hM
 rw [hr_1 _ hy.symm] at hM
 refine au 1 ?_
 exact X.gy [some 0] (hj_1 l17 hM) (zM rfl (ze rfl) zD8)
theorem zG1 {l:(List Int)} {n:Int} {r:(List Int)} (hM:qw l n=some r):Ct Tryz.prog 38 [(V.sl (List.map V.i l)),(V.i n)] (V.sl (List.map V.i r)):=by
 refine zP zl rfl ?_
 unfold qw at hM
 refine au 6 ?_
 refine GS.seq ?_
 refine X.join (τ:=Int) (fun v=>J8 l n v=some r) (fun v=>⟨[(0,(V.sl (List.map V.i l))),(1,(V.i n)),(5,(V.i v))],[],0,none,48⟩) ?_ ?_
 ·intro k hM
  replace hM:J8 l n k=some r:=hM
  unfold J8 at hM
  obtain ⟨x,h_1,hM⟩:=Q5 hM
  refine au 2 ?_
  refine X.mid [(32,(V.b ((decide (k<(l.length:Int)))&&(decide (x=n))))),(0,(V.sl (List.map V.i l))),(1,(V.i n)),(5,(V.i k))] ?_ ?_
  ·intro hg
   refine X.split (decide (k<(l.length:Int))) (fun h_2=>?_) (fun h_2=>?_)
   ·refine au 7 ?_
    refine X.opR (X.on_t rfl rfl rfl h_2) (X.Zh (f:=V.i) (h_1 h_2) (fun _=>rfl) rfl rfl rfl rfl) rfl ?_
    refine X.opR (X.on_t rfl rfl rfl h_2) (X.JA (h_1 h_2) rfl rfl rfl) rfl ?_
    refine au 4 ?_
    exact X.ng hg rfl (by simp only [h_2,X.bb])
   refine au 13 ?_
   exact X.ng hg rfl (by simp only [h_2,X.bb])
  refine X.cm hM (fun h_3 hM=>?_) (fun h_3 hM=>?_)
  ·refine au 4 ?_
   cases hM
   exact X.rt
  obtain ⟨l1,h_4,hM⟩:=zF hM
  obtain ⟨l2,h_5,hM⟩:=zF hM
  refine au 8 ?_
  refine X.opR rfl (X.zLg (f:=V.i) h_4 (fun _=>rfl) rfl rfl rfl rfl rfl rfl (X.zE9 rfl)) rfl ?_
  refine X.appNilS (f:=V.i) (m:=0) (by rfl) h_5 (fun _=>rfl) (by rfl) (by rfl) (by rfl) (by rfl) (by rfl) (by rfl) (by rfl) (by rfl) (by exact rfl) (by rfl) (by rfl) ?_
  obtain ⟨l3,h_6,hM⟩:=zF hM
  refine au 6 ?_
  refine X.appN (f:=V.i) h_6 (fun _=>rfl) (by rfl) (by rfl) (by rfl) (by rfl) (by rfl) (by rfl) (by rfl) (by rfl) (by rfl) (by rfl) (by rfl) (by exact rfl) (by rfl) (by rfl) ?_
  obtain ⟨l4,h_7,hM⟩:=zF hM
  obtain ⟨l5,h_8,hM⟩:=zF hM
  refine au 6 ?_
  refine X.opR rfl (X.zLg (f:=V.i) h_7 (fun _=>rfl) rfl rfl rfl rfl rfl (X.zE9 rfl) rfl) rfl ?_
  refine X.opW (H':=[.dead,.rows 1 (List.map V.i ([n])),.dead,.rows 1 (List.map V.i l5)]) rfl (X.appO (f:=V.i) h_8 (fun _=>rfl) rfl rfl rfl rfl rfl rfl rfl rfl rfl rfl) rfl rfl ?_
  refine au 2 ?_
  have hE:=Option.some.inj hM
  subst hE
  exact GS.ret ⟨_,rfl,FR.osl (f:=V.i) (l:=l5) 9 rfl rfl (fun _=>rfl)⟩
 intro hj_1
 refine au 1 ?_
 refine X.gx [] (X.loop (σ:=Int) (fun v=>⟨[(0,(V.sl (List.map V.i l))),(1,(V.i n)),(5,(V.i v))],[],0,none,48⟩) hM ?_ rfl)
 intro k1 b_1 hM hc_2 hr_1
 rw [qG] at hM
 obtain ⟨x1,h_9,hM⟩:=Q5 hM
 refine au 2 ?_
 refine X.mid [(18,(V.b ((decide (k1<(l.length:Int)))&&(decide (x1<n))))),(0,(V.sl (List.map V.i l))),(1,(V.i n)),(5,(V.i k1))] ?_ ?_
 ·intro hg
  refine X.split (decide (k1<(l.length:Int))) (fun h_10=>?_) (fun h_10=>?_)
  ·refine au 7 ?_
   refine X.opR (X.on_t rfl rfl rfl h_10) (X.Zh (f:=V.i) (h_9 h_10) (fun _=>rfl) rfl rfl rfl rfl) rfl ?_
   refine X.opR (X.on_t rfl rfl rfl h_10) (X.JA (h_9 h_10) rfl rfl rfl) rfl ?_
   refine au 4 ?_
   exact X.ng hg rfl (by simp only [h_10,X.bb])
  refine au 13 ?_
  exact X.ng hg rfl (by simp only [h_10,X.bb])
 refine X.cm hM (fun h_11 hM=>?_) (fun h_11 hM=>?_)
 ·refine au 8 ?_
  have hE:=Option.some.inj hM
  exact X.gx [] (hc_2 (w64 (k1+1)) hE.symm)
 obtain ⟨y_1,hM,hy⟩:=zz hM
 rw [hr_1 _ hy.symm] at hM
 refine au 1 ?_
 exact X.gx [] (hj_1 k1 hM)
theorem zHl {c:zm} {ship:Int} {l:List zB} {r:zm} (hM:zA6 c ship l=some r):Ct Tryz.prog 37 [zw c,V.i ship,V.sl (List.map zA l)] (zw r):=by
 unfold zA6 at hM
 cases hlen:decide ((c.l.length:Int)≤9223372036854775807) with
 | false=>cases Qo hlen hM
 | true =>
 replace hM:=Qn hlen hM
 have hl1:c.l.length≤9223372036854775807:=by have:=of_decide_eq_true hlen; omega
 obtain ⟨o0,hF,e0⟩:=zF hM
 clear hM
 cases e0
 refine zP zl rfl ?_
 refine S.pad (K:=[(0,zw c),(1,V.i ship),(2,V.sl (List.map zA l))]) (Has.nil (H:=[])) fun i1 H1 g1=>?_
 refine X.sq ?_
 refine S.box g1 rfl rfl rfl fun ic H2 g2=>?_
 refine S.box g2 rfl rfl rfl fun ir H3 g3=>X.nq ?_
 refine S.box g3 rfl rfl rfl fun io H4 g4=>GS.zV ?_
 refine au 5 ?_
 refine X.norm [(1,V.i ship),(2,V.sl (List.map zA l)),(3,.ptr ic 0 0),(6,.ptr ir 0 0),(7,.ptr io 0 0),(8,V.i ((0:Nat):Int))] ?_ rfl (sr rfl)
 refine X.zGc (α:=List Blk×Nat×Nat×List (List zB)) (fun a=>⟨[(1,V.i ship),(2,V.sl (List.map zA l)),(3,.ptr ic 0 0),(6,.ptr ir 0 0),(7,.ptr io 0 0),(8,V.i ((a.2.2.1:Nat):Int))],a.1,0,none,68⟩)
  (fun a=>a.2.2.1≤c.l.length∧JE ship l (c.l.drop a.2.2.1) (a.2.2.1:Nat) a.2.2.2=some o0∧Has a.1 [(io,isB (.rows 1 [.agg [ovlz true a.2.1 a.2.2.2]])),(ir,isB (.rows 1 [.agg [V.nil]])),(ic,isB (.rows 1 [zw c])),(a.2.1,isB (oblz true 1 (fun l=>V.sl (List.map zA l)) a.2.2.2))])
  (fun a=>c.l.length - a.2.2.1) ?_ (H4,i1,0,[]) ⟨Nat.zero_le _,hF,g4⟩
 clear hF
 rintro ⟨H,i1,j,o⟩ ⟨hj,hM,hH⟩ hc
 simp only at hj hM hH hc ⊢
 refine au 4 ?_
 refine X.opR rfl (S.ld 2 hH rfl rfl rfl rfl rfl) rfl ?_
 refine au 3 ?_
 refine X.cond rfl (fun h1=>?_) (fun h1=>?_)
 ·have hj':j<c.l.length:=by have:=of_decide_eq_true h1; omega
  have hx:=S.ixn hj'
  rw [List.drop_eq_getElem_cons hj'] at hM
  generalize c.l[j]=row at hM hx
  unfold JE at hM
  rw [S.w64n hj' hl1] at hM
  refine GS.skip (GS.seq ?_)
  refine X.join (τ:=List Blk×Nat×List (List zB)) (fun v=>JE ship l (c.l.drop (j+1)) (j+1:Nat) v.2.2=some o0∧Has v.1 [(io,isB (.rows 1 [.agg [ovlz true v.2.1 v.2.2]])),(ir,isB (.rows 1 [.agg [V.nil]])),(ic,isB (.rows 1 [zw c])),(v.2.1,isB (oblz true 1 (fun l=>V.sl (List.map zA l)) v.2.2))]) (fun v=>⟨[(1,V.i ship),(2,V.sl (List.map zA l)),(3,.ptr ic 0 0),(6,.ptr ir 0 0),(7,.ptr io 0 0),(8,V.i ((j:Nat):Int))],v.1,0,none,68⟩) ?_ ?_
  ·rintro ⟨H,i1,o⟩ ⟨hM,hH⟩
   refine au 3 ?_
   rw [S.w64n hj' hl1]
   refine au 2 ?_
   exact X.norm [(1,V.i ship),(2,V.sl (List.map zA l)),(3,.ptr ic 0 0),(6,.ptr ir 0 0),(7,.ptr io 0 0),(8,V.i ((j+1:Nat):Int))] (hc ⟨H,i1,j+1,o⟩ ⟨hj',hM,hH⟩ (by simp only; omega)) rfl (sr rfl)
  clear hc
  intro hn
  refine au 7 ?_
  refine X.cond rfl (fun h2=>?_) (fun h2=>?_)
  ·replace hM:=Qn h2 hM
   obtain ⟨o2,h3,hM⟩:=zF hM
   refine au 2 ?_
   refine X.opR rfl (S.ld 0 hH rfl rfl rfl rfl rfl) rfl (X.q rfl ?_)
   refine GS.bldF rfl rfl rfl rfl ?_
   refine S.app 3 hH rfl h3 (fun _=>rfl) rfl rfl rfl rfl rfl rfl rfl S.b0 rfl rfl rfl fun i2 H hH=>X.q rfl ?_
   refine S.w0 0 hH rfl rfl (S.stO 0 hH rfl rfl rfl rfl rfl rfl rfl) fun H hH=>GS.zV ?_
   refine au 1 ?_
   exact X.norm _ (hn (H,i2,o2) ⟨hM,hH⟩) rfl (sr rfl)
  replace hM:=Qo h2 hM
  cases hl2:decide ((row.length:Int)≤9223372036854775807) with
  | false=>cases Qo hl2 hM
  | true =>
  replace hM:=Qn hl2 hM
  have hl3:row.length≤9223372036854775807:=by have:=of_decide_eq_true hl2; omega
  obtain ⟨q,hR,hM⟩:=zF hM
  obtain ⟨o2,h3,hM⟩:=zF hM
  refine GS.skip ?_
  refine S.pad hH fun i2 H hH=>?_
  refine au 7 ?_
  refine X.join (τ:=List Blk×Nat) (fun v=>Has v.1 [(v.2,isB (oblz true 2 zA q)),(io,isB (.rows 1 [.agg [ovlz true i1 o]])),(ir,isB (.rows 1 [.agg [V.nil]])),(ic,isB (.rows 1 [zw c])),(i1,isB (oblz true 1 (fun l=>V.sl (List.map zA l)) o))]) (fun v=>⟨[(1,V.i ship),(2,V.sl (List.map zA l)),(3,.ptr ic 0 0),(6,.ptr ir 0 0),(7,.ptr io 0 0),(8,V.i ((j:Nat):Int)),(9,ovlz true v.2 q)],v.1,0,none,68⟩) ?_ ?_
  ·clear hH hR
   rintro ⟨H,i2⟩ hH
   simp only at hH ⊢
   refine X.zIL 9 rfl (hH.is (k:=0) rfl) (hH.blt (k:=0) rfl) S.b0 (fun _=>rfl) ?_
   have hH2:=(hH.put (k:=0) (B:=.dead) rfl rfl).tail
   generalize hput H i2 .dead=H at hH2
   refine au 2 ?_
   refine X.opR rfl (S.ld 0 hH2 rfl rfl rfl rfl rfl) rfl (X.q rfl ?_)
   refine GS.bldF rfl rfl rfl rfl ?_
   refine S.app 3 hH2 rfl h3 (fun _=>rfl) rfl rfl rfl rfl rfl rfl rfl S.b0 rfl rfl rfl fun i2 H hH=>X.q rfl ?_
   refine S.w0 0 hH rfl rfl (S.stO 0 hH rfl rfl rfl rfl rfl rfl rfl) fun H hH=>GS.zV ?_
   exact X.norm _ (hn (H,i2,o2) ⟨hM,hH⟩) rfl (sr rfl)
  clear hM hn
  intro hn
  refine au 1 ?_
  refine X.norm [(1,V.i ship),(2,V.sl (List.map zA l)),(3,.ptr ic 0 0),(6,.ptr ir 0 0),(7,.ptr io 0 0),(8,V.i ((j:Nat):Int)),(9,ovlz true i2 ([]:List zB)),(10,V.i ((0:Nat):Int))] ?_ rfl (sr rfl)
  refine X.zGc (α:=List Blk×Nat×Nat×List zB) (fun a=>⟨[(1,V.i ship),(2,V.sl (List.map zA l)),(3,.ptr ic 0 0),(6,.ptr ir 0 0),(7,.ptr io 0 0),(8,V.i ((j:Nat):Int)),(9,ovlz true a.2.1 a.2.2.2),(10,V.i ((a.2.2.1:Nat):Int))],a.1,0,none,68⟩)
   (fun a=>a.2.2.1≤row.length∧JD l (row.drop a.2.2.1) a.2.2.2=some q∧Has a.1 [(a.2.1,isB (oblz true 2 zA a.2.2.2)),(io,isB (.rows 1 [.agg [ovlz true i1 o]])),(ir,isB (.rows 1 [.agg [V.nil]])),(ic,isB (.rows 1 [zw c])),(i1,isB (oblz true 1 (fun l=>V.sl (List.map zA l)) o))])
   (fun a=>row.length - a.2.2.1) ?_ (H,i2,0,[]) ⟨Nat.zero_le _,hR,hH⟩
  clear hR hH
  rintro ⟨H,i2,p,u⟩ ⟨hp,hR,hH⟩ hc
  simp only at hp hR hH hc ⊢
  refine au 4 ?_
  refine X.opR rfl (S.ld 3 hH rfl rfl rfl rfl rfl) rfl (X.q rfl ?_)
  refine X.opR rfl (X.Zh (f:=fun l=>V.sl (List.map zA l)) hx (fun _=>rfl) rfl rfl rfl rfl) rfl ?_
  refine au 4 ?_
  refine X.cond rfl (fun h4=>?_) (fun h4=>?_)
  ·have hp':p<row.length:=by have:=of_decide_eq_true h4; omega
   have hy:=S.ixn hp'
   rw [List.drop_eq_getElem_cons hp'] at hR
   generalize row[p]=y at hR hy
   unfold JD at hR
   obtain ⟨b,h5,hR⟩:=zF hR
   refine GS.skip (GS.seq ?_)
   refine X.join (τ:=List Blk×Nat×List zB) (fun v=>JD l (row.drop (p+1)) v.2.2=some q∧Has v.1 [(v.2.1,isB (oblz true 2 zA v.2.2)),(io,isB (.rows 1 [.agg [ovlz true i1 o]])),(ir,isB (.rows 1 [.agg [V.nil]])),(ic,isB (.rows 1 [zw c])),(i1,isB (oblz true 1 (fun l=>V.sl (List.map zA l)) o))]) (fun v=>⟨[(1,V.i ship),(2,V.sl (List.map zA l)),(3,.ptr ic 0 0),(6,.ptr ir 0 0),(7,.ptr io 0 0),(8,V.i ((j:Nat):Int)),(9,ovlz true v.2.1 v.2.2),(10,V.i ((p:Nat):Int))],v.1,0,none,68⟩) ?_ ?_
   ·rintro ⟨H,i2,u⟩ ⟨hR,hH⟩
    refine au 3 ?_
    rw [S.w64n hp' hl3]
    refine au 2 ?_
    exact X.norm [(1,V.i ship),(2,V.sl (List.map zA l)),(3,.ptr ic 0 0),(6,.ptr ir 0 0),(7,.ptr io 0 0),(8,V.i ((j:Nat):Int)),(9,ovlz true i2 u),(10,V.i ((p+1:Nat):Int))] (hc ⟨H,i2,p+1,u⟩ ⟨hp',hR,hH⟩ (by simp only; omega)) rfl (sr rfl)
   clear hc
   intro hn
   refine au 4 ?_
   refine X.opR rfl (S.ld 3 hH rfl rfl rfl rfl rfl) rfl (X.q rfl ?_)
   refine X.opR rfl (X.Zh (f:=fun l=>V.sl (List.map zA l)) hx (fun _=>rfl) rfl rfl rfl rfl) rfl ?_
   refine au 4 ?_
   refine X.ca (zC5 h5) ?_
   refine au 6 ?_
   refine X.cond rfl (fun h6=>?_) (fun h6=>?_)
   ·replace hR:=Qn h6 hR
    obtain ⟨u2,h7,hR⟩:=zF hR
    refine au 3 ?_
    refine X.opR rfl (S.ld 3 hH rfl rfl rfl rfl rfl) rfl (X.q rfl ?_)
    refine X.opR rfl (X.Zh (f:=fun l=>V.sl (List.map zA l)) hx (fun _=>rfl) rfl rfl rfl rfl) rfl ?_
    refine au 4 ?_
    refine GS.bldF rfl rfl rfl rfl ?_
    refine S.app 0 hH rfl h7 (fun _=>rfl) rfl rfl rfl rfl rfl rfl rfl S.b0 rfl rfl rfl fun i2 H hH=>X.q rfl ?_
    refine GS.zV ?_
    exact X.norm _ (hn (H,i2,u2) ⟨hR,hH⟩) rfl (sr rfl)
   exact GS.skip (X.norm _ (hn (H,i2,u) ⟨Qo h6 hR,hH⟩) rfl (sr rfl))
  ·replace h4:=of_decide_eq_false h4
   have hp':p=row.length:=by omega
   subst hp'
   rw [List.drop_length] at hR
   simp only [JD,Option.some.injEq] at hR
   subst hR
   exact GS.exit rfl (X.norm _ (hn (H,i2) hH) rfl (sr rfl))
 ·replace h1:=of_decide_eq_false h1
  have hj':j=c.l.length:=by omega
  subst hj'
  rw [List.drop_length] at hM
  simp only [JE,Option.some.injEq] at hM
  subst hM
  refine au 2 ?_
  refine X.opR rfl (S.ld 0 hH rfl rfl rfl rfl rfl) rfl ?_
  refine S.w0 1 hH rfl rfl (S.st 1 hH rfl rfl rfl rfl rfl rfl rfl) fun H hH=>GS.zV ?_
  exact GS.ret ⟨_,S.finC rfl rfl rfl rfl (hH.is (k:=1) rfl) rfl,FR.agg (.cons (FR.ovl (f:=fun l=>V.sl (List.map zA l)) 9 S.b0 (hH.is (k:=3) rfl) fun _=>rfl) .nil)⟩
abbrev zKL (x:zBy):V:=.agg [(V.sl (List.map V.i x.L)),(V.i x.E)]
def vN (l:List Int):V:=match l with
 | []=>V.nil
 | l=>.sl (l.map V.i)
theorem vN_ne {l:List Int} (h:l≠[]):vN l = .sl (l.map V.i):=by cases l with
 | nil=>exact absurd rfl h
 | cons=>rfl
theorem vN_cells (l:List Int):(vN l).cells=[vN l]:=by cases l <;> rfl
theorem vN_arg (l:List Int) {H:List Blk} {fl:Bool}:zGS H fl (vN l) (.sl (l.map V.i)):=by cases l with
 | nil=>exact .nil (n:=1) rfl
 | cons=>exact .shut (n:=9) (by simp only [vN]; rfl)
theorem vN_fr (l:List Int) {H:List Blk} {lo:Nat}:FR H lo (vN l) (.sl (l.map V.i)):=by cases l with
 | nil=>exact ⟨1,rfl⟩
 | cons=>exact ⟨1,rfl⟩
set_option maxHeartbeats 1000000 in
theorem zIw {h:zG} {l:List zJ} {r:zBy} (hM:qN h l=some r):Ct Tryz.prog 12 [zD h,V.sl (List.map zH l)] (zKL r):=by
 unfold qN at hM
 obtain ⟨e,h1,hM⟩:=zF hM
 refine zP zl rfl ?_
 refine X.sq ?_
 refine S.box (K:=[(0,zD h),(1,V.sl (List.map zH l))]) (Has.nil (H:=[])) rfl rfl rfl fun ih H g1=>?_
 refine S.box g1 rfl rfl rfl fun ir H g2=>X.nq ?_
 refine X.opR rfl (S.ld 1 g2 rfl rfl rfl rfl rfl) rfl (X.q rfl ?_)
 refine X.call (Qr h1) rfl rfl rfl (.cons (.shut (n:=9) rfl) (.cons (.shut (n:=9) rfl) .nil)) (X.q rfl (GS.zV ?_))
 refine GS.seq (X.sq (X.q rfl (X.q rfl (GS.zV ?_))))
 refine X.cond rfl (fun h2=>?_) (fun h2=>?_)
 ·replace hM:=Qn h2 hM
  cases hM
  refine X.sq (X.q rfl (X.q rfl ?_))
  refine S.w0 0 g2 rfl rfl (S.st 0 g2 rfl rfl rfl rfl rfl rfl rfl) fun H g3=>GS.zV ?_
  exact GS.ret ⟨_,S.finC rfl rfl rfl rfl (g3.is (k:=0) rfl) rfl,⟨30,rfl⟩⟩
 replace hM:=Qo h2 hM
 obtain ⟨c,h3,hM⟩:=zF hM
 obtain ⟨n,h4,hM⟩:=zF hM
 cases hlen:decide ((l.length:Int)≤9223372036854775807) with
 | false=>cases Qo hlen hM
 | true =>
 replace hM:=Qn hlen hM
 have hl1:l.length≤9223372036854775807:=by have:=of_decide_eq_true hlen; omega
 obtain ⟨o0,hF,e0⟩:=zF hM
 clear hM
 cases e0
 refine GS.skip (X.sq ?_)
 refine X.opR rfl (S.ld 1 g2 rfl rfl rfl rfl rfl) rfl (X.q rfl ?_)
 refine X.call (zCl h3) rfl rfl rfl (.cons (.shut (n:=9) rfl) (.cons (.shut (n:=9) rfl) .nil)) ?_
 refine S.box g2 rfl rfl rfl fun ic H g3=>?_
 refine S.w0 0 g3 rfl rfl (S.st 0 g3 rfl rfl rfl rfl rfl rfl rfl) fun H g4=>X.nq ?_
 refine X.opR rfl (S.ld 0 g4 rfl rfl rfl rfl rfl) rfl ?_
 refine X.call (zCX h4) rfl rfl rfl (.cons (.shut (n:=9) rfl) .nil) (X.q rfl (X.nq (X.q rfl ?_)))
 refine S.box g4 rfl rfl rfl fun io H g5=>?_
 refine S.w0 0 g5 rfl rfl (S.st 0 g5 rfl rfl rfl rfl rfl rfl rfl) fun H g6=>GS.zV ?_
 refine GS.seq (X.sq (X.q rfl (GS.zV (GS.block ?_))))
 refine X.norm [(1,V.sl (List.map zH l)),(4,.ptr ir 0 0),(6,.ptr ic 0 0),(7,V.i n),(8,.ptr io 0 0),(9,V.i ((0:Nat):Int))] ?_ rfl (sr rfl)
 refine X.zGc (α:=List Blk×Nat×List Int) (fun a=>⟨[(1,V.sl (List.map zH l)),(4,.ptr ir 0 0),(6,.ptr ic 0 0),(7,V.i n),(8,.ptr io 0 0),(9,V.i ((a.2.1:Nat):Int))],a.1,0,none,45⟩)
  (fun a=>a.2.1≤l.length∧yF c n (l.drop a.2.1) (a.2.1:Nat) a.2.2=some o0∧Has a.1 [(io,isB (.rows 2 [.agg [vN a.2.2,V.i 0]])),(ic,isB (.rows 1 [zw c])),(ir,isB (.rows 2 [.agg [V.nil,V.i 0]]))])
  (fun a=>l.length - a.2.1) ?_ (H,0,[]) ⟨Nat.zero_le _,hF,Has.pick (R:=[]) (A:=[_,_,_,_]) [0,1,2] rfl (by decide) g6⟩
 clear hF
 rintro ⟨H,j,o⟩ ⟨hj,hF,hH⟩ hc
 simp only at hj hF hH hc ⊢
 refine GS.seq (X.sq (X.q rfl (X.q rfl ?_)))
 refine X.opR rfl (X.lenF rfl rfl rfl) rfl (X.q rfl (GS.zV ?_))
 refine X.cond rfl (fun h5=>?_) (fun h5=>?_)
 ·have hj':j<l.length:=by have:=of_decide_eq_true h5; omega
  have hx:=S.ixn hj'
  rw [List.drop_eq_getElem_cons hj'] at hF
  generalize l[j]=x at hF hx
  unfold yF at hF
  rw [S.w64n hj' hl1] at hF
  obtain ⟨d,h6,hF⟩:=zF hF
  obtain ⟨m,h7,hF⟩:=zF hF
  refine GS.skip (GS.seq (X.join (τ:=List Blk×List Int) (fun v=>yF c n (l.drop (j+1)) (j+1:Nat) v.2=some o0∧Has v.1 [(io,isB (.rows 2 [.agg [vN v.2,V.i 0]])),(ic,isB (.rows 1 [zw c])),(ir,isB (.rows 2 [.agg [V.nil,V.i 0]]))]) (fun v=>⟨[(1,V.sl (List.map zH l)),(4,.ptr ir 0 0),(6,.ptr ic 0 0),(7,V.i n),(8,.ptr io 0 0),(9,V.i ((j:Nat):Int))],v.1,0,none,45⟩) ?_ ?_))
  ·rintro ⟨H,o⟩ ⟨hF,hH⟩
   refine GS.region (X.q rfl ?_)
   refine X.opR rfl (X.addE rfl rfl) rfl ?_
   rw [S.w64n hj' hl1]
   refine X.q rfl (GS.zV ?_)
   exact X.norm [(1,V.sl (List.map zH l)),(4,.ptr ir 0 0),(6,.ptr ic 0 0),(7,V.i n),(8,.ptr io 0 0),(9,V.i ((j+1:Nat):Int))] (hc ⟨H,j+1,o⟩ ⟨hj',hF,hH⟩ (by simp only; omega)) rfl (sr rfl)
  clear hc
  intro hn
  refine GS.block (X.sq ?_)
  refine X.opR rfl (S.ld 1 hH rfl rfl rfl rfl rfl) rfl (X.q rfl ?_)
  refine X.call (zHl h6) rfl rfl rfl (.cons (.shut (n:=9) rfl) (.cons (.shut (n:=9) rfl) (.cons (.nil (n:=9) rfl) .nil))) ?_
  refine X.call (zCX h7) rfl rfl rfl (.cons (.shut (n:=9) rfl) .nil) (X.q rfl (X.q rfl (GS.zV ?_)))
  refine X.cond rfl (fun h8=>?_) (fun h8=>?_)
  ·replace hF:=Qn h8 hF
   obtain ⟨o2,h9,hF⟩:=zF hF
   cases h10:decide (o2=[]) with
   | true=>cases Qn h10 hF
   | false =>
   replace hF:=Qo h10 hF
   have hne:=of_decide_eq_false h10
   refine S.cut 9 rfl (by kernel_rfl) (by kernel_rfl) rfl ?_
   refine X.cop rfl rfl rfl rfl ?_
   refine X.cop rfl (S.ld 0 hH rfl rfl rfl rfl rfl) rfl rfl ?_
   iterate 2 refine X.cop rfl rfl rfl rfl ?_
   refine X.cop rfl (X.Zh (f:=zH) hx (fun _=>rfl) rfl rfl rfl rfl) rfl rfl ?_
   refine X.cop rfl rfl rfl rfl ?_
   refine X.cop rfl (X.JA hx rfl rfl rfl) rfl rfl ?_
   refine X.ccall (zG1 h9) rfl rfl rfl rfl (.cons (vN_arg o) (.cons (.shut (n:=9) rfl) .nil)) ?_
   refine X.cop rfl rfl rfl rfl ?_
   refine X.cnil ?_
   refine S.w0 0 hH rfl rfl (S.st 0 hH rfl rfl rfl rfl rfl rfl rfl) fun H hH=>GS.zV ?_
   refine X.norm _ (hn (H,o2) ⟨hF,?_⟩) rfl (sr rfl)
   rw [vN_ne hne]; exact hH
  exact GS.skip (X.norm _ (hn (H,o) ⟨Qo h8 hF,hH⟩) rfl (sr rfl))
 ·replace h5:=of_decide_eq_false h5
  have hj':j=l.length:=by omega
  subst hj'
  rw [List.drop_length] at hF
  simp only [yF,Option.some.injEq] at hF
  subst hF
  refine GS.exit rfl (X.sq ?_)
  refine X.opR rfl (S.ld 0 hH rfl rfl rfl rfl rfl) rfl ?_
  refine S.w0 2 hH rfl rfl (S.st 2 hH rfl rfl rfl rfl rfl rfl rfl) fun H hH=>GS.zV ?_
  exact GS.ret ⟨_,S.finC rfl rfl rfl rfl (hH.is (k:=2) rfl) rfl,FR.agg (.cons (vN_fr o) (.cons ⟨9,rfl⟩ .nil))⟩
theorem zCJ {a:(List Int)} {b:(List Int)} {r:Bool} (hM:Y9 a b=some r):Ct Tryz.prog 13 [(V.sl (List.map V.i a)),(V.sl (List.map V.i b))] (V.b r):=by
 refine zP zl rfl ?_
 unfold Y9 at hM
 refine au 11 ?_
 refine X.cm hM (fun h_1 hM=>?_) (fun h_1 hM=>?_)
 ·refine au 3 ?_
  cases hM
  exact X.rt
 refine au 5 ?_
 refine X.join (τ:=Unit) (fun v=>Yz=some r) (fun v=>⟨[],[],0,none,26⟩) ?_ ?_
 ·intro _ hM
  replace hM:Yz=some r:=hM
  unfold Yz at hM
  refine au 3 ?_
  cases hM
  exact X.rt
 intro hj_1
 refine au 1 ?_
 refine X.gx [] (X.loop (σ:=Int) (fun v=>⟨[(0,(V.sl (List.map V.i a))),(1,(V.sl (List.map V.i b))),(5,(V.i v))],[],0,none,26⟩) hM ?_ rfl)
 intro i b_1 hM hc_2 hr_1
 rw [Y0] at hM
 refine au 7 ?_
 refine X.cm hM (fun h_2 hM=>?_) (fun h_2 hM=>?_)
 ·obtain ⟨x,h_3,hM⟩:=zF hM
  obtain ⟨x1,h_4,hM⟩:=zF hM
  refine au 15 ?_
  refine X.norm [(0,(V.sl (List.map V.i a))),(1,(V.sl (List.map V.i b))),(5,(V.i i)),(25,(V.b (!decide (x=x1))))] ?_ rfl (sr rfl)
  refine X.cm hM (fun h_5 hM=>?_) (fun h_5 hM=>?_)
  ·refine au 3 ?_
   have hE:=Option.some.inj hM
   replace hE:=hr_1 _ hE.symm
   subst hE
   exact X.rt
  refine au 7 ?_
  have hE:=Option.some.inj hM
  exact X.gx [] (hc_2 (w64 (i+1)) hE.symm)
 obtain ⟨y_1,hM,hy⟩:=zz hM
 rw [hr_1 _ hy.symm] at hM
 refine au 1 ?_
 exact X.gx [] (hj_1 () hM)
set_option maxHeartbeats 4000000 in
theorem zEx {h:zG} {l:(List zJ)} {x:zZ} {r:Bool} (hM:Yf h l x=some r):Ct Tryz.prog 3 [(zD h),(V.sl (List.map zH l)),(Zq x)] (V.b r):=by
 refine zP zl rfl ?_
 unfold Yf at hM
 obtain ⟨y,h_1,hM⟩:=zF hM
 refine au 7 ?_
 refine X.mid [(41,(V.b ((((!y)||(!(zBn l 6)))||(decide (20<(x.Calls.length:Int))))||(decide (80<(x.Slots.length:Int)))))),(1,(V.sl (List.map zH l))),(3,(V.ptr 0 0 0)),(5,(V.ptr 1 0 0))] ?_ ?_
 ·intro hg
  refine X.split (!y) (fun h_2=>?_) (fun h_2=>?_)
  ·refine X.q rfl ?_
   refine X.ca (zAJ h_1) ?_
   refine au 19 ?_
   exact X.ng hg rfl (by simp only [h_2,X.bb])
  refine X.split (!(zBn l 6)) (fun h_3=>?_) (fun h_3=>?_)
  ·refine X.q rfl ?_
   refine X.ca (zAJ h_1) ?_
   refine au 3 ?_
   refine X.ca (zC6 l 6) ?_
   refine au 15 ?_
   exact X.ng hg rfl (by simp only [h_2,h_3,X.bb])
  refine X.split (decide (20<(x.Calls.length:Int))) (fun h_4=>?_) (fun h_4=>?_)
  ·refine X.q rfl ?_
   refine X.ca (zAJ h_1) ?_
   refine au 3 ?_
   refine X.ca (zC6 l 6) ?_
   refine au 15 ?_
   exact X.ng hg rfl (by simp only [h_2,h_3,h_4,X.bb])
  refine X.q rfl ?_
  refine X.ca (zAJ h_1) ?_
  refine au 3 ?_
  refine X.ca (zC6 l 6) ?_
  refine au 15 ?_
  exact X.ng hg rfl (by simp only [h_2,h_3,h_4,X.bb])
 refine X.cm hM (fun h_5 hM=>?_) (fun h_5 hM=>?_)
 ·obtain ⟨y1,h_6,hM⟩:=zF hM
  refine X.sq ?_
  refine X.call (J9 h_6) rfl rfl rfl .nil ?_
  refine au 2 ?_
  cases hM
  exact X.rt
 obtain ⟨y2,h_7,hM⟩:=zF hM
 refine au 4 ?_
 refine X.ca (zEd h_7) ?_
 refine au 5 ?_
 refine X.op0W rfl rfl rfl ?_
 obtain ⟨y3,h_8,hM⟩:=zF hM
 refine au 6 ?_
 refine X.ca (zIx h_8) ?_
 refine X.opW (H':=[.rows 6 [(zD h)],.rows 2 [(Zq x)],.rows 2 [(Zq y2.1)],.rows 2 [(V.agg [(V.i 0),(V.i 0)])]]) rfl rfl rfl rfl ?_
 refine X.op0W (H':=[.rows 6 [(zD h)],.rows 2 [(Zq x)],.rows 2 [(Zq y2.1)],.rows 2 [(zEk y3)]]) rfl rfl rfl ?_
 refine au 3 ?_
 refine X.mid [(1,(V.sl (List.map zH l))),(3,(V.ptr 0 0 0)),(5,(V.ptr 1 0 0)),(7,(V.ptr 2 0 0)),(8,(V.b y2.2.1)),(10,(V.ptr 3 0 0)),(85,(V.b (((!decide (y2.2.2=y3.E))||(!(y2.2.1==((decide (y2.2.2=0))&&(decide (y3.N<(l.length:Int)))))))||((!y2.2.1)&&((decide (0<(y2.1.Calls.length:Int)))||(decide (0<(y2.1.Slots.length:Int))))))))] ?_ ?_
 ·intro hg
  refine X.split (!decide (y2.2.2=y3.E)) (fun h_9=>?_) (fun h_9=>?_)
  ·refine au 16 ?_
   refine X.opR rfl (X.zCj (y := !(y2.2.1==((decide (y2.2.2=0))&&(decide (y3.N<(l.length:Int)))))) rfl h_9 rfl) rfl (X.q rfl ?_)
   iterate 3 refine X.off (X.zMZ rfl rfl rfl (X.zN1 h_9)) rfl ?_
   refine au 10 ?_
   refine X.off (X.zMZ rfl rfl rfl (X.zN1 h_9)) rfl ?_
   refine X.opR rfl (X.zCj (y:=((!y2.2.1)&&((decide (0<(y2.1.Calls.length:Int)))||(decide (0<(y2.1.Slots.length:Int)))))) rfl (X.zN1 h_9) rfl) rfl ?_
   refine GS.zV ?_
   exact X.nm hg
  refine X.split (decide (y2.2.2=0)) (fun h_10=>?_) (fun h_10=>?_)
  ·refine X.split (((!decide (y2.2.2=y3.E))||(!(y2.2.1==((decide (y2.2.2=0))&&(decide (y3.N<(l.length:Int)))))))) (fun h_11=>?_) (fun h_11=>?_)
   ·refine au 14 ?_
    refine X.opR (X.on_f rfl rfl rfl h_9) (X.qa (y:=decide (y3.N<(l.length:Int))) rfl h_10 rfl) rfl ?_
    refine au 1 ?_
    refine X.opR rfl (X.JZ (y := !(y2.2.1==((decide (y2.2.2=0))&&(decide (y3.N<(l.length:Int)))))) rfl h_9 rfl) rfl ?_
    refine au 15 ?_
    refine X.opR rfl (X.zCj (y:=((!y2.2.1)&&((decide (0<(y2.1.Calls.length:Int)))||(decide (0<(y2.1.Slots.length:Int)))))) rfl h_11 rfl) rfl ?_
    refine GS.zV ?_
    exact X.nm hg
   refine X.split (!y2.2.1) (fun h_12=>?_) (fun h_12=>?_)
   ·refine X.split (decide (0<(y2.1.Calls.length:Int))) (fun h_13=>?_) (fun h_13=>?_)
    ·refine au 14 ?_
     refine X.opR (X.on_f rfl rfl rfl h_9) (X.qa (y:=decide (y3.N<(l.length:Int))) rfl h_10 rfl) rfl ?_
     refine au 1 ?_
     refine X.opR rfl (X.JZ (y := !(y2.2.1==((decide (y2.2.2=0))&&(decide (y3.N<(l.length:Int)))))) rfl h_9 rfl) rfl ?_
     refine au 13 ?_
     refine X.opR (X.on_t rfl rfl rfl h_12) (X.zCj (y:=decide (0<(y2.1.Slots.length:Int))) rfl h_13 rfl) rfl ?_
     refine X.opR (X.on_f rfl rfl rfl h_11) (X.qa (y:=((decide (0<(y2.1.Calls.length:Int)))||(decide (0<(y2.1.Slots.length:Int))))) rfl h_12 rfl) rfl ?_
     refine X.opR rfl (X.JZ (y:=((!y2.2.1)&&((decide (0<(y2.1.Calls.length:Int)))||(decide (0<(y2.1.Slots.length:Int)))))) rfl h_11 rfl) rfl ?_
     refine GS.zV ?_
     exact X.nm hg
    refine au 14 ?_
    refine X.opR (X.on_f rfl rfl rfl h_9) (X.qa (y:=decide (y3.N<(l.length:Int))) rfl h_10 rfl) rfl ?_
    refine au 1 ?_
    refine X.opR rfl (X.JZ (y := !(y2.2.1==((decide (y2.2.2=0))&&(decide (y3.N<(l.length:Int)))))) rfl h_9 rfl) rfl ?_
    refine au 13 ?_
    refine X.opR (X.on_t rfl rfl rfl h_12) (X.JZ (y:=decide (0<(y2.1.Slots.length:Int))) rfl h_13 rfl) rfl ?_
    refine X.opR (X.on_f rfl rfl rfl h_11) (X.qa (y:=((decide (0<(y2.1.Calls.length:Int)))||(decide (0<(y2.1.Slots.length:Int))))) rfl h_12 rfl) rfl ?_
    refine X.opR rfl (X.JZ (y:=((!y2.2.1)&&((decide (0<(y2.1.Calls.length:Int)))||(decide (0<(y2.1.Slots.length:Int)))))) rfl h_11 rfl) rfl ?_
    refine GS.zV ?_
    exact X.nm hg
   refine au 14 ?_
   refine X.opR (X.on_f rfl rfl rfl h_9) (X.qa (y:=decide (y3.N<(l.length:Int))) rfl h_10 rfl) rfl ?_
   refine au 1 ?_
   refine X.opR rfl (X.JZ (y := !(y2.2.1==((decide (y2.2.2=0))&&(decide (y3.N<(l.length:Int)))))) rfl h_9 rfl) rfl ?_
   refine au 14 ?_
   refine X.opR (X.on_f rfl rfl rfl h_11) (X.zBm (y:=((decide (0<(y2.1.Calls.length:Int)))||(decide (0<(y2.1.Slots.length:Int))))) rfl h_12 rfl) rfl ?_
   refine X.opR rfl (X.JZ (y:=((!y2.2.1)&&((decide (0<(y2.1.Calls.length:Int)))||(decide (0<(y2.1.Slots.length:Int)))))) rfl h_11 rfl) rfl ?_
   refine GS.zV ?_
   exact X.nm hg
  refine X.split (((!decide (y2.2.2=y3.E))||(!(y2.2.1==((decide (y2.2.2=0))&&(decide (y3.N<(l.length:Int)))))))) (fun h_14=>?_) (fun h_14=>?_)
  ·refine au 14 ?_
   refine X.opR (X.on_f rfl rfl rfl h_9) (X.zBm (y:=decide (y3.N<(l.length:Int))) rfl h_10 rfl) rfl ?_
   refine au 1 ?_
   refine X.opR rfl (X.JZ (y := !(y2.2.1==((decide (y2.2.2=0))&&(decide (y3.N<(l.length:Int)))))) rfl h_9 rfl) rfl ?_
   refine au 15 ?_
   refine X.opR rfl (X.zCj (y:=((!y2.2.1)&&((decide (0<(y2.1.Calls.length:Int)))||(decide (0<(y2.1.Slots.length:Int)))))) rfl h_14 rfl) rfl ?_
   refine GS.zV ?_
   exact X.nm hg
  refine X.split (!y2.2.1) (fun h_15=>?_) (fun h_15=>?_)
  ·refine X.split (decide (0<(y2.1.Calls.length:Int))) (fun h_16=>?_) (fun h_16=>?_)
   ·refine au 14 ?_
    refine X.opR (X.on_f rfl rfl rfl h_9) (X.zBm (y:=decide (y3.N<(l.length:Int))) rfl h_10 rfl) rfl ?_
    refine au 1 ?_
    refine X.opR rfl (X.JZ (y := !(y2.2.1==((decide (y2.2.2=0))&&(decide (y3.N<(l.length:Int)))))) rfl h_9 rfl) rfl ?_
    refine au 13 ?_
    refine X.opR (X.on_t rfl rfl rfl h_15) (X.zCj (y:=decide (0<(y2.1.Slots.length:Int))) rfl h_16 rfl) rfl ?_
    refine X.opR (X.on_f rfl rfl rfl h_14) (X.qa (y:=((decide (0<(y2.1.Calls.length:Int)))||(decide (0<(y2.1.Slots.length:Int))))) rfl h_15 rfl) rfl ?_
    refine X.opR rfl (X.JZ (y:=((!y2.2.1)&&((decide (0<(y2.1.Calls.length:Int)))||(decide (0<(y2.1.Slots.length:Int)))))) rfl h_14 rfl) rfl ?_
    refine GS.zV ?_
    exact X.nm hg
   refine au 14 ?_
   refine X.opR (X.on_f rfl rfl rfl h_9) (X.zBm (y:=decide (y3.N<(l.length:Int))) rfl h_10 rfl) rfl ?_
   refine au 1 ?_
   refine X.opR rfl (X.JZ (y := !(y2.2.1==((decide (y2.2.2=0))&&(decide (y3.N<(l.length:Int)))))) rfl h_9 rfl) rfl ?_
   refine au 13 ?_
   refine X.opR (X.on_t rfl rfl rfl h_15) (X.JZ (y:=decide (0<(y2.1.Slots.length:Int))) rfl h_16 rfl) rfl ?_
   refine X.opR (X.on_f rfl rfl rfl h_14) (X.qa (y:=((decide (0<(y2.1.Calls.length:Int)))||(decide (0<(y2.1.Slots.length:Int))))) rfl h_15 rfl) rfl ?_
   refine X.opR rfl (X.JZ (y:=((!y2.2.1)&&((decide (0<(y2.1.Calls.length:Int)))||(decide (0<(y2.1.Slots.length:Int)))))) rfl h_14 rfl) rfl ?_
   refine GS.zV ?_
   exact X.nm hg
  refine au 14 ?_
  refine X.opR (X.on_f rfl rfl rfl h_9) (X.zBm (y:=decide (y3.N<(l.length:Int))) rfl h_10 rfl) rfl ?_
  refine au 1 ?_
  refine X.opR rfl (X.JZ (y := !(y2.2.1==((decide (y2.2.2=0))&&(decide (y3.N<(l.length:Int)))))) rfl h_9 rfl) rfl ?_
  refine au 14 ?_
  refine X.opR (X.on_f rfl rfl rfl h_14) (X.zBm (y:=((decide (0<(y2.1.Calls.length:Int)))||(decide (0<(y2.1.Slots.length:Int))))) rfl h_15 rfl) rfl ?_
  refine X.opR rfl (X.JZ (y:=((!y2.2.1)&&((decide (0<(y2.1.Calls.length:Int)))||(decide (0<(y2.1.Slots.length:Int)))))) rfl h_14 rfl) rfl ?_
  refine GS.zV ?_
  exact X.nm hg
 refine X.cm hM (fun h_17 hM=>?_) (fun h_17 hM=>?_)
 ·refine au 3 ?_
  cases hM
  exact X.rt
 refine au 5 ?_
 refine X.join (τ:=Unit) (fun v=>Z9 h l x=some r) (fun v=>⟨[(1,(V.sl (List.map zH l))),(3,(V.ptr 0 0 0)),(5,(V.ptr 1 0 0))],[.rows 6 [(zD h)],.rows 2 [(Zq x)]],0,none,167⟩) ?_ ?_
 ·intro _ hM
  replace hM:Z9 h l x=some r:=hM
  unfold Z9 at hM
  obtain ⟨y4,h_18,hM⟩:=zF hM
  refine au 4 ?_
  refine X.ca (qP h_18) ?_
  obtain ⟨y5,h_19,hM⟩:=zF hM
  refine au 10 ?_
  refine X.ca (zB1 h_19) ?_
  obtain ⟨y6,h_20,hM⟩:=zF hM
  refine au 9 ?_
  refine X.ca (zI0 h_20) ?_
  obtain ⟨y7,h_21,hM⟩:=zF hM
  refine au 9 ?_
  refine X.ca (zIw h_21) ?_
  refine au 1 ?_
  refine X.op0W rfl rfl rfl ?_
  obtain ⟨y8,h_22,hM⟩:=zF hM
  obtain ⟨y9,h_23,hM⟩:=Q5 hM
  refine au 2 ?_
  refine X.mid [(6,(V.b ((((y8&&(decide (y4.1=y5.1)))&&(decide (y4.2=y5.2)))&&y9)&&(decide (y6.2=y7.E)))))] ?_ ?_
  ·intro hg
   refine X.split (y8) (fun h_24=>?_) (fun h_24=>?_)
   ·refine X.split (decide (y4.1=y5.1)) (fun h_25=>?_) (fun h_25=>?_)
    ·refine X.split (decide (y4.2=y5.2)) (fun h_26=>?_) (fun h_26=>?_)
     ·refine X.split (y9) (fun h_27=>?_) (fun h_27=>?_)
      ·refine X.call (J9 h_22) rfl rfl rfl .nil ?_
       refine au 14 ?_
       refine X.ca (zCJ (h_23 (X.zK (X.zK h_24 h_25) h_26))) ?_
       refine au 9 ?_
       exact X.ng hg rfl (by simp only [h_24,h_25,h_26,h_27,X.bb])
      refine X.call (J9 h_22) rfl rfl rfl .nil ?_
      refine au 14 ?_
      refine X.ca (zCJ (h_23 (X.zK (X.zK h_24 h_25) h_26))) ?_
      refine au 9 ?_
      exact X.ng hg rfl (by simp only [h_24,h_25,h_26,h_27,X.bb])
     refine X.call (J9 h_22) rfl rfl rfl .nil ?_
     refine au 24 ?_
     exact X.ng hg rfl (by simp only [h_24,h_25,h_26,X.bb])
    refine X.call (J9 h_22) rfl rfl rfl .nil ?_
    refine au 24 ?_
    exact X.ng hg rfl (by simp only [h_24,h_25,X.bb])
   refine X.call (J9 h_22) rfl rfl rfl .nil ?_
   refine au 24 ?_
   exact X.ng hg rfl (by simp only [h_24,X.bb])
  cases hM
  exact X.rt
 intro hj_1
 refine X.cm hM (fun h_28 hM=>?_) (fun h_28 hM=>?_)
 ·obtain ⟨y10,h_29,hM⟩:=zF hM
  refine au 4 ?_
  refine X.ca (zB1 h_29) ?_
  obtain ⟨y11,h_30,hM⟩:=zF hM
  refine au 10 ?_
  refine X.ca (qP h_30) ?_
  refine au 7 ?_
  refine X.mid [(120,(V.b ((((!decide (y10.2=0))||(!decide (y10.1=(w64 ((l.length:Int) - y3.N)))))||(!decide (y11.2=0)))||(!decide (y11.1=y10.1))))),(1,(V.sl (List.map zH l))),(3,(V.ptr 0 0 0)),(5,(V.ptr 1 0 0))] ?_ ?_
  ·intro hg
   refine X.split (!decide (y10.2=0)) (fun h_31=>?_) (fun h_31=>?_)
   ·refine au 21 ?_
    exact X.ng hg rfl (by simp only [h_31,X.bb])
   refine X.split (!decide (y10.1=(w64 ((l.length:Int) - y3.N)))) (fun h_32=>?_) (fun h_32=>?_)
   ·refine au 21 ?_
    exact X.ng hg rfl (by simp only [h_31,h_32,X.bb])
   refine X.split (!decide (y11.2=0)) (fun h_33=>?_) (fun h_33=>?_)
   ·refine au 21 ?_
    exact X.ng hg rfl (by simp only [h_31,h_32,h_33,X.bb])
   refine au 21 ?_
   exact X.ng hg rfl (by simp only [h_31,h_32,h_33,X.bb])
  refine X.cm hM (fun h_34 hM=>?_) (fun h_34 hM=>?_)
  ·refine au 3 ?_
   cases hM
   exact X.rt
  refine GS.skip ?_
  exact X.gx [some 0,some 1] (hj_1 () hM)
 refine GS.skip ?_
 exact X.gx [some 0,some 1] (hj_1 () hM)
end Go.Proofs.YtmebbbblomlgdaaGreat
