/- The program's functions compute the plain ones. Conditions: none. Printed by a program (wip/tools/xg.py). -/
import Derived.Test.YtmebbbblomlgdaaGreatP1
import Derived.Test.YtmebbbblomlgdaaGreatAu
set_option linter.unusedVariables false
set_option linter.unusedSimpArgs false
set_option maxRecDepth 4000
namespace Go.Proofs.YtmebbbblomlgdaaGreat
open Go Go.Am Go.Proofs Go.Mx
set_option maxHeartbeats 4000000 in
theorem zG3 {cost:(List (List Int))} {places:Int} {r:(List Int)×Int} (hM:Jk cost places=some r):Ct Tryz.prog 55 [(V.sl (List.map (fun l=>V.sl (List.map V.i l)) cost)),(V.i places)] (V.tup [(V.sl (List.map V.i r.1)),(V.i r.2)]):=by
 refine zP zl rfl ?_
 unfold Jk at hM
 obtain ⟨l,h_1,hM⟩:=zF hM
 refine au 8 ?_
 refine X.opW rfl (X.zFY (f:=V.i) h_1 rfl rfl rfl rfl rfl rfl rfl rfl) rfl rfl ?_
 obtain ⟨l1,h_2,hM⟩:=zF hM
 refine au 5 ?_
 refine X.opW rfl (X.zFY (f:=V.i) h_2 rfl rfl rfl rfl rfl rfl rfl rfl) rfl rfl ?_
 obtain ⟨l2,h_3,hM⟩:=zF hM
 refine au 5 ?_
 refine X.opW rfl (X.zFY (f:=V.i) h_3 rfl rfl rfl rfl rfl rfl rfl rfl) rfl rfl ?_
 refine au 6 ?_
 refine X.join (τ:=(List Int)) (fun v=>JW cost places v=some r) (fun v=>⟨[(0,(V.sl (List.map (fun l=>V.sl (List.map V.i l)) cost))),(1,(V.i places)),(8,(V.osl 0 0 (List.length v)))],[.rows 1 (List.map V.i v)],0,none,215⟩) ?_ ?_
 ·intro l3 hM
  replace hM:JW cost places l3=some r:=hM
  unfold JW at hM
  obtain ⟨l4,h_4,hM⟩:=zF hM
  refine au 3 ?_
  refine X.opW rfl (X.zFY (f:=V.i) h_4 rfl rfl rfl rfl rfl rfl rfl rfl) rfl rfl ?_
  refine au 9 ?_
  refine X.join (τ:=Int×(List Int)) (fun v=>Yk v.1 v.2=some r) (fun v=>⟨[(21,(V.osl 0 0 (List.length v.2))),(22,(V.i v.1))],[.rows 1 (List.map V.i v.2)],0,none,215⟩) ?_ ?_
  ·rintro ⟨sum,l5⟩ hM
   replace hM:Yk sum l5=some r:=hM
   unfold Yk at hM
   refine au 6 ?_
   have hE:=Option.some.inj hM
   subst hE
   exact GS.ret ⟨_,rfl,FR.tup (.cons (FR.osl (f:=V.i) (l:=l5) 9 rfl rfl (fun _=>rfl)) (.cons ⟨30,rfl⟩ .nil))⟩
  intro hj_2
  refine au 1 ?_
  refine X.gx [some 0,some 1] (X.loop (σ:=(Int×Int×(List Int))) (fun v=>⟨[(0,(V.sl (List.map (fun l=>V.sl (List.map V.i l)) cost))),(1,(V.i places)),(8,(V.osl 0 0 (List.length l3))),(21,(V.osl 1 0 (List.length v.2.2))),(22,(V.i v.1)),(23,(V.i v.2.1))],[.rows 1 (List.map V.i l3),.rows 1 (List.map V.i v.2.2)],0,none,215⟩) hM ?_ rfl)
  rintro ⟨sum2,k,l7⟩ b_1 hM hc_3 hr_1
  rw [yC] at hM
  refine au 6 ?_
  refine X.cm hM (fun h_5 hM=>?_) (fun h_5 hM=>?_)
  ·refine GS.skip (GS.seq ?_)
   refine X.join (τ:=Int×(List Int)) (fun v=>JV k v.1 v.2=some b_1) (fun v=>⟨[(0,(V.sl (List.map (fun l=>V.sl (List.map V.i l)) cost))),(1,(V.i places)),(8,(V.osl 0 0 (List.length l3))),(21,(V.osl 1 0 (List.length v.2))),(22,(V.i v.1)),(23,(V.i k))],[.rows 1 (List.map V.i l3),.rows 1 (List.map V.i v.2)],0,none,215⟩) ?_ ?_
   ·rintro ⟨sum1,l6⟩ hM
    replace hM:JV k sum1 l6=some b_1:=hM
    unfold JV at hM
    refine au 5 ?_
    have hE:=Option.some.inj hM
    exact X.gx [some 0,some 1] (hc_3 (sum1,w64 (k+1),l6) hE.symm)
   intro hj_4
   obtain ⟨x,h_6,hM⟩:=zF hM
   refine au 4 ?_
   refine X.opR rfl (X.Zy h_6 rfl rfl rfl rfl rfl) rfl ?_
   refine X.opR rfl (X.qb h_6 rfl rfl rfl rfl) rfl ?_
   refine au 2 ?_
   refine X.cm hM (fun h_7 hM=>?_) (fun h_7 hM=>?_)
   ·obtain ⟨x1,h_8,hM⟩:=zF hM
    obtain ⟨x2,h_9,hM⟩:=zF hM
    refine au 4 ?_
    refine X.opR rfl (X.Zy h_8 rfl rfl rfl rfl rfl) rfl ?_
    refine X.opR rfl (X.qb h_8 rfl rfl rfl rfl) rfl ?_
    refine au 3 ?_
    refine X.opR rfl (X.Zy h_9 rfl rfl rfl rfl rfl) rfl ?_
    refine X.op0W rfl (X.YN (b:=w64 (k - 1)) h_9 rfl rfl rfl rfl rfl rfl rfl) rfl ?_
    obtain ⟨x3,h_10,hM⟩:=zF hM
    obtain ⟨x4,h_11,hM⟩:=zF hM
    obtain ⟨x5,h_12,hM⟩:=zF hM
    refine au 6 ?_
    refine X.opR rfl (X.Zy h_10 rfl rfl rfl rfl rfl) rfl ?_
    refine X.opR rfl (X.qb h_10 rfl rfl rfl rfl) rfl ?_
    refine au 11 ?_
    exact X.gy [some 0,some 1] (hj_4 (w64 (sum2+x5),(put l7 (w64 (x1 - 1)) (w64 (k - 1)))) hM) (zM rfl ⟨9,rfl⟩ (zM rfl ⟨9,rfl⟩ (zM rfl ⟨9,rfl⟩ (zM rfl (qp X.jk ⟨9,rfl⟩) (ga rfl rfl)))))
   refine au 2 ?_
   exact X.gx [some 0,some 1] (hj_4 (sum2,l7) hM)
  obtain ⟨y_1,hM,hy⟩:=zz hM
  rw [hr_1 _ hy.symm] at hM
  refine au 1 ?_
  exact X.gx [some 1] (hj_2 (sum2,l7) hM)
 intro hj_1
 refine au 1 ?_
 refine X.gx [some 0,some 1,some 2] (X.loop (σ:=(Int×(List Int)×(List Int)×(List Int))) (fun v=>⟨[(0,(V.sl (List.map (fun l=>V.sl (List.map V.i l)) cost))),(1,(V.i places)),(6,(V.osl 0 0 (List.length v.2.1))),(7,(V.osl 1 0 (List.length v.2.2.1))),(8,(V.osl 2 0 (List.length v.2.2.2))),(9,(V.i v.1))],[.rows 1 (List.map V.i v.2.1),.rows 1 (List.map V.i v.2.2.1),.rows 1 (List.map V.i v.2.2.2)],0,none,215⟩) hM ?_ rfl)
 rintro ⟨i,l40,l41,l42⟩ b_1 hM hc_5 hr_1
 rw [Ym] at hM
 refine au 7 ?_
 refine X.cm hM (fun h_13 hM=>?_) (fun h_13 hM=>?_)
 ·refine au 3 ?_
  refine GS.scope ?_
  obtain ⟨x6,h_14,hM⟩:=zF hM
  refine au 3 ?_
  refine X.opR rfl (X.Zy h_14 rfl rfl rfl rfl rfl) rfl ?_
  refine X.op0W rfl (X.YN (b:=i) h_14 rfl rfl rfl rfl rfl rfl rfl) rfl ?_
  obtain ⟨l8,h_15,hM⟩:=zF hM
  refine au 7 ?_
  refine X.opW (H':=[.rows 1 (List.map V.i l40),.rows 1 (List.map V.i l41),.rows 1 (List.map V.i (put l42 0 i)),.rows 1 (List.map V.i l8)]) rfl (X.zFY (f:=V.i) h_15 rfl rfl rfl rfl rfl rfl rfl rfl) rfl rfl ?_
  obtain ⟨l9,h_16,hM⟩:=zF hM
  refine au 5 ?_
  refine X.opW (H':=[.rows 1 (List.map V.i l40),.rows 1 (List.map V.i l41),.rows 1 (List.map V.i (put l42 0 i)),.rows 1 (List.map V.i l8),.rows 1 (List.map V.i l9)]) rfl (X.zFY (f:=V.i) h_16 rfl rfl rfl rfl rfl rfl rfl rfl) rfl rfl ?_
  obtain ⟨l10,h_17,hM⟩:=zF hM
  refine au 5 ?_
  refine X.opW (H':=[.rows 1 (List.map V.i l40),.rows 1 (List.map V.i l41),.rows 1 (List.map V.i (put l42 0 i)),.rows 1 (List.map V.i l8),.rows 1 (List.map V.i l9),.rows 1 (List.map V.b l10)]) rfl (X.zFY (f:=V.b) h_17 rfl rfl rfl rfl rfl rfl rfl rfl) rfl rfl ?_
  refine au 5 ?_
  refine X.opR rfl (X.lenO (l:=l8) rfl rfl rfl) rfl ?_
  refine au 2 ?_
  refine X.join (τ:=(List Int)) (fun v=>yB cost places i l40 l41 l42 l9 l10 v=some b_1) (fun v=>⟨[(0,(V.sl (List.map (fun l=>V.sl (List.map V.i l)) cost))),(1,(V.i places)),(6,(V.osl 0 0 (List.length l40))),(7,(V.osl 1 0 (List.length l41))),(8,(V.osl 2 0 (List.length (put l42 0 i)))),(9,(V.i i)),(10,(V.i 0)),(11,(V.osl 3 0 (List.length v))),(12,(V.osl 4 0 (List.length l9))),(13,(V.osl 5 0 (List.length l10)))],[.rows 1 (List.map V.i l40),.rows 1 (List.map V.i l41),.rows 1 (List.map V.i (put l42 0 i)),.rows 1 (List.map V.i v),.rows 1 (List.map V.i l9),.rows 1 (List.map V.b l10)],0,none,215⟩) ?_ ?_
  ·intro l11 hM
   replace hM:yB cost places i l40 l41 l42 l9 l10 l11=some b_1:=hM
   unfold yB at hM
   refine GS.seq ?_
   refine GS.label ?_
   refine GS.seq ?_
   refine X.join (τ:=Int×(List Int)×(List Int)×(List Int)) (fun v=>Yj i l42 v.1 v.2.1 v.2.2.1 v.2.2.2=some b_1) (fun v=>⟨[(0,(V.sl (List.map (fun l=>V.sl (List.map V.i l)) cost))),(1,(V.i places)),(6,(V.osl 0 0 (List.length v.2.1))),(7,(V.osl 1 0 (List.length v.2.2.1))),(8,(V.osl 2 0 (List.length (put l42 0 i)))),(9,(V.i i)),(10,(V.i v.1)),(12,(V.osl 3 0 (List.length v.2.2.2)))],[.rows 1 (List.map V.i v.2.1),.rows 1 (List.map V.i v.2.2.1),.rows 1 (List.map V.i (put l42 0 i)),.rows 1 (List.map V.i v.2.2.2)],0,none,215⟩) ?_ ?_
   ·rintro ⟨at_,l12,l13,l14⟩ hM
    replace hM:Yj i l42 at_ l12 l13 l14=some b_1:=hM
    unfold Yj at hM
    refine X.join (τ:=(List Int)) (fun v=>Yi i l12 l13 v=some b_1) (fun v=>⟨[(0,(V.sl (List.map (fun l=>V.sl (List.map V.i l)) cost))),(1,(V.i places)),(6,(V.osl 0 0 (List.length l12))),(7,(V.osl 1 0 (List.length l13))),(8,(V.osl 2 0 (List.length v))),(9,(V.i i))],[.rows 1 (List.map V.i l12),.rows 1 (List.map V.i l13),.rows 1 (List.map V.i v)],0,none,215⟩) ?_ ?_
    ·intro l15 hM
     replace hM:Yi i l12 l13 l15=some b_1:=hM
     unfold Yi at hM
     refine au 6 ?_
     have hE:=Option.some.inj hM
     exact X.gx [some 0,some 1,some 2] (hc_5 (w64 (i+1),l12,l13,l15) hE.symm)
    intro hj_8
    refine au 1 ?_
    refine X.gx [some 0,some 1,some 2,some 3] (X.loop (σ:=(Int×(List Int))) (fun v=>⟨[(0,(V.sl (List.map (fun l=>V.sl (List.map V.i l)) cost))),(1,(V.i places)),(6,(V.osl 0 0 (List.length l12))),(7,(V.osl 1 0 (List.length l13))),(8,(V.osl 2 0 (List.length v.2))),(9,(V.i i)),(10,(V.i v.1)),(12,(V.osl 3 0 (List.length l14)))],[.rows 1 (List.map V.i l12),.rows 1 (List.map V.i l13),.rows 1 (List.map V.i v.2),.rows 1 (List.map V.i l14)],0,none,215⟩) hM ?_ rfl)
    rintro ⟨at_1,l16⟩ b_2 hM hc_9 hr_2
    rw [Yl] at hM
    refine au 5 ?_
    refine X.cm hM (fun h_18 hM=>?_) (fun h_18 hM=>?_)
    ·obtain ⟨x7,h_19,hM⟩:=zF hM
     obtain ⟨x8,h_20,hM⟩:=zF hM
     obtain ⟨x9,h_21,hM⟩:=zF hM
     refine au 8 ?_
     refine X.opR rfl (X.Zy h_19 rfl rfl rfl rfl rfl) rfl ?_
     refine X.opR rfl (X.qb h_19 rfl rfl rfl rfl) rfl ?_
     refine X.opR rfl (X.Zy h_20 rfl rfl rfl rfl rfl) rfl ?_
     refine X.opR rfl (X.qb h_20 rfl rfl rfl rfl) rfl ?_
     refine X.opR rfl (X.Zy h_21 rfl rfl rfl rfl rfl) rfl ?_
     refine X.op0W (H':=[.rows 1 (List.map V.i l12),.rows 1 (List.map V.i l13),.rows 1 (List.map V.i (put l16 at_1 x8)),.rows 1 (List.map V.i l14)]) rfl (X.YN (b:=x8) h_21 rfl rfl rfl rfl rfl rfl rfl) rfl ?_
     obtain ⟨x10,h_22,hM⟩:=zF hM
     refine au 4 ?_
     refine X.opR rfl (X.Zy h_22 rfl rfl rfl rfl rfl) rfl ?_
     refine X.opR rfl (X.qb h_22 rfl rfl rfl rfl) rfl ?_
     refine au 3 ?_
     have hE:=Option.some.inj hM
     exact X.gy [some 0,some 1,some 2,some 3] (hc_9 (x10,(put l16 at_1 x8)) hE.symm) (zM rfl ⟨9,rfl⟩ (zM rfl ⟨9,rfl⟩ (zM rfl ⟨9,rfl⟩ (zM rfl ⟨9,rfl⟩ (zM rfl (qp X.jk ⟨9,rfl⟩) (ga rfl rfl))))))
    obtain ⟨y_2,hM,hy⟩:=zz hM
    rw [hr_2 _ hy.symm] at hM
    refine au 1 ?_
    exact X.gx [some 0,some 1,some 2] (hj_8 l16 hM)
   intro hj_7
   refine au 1 ?_
   refine X.gx [some 0,some 1,some 2,some 3,some 4,some 5] (X.loop (σ:=(Int×(List Int)×(List Int)×(List Int)×(List Int)×(List Bool))) (fun v=>⟨[(0,(V.sl (List.map (fun l=>V.sl (List.map V.i l)) cost))),(1,(V.i places)),(6,(V.osl 0 0 (List.length v.2.1))),(7,(V.osl 1 0 (List.length v.2.2.1))),(8,(V.osl 2 0 (List.length (put l42 0 i)))),(9,(V.i i)),(10,(V.i v.1)),(11,(V.osl 3 0 (List.length v.2.2.2.1))),(12,(V.osl 4 0 (List.length v.2.2.2.2.1))),(13,(V.osl 5 0 (List.length v.2.2.2.2.2)))],[.rows 1 (List.map V.i v.2.1),.rows 1 (List.map V.i v.2.2.1),.rows 1 (List.map V.i (put l42 0 i)),.rows 1 (List.map V.i v.2.2.2.1),.rows 1 (List.map V.i v.2.2.2.2.1),.rows 1 (List.map V.b v.2.2.2.2.2)],0,none,215⟩) hM ?_ rfl)
   rintro ⟨at_2,l34,l35,l36,l37,l38⟩ b_2 hM hc_10 hr_2
   rw [YG] at hM
   obtain ⟨x11,h_23,hM⟩:=zF hM
   refine au 4 ?_
   refine X.opR rfl (X.Zy h_23 rfl rfl rfl rfl rfl) rfl ?_
   refine X.op0W (H':=[.rows 1 (List.map V.i l34),.rows 1 (List.map V.i l35),.rows 1 (List.map V.i (put l42 0 i)),.rows 1 (List.map V.i l36),.rows 1 (List.map V.i l37),.rows 1 (List.map V.b (put l38 at_2 true))]) rfl (X.YN (b:=true) h_23 rfl rfl rfl rfl rfl rfl rfl) rfl ?_
   obtain ⟨x12,h_24,hM⟩:=zF hM
   refine au 4 ?_
   refine X.opR rfl (X.Zy h_24 rfl rfl rfl rfl rfl) rfl ?_
   refine X.opR rfl (X.qb h_24 rfl rfl rfl rfl) rfl ?_
   refine au 8 ?_
   refine X.join (τ:=Int×Int×(List Int)×(List Int)) (fun v=>jy i l42 at_2 l34 l35 l38 v.1 v.2.1 v.2.2.1 v.2.2.2=some b_2) (fun v=>⟨[(0,(V.sl (List.map (fun l=>V.sl (List.map V.i l)) cost))),(1,(V.i places)),(6,(V.osl 0 0 (List.length l34))),(7,(V.osl 1 0 (List.length l35))),(8,(V.osl 2 0 (List.length (put l42 0 i)))),(9,(V.i i)),(11,(V.osl 3 0 (List.length v.2.2.1))),(12,(V.osl 4 0 (List.length v.2.2.2))),(13,(V.osl 5 0 (List.length (put l38 at_2 true)))),(16,(V.i v.1)),(17,(V.i v.2.1))],[.rows 1 (List.map V.i l34),.rows 1 (List.map V.i l35),.rows 1 (List.map V.i (put l42 0 i)),.rows 1 (List.map V.i v.2.2.1),.rows 1 (List.map V.i v.2.2.2),.rows 1 (List.map V.b (put l38 at_2 true))],0,none,215⟩) ?_ ?_
   ·rintro ⟨next,step,l17,l18⟩ hM
    replace hM:jy i l42 at_2 l34 l35 l38 next step l17 l18=some b_2:=hM
    unfold jy at hM
    refine au 3 ?_
    refine X.opR rfl (X.lenO (l:=(put l38 at_2 true)) rfl rfl rfl) rfl ?_
    refine au 2 ?_
    refine X.join (τ:=(List Int)×(List Int)×(List Int)) (fun v=>jZ i l42 at_2 l38 next l18 v.1 v.2.1 v.2.2=some b_2) (fun v=>⟨[(0,(V.sl (List.map (fun l=>V.sl (List.map V.i l)) cost))),(1,(V.i places)),(6,(V.osl 0 0 (List.length v.1))),(7,(V.osl 1 0 (List.length v.2.1))),(8,(V.osl 2 0 (List.length (put l42 0 i)))),(9,(V.i i)),(11,(V.osl 3 0 (List.length v.2.2))),(12,(V.osl 4 0 (List.length l18))),(13,(V.osl 5 0 (List.length (put l38 at_2 true)))),(16,(V.i next))],[.rows 1 (List.map V.i v.1),.rows 1 (List.map V.i v.2.1),.rows 1 (List.map V.i (put l42 0 i)),.rows 1 (List.map V.i v.2.2),.rows 1 (List.map V.i l18),.rows 1 (List.map V.b (put l38 at_2 true))],0,none,215⟩) ?_ ?_
    ·rintro ⟨l19,l20,l21⟩ hM
     replace hM:jZ i l42 at_2 l38 next l18 l19 l20 l21=some b_2:=hM
     unfold jZ at hM
     obtain ⟨x13,h_25,hM⟩:=zF hM
     refine au 7 ?_
     refine X.opR rfl (X.Zy h_25 rfl rfl rfl rfl rfl) rfl ?_
     refine X.opR rfl (X.qb h_25 rfl rfl rfl rfl) rfl ?_
     refine au 2 ?_
     refine X.cm hM (fun h_26 hM=>?_) (fun h_26 hM=>?_)
     ·obtain ⟨y_2,hM,hy⟩:=zz hM
      rw [hr_2 _ hy.symm] at hM
      refine au 1 ?_
      exact X.gx [some 0,some 1,some 2,some 4] (hj_7 (next,l19,l20,l18) hM)
     refine au 2 ?_
     have hE:=Option.some.inj hM
     exact X.gx [some 0,some 1,some 2,some 3,some 4,some 5] (hc_10 (next,l19,l20,l21,l18,(put l38 at_2 true)) hE.symm)
    intro hj_12
    refine au 1 ?_
    refine X.gx [some 0,some 1,some 2,some 3,some 4,some 5] (X.loop (σ:=(Int×(List Int)×(List Int)×(List Int))) (fun v=>⟨[(0,(V.sl (List.map (fun l=>V.sl (List.map V.i l)) cost))),(1,(V.i places)),(6,(V.osl 0 0 (List.length v.2.1))),(7,(V.osl 1 0 (List.length v.2.2.1))),(8,(V.osl 2 0 (List.length (put l42 0 i)))),(9,(V.i i)),(11,(V.osl 3 0 (List.length v.2.2.2))),(12,(V.osl 4 0 (List.length l18))),(13,(V.osl 5 0 (List.length (put l38 at_2 true)))),(16,(V.i next)),(17,(V.i step)),(122,(V.i ((put l38 at_2 true).length:Int))),(123,(V.i v.1))],[.rows 1 (List.map V.i v.2.1),.rows 1 (List.map V.i v.2.2.1),.rows 1 (List.map V.i (put l42 0 i)),.rows 1 (List.map V.i v.2.2.2),.rows 1 (List.map V.i l18),.rows 1 (List.map V.b (put l38 at_2 true))],0,none,215⟩) hM ?_ rfl)
    rintro ⟨x22,l25,l26,l27⟩ b_3 hM hc_13 hr_3
    rw [Jt] at hM
    refine au 3 ?_
    refine GS.seq ?_
    refine X.cm hM (fun h_27 hM=>?_) (fun h_27 hM=>?_)
    ·refine GS.skip (GS.seq ?_)
     refine X.join (τ:=(List Int)×(List Int)×(List Int)) (fun v=>jw x22 v.1 v.2.1 v.2.2=some b_3) (fun v=>⟨[(0,(V.sl (List.map (fun l=>V.sl (List.map V.i l)) cost))),(1,(V.i places)),(6,(V.osl 0 0 (List.length v.1))),(7,(V.osl 1 0 (List.length v.2.1))),(8,(V.osl 2 0 (List.length (put l42 0 i)))),(9,(V.i i)),(11,(V.osl 3 0 (List.length v.2.2))),(12,(V.osl 4 0 (List.length l18))),(13,(V.osl 5 0 (List.length (put l38 at_2 true)))),(16,(V.i next)),(17,(V.i step)),(122,(V.i ((put l38 at_2 true).length:Int))),(123,(V.i x22))],[.rows 1 (List.map V.i v.1),.rows 1 (List.map V.i v.2.1),.rows 1 (List.map V.i (put l42 0 i)),.rows 1 (List.map V.i v.2.2),.rows 1 (List.map V.i l18),.rows 1 (List.map V.b (put l38 at_2 true))],0,none,215⟩) ?_ ?_
     ·rintro ⟨l22,l23,l24⟩ hM
      replace hM:jw x22 l22 l23 l24=some b_3:=hM
      unfold jw at hM
      refine au 4 ?_
      have hE:=Option.some.inj hM
      exact X.gx [some 0,some 1,some 2,some 3,some 4,some 5] (hc_13 (w64 (x22+1),l22,l23,l24) hE.symm)
     intro hj_14
     obtain ⟨x14,h_28,hM⟩:=zF hM
     refine au 8 ?_
     refine X.opR rfl (X.Zy h_28 rfl rfl rfl rfl rfl) rfl ?_
     refine X.opR rfl (X.qb h_28 rfl rfl rfl rfl) rfl ?_
     refine GS.zV ?_
     refine X.cm hM (fun h_29 hM=>?_) (fun h_29 hM=>?_)
     ·obtain ⟨x15,h_30,hM⟩:=zF hM
      obtain ⟨x16,h_31,hM⟩:=zF hM
      obtain ⟨x17,h_32,hM⟩:=zF hM
      refine au 4 ?_
      refine X.opR rfl (X.Zy h_30 rfl rfl rfl rfl rfl) rfl ?_
      refine X.opR rfl (X.qb h_30 rfl rfl rfl rfl) rfl ?_
      refine X.opR rfl (X.Zy h_31 rfl rfl rfl rfl rfl) rfl ?_
      refine X.opR rfl (X.qb h_31 rfl rfl rfl rfl) rfl ?_
      refine au 2 ?_
      refine X.opR rfl (X.Zy h_32 rfl rfl rfl rfl rfl) rfl ?_
      refine X.op0W (H':=[.rows 1 (List.map V.i (put l25 x15 (w64 (x16+step)))),.rows 1 (List.map V.i l26),.rows 1 (List.map V.i (put l42 0 i)),.rows 1 (List.map V.i l27),.rows 1 (List.map V.i l18),.rows 1 (List.map V.b (put l38 at_2 true))]) rfl (X.YN (b:=w64 (x16+step)) h_32 rfl rfl rfl rfl rfl rfl rfl) rfl ?_
      obtain ⟨x18,h_33,hM⟩:=zF hM
      obtain ⟨x19,h_34,hM⟩:=zF hM
      refine au 4 ?_
      refine X.opR rfl (X.Zy h_33 rfl rfl rfl rfl rfl) rfl ?_
      refine X.opR rfl (X.qb h_33 rfl rfl rfl rfl) rfl ?_
      refine au 2 ?_
      refine X.opR rfl (X.Zy h_34 rfl rfl rfl rfl rfl) rfl ?_
      refine X.op0W (H':=[.rows 1 (List.map V.i (put l25 x15 (w64 (x16+step)))),.rows 1 (List.map V.i (put l26 x22 (w64 (x18 - step)))),.rows 1 (List.map V.i (put l42 0 i)),.rows 1 (List.map V.i l27),.rows 1 (List.map V.i l18),.rows 1 (List.map V.b (put l38 at_2 true))]) rfl (X.YN (b:=w64 (x18 - step)) h_34 rfl rfl rfl rfl rfl rfl rfl) rfl ?_
      refine au 2 ?_
      exact X.gy [some 0,some 1,some 2,some 3,some 4,some 5] (hj_14 ((put l25 x15 (w64 (x16+step))),(put l26 x22 (w64 (x18 - step))),l27) hM) (zM rfl ⟨9,rfl⟩ (zM rfl ⟨9,rfl⟩ (zM rfl (qp X.jk ⟨9,rfl⟩) (zM rfl (qp X.jk ⟨9,rfl⟩) (ga rfl rfl)))))
     obtain ⟨x20,h_35,hM⟩:=zF hM
     obtain ⟨x21,h_36,hM⟩:=zF hM
     refine au 3 ?_
     refine X.opR rfl (X.Zy h_35 rfl rfl rfl rfl rfl) rfl ?_
     refine X.opR rfl (X.qb h_35 rfl rfl rfl rfl) rfl ?_
     refine au 2 ?_
     refine X.opR rfl (X.Zy h_36 rfl rfl rfl rfl rfl) rfl ?_
     refine X.op0W (H':=[.rows 1 (List.map V.i l25),.rows 1 (List.map V.i l26),.rows 1 (List.map V.i (put l42 0 i)),.rows 1 (List.map V.i (put l27 x22 (w64 (x20 - step)))),.rows 1 (List.map V.i l18),.rows 1 (List.map V.b (put l38 at_2 true))]) rfl (X.YN (b:=w64 (x20 - step)) h_36 rfl rfl rfl rfl rfl rfl rfl) rfl ?_
     refine au 2 ?_
     exact X.gy [some 0,some 1,some 2,some 3,some 4,some 5] (hj_14 (l25,l26,(put l27 x22 (w64 (x20 - step)))) hM) (zM rfl ⟨9,rfl⟩ (zM rfl ⟨9,rfl⟩ (zM rfl ⟨9,rfl⟩ (zM rfl ⟨9,rfl⟩ (zM rfl ⟨9,rfl⟩ (zM rfl ⟨9,rfl⟩ (zM rfl (qp X.jk ⟨9,rfl⟩) (ga rfl rfl))))))))
    obtain ⟨y_3,hM,hy⟩:=zz hM
    rw [hr_3 _ hy.symm] at hM
    refine au 1 ?_
    exact X.gx [some 0,some 1,some 2,some 3,some 4,some 5] (hj_12 (l25,l26,l27) hM)
   intro hj_11
   refine au 1 ?_
   refine X.gy [some 0,some 1,some 2,some 3,some 4,some 5] (X.loop (σ:=(Int×Int×Int×(List Int)×(List Int))) (fun v=>⟨[(0,(V.sl (List.map (fun l=>V.sl (List.map V.i l)) cost))),(1,(V.i places)),(6,(V.osl 0 0 (List.length l34))),(7,(V.osl 1 0 (List.length l35))),(8,(V.osl 2 0 (List.length (put l42 0 i)))),(9,(V.i i)),(10,(V.i at_2)),(11,(V.osl 3 0 (List.length v.2.2.2.1))),(12,(V.osl 4 0 (List.length v.2.2.2.2))),(13,(V.osl 5 0 (List.length (put l38 at_2 true)))),(15,(V.i x12)),(16,(V.i v.1)),(17,(V.i v.2.1)),(18,(V.i v.2.2.1))],[.rows 1 (List.map V.i l34),.rows 1 (List.map V.i l35),.rows 1 (List.map V.i (put l42 0 i)),.rows 1 (List.map V.i v.2.2.2.1),.rows 1 (List.map V.i v.2.2.2.2),.rows 1 (List.map V.b (put l38 at_2 true))],0,none,215⟩) hM ?_ rfl) (zM rfl ⟨9,rfl⟩ (zM rfl ⟨9,rfl⟩ (zM rfl ⟨9,rfl⟩ (zM rfl ⟨9,rfl⟩ (zM rfl ⟨9,rfl⟩ (zM rfl ⟨9,rfl⟩ (zM rfl ⟨9,rfl⟩ (zM rfl ⟨9,rfl⟩ (zM rfl ⟨9,rfl⟩ (zM rfl (qp X.jk ⟨9,rfl⟩) (ga rfl rfl)))))))))))
   rintro ⟨next2,step2,k1,l32,l33⟩ b_3 hM hc_15 hr_3
   rw [Js] at hM
   refine au 6 ?_
   refine X.cm hM (fun h_37 hM=>?_) (fun h_37 hM=>?_)
   ·refine GS.skip (GS.seq ?_)
    refine X.join (τ:=Int×Int×(List Int)×(List Int)) (fun v=>jY k1 v.1 v.2.1 v.2.2.1 v.2.2.2=some b_3) (fun v=>⟨[(0,(V.sl (List.map (fun l=>V.sl (List.map V.i l)) cost))),(1,(V.i places)),(6,(V.osl 0 0 (List.length l34))),(7,(V.osl 1 0 (List.length l35))),(8,(V.osl 2 0 (List.length (put l42 0 i)))),(9,(V.i i)),(10,(V.i at_2)),(11,(V.osl 3 0 (List.length v.2.2.1))),(12,(V.osl 4 0 (List.length v.2.2.2))),(13,(V.osl 5 0 (List.length (put l38 at_2 true)))),(15,(V.i x12)),(16,(V.i v.1)),(17,(V.i v.2.1)),(18,(V.i k1))],[.rows 1 (List.map V.i l34),.rows 1 (List.map V.i l35),.rows 1 (List.map V.i (put l42 0 i)),.rows 1 (List.map V.i v.2.2.1),.rows 1 (List.map V.i v.2.2.2),.rows 1 (List.map V.b (put l38 at_2 true))],0,none,215⟩) ?_ ?_
    ·rintro ⟨next1,step1,l28,l29⟩ hM
     replace hM:jY k1 next1 step1 l28 l29=some b_3:=hM
     unfold jY at hM
     refine au 5 ?_
     have hE:=Option.some.inj hM
     exact X.gx [some 0,some 1,some 2,some 3,some 4,some 5] (hc_15 (next1,step1,w64 (k1+1),l28,l29) hE.symm)
    intro hj_16
    obtain ⟨x23,h_38,hM⟩:=zF hM
    refine au 5 ?_
    refine X.opR rfl (X.Zy h_38 rfl rfl rfl rfl rfl) rfl ?_
    refine X.opR rfl (X.qb h_38 rfl rfl rfl rfl) rfl ?_
    refine GS.zV ?_
    refine X.cm hM (fun h_39 hM=>?_) (fun h_39 hM=>?_)
    ·refine au 1 ?_
     exact X.gx [some 0,some 1,some 2,some 3,some 4,some 5] (hj_16 (next2,step2,l32,l33) hM)
    obtain ⟨x24,h_40,hM⟩:=zF hM
    obtain ⟨x25,h_41,hM⟩:=zF hM
    obtain ⟨x26,h_42,hM⟩:=zF hM
    obtain ⟨x27,h_43,hM⟩:=zF hM
    refine au 15 ?_
    refine X.cop rfl (X.Zy h_42 rfl rfl rfl rfl rfl) rfl rfl ?_
    refine X.cop rfl (X.qb h_42 rfl rfl rfl rfl) rfl rfl ?_
    refine au 3 ?_
    refine X.cop rfl (X.Zy h_43 rfl rfl rfl rfl rfl) rfl rfl ?_
    refine X.cop rfl (X.qb h_43 rfl rfl rfl rfl) rfl rfl ?_
    refine au 3 ?_
    refine X.norm [(0,(V.sl (List.map (fun l=>V.sl (List.map V.i l)) cost))),(1,(V.i places)),(6,(V.osl 0 0 (List.length l34))),(7,(V.osl 1 0 (List.length l35))),(8,(V.osl 2 0 (List.length (put l42 0 i)))),(9,(V.i i)),(10,(V.i at_2)),(11,(V.osl 3 0 (List.length l32))),(12,(V.osl 4 0 (List.length l33))),(13,(V.osl 5 0 (List.length (put l38 at_2 true)))),(15,(V.i x12)),(16,(V.i next2)),(17,(V.i step2)),(18,(V.i k1)),(19,(V.i (w64 ((w64 (x25 - x26)) - x27))))] ?_ rfl (sr rfl)
    obtain ⟨x28,h_44,hM⟩:=zF hM
    refine au 4 ?_
    refine X.opR rfl (X.Zy h_44 rfl rfl rfl rfl rfl) rfl ?_
    refine X.opR rfl (X.qb h_44 rfl rfl rfl rfl) rfl ?_
    refine au 2 ?_
    refine X.join (τ:=(List Int)×(List Int)) (fun v=>jv next2 step2 k1 v.1 v.2=some b_3) (fun v=>⟨[(0,(V.sl (List.map (fun l=>V.sl (List.map V.i l)) cost))),(1,(V.i places)),(6,(V.osl 0 0 (List.length l34))),(7,(V.osl 1 0 (List.length l35))),(8,(V.osl 2 0 (List.length (put l42 0 i)))),(9,(V.i i)),(10,(V.i at_2)),(11,(V.osl 3 0 (List.length v.1))),(12,(V.osl 4 0 (List.length v.2))),(13,(V.osl 5 0 (List.length (put l38 at_2 true)))),(15,(V.i x12)),(16,(V.i next2)),(17,(V.i step2)),(18,(V.i k1))],[.rows 1 (List.map V.i l34),.rows 1 (List.map V.i l35),.rows 1 (List.map V.i (put l42 0 i)),.rows 1 (List.map V.i v.1),.rows 1 (List.map V.i v.2),.rows 1 (List.map V.b (put l38 at_2 true))],0,none,215⟩) ?_ ?_
    ·rintro ⟨l30,l31⟩ hM
     replace hM:jv next2 step2 k1 l30 l31=some b_3:=hM
     unfold jv at hM
     obtain ⟨x29,h_45,hM⟩:=zF hM
     refine au 3 ?_
     refine X.opR rfl (X.Zy h_45 rfl rfl rfl rfl rfl) rfl ?_
     refine X.opR rfl (X.qb h_45 rfl rfl rfl rfl) rfl ?_
     refine au 3 ?_
     refine X.cm hM (fun h_46 hM=>?_) (fun h_46 hM=>?_)
     ·obtain ⟨x30,h_47,hM⟩:=zF hM
      refine au 3 ?_
      refine X.opR rfl (X.Zy h_47 rfl rfl rfl rfl rfl) rfl ?_
      refine X.opR rfl (X.qb h_47 rfl rfl rfl rfl) rfl ?_
      refine au 5 ?_
      exact X.gx [some 0,some 1,some 2,some 3,some 4,some 5] (hj_16 (k1,x30,l30,l31) hM)
     refine au 2 ?_
     exact X.gx [some 0,some 1,some 2,some 3,some 4,some 5] (hj_16 (next2,step2,l30,l31) hM)
    intro hj_17
    refine X.cm hM (fun h_48 hM=>?_) (fun h_48 hM=>?_)
    ·obtain ⟨x31,h_49,hM⟩:=zF hM
     obtain ⟨x32,h_50,hM⟩:=zF hM
     refine au 7 ?_
     refine X.opR rfl (X.Zy h_49 rfl rfl rfl rfl rfl) rfl ?_
     refine X.op0W (H':=[.rows 1 (List.map V.i l34),.rows 1 (List.map V.i l35),.rows 1 (List.map V.i (put l42 0 i)),.rows 1 (List.map V.i (put l32 k1 (w64 ((w64 (x25 - x26)) - x27)))),.rows 1 (List.map V.i l33),.rows 1 (List.map V.b (put l38 at_2 true))]) rfl (X.YN (b:=w64 ((w64 (x25 - x26)) - x27)) h_49 rfl rfl rfl rfl rfl rfl rfl) rfl ?_
     refine X.opR rfl (X.Zy h_50 rfl rfl rfl rfl rfl) rfl ?_
     refine X.op0W (H':=[.rows 1 (List.map V.i l34),.rows 1 (List.map V.i l35),.rows 1 (List.map V.i (put l42 0 i)),.rows 1 (List.map V.i (put l32 k1 (w64 ((w64 (x25 - x26)) - x27)))),.rows 1 (List.map V.i (put l33 k1 at_2)),.rows 1 (List.map V.b (put l38 at_2 true))]) rfl (X.YN (b:=at_2) h_50 rfl rfl rfl rfl rfl rfl rfl) rfl ?_
     refine GS.zV ?_
     exact X.gy [some 0,some 1,some 2,some 3,some 4,some 5] (hj_17 ((put l32 k1 (w64 ((w64 (x25 - x26)) - x27))),(put l33 k1 at_2)) hM) (zM rfl ⟨9,rfl⟩ (zM rfl ⟨9,rfl⟩ (zM rfl ⟨9,rfl⟩ (zM rfl ⟨9,rfl⟩ (zM rfl ⟨9,rfl⟩ (zM rfl ⟨9,rfl⟩ (zM rfl ⟨9,rfl⟩ (zM rfl (qp X.jk ⟨9,rfl⟩) (zM rfl (qp X.jk ⟨9,rfl⟩) (ga rfl rfl))))))))))
    refine GS.skip ?_
    exact X.gx [some 0,some 1,some 2,some 3,some 4,some 5] (hj_17 (l32,l33) hM)
   obtain ⟨y_3,hM,hy⟩:=zz hM
   rw [hr_3 _ hy.symm] at hM
   refine au 1 ?_
   exact X.gx [some 0,some 1,some 2,some 3,some 4,some 5] (hj_11 (next2,step2,l32,l33) hM)
  intro hj_6
  refine au 1 ?_
  refine X.gy [some 0,some 1,some 2,some 3,some 4,some 5] (X.loop (σ:=(Int×(List Int))) (fun v=>⟨[(0,(V.sl (List.map (fun l=>V.sl (List.map V.i l)) cost))),(1,(V.i places)),(6,(V.osl 0 0 (List.length l40))),(7,(V.osl 1 0 (List.length l41))),(8,(V.osl 2 0 (List.length (put l42 0 i)))),(9,(V.i i)),(10,(V.i 0)),(11,(V.osl 3 0 (List.length v.2))),(12,(V.osl 4 0 (List.length l9))),(13,(V.osl 5 0 (List.length l10))),(53,(V.i (l8.length:Int))),(54,(V.i v.1))],[.rows 1 (List.map V.i l40),.rows 1 (List.map V.i l41),.rows 1 (List.map V.i (put l42 0 i)),.rows 1 (List.map V.i v.2),.rows 1 (List.map V.i l9),.rows 1 (List.map V.b l10)],0,none,215⟩) hM ?_ rfl) (zM rfl ⟨9,rfl⟩ (zM rfl ⟨9,rfl⟩ (zM rfl ⟨9,rfl⟩ (zM rfl ⟨9,rfl⟩ (zM rfl (qp X.jk ⟨9,rfl⟩) (ga rfl rfl))))))
  rintro ⟨x34,l39⟩ b_2 hM hc_18 hr_2
  rw [YF] at hM
  refine au 3 ?_
  refine GS.seq ?_
  refine X.cm hM (fun h_51 hM=>?_) (fun h_51 hM=>?_)
  ·obtain ⟨x33,h_52,hM⟩:=zF hM
   refine au 10 ?_
   refine X.opR rfl (X.Zy h_52 rfl rfl rfl rfl rfl) rfl ?_
   refine X.op0W (H':=[.rows 1 (List.map V.i l40),.rows 1 (List.map V.i l41),.rows 1 (List.map V.i (put l42 0 i)),.rows 1 (List.map V.i (put l39 x34 4294967296)),.rows 1 (List.map V.i l9),.rows 1 (List.map V.b l10)]) rfl (X.YN (b:=4294967296) h_52 rfl rfl rfl rfl rfl rfl rfl) rfl ?_
   refine au 6 ?_
   have hE:=Option.some.inj hM
   exact X.gy [some 0,some 1,some 2,some 3,some 4,some 5] (hc_18 (w64 (x34+1),(put l39 x34 4294967296)) hE.symm) (zM rfl ⟨9,rfl⟩ (zM rfl ⟨9,rfl⟩ (zM rfl ⟨9,rfl⟩ (zM rfl ⟨9,rfl⟩ (zM rfl ⟨9,rfl⟩ (zM rfl ⟨9,rfl⟩ (zM rfl ⟨9,rfl⟩ (zM rfl (qp X.jk ⟨9,rfl⟩) (ga rfl rfl)))))))))
  obtain ⟨y_2,hM,hy⟩:=zz hM
  rw [hr_2 _ hy.symm] at hM
  refine au 1 ?_
  exact X.gx [some 0,some 1,some 2,some 3,some 4,some 5] (hj_6 l39 hM)
 obtain ⟨y_1,hM,hy⟩:=zz hM
 rw [hr_1 _ hy.symm] at hM
 refine au 1 ?_
 exact X.gx [some 2] (hj_1 l42 hM)
set_option maxHeartbeats 4000000 in
theorem yf {b:zL} {fixed:(List Int)} {r:(List Int)×Int} (hM:Zt b fixed=some r):Ct Tryz.prog 23 [(V.fptr [(zN b)] 0 0),(V.sl (List.map V.i fixed))] (V.tup [(V.sl (List.map V.i r.1)),(V.i r.2)]):=by
 refine zP zl rfl ?_
 unfold Zt at hM
 refine au 16 ?_
 refine X.join (τ:=(List (List Int))) (fun v=>jf b v=some r) (fun v=>⟨[(0,(V.fptr [(zN b)] 0 0)),(6,(ovl 0 v))],[obl 1 (fun v=>V.sl (List.map V.i v)) v],0,none,71⟩) ?_ ?_
 ·intro l hM
  replace hM:jf b l=some r:=hM
  unfold jf at hM
  refine GS.seq ?_
  refine X.zIL (z:=true) (f:=(fun l=>V.sl (List.map V.i l))) (l:=l) (es:=1) 6 rfl rfl rfl rfl (fun _=>rfl) ?_
  obtain ⟨y,h_1,hM⟩:=zF hM
  refine au 13 ?_
  refine X.cca (zG3 h_1) ?_
  refine au 5 ?_
  refine X.norm [(4,(V.sl (List.map V.i y.1))),(5,(V.i y.2))] ?_ rfl (sr rfl)
  cases hM
  exact X.rt
 intro hj_1
 refine au 1 ?_
 refine X.gx [none] (X.loop (σ:=(Int×(List (List Int)))) (fun v=>⟨[(0,(V.fptr [(zN b)] 0 0)),(1,(V.sl (List.map V.i fixed))),(6,(ovl 0 v.2)),(15,(V.i (b.calls.length:Int))),(16,(V.i v.1))],[obl 1 (fun l=>V.sl (List.map V.i l)) v.2],0,none,71⟩) hM ?_ rfl)
 rintro ⟨x3,l5⟩ b_1 hM hc_2 hr_1
 rw [Jg] at hM
 refine au 3 ?_
 refine GS.seq ?_
 refine X.cm hM (fun h_2 hM=>?_) (fun h_2 hM=>?_)
 ·obtain ⟨y1,h_3,hM⟩:=zF hM
  refine au 10 ?_
  refine X.own (zDY h_3) (fun z_6=>(ovlz z_6 1 y1)) rfl rfl rfl (.cons (.shut (n:=9) rfl) (.cons (.shut (n:=9) rfl) .nil)) rfl (fun _=>⟨_,(X.ze rfl)⟩) (fun _=>⟨_,X.zJu 9 (fun _=>rfl)⟩) (fun z_6=>?_)
  refine au 9 ?_
  refine X.join (τ:=(List Int)) (fun v=>Z5 x3 l5 v=some b_1) (fun v=>⟨[(0,(V.fptr [(zN b)] 0 0)),(1,(V.sl (List.map V.i fixed))),(6,(ovl 0 l5)),(8,(ovlz z_6 1 v)),(15,(V.i (b.calls.length:Int))),(16,(V.i x3))],[obl 1 (fun l=>V.sl (List.map V.i l)) l5,oblz z_6 1 V.i v],0,none,71⟩) ?_ ?_
  ·intro l1 hM
   replace hM:Z5 x3 l5 l1=some b_1:=hM
   unfold Z5 at hM
   refine X.zIL (z:=z_6) (f:=V.i) (l:=l1) (es:=1) 8 rfl rfl rfl rfl (fun _=>rfl) ?_
   obtain ⟨l2,h_4,hM⟩:=zF hM
   refine au 4 ?_
   refine X.appN (f:=(fun l=>V.sl (List.map V.i l))) h_4 (fun _=>rfl) (by rfl) (by rfl) (by rfl) (by rfl) (by rfl) (by rfl) (by rfl) (by rfl) (by rfl) (by rfl) (by rfl) (by exact rfl) (by rfl) (by rfl) ?_
   refine au 7 ?_
   have hE:=Option.some.inj hM
   exact X.gc [some 3] (hc_2 (w64 (x3+1),l2) hE.symm) rfl rfl rfl (zM rfl ⟨9,rfl⟩ (zM rfl ⟨9,rfl⟩ (zM rfl (zAa (Z6 h_4) rfl) (ga rfl rfl)))) (gb_obl' 9 (Z6 h_4) rfl rfl (fun _=>rfl) ZA)
  intro hj_3
  refine X.cm hM (fun h_5 hM=>?_) (fun h_5 hM=>?_)
  ·obtain ⟨x,h_6,hM⟩:=zF hM
   refine au 12 ?_
   refine X.join (τ:=Int) (fun v=>jL x3 l5 y1 v=some b_1) (fun v=>⟨[(0,(V.fptr [(zN b)] 0 0)),(1,(V.sl (List.map V.i fixed))),(6,(ovl 0 l5)),(8,(ovlz z_6 1 y1)),(9,(V.i v)),(15,(V.i (b.calls.length:Int))),(16,(V.i x3))],[obl 1 (fun l=>V.sl (List.map V.i l)) l5,oblz z_6 1 V.i y1],0,none,71⟩) ?_ ?_
   ·intro k hM
    replace hM:jL x3 l5 y1 k=some b_1:=hM
    unfold jL at hM
    refine au 2 ?_
    refine X.opR rfl (X.lenN (l:=y1) rfl rfl rfl) rfl ?_
    refine au 3 ?_
    refine X.gy [some 0,some 1] (X.loop (σ:=(Int×(List Int))) (fun v=>⟨[(0,(V.fptr [(zN b)] 0 0)),(1,(V.sl (List.map V.i fixed))),(6,(ovl 0 l5)),(8,(ovlz z_6 1 v.2)),(9,(V.i k)),(15,(V.i (b.calls.length:Int))),(16,(V.i x3)),(40,(V.i (y1.length:Int))),(41,(V.i v.1))],[obl 1 (fun l=>V.sl (List.map V.i l)) l5,oblz z_6 1 V.i v.2],0,none,71⟩) hM ?_ rfl) (zM rfl ⟨9,rfl⟩ (zM rfl ⟨9,rfl⟩ (zM rfl (ze rfl) (zM rfl (ze rfl) (ga rfl rfl)))))
    rintro ⟨x2,l4⟩ b_2 hM hc_5 hr_2
    rw [Jf] at hM
    refine au 3 ?_
    refine GS.seq ?_
    refine X.cm hM (fun h_7 hM=>?_) (fun h_7 hM=>?_)
    ·refine GS.skip (GS.seq ?_)
     refine X.join (τ:=(List Int)) (fun v=>jK x2 v=some b_2) (fun v=>⟨[(0,(V.fptr [(zN b)] 0 0)),(1,(V.sl (List.map V.i fixed))),(6,(ovl 0 l5)),(8,(ovlz z_6 1 v)),(9,(V.i k)),(15,(V.i (b.calls.length:Int))),(16,(V.i x3)),(40,(V.i (y1.length:Int))),(41,(V.i x2))],[obl 1 (fun l=>V.sl (List.map V.i l)) l5,oblz z_6 1 V.i v],0,none,71⟩) ?_ ?_
     ·intro l3 hM
      replace hM:jK x2 l3=some b_2:=hM
      unfold jK at hM
      refine au 4 ?_
      have hE:=Option.some.inj hM
      exact X.gy [some 0,some 1] (hc_5 (w64 (x2+1),l3) hE.symm) (zM rfl ⟨9,rfl⟩ (zM rfl ⟨9,rfl⟩ (zM rfl (ze rfl) (zM rfl (ze rfl) (ga rfl rfl)))))
     intro hj_6
     refine au 10 ?_
     refine X.cm hM (fun h_8 hM=>?_) (fun h_8 hM=>?_)
     ·obtain ⟨x1,h_9,hM⟩:=zF hM
      refine au 3 ?_
      refine X.opR rfl (X.zE5 h_9 rfl rfl rfl rfl rfl) rfl ?_
      refine X.op0W rfl (X.zC2 (b:=1073741824) h_9 rfl rfl rfl rfl rfl rfl rfl) rfl ?_
      refine au 2 ?_
      exact X.gy [some 0,some 1] (hj_6 (put l4 x2 1073741824) hM) (zM rfl ⟨9,rfl⟩ (zM rfl ⟨9,rfl⟩ (zM rfl (ze rfl) (zM rfl (qp X.zG5 (ze rfl)) (ga rfl rfl)))))
     refine au 2 ?_
     exact X.gy [some 0,some 1] (hj_6 l4 hM) (zM rfl ⟨9,rfl⟩ (zM rfl ⟨9,rfl⟩ (zM rfl (ze rfl) (zM rfl (ze rfl) (ga rfl rfl)))))
    obtain ⟨y_2,hM,hy⟩:=zz hM
    rw [hr_2 _ hy.symm] at hM
    refine au 1 ?_
    exact X.gy [some 0,some 1] (hj_3 l4 hM) (zM rfl ⟨9,rfl⟩ (zM rfl ⟨9,rfl⟩ (zM rfl (ze rfl) (zM rfl (ze rfl) (ga rfl rfl)))))
   intro hj_4
   refine X.cm hM (fun h_10 hM=>?_) (fun h_10 hM=>?_)
   ·refine au 10 ?_
    exact X.gy [some 0,some 1] (hj_4 (w64 ((b.slots.length:Int)+x3)) hM) (zM rfl ⟨9,rfl⟩ (zM rfl ⟨9,rfl⟩ (zM rfl (ze rfl) (zM rfl (ze rfl) (ga rfl rfl)))))
   refine GS.skip ?_
   exact X.gy [some 0,some 1] (hj_4 x hM) (zM rfl ⟨9,rfl⟩ (zM rfl ⟨9,rfl⟩ (zM rfl (ze rfl) (zM rfl (ze rfl) (ga rfl rfl)))))
  refine GS.skip ?_
  exact X.gy [some 0,some 1] (hj_3 y1 hM) (zM rfl ⟨9,rfl⟩ (zM rfl ⟨9,rfl⟩ (zM rfl (ze rfl) (zM rfl (ze rfl) (ga rfl rfl)))))
 obtain ⟨y_1,hM,hy⟩:=zz hM
 rw [hr_1 _ hy.symm] at hM
 refine au 1 ?_
 exact X.gy [some 0] (hj_1 l5 hM) (zM rfl ⟨9,rfl⟩ (zM rfl (ze rfl) zD8))
theorem zLU {l r:List Int} (hM:slices_Clone_int l=some r):Ct Tryz.prog 75 [V.sl (List.map V.i l)] (V.sl (List.map V.i r)):=by
 unfold slices_Clone_int at hM
 have hr:r=l:=by obtain ⟨_,e⟩:=zCd hM; simpa using e
 refine zP zl rfl ?_
 refine au 6 ?_
 refine X.zKo rfl rfl rfl rfl rfl rfl (fun h=>?_) ?_
 ·have hl:r=[]:=by rw [hr]; simpa using h
  subst hl
  refine GS.zV ?_
  refine GS.zFt rfl ?_
  refine au 3 ?_
  exact X.rt
 ·refine GS.zV ?_
  refine GS.zCF rfl ?_
  refine au 4 ?_
  refine X.opW rfl (X.appO (f:=V.i) (l:=[]) (xs:=l) hM (fun _=>rfl) rfl rfl rfl rfl rfl rfl rfl rfl rfl rfl) rfl rfl ?_
  refine au 2 ?_
  exact GS.ret ⟨_,rfl,FR.osl (f:=V.i) (l:=r) 9 rfl rfl (fun _=>rfl)⟩
theorem clone_int {all os:List Oper} {k:List It} {K:List (Nat×V)} {H:List Blk} {lo n d N:Nat} {rnd:Option Nat} {Q:Ex→St→Prop} {p:Op} {ty:TypeId} {pos:String} {after:Array Edge} {g:Option (Nat×Bool)} {l r:List Int} (hM:app [] l=some r) (hw:wants all K g=some true) (hc:callee K p=some (.fn 75 [.sl (l.map V.i)])) (hd:Nat.blt d n=true) (hlo:Nat.ble lo H.length=true) {i:Nat} (hi:H.length+1=i)
  (h:∀ z:Bool,GS CC N (.ops all os :: k) ⟨(d,ovlz z i r) :: K,H++[.dead,oblz z 1 V.i r],lo,rnd,n⟩ Q):GS CC N (.ops all (⟨some d,p,ty,pos,after,g⟩ :: os) :: k) ⟨K,H,lo,rnd,n⟩ Q:=by
 subst hi
 have hr:r=l:=by obtain ⟨_,e⟩:=zCd hM; simpa using e
 refine GS.im (s:=⟨K,H,lo,rnd,n⟩) (fun v H1 => ∃ z:Bool,v=ovlz z (H.length+1) r∧H1=H++[.dead,oblz z 1 V.i r]) hw hc rfl ?_ (fun v H1 hT=>?_)
 ·refine GS.seq ?_
  refine GS.region ?_
  refine X.opR rfl rfl rfl ?_
  refine GS.zV ?_
  iterate 2 refine GS.seq ?_
  refine GS.region ?_
  refine X.opR rfl rfl rfl ?_
  refine X.zKo rfl rfl rfl rfl rfl rfl (fun h=>?_) ?_
  ·have hl:r=[]:=by rw [hr]; simpa using h
   subst hl
   refine GS.zV ?_
   refine GS.zFt rfl ?_
   refine GS.seq ?_
   refine GS.region ?_
   refine X.opR rfl rfl rfl ?_
   refine GS.zV ?_
   refine GS.pad ?_
   refine GS.pad ?_
   exact GS.ret ⟨_,rfl,true,rfl,by simp [oblz]⟩
  ·refine GS.zV ?_
   refine GS.zCF rfl ?_
   refine GS.skip ?_
   refine GS.seq ?_
   refine GS.region ?_
   refine X.opW rfl (v:=.osl H.length 0 0) (wr:=[(H.length,.rows 1 [])]) rfl X.zHa rfl ?_
   refine X.opR rfl rfl rfl ?_
   refine X.opW (H':=H++[.dead,.rows 1 (r.map V.i)]) rfl (X.appO (f:=V.i) (l:=[]) (xs:=l) (es:=1) hM (fun _=>rfl) rfl rfl rfl rfl rfl rfl X.zKx hlo rfl rfl) ?_ rfl ?_
   ·show hput (hput (H++[Blk.rows 1 []]) H.length Blk.dead) (H++[Blk.rows 1 []]).length (Blk.rows 1 (r.map V.i))=_
    have e1:hput (H++[Blk.rows 1 []]) H.length Blk.dead=H++[Blk.dead]:=X.puts_end' (B:=.rows 1 []) (B':=.dead)
    rw [e1,show (H++[Blk.rows 1 []]).length=(H++[Blk.dead]).length by simp,zB9]
    simp
   refine X.opR rfl rfl rfl ?_
   refine GS.zV ?_
   exact GS.ret ⟨_,rfl,false,by simp [ovlz],rfl⟩
 ·obtain ⟨z,rfl,rfl⟩:=hT
  exact X.front rfl hd (h z) rfl
theorem zDr {l r:List Int} (hM:app [] l=some r):zF1 Tryz.prog 75 [V.sl (List.map V.i l)] (fun z=>ovlz z 0 r) (fun z=>oblz z 1 V.i r):=by
 have hr:r=l:=by obtain ⟨_,e⟩:=zCd hM; simpa using e
 refine zJI zl rfl ?_
 refine au 6 ?_
 refine X.zKo rfl rfl rfl rfl rfl rfl (fun h=>?_) ?_
 ·have hl:r=[]:=by rw [hr]; simpa using h
  subst hl
  refine GS.zV ?_
  refine GS.zFt rfl ?_
  refine au 3 ?_
  refine GS.pad ?_
  exact GS.ret ⟨true,rfl,rfl⟩
 ·refine GS.zV ?_
  refine GS.zCF rfl ?_
  refine au 4 ?_
  refine X.opW rfl (X.appO (f:=V.i) (l:=[]) (xs:=l) hM (fun _=>rfl) rfl rfl rfl rfl rfl rfl rfl rfl rfl rfl) rfl rfl ?_
  refine au 2 ?_
  refine X.gc [some 1] (H':=[.rows 1 (List.map V.i r)]) (K':=[(2,(V.osl 0 0 (List.length r)))]) ?_ rfl rfl rfl (ga rfl rfl) (zG8 9 rfl rfl (fun _=>rfl) ZA)
  exact GS.ret ⟨false,rfl,rfl⟩
set_option maxHeartbeats 4000000 in
theorem zEY {b:zL} {r:(List ZO)} (hM:zAl b=some r):Ct Tryz.prog 51 [(V.fptr [(zN b)] 0 0)] (V.sl (List.map ZM r)):=by
 refine zP zl rfl ?_
 unfold zAl at hM
 refine au 3 ?_
 refine GS.scope ?_
 obtain ⟨y,h_1,hM⟩:=zF hM
 refine au 2 ?_
 refine X.zCG (v:=(V.tup [V.uns,(V.i y.2)])) (Ct.mask (yf h_1)) rfl rfl rfl (m:=9) rfl (.cons (.shut (n:=9) rfl) (.cons (.nil (n:=9) rfl) .nil)) ?_
 refine au 12 ?_
 refine GS.seq ?_
 refine GS.label ?_
 refine au 9 ?_
 refine X.join (τ:=(List ZO)) (fun v=>yl v=some r) (fun v=>⟨[(6,(ovl 0 v))],[obl 5 ZM v],0,none,85⟩) ?_ ?_
 ·intro l hM
  replace hM:yl l=some r:=hM
  unfold yl at hM
  refine au 4 ?_
  have hE:=Option.some.inj hM
  subst hE
  exact GS.ret ⟨_,rfl,FR.ovl (f:=ZM) (l:=l) 9 rfl rfl (fun _=>rfl)⟩
 intro hj_1
 refine au 1 ?_
 refine X.gx [none,none] (X.loop (σ:=(Int×(List Int)×(List ZO))) (fun v=>⟨[(0,(V.fptr [(zN b)] 0 0)),(4,(V.i y.2)),(5,(ovl 0 v.2.1)),(6,(ovl 1 v.2.2)),(23,(V.sl (List.map zH b.calls))),(24,(V.i (b.calls.length:Int))),(25,(V.i v.1))],[obl 1 V.i v.2.1,obl 5 ZM v.2.2],0,none,85⟩) hM ?_ rfl)
 rintro ⟨x4,l8,l9⟩ b_1 hM hc_2 hr_1
 rw [zBZ] at hM
 refine au 3 ?_
 refine GS.seq ?_
 refine X.cm hM (fun h_2 hM=>?_) (fun h_2 hM=>?_)
 ·refine GS.skip (GS.seq ?_)
  refine X.join (τ:=(List Int)×(List ZO)) (fun v=>Jc x4 v.1 v.2=some b_1) (fun v=>⟨[(0,(V.fptr [(zN b)] 0 0)),(4,(V.i y.2)),(5,(ovl 0 v.1)),(6,(ovl 1 v.2)),(23,(V.sl (List.map zH b.calls))),(24,(V.i (b.calls.length:Int))),(25,(V.i x4))],[obl 1 V.i v.1,obl 5 ZM v.2],0,none,85⟩) ?_ ?_
  ·rintro ⟨l1,l2⟩ hM
   replace hM:Jc x4 l1 l2=some b_1:=hM
   unfold Jc at hM
   refine au 4 ?_
   have hE:=Option.some.inj hM
   exact X.gy [some 0,some 1] (hc_2 (w64 (x4+1),l1,l2) hE.symm) (zM rfl ⟨9,rfl⟩ (zM rfl ⟨9,rfl⟩ (zM rfl (ze rfl) (zM rfl (ze rfl) (ga rfl rfl)))))
  intro hj_3
  obtain ⟨x,h_3,hM⟩:=zF hM
  refine au 7 ?_
  refine X.op0W rfl rfl rfl ?_
  refine au 10 ?_
  refine X.join (τ:=Unit) (fun v=>yj x4 l8 l9=some b_1) (fun v=>⟨[(0,(V.fptr [(zN b)] 0 0)),(4,(V.i y.2)),(5,(ovl 0 l8)),(6,(ovl 1 l9)),(23,(V.sl (List.map zH b.calls))),(24,(V.i (b.calls.length:Int))),(25,(V.i x4))],[obl 1 V.i l8,obl 5 ZM l9],0,none,85⟩) ?_ ?_
  ·intro _ hM
   replace hM:yj x4 l8 l9=some b_1:=hM
   unfold yj at hM
   obtain ⟨l3,h_4,hM⟩:=zF hM
   refine au 3 ?_
   refine X.appN (f:=V.i) h_4 (fun _=>rfl) (by rfl) (by rfl) (by rfl) (by rfl) (by rfl) (by rfl) (by rfl) (by rfl) (by rfl) (by rfl) (by rfl) (by exact rfl) (by rfl) (by rfl) ?_
   refine au 3 ?_
   exact X.gc [some 3,some 1] (hj_3 (l3,l9) hM) rfl rfl rfl (zM rfl ⟨9,rfl⟩ (zM rfl ⟨9,rfl⟩ (zM rfl (zAa (Z6 h_4) rfl) (zM rfl (ze rfl) (ga rfl rfl))))) (gb_obl' 9 (Z6 h_4) rfl rfl (fun _=>rfl) (Ze 9 rfl rfl (fun _=>rfl) ZA))
  intro hj_4
  refine au 1 ?_
  refine X.gy [some 0,some 1,some 2] (X.loop (σ:=Int) (fun v=>⟨[(0,(V.fptr [(zN b)] 0 0)),(4,(V.i y.2)),(5,(ovl 0 l8)),(6,(ovl 1 l9)),(7,(V.i x4)),(8,(V.ptr 2 0 0)),(23,(V.sl (List.map zH b.calls))),(24,(V.i (b.calls.length:Int))),(25,(V.i x4)),(33,(V.sl (List.map zA b.slots))),(34,(V.i (b.slots.length:Int))),(35,(V.i v))],[obl 1 V.i l8,obl 5 ZM l9,.rows 5 [(zH x)]],0,none,85⟩) hM ?_ rfl) (zM rfl ⟨9,rfl⟩ (zM rfl ⟨9,rfl⟩ (zM rfl (ze rfl) (zM rfl (ze rfl) (ga rfl rfl)))))
  intro x3 b_2 hM hc_5 hr_2
  rw [zBY] at hM
  refine au 3 ?_
  refine GS.seq ?_
  refine X.cm hM (fun h_5 hM=>?_) (fun h_5 hM=>?_)
  ·refine GS.skip (GS.seq ?_)
   refine X.join (τ:=Unit) (fun v=>Jb x3=some b_2) (fun v=>⟨[(0,(V.fptr [(zN b)] 0 0)),(4,(V.i y.2)),(5,(ovl 0 l8)),(6,(ovl 1 l9)),(7,(V.i x4)),(8,(V.ptr 2 0 0)),(23,(V.sl (List.map zH b.calls))),(24,(V.i (b.calls.length:Int))),(25,(V.i x4)),(33,(V.sl (List.map zA b.slots))),(34,(V.i (b.slots.length:Int))),(35,(V.i x3))],[obl 1 V.i l8,obl 5 ZM l9,.rows 5 [(zH x)]],0,none,85⟩) ?_ ?_
   ·intro _ hM
    replace hM:Jb x3=some b_2:=hM
    unfold Jb at hM
    refine au 4 ?_
    have hE:=Option.some.inj hM
    exact X.gy [some 0,some 1,some 2] (hc_5 (w64 (x3+1)) hE.symm) (zM rfl ⟨9,rfl⟩ (zM rfl ⟨9,rfl⟩ (zM rfl (ze rfl) (zM rfl (ze rfl) (ga rfl rfl)))))
   intro hj_6
   obtain ⟨x1,h_6,hM⟩:=zF hM
   refine au 5 ?_
   refine X.opW (H':=[obl 1 V.i l8,obl 5 ZM l9,.rows 5 [(zH x)],.rows 2 [(V.agg [(V.i 0),(V.i 0)])]]) rfl rfl rfl rfl (X.q rfl ?_)
   refine X.op0W (H':=[obl 1 V.i l8,obl 5 ZM l9,.rows 5 [(zH x)],.rows 2 [(zA x1)]]) rfl rfl rfl ?_
   obtain ⟨x2,h_7,hM⟩:=zF hM
   refine GS.zV (GS.seq ?_)
   refine X.draw (by kernel_rfl) ?_
   refine au 5 ?_
   refine X.dop rfl (X.Zh (f:=(fun l=>V.fmap (List.map (fun p=>zA p.1) l) (List.map (fun p=>zI p.2) l))) h_7 (fun _=>rfl) rfl rfl rfl rfl) rfl rfl (by kernel_rfl) rfl rfl ?_
   refine au 2 ?_
   refine X.dop rfl (X.zIA (f:=zA) (g:=zI) (k:=x1) (l:=x2) (z:=(⟨0,0⟩:zC)) (ok:=true) Qf rfl rfl rfl rfl rfl) rfl rfl (by kernel_rfl) rfl rfl ?_
   refine au 4 ?_
   refine X.dop0 rfl rfl rfl rfl (by kernel_rfl) rfl ?_
   refine au 2 ?_
   refine X.norm [(0,(V.fptr [(zN b)] 0 0)),(4,(V.i y.2)),(5,(ovl 0 l8)),(6,(ovl 1 l9)),(7,(V.i x4)),(8,(V.ptr 2 0 0)),(9,(V.i x3)),(10,(V.ptr 3 0 0)),(11,(V.ptr 4 0 0)),(12,(V.b ((ZE x1 x2).isSome))),(23,(V.sl (List.map zH b.calls))),(24,(V.i (b.calls.length:Int))),(25,(V.i x4)),(33,(V.sl (List.map zA b.slots))),(34,(V.i (b.slots.length:Int))),(35,(V.i x3))] ?_ rfl (sr rfl)
   refine au 5 ?_
   refine X.cm hM (fun h_8 hM=>?_) (fun h_8 hM=>?_)
   ·refine au 1 ?_
    exact X.gy [some 0,some 1,some 2] (hj_6 () hM) (zM rfl ⟨9,rfl⟩ (zM rfl ⟨9,rfl⟩ (zM rfl (ze rfl) (zM rfl (ze rfl) (ga rfl rfl)))))
   obtain ⟨l4,h_9,hM⟩:=zF hM
   obtain ⟨l5,h_10,hM⟩:=zF hM
   obtain ⟨y1,h_11,hM⟩:=zF hM
   refine au 4 ?_
   refine X.ownF (zDr h_9) (nn:=9) (fun _=>rfl) rfl rfl rfl (.cons (FR.arg (FR.ovl (f:=V.i) (l:=l8) 9 rfl rfl (fun _=>rfl))) .nil) rfl (fun z_144=>(X.q rfl ?_))
   refine X.opW (H':=[obl 1 V.i l8,obl 5 ZM l9,.rows 5 [(zH x)],.rows 2 [(zA x1)],.rows 2 [(zI ((ZE x1 x2).getD (⟨0,0⟩:zC)))],oblz z_144 1 V.i l4,.rows 1 (List.map V.i ([x3]))]) rfl rfl rfl rfl ?_
   refine X.appN (f:=V.i) h_10 (fun _=>rfl) (by rfl) (by rfl) (by rfl) (by rfl) (by rfl) (by rfl) (by rfl) (by rfl) (by rfl) (by rfl) (by rfl) (by exact rfl) (by rfl) (by rfl) ?_
   refine X.zCG (v:=(V.tup [V.uns,(V.i y1.2)])) (Ct.mask (yf h_11)) rfl rfl rfl (m:=9) rfl (.cons (.shut (n:=9) rfl) (.cons (FR.arg (FR.osl (f:=V.i) (l:=l5) 9 rfl rfl (fun _=>rfl))) .nil)) ?_
   refine au 11 ?_
   refine X.cm hM (fun h_12 hM=>?_) (fun h_12 hM=>?_)
   ·obtain ⟨l6,h_13,hM⟩:=zF hM
    refine au 3 ?_
    refine X.opW (H':=[obl 1 V.i l8,obl 5 ZM l9,.rows 5 [(zH x)],.rows 2 [(zA x1)],.rows 2 [(zI ((ZE x1 x2).getD (⟨0,0⟩:zC)))],.dead,.rows 1 (List.map V.i ([x3])),.rows 1 (List.map V.i l5),.rows 1 (List.map V.i ([x3]))]) rfl rfl rfl rfl ?_
    refine X.appN (f:=V.i) h_13 (fun _=>rfl) (by rfl) (by rfl) (by rfl) (by rfl) (by rfl) (by rfl) (by rfl) (by rfl) (by rfl) (by rfl) (by rfl) (by exact rfl) (by rfl) (by rfl) ?_
    obtain ⟨l7,h_14,hM⟩:=zF hM
    refine au 9 ?_
    refine X.opW (H':=[.dead,obl 5 ZM l9,.rows 5 [(zH x)],.rows 2 [(zA x1)],.rows 2 [(zI ((ZE x1 x2).getD (⟨0,0⟩:zC)))],.dead,.rows 1 (List.map V.i ([x3])),.rows 1 (List.map V.i l5),.rows 1 (List.map V.i ([x3])),.rows 1 (List.map V.i l6),.rows 5 (List.map ZM ([(⟨x.ID,x1,((ZE x1 x2).getD (⟨0,0⟩:zC))⟩:ZO)]))]) rfl rfl rfl rfl ?_
    refine X.appN (f:=ZM) h_14 (fun _=>rfl) (by rfl) (by rfl) (by rfl) (by rfl) (by rfl) (by rfl) (by rfl) (by rfl) (by rfl) (by rfl) (by rfl) (by exact rfl) (by rfl) (by rfl) ?_
    obtain ⟨y_2,hM,hy⟩:=zz hM
    rw [hr_2 _ hy.symm] at hM
    refine au 3 ?_
    exact X.gc [some 9,some 11] (hj_3 (l6,l7) hM) rfl rfl rfl (zM rfl ⟨9,rfl⟩ (zM rfl ⟨9,rfl⟩ (zM rfl (zAa (Z6 h_13) rfl) (zM rfl (zAa (Z6 h_14) rfl) (ga rfl rfl))))) (gb_obl' 9 (Z6 h_13) rfl rfl (fun _=>rfl) (gb_obl' 9 (Z6 h_14) rfl rfl (fun _=>rfl) ZA))
   refine au 2 ?_
   exact X.gy [some 0,some 1,some 2] (hj_6 () hM) (zM rfl ⟨9,rfl⟩ (zM rfl ⟨9,rfl⟩ (zM rfl (ze rfl) (zM rfl (ze rfl) (ga rfl rfl)))))
  obtain ⟨y_2,hM,hy⟩:=zz hM
  rw [hr_2 _ hy.symm] at hM
  refine au 1 ?_
  exact X.gy [some 0,some 1] (hj_4 () hM) (zM rfl ⟨9,rfl⟩ (zM rfl ⟨9,rfl⟩ (zM rfl (ze rfl) (zM rfl (ze rfl) (ga rfl rfl)))))
 obtain ⟨y_1,hM,hy⟩:=zz hM
 rw [hr_1 _ hy.symm] at hM
 refine au 1 ?_
 exact X.gy [some 1] (hj_1 l9 hM) (zM rfl (ze rfl) zD8)
theorem zI1 {h:zG} {l:(List zJ)} {r:(List ZO)×Int} (hM:zDN h l=some r):Ct Tryz.prog 20 [(zD h),(V.sl (List.map zH l))] (V.tup [(V.sl (List.map ZM r.1)),(V.i r.2)]):=by
 refine zP zl rfl ?_
 unfold zDN at hM
 obtain ⟨y,h_1,hM⟩:=zF hM
 refine au 9 ?_
 refine X.ca (yg h_1) ?_
 refine au 6 ?_
 refine X.cm hM (fun h_2 hM=>?_) (fun h_2 hM=>?_)
 ·refine au 5 ?_
  cases hM
  exact X.rt
 obtain ⟨y1,h_3,hM⟩:=zF hM
 obtain ⟨y2,h_4,hM⟩:=zF hM
 refine au 4 ?_
 refine X.ca (zAu h_3) ?_
 refine X.ca (zEY h_4) ?_
 refine au 3 ?_
 cases hM
 exact X.rt
theorem zC7 {c:zJ} {c1:zL} {c2:zB} {c3:(List (Int×Bool))} {r:Bool} (hM:Je c c1 c2 c3=some r):Ct Tryz.prog 57 [(zH c),(V.fptr [(V.fptr [(zN c1)] 0 0)] 0 0),(V.fptr [(zA c2)] 0 0),(V.fptr [(V.fmap (List.map (fun p:Int×Bool=>V.i p.1) c3) (List.map (fun p:Int×Bool=>V.b p.2) c3))] 0 0)] (V.b r):=by
 refine zP zl rfl ?_
 unfold Je at hM
 obtain ⟨y,h_1,hM⟩:=zF hM
 refine au 12 ?_
 refine X.cca (jH h_1) ?_
 refine au 2 ?_
 refine X.norm [(1,(V.fptr [(V.fptr [(zN c1)] 0 0)] 0 0)),(2,(V.fptr [(zA c2)] 0 0)),(3,(V.fptr [(V.fmap (List.map (fun p:Int×Bool=>V.i p.1) c3) (List.map (fun p:Int×Bool=>V.b p.2) c3))] 0 0)),(6,(V.i y))] ?_ rfl (sr rfl)
 obtain ⟨x,h_2,hM⟩:=zF hM
 refine GS.seq ?_
 refine X.draw (by kernel_rfl) ?_
 refine au 5 ?_
 refine X.dop rfl (X.Zh (f:=(fun l=>V.fmap (List.map (fun p=>zA p.1) l) (List.map (fun p=>zI p.2) l))) h_2 (fun _=>rfl) rfl rfl rfl rfl) rfl rfl (by kernel_rfl) rfl rfl ?_
 refine au 2 ?_
 refine X.dop rfl (X.zIA (f:=zA) (g:=zI) (k:=c2) (l:=x) (z:=(⟨0,0⟩:zC)) (ok:=true) Qf rfl rfl rfl rfl rfl) rfl rfl (by kernel_rfl) rfl rfl ?_
 refine au 4 ?_
 refine X.dop0 rfl rfl rfl rfl (by kernel_rfl) rfl ?_
 refine au 2 ?_
 refine X.norm [(3,(V.fptr [(V.fmap (List.map (fun p:Int×Bool=>V.i p.1) c3) (List.map (fun p:Int×Bool=>V.b p.2) c3))] 0 0)),(6,(V.i y)),(8,(V.b ((ZE c2 x).isSome)))] ?_ rfl (sr rfl)
 refine X.sq ?_
 refine X.mid [(5,(V.b (((ZE c2 x).isSome)&&((ZE y c3).getD false))))] ?_ ?_
 ·intro hg
  refine X.split ((ZE c2 x).isSome) (fun h_3=>?_) (fun h_3=>?_)
  ·refine au 4 ?_
   refine X.opR (X.on_t rfl rfl rfl h_3) (X.zIA (f:=V.i) (g:=V.b) (k:=y) (l:=c3) (z:=false) (ok:=false) X.zBh rfl rfl rfl rfl rfl) rfl ?_
   refine au 3 ?_
   exact X.ng hg rfl (by simp only [h_3,X.bb])
  refine au 8 ?_
  exact X.ng hg rfl (by simp only [h_3,X.bb])
 cases hM
 exact X.rt
theorem J5 {s:(List zJ)} {c:zL} {c1:zB} {c2:(List (Int×Bool))} {r:Int} (hM:ZH s c c1 c2=some r):Ct Tryz.prog 63 [(V.sl (List.map zH s)),(V.fn 57 [(V.fptr [(V.fptr [(zN c)] 0 0)] 0 0),(V.fptr [(zA c1)] 0 0),(V.fptr [(V.fmap (List.map (fun p:Int×Bool=>V.i p.1) c2) (List.map (fun p:Int×Bool=>V.b p.2) c2))] 0 0)])] (V.i r):=by
 refine zP zl rfl ?_
 unfold ZH at hM
 refine au 9 ?_
 refine X.join (τ:=Unit) (fun v=>ZL=some r) (fun v=>⟨[],[],0,none,19⟩) ?_ ?_
 ·intro _ hM
  replace hM:ZL=some r:=hM
  unfold ZL at hM
  refine au 3 ?_
  cases hM
  exact X.rt
 intro hj_1
 refine au 1 ?_
 refine X.gx [] (X.loop (σ:=Int) (fun v=>⟨[(0,(V.sl (List.map zH s))),(1,(V.fn 57 [(V.fptr [(V.fptr [(zN c)] 0 0)] 0 0),(V.fptr [(zA c1)] 0 0),(V.fptr [(V.fmap (List.map (fun p:Int×Bool=>V.i p.1) c2) (List.map (fun p:Int×Bool=>V.b p.2) c2))] 0 0)])),(7,(V.i (s.length:Int))),(8,(V.i v))],[],0,none,19⟩) hM ?_ rfl)
 intro x1 b_1 hM hc_2 hr_1
 rw [Zd] at hM
 refine au 3 ?_
 refine GS.seq ?_
 refine X.cm hM (fun h_1 hM=>?_) (fun h_1 hM=>?_)
 ·obtain ⟨x,h_2,hM⟩:=zF hM
  obtain ⟨y,h_3,hM⟩:=zF hM
  refine au 13 ?_
  refine X.ca (zC7 h_3) ?_
  refine GS.zV ?_
  refine X.cm hM (fun h_4 hM=>?_) (fun h_4 hM=>?_)
  ·refine au 4 ?_
   have hE:=Option.some.inj hM
   replace hE:=hr_1 _ hE.symm
   subst hE
   exact X.rt
  refine au 6 ?_
  have hE:=Option.some.inj hM
  exact X.gx [] (hc_2 (w64 (x1+1)) hE.symm)
 obtain ⟨y_1,hM,hy⟩:=zz hM
 rw [hr_1 _ hy.symm] at hM
 refine au 1 ?_
 exact X.gx [] (hj_1 () hM)
theorem Jh {s:(List zJ)} {c:zL} {c1:zB} {c2:(List (Int×Bool))} {r:Bool} (hM:ZB s c c1 c2=some r):Ct Tryz.prog 56 [(V.sl (List.map zH s)),(V.fn 57 [(V.fptr [(V.fptr [(zN c)] 0 0)] 0 0),(V.fptr [(zA c1)] 0 0),(V.fptr [(V.fmap (List.map (fun p:Int×Bool=>V.i p.1) c2) (List.map (fun p:Int×Bool=>V.b p.2) c2))] 0 0)])] (V.b r):=by
 refine zP zl rfl ?_
 unfold ZB at hM
 obtain ⟨y,h_1,hM⟩:=zF hM
 refine au 6 ?_
 refine X.ca (J5 h_1) ?_
 refine au 3 ?_
 cases hM
 exact X.rt
set_option maxHeartbeats 4000000 in
theorem zBE {b:zL} {ships:(List (Int×Bool))} {r:zZ} (hM:jM b ships=some r):Ct Tryz.prog 24 [(V.fptr [(zN b)] 0 0),(V.fmap (List.map (fun p:Int×Bool=>V.i p.1) ships) (List.map (fun p:Int×Bool=>V.b p.2) ships))] (Zq r):=by
 refine zP zl rfl ?_
 unfold jM at hM
 refine au 6 ?_
 refine X.opW (H':=[.rows 1 [(V.fptr [(zN b)] 0 0)],.rows 1 [(V.fmap (List.map (fun p:Int×Bool=>V.i p.1) ships) (List.map (fun p:Int×Bool=>V.b p.2) ships))],.rows 2 [(V.agg [V.nil,V.nil])],.rows 2 [(V.agg [V.nil,V.nil])]]) rfl rfl rfl rfl ?_
 refine au 10 ?_
 refine X.join (τ:=(List Int)) (fun v=>Zu b ships v=some r) (fun v=>⟨[(2,(V.ptr 0 0 0)),(3,(V.ptr 1 0 0)),(4,(V.ptr 2 0 0)),(5,(V.ptr 3 0 0))],[.rows 1 [(V.fptr [(zN b)] 0 0)],.rows 1 [(V.fmap (List.map (fun p:Int×Bool=>V.i p.1) ships) (List.map (fun p:Int×Bool=>V.b p.2) ships))],.rows 2 [(V.agg [V.nil,V.nil])],.rows 2 [(V.agg [(ovl 4 v),V.nil])],obl 1 V.i v],0,none,57⟩) ?_ ?_
 ·intro l hM
  replace hM:Zu b ships l=some r:=hM
  unfold Zu at hM
  obtain ⟨l1,h_1,hM⟩:=zF hM
  refine au 3 ?_
  refine X.norm [(2,(V.ptr 0 0 0)),(3,(V.ptr 1 0 0)),(4,(V.ptr 2 0 0)),(5,(V.ptr 3 0 0)),(31,(V.ptr 3 0 0)),(32,(ovl 4 l))] ?_ rfl (sr rfl)
  refine X.sortInt (z:=true) h_1 zNm zKV (fun _ _ _ h=>h) (K':=[(2,(V.ptr 0 0 0)),(3,(V.ptr 1 0 0)),(4,(V.ptr 2 0 0)),(5,(V.ptr 3 0 0)),(31,(V.ptr 3 0 0)),(32,(ovl 4 l1))]) (H':=[.rows 1 [(V.fptr [(zN b)] 0 0)],.rows 1 [(V.fmap (List.map (fun p:Int×Bool=>V.i p.1) ships) (List.map (fun p:Int×Bool=>V.b p.2) ships))],.rows 2 [(V.agg [V.nil,V.nil])],.rows 2 [(V.agg [(ovl 4 l1),V.nil])],obl 1 V.i l1]) rfl rfl rfl rfl rfl rfl ?_ ?_ ?_
  ·first | rfl | rw [X.zCk (zA3 h_1)] | simp only [ovl,X.zCk (zA3 h_1)] | simp only [zA3 h_1]
  ·first | rfl | (simp only [hput]; rfl) | (simp only [ovl,obl]; rw [X.zCk (zA3 h_1)] <;> rfl)
  refine au 10 ?_
  refine X.join (τ:=(List zB)) (fun v=>JJ l1 v=some r) (fun v=>⟨[(4,(V.ptr 0 0 0)),(5,(V.ptr 1 0 0))],[.rows 2 [(V.agg [V.nil,V.nil])],.rows 2 [(V.agg [(ovl 2 l1),(ovl 3 v)])],obl 1 V.i l1,obl 2 zA v],0,none,57⟩) ?_ ?_
  ·intro l2 hM
   replace hM:JJ l1 l2=some r:=hM
   unfold JJ at hM
   refine au 2 ?_
   refine X.op0W (H':=[.rows 2 [(V.agg [(ovl 2 l1),(ovl 3 l2)])],.rows 2 [(V.agg [(ovl 2 l1),(ovl 3 l2)])],obl 1 V.i l1,obl 2 zA l2]) rfl (v:=jF) (wr:=[(0,.rows 2 [(V.agg [(ovl 2 l1),(ovl 3 l2)])])]) (by rcases X.Yv (z:=true) 2 l1 with h0 | ⟨n0,h0⟩ <;> rcases X.Yv (z:=true) 3 l2 with h1 | ⟨n1,h1⟩ <;> simp only [h0,h1] <;> rfl) rfl ?_
   refine GS.zV ?_
   have hE:=Option.some.inj hM
   subst hE
   exact GS.ret ⟨_,rfl,FR.agg (.cons (FR.ovl (f:=V.i) (l:=l1) 9 rfl rfl (fun _=>rfl)) (.cons (FR.ovl (f:=zA) (l:=l2) 9 rfl rfl (fun _=>rfl)) .nil))⟩
  intro hj_2
  refine au 1 ?_
  refine X.gc [some 0,some 1,some 2,some 3,some 4,none] (X.loop (σ:=(Int×(List zB))) (fun v=>⟨[(2,(V.ptr 0 0 0)),(3,(V.ptr 1 0 0)),(4,(V.ptr 2 0 0)),(5,(V.ptr 3 0 0)),(37,(V.sl (List.map zA b.slots))),(38,(V.i (b.slots.length:Int))),(39,(V.i v.1))],[.rows 1 [(V.fptr [(zN b)] 0 0)],.rows 1 [(V.fmap (List.map (fun p:Int×Bool=>V.i p.1) ships) (List.map (fun p:Int×Bool=>V.b p.2) ships))],.rows 2 [(V.agg [V.nil,V.nil])],.rows 2 [(V.agg [(ovl 4 l1),(ovl 5 v.2)])],obl 1 V.i l1,obl 2 zA v.2],0,none,57⟩) hM ?_ rfl) rfl rfl rfl (ga rfl rfl) (gb9 rfl rfl rfl (gb9 rfl rfl rfl (gb9 rfl rfl rfl (jI rfl rfl (J7 (.cons (ze rfl) (.cons ⟨9,rfl⟩ .nil))) (Ze 9 rfl rfl (fun _=>rfl) (gb_pad' rfl ZA))))))
  rintro ⟨x1,l5⟩ b_1 hM hc_3 hr_1
  rw [jV] at hM
  refine au 3 ?_
  refine GS.seq ?_
  refine X.cm hM (fun h_2 hM=>?_) (fun h_2 hM=>?_)
  ·refine GS.skip (GS.seq ?_)
   refine X.join (τ:=(List zB)) (fun v=>jB x1 v=some b_1) (fun v=>⟨[(2,(V.ptr 0 0 0)),(3,(V.ptr 1 0 0)),(4,(V.ptr 2 0 0)),(5,(V.ptr 3 0 0)),(37,(V.sl (List.map zA b.slots))),(38,(V.i (b.slots.length:Int))),(39,(V.i x1))],[.rows 1 [(V.fptr [(zN b)] 0 0)],.rows 1 [(V.fmap (List.map (fun p:Int×Bool=>V.i p.1) ships) (List.map (fun p:Int×Bool=>V.b p.2) ships))],.rows 2 [(V.agg [V.nil,V.nil])],.rows 2 [(V.agg [(ovl 4 l1),(ovl 5 v)])],obl 1 V.i l1,obl 2 zA v],0,none,57⟩) ?_ ?_
   ·intro l3 hM
    replace hM:jB x1 l3=some b_1:=hM
    unfold jB at hM
    refine au 4 ?_
    have hE:=Option.some.inj hM
    exact X.gc [some 0,some 1,some 2,some 3,some 4,some 5] (hc_3 (w64 (x1+1),l3) hE.symm) rfl rfl rfl (ga rfl rfl) (gb9 rfl rfl rfl (gb9 rfl rfl rfl (gb9 rfl rfl rfl (jI rfl rfl (J7 (.cons (ze rfl) (.cons (ze rfl) .nil))) (Ze 9 rfl rfl (fun _=>rfl) (Ze 9 rfl rfl (fun _=>rfl) ZA))))))
   intro hj_4
   obtain ⟨x,h_3,hM⟩:=zF hM
   refine au 4 ?_
   refine X.opW (H':=[.rows 1 [(V.fptr [(zN b)] 0 0)],.rows 1 [(V.fmap (List.map (fun p:Int×Bool=>V.i p.1) ships) (List.map (fun p:Int×Bool=>V.b p.2) ships))],.rows 2 [(V.agg [V.nil,V.nil])],.rows 2 [(V.agg [(ovl 4 l1),(ovl 5 l5)])],obl 1 V.i l1,obl 2 zA l5,.rows 2 [(V.agg [(V.i 0),(V.i 0)])]]) rfl rfl rfl rfl ?_
   refine X.op0W (H':=[.rows 1 [(V.fptr [(zN b)] 0 0)],.rows 1 [(V.fmap (List.map (fun p:Int×Bool=>V.i p.1) ships) (List.map (fun p:Int×Bool=>V.b p.2) ships))],.rows 2 [(V.agg [V.nil,V.nil])],.rows 2 [(V.agg [(ovl 4 l1),(ovl 5 l5)])],obl 1 V.i l1,obl 2 zA l5,.rows 2 [(zA x)]]) rfl rfl rfl ?_
   obtain ⟨y,h_4,hM⟩:=zF hM
   refine au 7 ?_
   refine X.zCG (Jh h_4) rfl rfl rfl (m:=9) rfl (.cons (.shut (n:=9) rfl) (.cons (FR.arg ⟨30,rfl⟩) .nil)) ?_
   refine GS.zV ?_
   refine X.cm hM (fun h_5 hM=>?_) (fun h_5 hM=>?_)
   ·obtain ⟨l4,h_6,hM⟩:=zF hM
    refine au 4 ?_
    refine X.opW (H':=[.rows 1 [(V.fptr [(zN b)] 0 0)],.rows 1 [(V.fmap (List.map (fun p:Int×Bool=>V.i p.1) ships) (List.map (fun p:Int×Bool=>V.b p.2) ships))],.rows 2 [(V.agg [V.nil,V.nil])],.rows 2 [(V.agg [(ovl 4 l1),(ovl 5 l5)])],obl 1 V.i l1,obl 2 zA l5,.rows 2 [(zA x)],.rows 2 (List.map zA ([x]))]) rfl rfl rfl rfl ?_
    refine X.appN (f:=zA) h_6 (fun _=>rfl) (by rfl) (by rfl) (by rfl) (by rfl) (by rfl) (by rfl) (by rfl) (by rfl) (by rfl) (by rfl) (by rfl) (by exact rfl) (by rfl) (by rfl) (X.q rfl ?_)
    refine X.op0W (H':=[.rows 1 [(V.fptr [(zN b)] 0 0)],.rows 1 [(V.fmap (List.map (fun p:Int×Bool=>V.i p.1) ships) (List.map (fun p:Int×Bool=>V.b p.2) ships))],.rows 2 [(V.agg [V.nil,V.nil])],.rows 2 [(V.agg [(ovl 4 l1),(V.osl 8 0 (List.length l4))])],obl 1 V.i l1,.dead,.rows 2 [(zA x)],.rows 2 (List.map zA ([x])),.rows 2 (List.map zA l4)]) rfl rfl rfl ?_
    refine au 2 ?_
    exact X.gc [some 0,some 1,some 2,some 3,some 4,some 8] (hj_4 l4 hM) rfl rfl rfl (ga rfl rfl) (gb9 rfl rfl rfl (gb9 rfl rfl rfl (gb9 rfl rfl rfl (jI rfl rfl (J7 (.cons (ze rfl) (.cons (zAa (Z6 h_6) rfl) .nil))) (Ze 9 rfl rfl (fun _=>rfl) (gb_obl' 9 (Z6 h_6) rfl rfl (fun _=>rfl) ZA))))))
   refine au 2 ?_
   exact X.gc [some 0,some 1,some 2,some 3,some 4,some 5] (hj_4 l5 hM) rfl rfl rfl (ga rfl rfl) (gb9 rfl rfl rfl (gb9 rfl rfl rfl (gb9 rfl rfl rfl (jI rfl rfl (J7 (.cons (ze rfl) (.cons (ze rfl) .nil))) (Ze 9 rfl rfl (fun _=>rfl) (Ze 9 rfl rfl (fun _=>rfl) ZA))))))
  obtain ⟨y_1,hM,hy⟩:=zz hM
  rw [hr_1 _ hy.symm] at hM
  refine au 1 ?_
  exact X.gc [some 2,some 3,some 4,some 5] (hj_2 l5 hM) rfl rfl rfl (ga rfl rfl) (gb9 rfl rfl rfl (jI rfl rfl (J7 (.cons (ze rfl) (.cons (ze rfl) .nil))) (Ze 9 rfl rfl (fun _=>rfl) (Ze 9 rfl rfl (fun _=>rfl) ZA))))
 intro hj_1
 refine au 1 ?_
 refine X.gx [some 0,some 1,some 2,some 3,none] (X.loop (σ:=(Int×(List Int))) (fun v=>⟨[(2,(V.ptr 0 0 0)),(3,(V.ptr 1 0 0)),(4,(V.ptr 2 0 0)),(5,(V.ptr 3 0 0)),(13,(V.sl (List.map zH b.calls))),(14,(V.i (b.calls.length:Int))),(15,(V.i v.1))],[.rows 1 [(V.fptr [(zN b)] 0 0)],.rows 1 [(V.fmap (List.map (fun p:Int×Bool=>V.i p.1) ships) (List.map (fun p:Int×Bool=>V.b p.2) ships))],.rows 2 [(V.agg [V.nil,V.nil])],.rows 2 [(V.agg [(ovl 4 v.2),V.nil])],obl 1 V.i v.2],0,none,57⟩) hM ?_ rfl)
 rintro ⟨x3,l8⟩ b_1 hM hc_5 hr_1
 rw [jC] at hM
 refine au 3 ?_
 refine GS.seq ?_
 refine X.cm hM (fun h_7 hM=>?_) (fun h_7 hM=>?_)
 ·refine GS.skip (GS.seq ?_)
  refine X.join (τ:=(List Int)) (fun v=>Zl x3 v=some b_1) (fun v=>⟨[(2,(V.ptr 0 0 0)),(3,(V.ptr 1 0 0)),(4,(V.ptr 2 0 0)),(5,(V.ptr 3 0 0)),(13,(V.sl (List.map zH b.calls))),(14,(V.i (b.calls.length:Int))),(15,(V.i x3))],[.rows 1 [(V.fptr [(zN b)] 0 0)],.rows 1 [(V.fmap (List.map (fun p:Int×Bool=>V.i p.1) ships) (List.map (fun p:Int×Bool=>V.b p.2) ships))],.rows 2 [(V.agg [V.nil,V.nil])],.rows 2 [(V.agg [(ovl 4 v),V.nil])],obl 1 V.i v],0,none,57⟩) ?_ ?_
  ·intro l6 hM
   replace hM:Zl x3 l6=some b_1:=hM
   unfold Zl at hM
   refine au 4 ?_
   have hE:=Option.some.inj hM
   exact X.gc [some 0,some 1,some 2,some 3,some 4] (hc_5 (w64 (x3+1),l6) hE.symm) rfl rfl rfl (ga rfl rfl) (gb9 rfl rfl rfl (gb9 rfl rfl rfl (gb9 rfl rfl rfl (jI rfl rfl (J7 (.cons (ze rfl) (.cons ⟨9,rfl⟩ .nil))) (Ze 9 rfl rfl (fun _=>rfl) ZA)))))
  intro hj_6
  obtain ⟨x2,h_8,hM⟩:=zF hM
  refine au 5 ?_
  refine X.opW (H':=[.rows 1 [(V.fptr [(zN b)] 0 0)],.rows 1 [(V.fmap (List.map (fun p:Int×Bool=>V.i p.1) ships) (List.map (fun p:Int×Bool=>V.b p.2) ships))],.rows 2 [(V.agg [V.nil,V.nil])],.rows 2 [(V.agg [(ovl 4 l8),V.nil])],obl 1 V.i l8,.rows 5 [(V.agg [(V.i 0),(V.i 0),(V.i 0),(V.i 0),(V.i 0)])]]) rfl rfl rfl rfl (X.q rfl ?_)
  refine X.op0W (H':=[.rows 1 [(V.fptr [(zN b)] 0 0)],.rows 1 [(V.fmap (List.map (fun p:Int×Bool=>V.i p.1) ships) (List.map (fun p:Int×Bool=>V.b p.2) ships))],.rows 2 [(V.agg [V.nil,V.nil])],.rows 2 [(V.agg [(ovl 4 l8),V.nil])],obl 1 V.i l8,.rows 5 [(zH x2)]]) rfl rfl rfl ?_
  refine au 4 ?_
  refine X.opR rfl (X.zIA (f:=V.i) (g:=V.b) (k:=x3) (l:=ships) (z:=false) (ok:=false) X.zBh rfl rfl rfl rfl rfl) rfl ?_
  refine GS.zV ?_
  refine X.cm hM (fun h_9 hM=>?_) (fun h_9 hM=>?_)
  ·obtain ⟨l7,h_10,hM⟩:=zF hM
   refine au 5 ?_
   refine X.opW (H':=[.rows 1 [(V.fptr [(zN b)] 0 0)],.rows 1 [(V.fmap (List.map (fun p:Int×Bool=>V.i p.1) ships) (List.map (fun p:Int×Bool=>V.b p.2) ships))],.rows 2 [(V.agg [V.nil,V.nil])],.rows 2 [(V.agg [(ovl 4 l8),V.nil])],obl 1 V.i l8,.rows 5 [(zH x2)],.rows 1 (List.map V.i ([x2.ID]))]) rfl rfl rfl rfl ?_
   refine X.appN (f:=V.i) h_10 (fun _=>rfl) (by rfl) (by rfl) (by rfl) (by rfl) (by rfl) (by rfl) (by rfl) (by rfl) (by rfl) (by rfl) (by rfl) (by exact rfl) (by rfl) (by rfl) (X.q rfl ?_)
   refine X.op0W (H':=[.rows 1 [(V.fptr [(zN b)] 0 0)],.rows 1 [(V.fmap (List.map (fun p:Int×Bool=>V.i p.1) ships) (List.map (fun p:Int×Bool=>V.b p.2) ships))],.rows 2 [(V.agg [V.nil,V.nil])],.rows 2 [(V.agg [(V.osl 7 0 (List.length l7)),V.nil])],.dead,.rows 5 [(zH x2)],.rows 1 (List.map V.i ([x2.ID])),.rows 1 (List.map V.i l7)]) rfl rfl rfl ?_
   refine au 2 ?_
   exact X.gc [some 0,some 1,some 2,some 3,some 7] (hj_6 l7 hM) rfl rfl rfl (ga rfl rfl) (gb9 rfl rfl rfl (gb9 rfl rfl rfl (gb9 rfl rfl rfl (jI rfl rfl (J7 (.cons (zAa (Z6 h_10) rfl) (.cons ⟨9,rfl⟩ .nil))) (gb_obl' 9 (Z6 h_10) rfl rfl (fun _=>rfl) ZA)))))
  refine au 2 ?_
  exact X.gc [some 0,some 1,some 2,some 3,some 4] (hj_6 l8 hM) rfl rfl rfl (ga rfl rfl) (gb9 rfl rfl rfl (gb9 rfl rfl rfl (gb9 rfl rfl rfl (jI rfl rfl (J7 (.cons (ze rfl) (.cons ⟨9,rfl⟩ .nil))) (Ze 9 rfl rfl (fun _=>rfl) ZA)))))
 obtain ⟨y_1,hM,hy⟩:=zz hM
 rw [hr_1 _ hy.symm] at hM
 refine au 1 ?_
 exact X.gc [some 0,some 1,some 2,some 3,some 4] (hj_1 l8 hM) rfl rfl rfl (ga rfl rfl) (gb9 rfl rfl rfl (gb9 rfl rfl rfl (gb9 rfl rfl rfl (jI rfl rfl (J7 (.cons (ze rfl) (.cons ⟨9,rfl⟩ .nil))) (Ze 9 rfl rfl (fun _=>rfl) ZA)))))
set_option maxHeartbeats 4000000 in
theorem zEd {h:zG} {l:(List zJ)} {r:zZ×Bool×Int} (hM:J2 h l=some r):Ct Tryz.prog 7 [(zD h),(V.sl (List.map zH l))] (V.tup [(Zq r.1),(V.b r.2.1),(V.i r.2.2)]):=by
 refine zP zl rfl ?_
 unfold J2 at hM
 obtain ⟨y,h_1,hM⟩:=zF hM
 refine au 10 ?_
 refine X.ca (yg h_1) ?_
 refine au 6 ?_
 refine X.cm hM (fun h_2 hM=>?_) (fun h_2 hM=>?_)
 ·refine au 3 ?_
  refine X.op0W rfl rfl rfl ?_
  refine au 3 ?_
  cases hM
  exact X.rt
 obtain ⟨y1,h_3,hM⟩:=zF hM
 refine au 4 ?_
 refine X.ca (zAu h_3) ?_
 obtain ⟨y2,h_4,hM⟩:=zF hM
 refine au 4 ?_
 refine X.ca (yf h_4) ?_
 refine au 11 ?_
 refine X.opW (H':=[.rows 6 [(zD h)],.rows 2 [(V.agg [V.nil,V.nil])],.map (List.map (fun p:Int×Bool=>V.i p.1) []) (List.map (fun p:Int×Bool=>V.b p.2) []),.map (List.map (fun p:Int×Int=>V.i p.1) []) (List.map (fun p:Int×Int=>V.i p.2) [])]) rfl rfl rfl rfl ?_
 refine au 8 ?_
 refine X.join (τ:=(List (Int×Bool))×(List (Int×Int))) (fun v=>Jn l y1 v.1 v.2=some r) (fun v=>⟨[(1,(V.sl (List.map zH l))),(4,(V.ptr 0 0 0)),(8,(V.fptr [(zN y1)] 0 0)),(11,(V.map 1)),(12,(V.map 2))],[.rows 2 [(V.agg [V.nil,V.nil])],.map (List.map (fun p:Int×Bool=>V.i p.1) v.1) (List.map (fun p:Int×Bool=>V.b p.2) v.1),.map (List.map (fun p:Int×Int=>V.i p.1) v.2) (List.map (fun p:Int×Int=>V.i p.2) v.2)],0,none,118⟩) ?_ ?_
 ·rintro ⟨m,m1⟩ hM
  replace hM:Jn l y1 m m1=some r:=hM
  unfold Jn at hM
  refine au 3 ?_
  refine X.opR rfl (X.lenMo (l:=m) rfl rfl rfl rfl) rfl ?_
  refine au 2 ?_
  refine X.cm hM (fun h_5 hM=>?_) (fun h_5 hM=>?_)
  ·refine au 2 ?_
   refine X.op0W rfl rfl rfl ?_
   refine au 3 ?_
   cases hM
   exact X.rt
  refine au 5 ?_
  refine X.join (τ:=(List (Int×Bool))) (fun v=>jS y1 v=some r) (fun v=>⟨[(4,(V.ptr 0 0 0)),(8,(V.fptr [(zN y1)] 0 0)),(11,(V.map 1))],[.rows 2 [(V.agg [V.nil,V.nil])],.map (List.map (fun p:Int×Bool=>V.i p.1) v) (List.map (fun p:Int×Bool=>V.b p.2) v)],0,none,118⟩) ?_ ?_
  ·intro m2 hM
   replace hM:jS y1 m2=some r:=hM
   unfold jS at hM
   obtain ⟨y3,h_6,hM⟩:=zF hM
   refine au 3 ?_
   refine X.zHA (f:=V.i) (g:=V.b) (pa:=fun p=>p.1) (pb:=fun p=>p.2) (l:=m2) 116 rfl rfl rfl (fun _=>rfl) (fun _=>rfl) ?_
   refine X.ca (zBE h_6) ?_
   refine X.op0W rfl rfl rfl ?_
   refine au 3 ?_
   cases hM
   exact X.rt
  intro hj_2
  refine au 1 ?_
  refine X.gc [some 0,some 1,some 2] (X.loop (σ:=(Bool×(List (Int×Bool)))) (fun v=>⟨[(1,(V.sl (List.map zH l))),(4,(V.ptr 0 0 0)),(8,(V.fptr [(zN y1)] 0 0)),(11,(V.map 1)),(12,(V.map 2)),(15,(V.b v.1))],[.rows 2 [(V.agg [V.nil,V.nil])],.map (List.map (fun p:Int×Bool=>V.i p.1) v.2) (List.map (fun p:Int×Bool=>V.b p.2) v.2),.map (List.map (fun p:Int×Int=>V.i p.1) m1) (List.map (fun p:Int×Int=>V.i p.2) m1)],0,none,118⟩) hM ?_ rfl) rfl rfl rfl (ga rfl rfl) (gb9 rfl rfl rfl (X.ZR 9 rfl rfl (fun _=>rfl) (fun _=>rfl) (X.ZR 9 rfl rfl (fun _=>rfl) (fun _=>rfl) ZA)))
  rintro ⟨more4,m7⟩ b_1 hM hc_3 hr_1
  rw [Jo] at hM
  refine au 4 ?_
  refine X.cm hM (fun h_7 hM=>?_) (fun h_7 hM=>?_)
  ·refine au 14 ?_
   refine X.gc [some 0,some 1,some 2] (X.loop (σ:=(Bool×Int×(List (Int×Bool)))) (fun v=>⟨[(1,(V.sl (List.map zH l))),(4,(V.ptr 0 0 0)),(8,(V.fptr [(zN y1)] 0 0)),(11,(V.map 1)),(12,(V.map 2)),(15,(V.b v.1)),(68,(V.sl (List.map zA y1.slots))),(69,(V.i (y1.slots.length:Int))),(70,(V.i v.2.1))],[.rows 2 [(V.agg [V.nil,V.nil])],.map (List.map (fun p:Int×Bool=>V.i p.1) v.2.2) (List.map (fun p:Int×Bool=>V.b p.2) v.2.2),.map (List.map (fun p:Int×Int=>V.i p.1) m1) (List.map (fun p:Int×Int=>V.i p.2) m1)],0,none,118⟩) hM ?_ rfl) rfl rfl rfl (ga rfl rfl) (gb9 rfl rfl rfl (X.ZR 9 rfl rfl (fun _=>rfl) (fun _=>rfl) (X.ZR 9 rfl rfl (fun _=>rfl) (fun _=>rfl) ZA)))
   rintro ⟨more3,x3,m6⟩ b_2 hM hc_4 hr_2
   rw [qE] at hM
   refine au 3 ?_
   refine GS.seq ?_
   refine X.cm hM (fun h_8 hM=>?_) (fun h_8 hM=>?_)
   ·refine GS.skip (GS.seq ?_)
    refine X.join (τ:=Bool×(List (Int×Bool))) (fun v=>yR x3 v.1 v.2=some b_2) (fun v=>⟨[(1,(V.sl (List.map zH l))),(4,(V.ptr 0 0 0)),(8,(V.fptr [(zN y1)] 0 0)),(11,(V.map 1)),(12,(V.map 2)),(15,(V.b v.1)),(68,(V.sl (List.map zA y1.slots))),(69,(V.i (y1.slots.length:Int))),(70,(V.i x3))],[.rows 2 [(V.agg [V.nil,V.nil])],.map (List.map (fun p:Int×Bool=>V.i p.1) v.2) (List.map (fun p:Int×Bool=>V.b p.2) v.2),.map (List.map (fun p:Int×Int=>V.i p.1) m1) (List.map (fun p:Int×Int=>V.i p.2) m1)],0,none,118⟩) ?_ ?_
    ·rintro ⟨more,m3⟩ hM
     replace hM:yR x3 more m3=some b_2:=hM
     unfold yR at hM
     refine au 4 ?_
     have hE:=Option.some.inj hM
     exact X.gc [some 0,some 1,some 2] (hc_4 (more,w64 (x3+1),m3) hE.symm) rfl rfl rfl (ga rfl rfl) (gb9 rfl rfl rfl (X.ZR 9 rfl rfl (fun _=>rfl) (fun _=>rfl) (X.ZR 9 rfl rfl (fun _=>rfl) (fun _=>rfl) ZA)))
    intro hj_5
    obtain ⟨x,h_9,hM⟩:=zF hM
    refine au 5 ?_
    refine X.opW (H':=[.rows 2 [(V.agg [V.nil,V.nil])],.map (List.map (fun p:Int×Bool=>V.i p.1) m6) (List.map (fun p:Int×Bool=>V.b p.2) m6),.map (List.map (fun p:Int×Int=>V.i p.1) m1) (List.map (fun p:Int×Int=>V.i p.2) m1),.rows 2 [(V.agg [(V.i 0),(V.i 0)])]]) rfl rfl rfl rfl (X.q rfl ?_)
    refine X.op0W (H':=[.rows 2 [(V.agg [V.nil,V.nil])],.map (List.map (fun p:Int×Bool=>V.i p.1) m6) (List.map (fun p:Int×Bool=>V.b p.2) m6),.map (List.map (fun p:Int×Int=>V.i p.1) m1) (List.map (fun p:Int×Int=>V.i p.2) m1),.rows 2 [(zA x)]]) rfl rfl rfl ?_
    refine au 4 ?_
    refine X.opR rfl (X.lookW (f:=V.i) (g:=V.i) (k:=x3) (l:=m1) (z:=0) (ok:=true) X.zBh rfl rfl rfl rfl rfl rfl) rfl ?_
    refine au 8 ?_
    refine X.mid [(87,(V.b ((!(ZE x3 m1).isSome)||((ZE ((ZE x3 m1).getD 0) m6).getD false)))),(1,(V.sl (List.map zH l))),(4,(V.ptr 0 0 0)),(8,(V.fptr [(zN y1)] 0 0)),(11,(V.map 1)),(12,(V.map 2)),(15,(V.b more3)),(17,(V.ptr 3 0 0)),(18,(V.i ((ZE x3 m1).getD 0))),(68,(V.sl (List.map zA y1.slots))),(69,(V.i (y1.slots.length:Int))),(70,(V.i x3))] ?_ ?_
    ·intro hg
     refine X.split (!(ZE x3 m1).isSome) (fun h_10=>?_) (fun h_10=>?_)
     ·refine au 8 ?_
      exact X.ng hg rfl (by simp only [h_10,X.bb])
     refine au 5 ?_
     refine X.opR (X.on_f rfl rfl rfl h_10) (X.lookW (f:=V.i) (g:=V.b) (k:=((ZE x3 m1).getD 0)) (l:=m6) (z:=false) (ok:=false) X.zBh rfl rfl rfl rfl rfl rfl) rfl ?_
     refine au 2 ?_
     exact X.ng hg rfl (by simp only [h_10,X.bb])
    refine X.cm hM (fun h_11 hM=>?_) (fun h_11 hM=>?_)
    ·refine au 1 ?_
     exact X.gc [some 0,some 1,some 2] (hj_5 (more3,m6) hM) rfl rfl rfl (ga rfl rfl) (gb9 rfl rfl rfl (X.ZR 9 rfl rfl (fun _=>rfl) (fun _=>rfl) (X.ZR 9 rfl rfl (fun _=>rfl) (fun _=>rfl) ZA)))
    refine au 7 ?_
    refine X.gc [some 0,some 1,some 2,some 3] (X.loop (σ:=(Bool×Int×(List (Int×Bool)))) (fun v=>⟨[(1,(V.sl (List.map zH l))),(4,(V.ptr 0 0 0)),(8,(V.fptr [(zN y1)] 0 0)),(11,(V.map 1)),(12,(V.map 2)),(15,(V.b v.1)),(17,(V.ptr 3 0 0)),(18,(V.i ((ZE x3 m1).getD 0))),(68,(V.sl (List.map zA y1.slots))),(69,(V.i (y1.slots.length:Int))),(70,(V.i x3)),(89,(V.i (l.length:Int))),(90,(V.i v.2.1))],[.rows 2 [(V.agg [V.nil,V.nil])],.map (List.map (fun p:Int×Bool=>V.i p.1) v.2.2) (List.map (fun p:Int×Bool=>V.b p.2) v.2.2),.map (List.map (fun p:Int×Int=>V.i p.1) m1) (List.map (fun p:Int×Int=>V.i p.2) m1),.rows 2 [(zA x)]],0,none,118⟩) hM ?_ rfl) rfl rfl rfl (ga rfl rfl) (gb9 rfl rfl rfl (X.ZR 9 rfl rfl (fun _=>rfl) (fun _=>rfl) (X.ZR 9 rfl rfl (fun _=>rfl) (fun _=>rfl) (gb9 rfl rfl rfl ZA))))
    rintro ⟨more2,x2,m5⟩ b_3 hM hc_6 hr_3
    rw [zA0] at hM
    refine au 3 ?_
    refine GS.seq ?_
    refine X.cm hM (fun h_12 hM=>?_) (fun h_12 hM=>?_)
    ·refine GS.skip (GS.seq ?_)
     refine X.join (τ:=Bool×(List (Int×Bool))) (fun v=>yQ x2 v.1 v.2=some b_3) (fun v=>⟨[(1,(V.sl (List.map zH l))),(4,(V.ptr 0 0 0)),(8,(V.fptr [(zN y1)] 0 0)),(11,(V.map 1)),(12,(V.map 2)),(15,(V.b v.1)),(17,(V.ptr 3 0 0)),(18,(V.i ((ZE x3 m1).getD 0))),(68,(V.sl (List.map zA y1.slots))),(69,(V.i (y1.slots.length:Int))),(70,(V.i x3)),(89,(V.i (l.length:Int))),(90,(V.i x2))],[.rows 2 [(V.agg [V.nil,V.nil])],.map (List.map (fun p:Int×Bool=>V.i p.1) v.2) (List.map (fun p:Int×Bool=>V.b p.2) v.2),.map (List.map (fun p:Int×Int=>V.i p.1) m1) (List.map (fun p:Int×Int=>V.i p.2) m1),.rows 2 [(zA x)]],0,none,118⟩) ?_ ?_
     ·rintro ⟨more1,m4⟩ hM
      replace hM:yQ x2 more1 m4=some b_3:=hM
      unfold yQ at hM
      refine au 4 ?_
      have hE:=Option.some.inj hM
      exact X.gc [some 0,some 1,some 2,some 3] (hc_6 (more1,w64 (x2+1),m4) hE.symm) rfl rfl rfl (ga rfl rfl) (gb9 rfl rfl rfl (X.ZR 9 rfl rfl (fun _=>rfl) (fun _=>rfl) (X.ZR 9 rfl rfl (fun _=>rfl) (fun _=>rfl) (gb9 rfl rfl rfl ZA))))
     intro hj_7
     obtain ⟨x1,h_13,hM⟩:=zF hM
     refine au 5 ?_
     refine GS.seq ?_
     refine X.draw (by kernel_rfl) ?_
     refine au 5 ?_
     refine X.dop rfl (X.Zh (f:=(fun l=>V.fmap (List.map (fun p=>zA p.1) l) (List.map (fun p=>zI p.2) l))) h_13 (fun _=>rfl) rfl rfl rfl rfl) rfl rfl (by kernel_rfl) rfl rfl ?_
     refine au 2 ?_
     refine X.dop rfl (X.zIA (f:=zA) (g:=zI) (k:=x) (l:=x1) (z:=(⟨0,0⟩:zC)) (ok:=true) Qf rfl rfl rfl rfl rfl) rfl rfl (by kernel_rfl) rfl rfl ?_
     refine au 4 ?_
     refine X.dop0 rfl rfl rfl rfl (by kernel_rfl) rfl ?_
     refine au 2 ?_
     refine X.norm [(1,(V.sl (List.map zH l))),(4,(V.ptr 0 0 0)),(8,(V.fptr [(zN y1)] 0 0)),(11,(V.map 1)),(12,(V.map 2)),(15,(V.b more2)),(17,(V.ptr 3 0 0)),(18,(V.i ((ZE x3 m1).getD 0))),(20,(V.i x2)),(22,(V.b ((ZE x x1).isSome))),(68,(V.sl (List.map zA y1.slots))),(69,(V.i (y1.slots.length:Int))),(70,(V.i x3)),(89,(V.i (l.length:Int))),(90,(V.i x2))] ?_ rfl (sr rfl)
     refine X.sq ?_
     refine X.mid [(110,(V.b (((ZE x x1).isSome)&&((ZE x2 m5).getD false)))),(1,(V.sl (List.map zH l))),(4,(V.ptr 0 0 0)),(8,(V.fptr [(zN y1)] 0 0)),(11,(V.map 1)),(12,(V.map 2)),(15,(V.b more2)),(17,(V.ptr 3 0 0)),(18,(V.i ((ZE x3 m1).getD 0))),(68,(V.sl (List.map zA y1.slots))),(69,(V.i (y1.slots.length:Int))),(70,(V.i x3)),(89,(V.i (l.length:Int))),(90,(V.i x2))] ?_ ?_
     ·intro hg
      refine X.split ((ZE x x1).isSome) (fun h_14=>?_) (fun h_14=>?_)
      ·refine au 4 ?_
       refine X.opR (X.on_t rfl rfl rfl h_14) (X.lookW (f:=V.i) (g:=V.b) (k:=x2) (l:=m5) (z:=false) (ok:=false) X.zBh rfl rfl rfl rfl rfl rfl) rfl ?_
       refine au 2 ?_
       exact X.ng hg rfl (by simp only [h_14,X.bb])
      refine au 7 ?_
      exact X.ng hg rfl (by simp only [h_14,X.bb])
     refine X.cm hM (fun h_15 hM=>?_) (fun h_15 hM=>?_)
     ·refine au 3 ?_
      refine X.op0W (H':=[.rows 2 [(V.agg [V.nil,V.nil])],.map (List.map (fun p:Int×Bool=>V.i p.1) (putM posI m5 ((ZE x3 m1).getD 0) true)) (List.map (fun p:Int×Bool=>V.b p.2) (putM posI m5 ((ZE x3 m1).getD 0) true)),.map (List.map (fun p:Int×Int=>V.i p.1) m1) (List.map (fun p:Int×Int=>V.i p.2) m1),.rows 2 [(zA x)],.rows 2 [(zI ((ZE x x1).getD (⟨0,0⟩:zC)))]]) rfl (X.putW (f:=V.i) (g:=V.b) (pos:=posI) (k:=((ZE x3 m1).getD 0)) (v:=true) (l:=m5) X.zBh (X.zFO _) rfl rfl rfl rfl rfl rfl rfl) rfl ?_
      refine au 3 ?_
      exact X.gc [some 0,some 1,some 2,some 3] (hj_7 (true,(putM posI m5 ((ZE x3 m1).getD 0) true)) hM) rfl rfl rfl (ga rfl rfl) (gb9 rfl rfl rfl (X.ZR 9 rfl rfl (fun _=>rfl) (fun _=>rfl) (X.ZR 9 rfl rfl (fun _=>rfl) (fun _=>rfl) (gb9 rfl rfl rfl ZA))))
     refine au 2 ?_
     exact X.gc [some 0,some 1,some 2,some 3] (hj_7 (more2,m5) hM) rfl rfl rfl (ga rfl rfl) (gb9 rfl rfl rfl (X.ZR 9 rfl rfl (fun _=>rfl) (fun _=>rfl) (X.ZR 9 rfl rfl (fun _=>rfl) (fun _=>rfl) (gb9 rfl rfl rfl ZA))))
    obtain ⟨y_3,hM,hy⟩:=zz hM
    rw [hr_3 _ hy.symm] at hM
    refine au 2 ?_
    exact X.gc [some 0,some 1,some 2] (hj_5 (more2,m5) hM) rfl rfl rfl (ga rfl rfl) (gb9 rfl rfl rfl (X.ZR 9 rfl rfl (fun _=>rfl) (fun _=>rfl) (X.ZR 9 rfl rfl (fun _=>rfl) (fun _=>rfl) ZA)))
   refine au 2 ?_
   have hE:=Option.some.inj hM
   replace hE:=hr_2 _ hE.symm
   exact X.gc [some 0,some 1,some 2] (hc_3 (more3,m6) hE.symm) rfl rfl rfl (ga rfl rfl) (gb9 rfl rfl rfl (X.ZR 9 rfl rfl (fun _=>rfl) (fun _=>rfl) (X.ZR 9 rfl rfl (fun _=>rfl) (fun _=>rfl) ZA)))
  obtain ⟨y_1,hM,hy⟩:=zz hM
  rw [hr_1 _ hy.symm] at hM
  refine au 1 ?_
  exact X.gc [some 0,some 1] (hj_2 m7 hM) rfl rfl rfl (ga rfl rfl) (gb9 rfl rfl rfl (X.ZR 9 rfl rfl (fun _=>rfl) (fun _=>rfl) ZA))
 intro hj_1
 refine au 1 ?_
 refine X.gc [some 1,some 2,some 3] (X.loop (σ:=(Int×(List (Int×Bool))×(List (Int×Int)))) (fun v=>⟨[(1,(V.sl (List.map zH l))),(4,(V.ptr 0 0 0)),(8,(V.fptr [(zN y1)] 0 0)),(11,(V.map 1)),(12,(V.map 2)),(40,(V.sl (List.map V.i y2.1))),(41,(V.i (y2.1.length:Int))),(42,(V.i v.1))],[.rows 2 [(V.agg [V.nil,V.nil])],.map (List.map (fun p:Int×Bool=>V.i p.1) v.2.1) (List.map (fun p:Int×Bool=>V.b p.2) v.2.1),.map (List.map (fun p:Int×Int=>V.i p.1) v.2.2) (List.map (fun p:Int×Int=>V.i p.2) v.2.2)],0,none,118⟩) hM ?_ rfl) rfl rfl rfl (ga rfl rfl) (gb9 rfl rfl rfl (X.ZR 9 rfl rfl (fun _=>rfl) (fun _=>rfl) (X.ZR 9 rfl rfl (fun _=>rfl) (fun _=>rfl) ZA)))
 rintro ⟨x5,m10,m11⟩ b_1 hM hc_8 hr_1
 rw [yS] at hM
 refine au 3 ?_
 refine GS.seq ?_
 refine X.cm hM (fun h_16 hM=>?_) (fun h_16 hM=>?_)
 ·refine GS.skip (GS.seq ?_)
  refine X.join (τ:=(List (Int×Bool))×(List (Int×Int))) (fun v=>JF x5 v.1 v.2=some b_1) (fun v=>⟨[(1,(V.sl (List.map zH l))),(4,(V.ptr 0 0 0)),(8,(V.fptr [(zN y1)] 0 0)),(11,(V.map 1)),(12,(V.map 2)),(40,(V.sl (List.map V.i y2.1))),(41,(V.i (y2.1.length:Int))),(42,(V.i x5))],[.rows 2 [(V.agg [V.nil,V.nil])],.map (List.map (fun p:Int×Bool=>V.i p.1) v.1) (List.map (fun p:Int×Bool=>V.b p.2) v.1),.map (List.map (fun p:Int×Int=>V.i p.1) v.2) (List.map (fun p:Int×Int=>V.i p.2) v.2)],0,none,118⟩) ?_ ?_
  ·rintro ⟨m8,m9⟩ hM
   replace hM:JF x5 m8 m9=some b_1:=hM
   unfold JF at hM
   refine au 4 ?_
   have hE:=Option.some.inj hM
   exact X.gc [some 0,some 1,some 2] (hc_8 (w64 (x5+1),m8,m9) hE.symm) rfl rfl rfl (ga rfl rfl) (gb9 rfl rfl rfl (X.ZR 9 rfl rfl (fun _=>rfl) (fun _=>rfl) (X.ZR 9 rfl rfl (fun _=>rfl) (fun _=>rfl) ZA)))
  intro hj_9
  obtain ⟨x4,h_17,hM⟩:=zF hM
  refine au 17 ?_
  refine X.cm hM (fun h_18 hM=>?_) (fun h_18 hM=>?_)
  ·refine au 3 ?_
   refine X.op0W rfl (X.putW (f:=V.i) (g:=V.b) (pos:=posI) (k:=x5) (v:=true) (l:=m10) X.zBh (X.zFO _) rfl rfl rfl rfl rfl rfl rfl) rfl ?_
   refine au 2 ?_
   exact X.gc [some 0,some 1,some 2] (hj_9 ((putM posI m10 x5 true),m11) hM) rfl rfl rfl (ga rfl rfl) (gb9 rfl rfl rfl (X.ZR 9 rfl rfl (fun _=>rfl) (fun _=>rfl) (X.ZR 9 rfl rfl (fun _=>rfl) (fun _=>rfl) ZA)))
  refine au 4 ?_
  refine X.op0W rfl (X.putW (f:=V.i) (g:=V.i) (pos:=posI) (k:=x4) (v:=x5) (l:=m11) X.zBh (X.zFO _) rfl rfl rfl rfl rfl rfl rfl) rfl ?_
  refine au 2 ?_
  exact X.gc [some 0,some 1,some 2] (hj_9 (m10,(putM posI m11 x4 x5)) hM) rfl rfl rfl (ga rfl rfl) (gb9 rfl rfl rfl (X.ZR 9 rfl rfl (fun _=>rfl) (fun _=>rfl) (X.ZR 9 rfl rfl (fun _=>rfl) (fun _=>rfl) ZA)))
 obtain ⟨y_1,hM,hy⟩:=zz hM
 rw [hr_1 _ hy.symm] at hM
 refine au 1 ?_
 exact X.gc [some 0,some 1,some 2] (hj_1 (m10,m11) hM) rfl rfl rfl (ga rfl rfl) (gb9 rfl rfl rfl (X.ZR 9 rfl rfl (fun _=>rfl) (fun _=>rfl) (X.ZR 9 rfl rfl (fun _=>rfl) (fun _=>rfl) ZA)))
theorem Qq {s1:(List Int)} {s2:(List Int)} {r:Bool} (hM:slices_Equal_int s1 s2=some r):Ct Tryz.prog 33 [(V.sl (List.map V.i s1)),(V.sl (List.map V.i s2))] (V.b r):=by
 refine zP zl rfl ?_
 unfold slices_Equal_int at hM
 refine au 11 ?_
 refine X.cm hM (fun h_1 hM=>?_) (fun h_1 hM=>?_)
 ·refine au 3 ?_
  cases hM
  exact X.rt
 refine au 7 ?_
 refine X.join (τ:=Unit) (fun v=>JX=some r) (fun v=>⟨[],[],0,none,26⟩) ?_ ?_
 ·intro _ hM
  replace hM:JX=some r:=hM
  unfold JX at hM
  refine au 3 ?_
  cases hM
  exact X.rt
 intro hj_1
 refine au 1 ?_
 refine X.gx [] (X.loop (σ:=Int) (fun v=>⟨[(0,(V.sl (List.map V.i s1))),(1,(V.sl (List.map V.i s2))),(12,(V.i (s1.length:Int))),(13,(V.i v))],[],0,none,26⟩) hM ?_ rfl)
 intro x2 b_1 hM hc_2 hr_1
 rw [yU] at hM
 refine au 3 ?_
 refine GS.seq ?_
 refine X.cm hM (fun h_2 hM=>?_) (fun h_2 hM=>?_)
 ·obtain ⟨x,h_3,hM⟩:=zF hM
  obtain ⟨x1,h_4,hM⟩:=zF hM
  refine au 19 ?_
  refine X.norm [(0,(V.sl (List.map V.i s1))),(1,(V.sl (List.map V.i s2))),(12,(V.i (s1.length:Int))),(13,(V.i x2)),(24,(V.b (!decide (x=x1))))] ?_ rfl (sr rfl)
  refine X.cm hM (fun h_5 hM=>?_) (fun h_5 hM=>?_)
  ·refine au 3 ?_
   have hE:=Option.some.inj hM
   replace hE:=hr_1 _ hE.symm
   subst hE
   exact X.rt
  refine au 6 ?_
  have hE:=Option.some.inj hM
  exact X.gx [] (hc_2 (w64 (x2+1)) hE.symm)
 obtain ⟨y_1,hM,hy⟩:=zz hM
 rw [hr_1 _ hy.symm] at hM
 refine au 1 ?_
 exact X.gx [] (hj_1 () hM)
theorem zCO (a b:zB):eqA CC.ty 65 (zA a) (zA b)=some (decide (a=b)):=by
 refine (X.eqa rfl rfl (X.eqp rfl rfl rfl (X.eqp rfl rfl rfl X.eqn'))).trans ?_
 congr 1
 rw [Bool.eq_iff_iff]
 simp only [Bool.and_eq_true,decide_eq_true_eq,beq_iff_eq,and_true]
 constructor
 ·intro h
  obtain ⟨a1,a2⟩:=a
  obtain ⟨b3,b4⟩:=b
  simp at h
  simp [h]
 ·rintro rfl
  simp
theorem Q4 {s1:(List zB)} {s2:(List zB)} {r:Bool} (hM:jO s1 s2=some r):Ct Tryz.prog 34 [(V.sl (List.map zA s1)),(V.sl (List.map zA s2))] (V.b r):=by
 refine zP zl rfl ?_
 unfold jO at hM
 refine au 11 ?_
 refine X.cm hM (fun h_1 hM=>?_) (fun h_1 hM=>?_)
 ·refine au 3 ?_
  cases hM
  exact X.rt
 refine au 7 ?_
 refine X.join (τ:=Unit) (fun v=>jQ=some r) (fun v=>⟨[],[],0,none,26⟩) ?_ ?_
 ·intro _ hM
  replace hM:jQ=some r:=hM
  unfold jQ at hM
  refine au 3 ?_
  cases hM
  exact X.rt
 intro hj_1
 refine au 1 ?_
 refine X.gx [] (X.loop (σ:=Int) (fun v=>⟨[(0,(V.sl (List.map zA s1))),(1,(V.sl (List.map zA s2))),(12,(V.i (s1.length:Int))),(13,(V.i v))],[],0,none,26⟩) hM ?_ rfl)
 intro x2 b_1 hM hc_2 hr_1
 rw [JC] at hM
 refine au 3 ?_
 refine GS.seq ?_
 refine X.cm hM (fun h_2 hM=>?_) (fun h_2 hM=>?_)
 ·obtain ⟨x,h_3,hM⟩:=zF hM
  obtain ⟨x1,h_4,hM⟩:=zF hM
  refine au 17 ?_
  refine X.cop rfl (X.neqE (zCO x x1) rfl rfl) rfl rfl ?_
  refine au 1 ?_
  refine X.norm [(0,(V.sl (List.map zA s1))),(1,(V.sl (List.map zA s2))),(12,(V.i (s1.length:Int))),(13,(V.i x2)),(24,(V.b (!decide (x=x1))))] ?_ rfl (sr rfl)
  refine X.cm hM (fun h_5 hM=>?_) (fun h_5 hM=>?_)
  ·refine au 3 ?_
   have hE:=Option.some.inj hM
   replace hE:=hr_1 _ hE.symm
   subst hE
   exact X.rt
  refine au 6 ?_
  have hE:=Option.some.inj hM
  exact X.gx [] (hc_2 (w64 (x2+1)) hE.symm)
 obtain ⟨y_1,hM,hy⟩:=zz hM
 rw [hr_1 _ hy.symm] at hM
 refine au 1 ?_
 exact X.gx [] (hj_1 () hM)
set_option maxHeartbeats 4000000 in
theorem qP {h:zG} {l:(List zJ)} {x:zZ} {r:Int×Int} (hM:Zz h l x=some r):Ct Tryz.prog 10 [(zD h),(V.sl (List.map zH l)),(Zq x)] (V.tup [(V.i r.1),(V.i r.2)]):=by
 refine zP zl rfl ?_
 unfold Zz at hM
 obtain ⟨y,h_1,hM⟩:=zF hM
 refine au 10 ?_
 refine X.ca (yg h_1) ?_
 refine au 6 ?_
 refine X.cm hM (fun h_2 hM=>?_) (fun h_2 hM=>?_)
 ·refine au 5 ?_
  cases hM
  exact X.rt
 refine au 12 ?_
 refine X.join (τ:=(List (Int×Bool))) (fun v=>jD h l x v=some r) (fun v=>⟨[(1,(V.sl (List.map zH l))),(3,(V.ptr 0 0 0)),(5,(V.ptr 1 0 0)),(9,(V.map 2))],[.rows 6 [(zD h)],.rows 2 [(Zq x)],.map (List.map (fun p:Int×Bool=>V.i p.1) v) (List.map (fun p:Int×Bool=>V.b p.2) v)],0,none,77⟩) ?_ ?_
 ·intro m hM
  replace hM:jD h l x m=some r:=hM
  unfold jD at hM
  obtain ⟨y1,h_3,hM⟩:=zF hM
  obtain ⟨y2,h_4,hM⟩:=zF hM
  refine au 3 ?_
  refine X.ca (zAu h_3) (X.q rfl ?_)
  refine X.zHA (f:=V.i) (g:=V.b) (pa:=fun p=>p.1) (pb:=fun p=>p.2) (l:=m) 39 rfl rfl rfl (fun _=>rfl) (fun _=>rfl) ?_
  refine X.ca (zBE h_4) ?_
  refine X.opW (H':=[.rows 6 [(zD h)],.rows 2 [(Zq x)],.dead,.rows 2 [(V.agg [V.nil,V.nil])]]) rfl rfl rfl rfl ?_
  refine X.op0W (H':=[.rows 6 [(zD h)],.rows 2 [(Zq x)],.dead,.rows 2 [(Zq y2)]]) rfl rfl rfl ?_
  obtain ⟨y3,h_5,hM⟩:=Q5 hM
  obtain ⟨y4,h_6,hM⟩:=Q5 hM
  refine au 3 ?_
  refine X.mid [(69,(V.b ((((decide ((x.Calls.length:Int)=0))||(!y3))||(!y4))||(decide ((x.Calls.length:Int)≤(x.Slots.length:Int)))))),(5,(V.ptr 1 0 0))] ?_ ?_
  ·intro hg
   refine X.split (decide ((x.Calls.length:Int)=0)) (fun h_7=>?_) (fun h_7=>?_)
   ·refine au 30 ?_
    exact X.ng hg rfl (by simp only [h_7,X.bb])
   refine X.split (!y3) (fun h_8=>?_) (fun h_8=>?_)
   ·refine au 9 ?_
    refine X.ca (Qq (h_5 (X.nt h_7))) ?_
    refine au 20 ?_
    exact X.ng hg rfl (by simp only [h_7,h_8,X.bb])
   refine X.split (!y4) (fun h_9=>?_) (fun h_9=>?_)
   ·refine au 9 ?_
    refine X.ca (Qq (h_5 (X.nt h_7))) ?_
    refine au 7 ?_
    refine X.ca (Q4 (h_6 (X.nt (X.zJK h_7 h_8)))) ?_
    refine au 12 ?_
    exact X.ng hg rfl (by simp only [h_7,h_8,h_9,X.bb])
   refine au 9 ?_
   refine X.ca (Qq (h_5 (X.nt h_7))) ?_
   refine au 7 ?_
   refine X.ca (Q4 (h_6 (X.nt (X.zJK h_7 h_8)))) ?_
   refine au 12 ?_
   exact X.ng hg rfl (by simp only [h_7,h_8,h_9,X.bb])
  refine X.cm hM (fun h_10 hM=>?_) (fun h_10 hM=>?_)
  ·refine au 4 ?_
   cases hM
   exact X.rt
  refine au 12 ?_
  cases hM
  exact X.rt
 intro hj_1
 refine au 1 ?_
 refine X.gc [some 0,some 1,some 2] (X.loop (σ:=(Int×(List (Int×Bool)))) (fun v=>⟨[(1,(V.sl (List.map zH l))),(3,(V.ptr 0 0 0)),(5,(V.ptr 1 0 0)),(9,(V.map 2)),(22,(V.sl (List.map V.i x.Calls))),(23,(V.i (x.Calls.length:Int))),(24,(V.i v.1))],[.rows 6 [(zD h)],.rows 2 [(Zq x)],.map (List.map (fun p:Int×Bool=>V.i p.1) v.2) (List.map (fun p:Int×Bool=>V.b p.2) v.2)],0,none,77⟩) hM ?_ rfl) rfl rfl rfl (ga rfl rfl) (gb9 rfl rfl rfl (gb9 rfl rfl rfl (X.ZR 9 rfl rfl (fun _=>rfl) (fun _=>rfl) ZA)))
 rintro ⟨x2,m2⟩ b_1 hM hc_2 hr_1
 rw [jU] at hM
 refine au 3 ?_
 refine GS.seq ?_
 refine X.cm hM (fun h_11 hM=>?_) (fun h_11 hM=>?_)
 ·refine GS.skip (GS.seq ?_)
  refine X.join (τ:=(List (Int×Bool))) (fun v=>Zx x2 v=some b_1) (fun v=>⟨[(1,(V.sl (List.map zH l))),(3,(V.ptr 0 0 0)),(5,(V.ptr 1 0 0)),(9,(V.map 2)),(22,(V.sl (List.map V.i x.Calls))),(23,(V.i (x.Calls.length:Int))),(24,(V.i x2))],[.rows 6 [(zD h)],.rows 2 [(Zq x)],.map (List.map (fun p:Int×Bool=>V.i p.1) v) (List.map (fun p:Int×Bool=>V.b p.2) v)],0,none,77⟩) ?_ ?_
  ·intro m1 hM
   replace hM:Zx x2 m1=some b_1:=hM
   unfold Zx at hM
   refine au 4 ?_
   have hE:=Option.some.inj hM
   exact X.gc [some 0,some 1,some 2] (hc_2 (w64 (x2+1),m1) hE.symm) rfl rfl rfl (ga rfl rfl) (gb9 rfl rfl rfl (gb9 rfl rfl rfl (X.ZR 9 rfl rfl (fun _=>rfl) (fun _=>rfl) ZA)))
  intro hj_3
  obtain ⟨x1,h_12,hM⟩:=zF hM
  refine au 6 ?_
  refine GS.seq ?_
  obtain ⟨y5,h_13,hM⟩:=zF hM
  refine au 3 ?_
  refine X.ca (jH h_13) ?_
  refine au 6 ?_
  refine X.cm hM (fun h_14 hM=>?_) (fun h_14 hM=>?_)
  ·refine au 3 ?_
   refine X.op0W rfl (X.putW (f:=V.i) (g:=V.b) (pos:=posI) (k:=y5) (v:=true) (l:=m2) X.zBh (X.zFO _) rfl rfl rfl rfl rfl rfl rfl) rfl ?_
   refine au 2 ?_
   exact X.gc [some 0,some 1,some 2] (hj_3 (putM posI m2 y5 true) hM) rfl rfl rfl (ga rfl rfl) (gb9 rfl rfl rfl (gb9 rfl rfl rfl (X.ZR 9 rfl rfl (fun _=>rfl) (fun _=>rfl) ZA)))
  refine au 2 ?_
  exact X.gc [some 0,some 1,some 2] (hj_3 m2 hM) rfl rfl rfl (ga rfl rfl) (gb9 rfl rfl rfl (gb9 rfl rfl rfl (X.ZR 9 rfl rfl (fun _=>rfl) (fun _=>rfl) ZA)))
 obtain ⟨y_1,hM,hy⟩:=zz hM
 rw [hr_1 _ hy.symm] at hM
 refine au 1 ?_
 exact X.gc [some 0,some 1,some 2] (hj_1 m2 hM) rfl rfl rfl (ga rfl rfl) (gb9 rfl rfl rfl (gb9 rfl rfl rfl (X.ZR 9 rfl rfl (fun _=>rfl) (fun _=>rfl) ZA)))
theorem zGm (a b:zC):eqA CC.ty 54 (zI a) (zI b)=some (decide (a=b)):=by
 refine (X.eqa rfl rfl (X.eqp rfl rfl rfl (X.eqp rfl rfl rfl X.eqn'))).trans ?_
 congr 1
 rw [Bool.eq_iff_iff]
 simp only [Bool.and_eq_true,decide_eq_true_eq,beq_iff_eq,and_true]
 constructor
 ·intro h
  obtain ⟨a1,a2⟩:=a
  obtain ⟨b3,b4⟩:=b
  simp at h
  simp [h]
 ·rintro rfl
  simp
theorem zBH (a b:ZO):eqA CC.ty 71 (ZM a) (ZM b)=some (decide (a=b)):=by
 refine (X.eqa rfl rfl (X.eqp rfl rfl rfl (X.eqp rfl rfl (X.eqs rfl rfl (X.eqp rfl rfl rfl (X.eqp rfl rfl rfl X.eqn'))) (X.eqp rfl rfl (X.eqs rfl rfl (X.eqp rfl rfl rfl (X.eqp rfl rfl rfl X.eqn'))) X.eqn')))).trans ?_
 congr 1
 rw [Bool.eq_iff_iff]
 simp only [Bool.and_eq_true,decide_eq_true_eq,beq_iff_eq,and_true]
 constructor
 ·intro h
  obtain ⟨a1,⟨a2,a3⟩,⟨a4,a5⟩⟩:=a
  obtain ⟨b6,⟨b7,b8⟩,⟨b9,b10⟩⟩:=b
  simp at h
  simp [h]
 ·rintro rfl
  simp
set_option maxHeartbeats 4000000 in
theorem J9 {r:Bool} (hM:YV=some r):Ct Tryz.prog 6 [] (V.b r):=by
 refine zP zl rfl ?_
 unfold YV at hM
 refine au 4 ?_
 refine X.call zGE rfl rfl rfl .nil ?_
 refine au 1 ?_
 refine X.op0W rfl rfl rfl ?_
 refine GS.zV (GS.seq ?_)
 replace hM:=zF hM
 obtain ⟨y,h_1,hM⟩:=hM
 refine au 2 ?_
 refine X.ca (zHs h_1) ?_
 refine au 6 ?_
 refine GS.seq ?_
 replace hM:=zF hM
 obtain ⟨y1,h_2,hM⟩:=hM
 refine au 3 ?_
 refine X.ca (zDw h_2) ?_
 refine au 8 ?_
 refine GS.seq ?_
 replace hM:=zF hM
 obtain ⟨y2,h_3,hM⟩:=hM
 refine au 3 ?_
 refine X.ca (zDw h_3) ?_
 refine au 8 ?_
 refine GS.seq ?_
 replace hM:=zF hM
 obtain ⟨y3,h_4,hM⟩:=hM
 replace hM:=zF hM
 obtain ⟨x,h_5,hM⟩:=hM
 replace hM:=zF hM
 obtain ⟨y4,h_6,hM⟩:=hM
 refine X.draw (by kernel_rfl) ?_
 refine au 1 ?_
 refine X.dca (Qc h_4) ?_
 refine X.dop rfl (X.Zh (f:=zH) h_5 (fun _=>rfl) rfl rfl rfl rfl) rfl rfl (by kernel_rfl) rfl rfl ?_
 refine X.dop rfl (X.JA h_5 rfl rfl rfl) rfl rfl (by kernel_rfl) rfl rfl ?_
 refine au 1 ?_
 refine X.dca (zIz h_6) ?_
 refine au 5 ?_
 refine X.dop0 rfl rfl rfl rfl (by kernel_rfl) rfl ?_
 refine au 3 ?_
 refine X.norm [(1,(V.ptr 0 0 0)),(2,(V.i y.1)),(3,(V.i y.2)),(4,(V.i y1.1)),(5,(V.b y1.2.1)),(6,(V.i y1.2.2)),(8,(V.b y2.2.1)),(9,(V.i y2.2.2)),(10,(V.ptr 1 0 0)),(11,(V.b y4.2.1)),(12,(V.i y4.2.2))] ?_ rfl (sr rfl)
 refine GS.seq ?_
 replace hM:=zF hM
 obtain ⟨y5,h_7,hM⟩:=hM
 refine au 3 ?_
 refine X.ca (zHt h_7) ?_
 refine au 6 ?_
 refine GS.seq ?_
 replace hM:=zF hM
 obtain ⟨y6,h_8,hM⟩:=hM
 replace hM:=zF hM
 obtain ⟨y7,h_9,hM⟩:=hM
 refine au 2 ?_
 refine X.cca (Qc h_8) ?_
 refine X.cca (zI1 h_9) ?_
 refine au 6 ?_
 refine X.norm [(1,(V.ptr 0 0 0)),(2,(V.i y.1)),(3,(V.i y.2)),(4,(V.i y1.1)),(5,(V.b y1.2.1)),(6,(V.i y1.2.2)),(8,(V.b y2.2.1)),(9,(V.i y2.2.2)),(10,(V.ptr 1 0 0)),(11,(V.b y4.2.1)),(12,(V.i y4.2.2)),(13,(V.i y5.1)),(14,(V.i y5.2)),(15,(V.sl (List.map ZM y7.1))),(16,(V.i y7.2))] ?_ rfl (sr rfl)
 refine GS.seq ?_
 replace hM:=zF hM
 obtain ⟨y8,h_10,hM⟩:=hM
 replace hM:=zF hM
 obtain ⟨y9,h_11,hM⟩:=hM
 refine X.draw (by kernel_rfl) ?_
 refine au 1 ?_
 refine X.dca (Qc h_10) ?_
 refine X.dca (zEd h_11) ?_
 refine au 5 ?_
 refine X.dop0 rfl rfl rfl rfl (by kernel_rfl) rfl ?_
 refine au 3 ?_
 refine X.norm [(1,(V.ptr 0 0 0)),(2,(V.i y.1)),(3,(V.i y.2)),(4,(V.i y1.1)),(5,(V.b y1.2.1)),(6,(V.i y1.2.2)),(8,(V.b y2.2.1)),(9,(V.i y2.2.2)),(10,(V.ptr 1 0 0)),(11,(V.b y4.2.1)),(12,(V.i y4.2.2)),(13,(V.i y5.1)),(14,(V.i y5.2)),(15,(V.sl (List.map ZM y7.1))),(16,(V.i y7.2)),(17,(V.ptr 2 0 0)),(18,(V.b y9.2.1)),(19,(V.i y9.2.2))] ?_ rfl (sr rfl)
 refine GS.seq ?_
 replace hM:=zF hM
 obtain ⟨y10,h_12,hM⟩:=hM
 replace hM:=zF hM
 obtain ⟨y11,h_13,hM⟩:=hM
 refine au 2 ?_
 refine X.cca (Qc h_12) ?_
 refine au 1 ?_
 refine X.cca (qP h_13) ?_
 refine au 6 ?_
 refine X.norm [(2,(V.i y.1)),(3,(V.i y.2)),(4,(V.i y1.1)),(5,(V.b y1.2.1)),(6,(V.i y1.2.2)),(8,(V.b y2.2.1)),(9,(V.i y2.2.2)),(10,(V.ptr 1 0 0)),(11,(V.b y4.2.1)),(12,(V.i y4.2.2)),(13,(V.i y5.1)),(14,(V.i y5.2)),(15,(V.sl (List.map ZM y7.1))),(16,(V.i y7.2)),(17,(V.ptr 2 0 0)),(18,(V.b y9.2.1)),(19,(V.i y9.2.2)),(20,(V.i y11.1)),(21,(V.i y11.2))] ?_ rfl (sr rfl)
 refine au 2 ?_
 refine X.mid [(113,(V.b (((((((((!decide (y.2=0))||(!decide (y1.2.2=0)))||(!decide (y2.2.2=0)))||(!decide (y4.2.2=0)))||(!decide (y5.2=0)))||(!decide (y7.2=0)))||(!decide (y9.2.2=0)))||(!decide (y11.2=0)))||(!decide ((y7.1.length:Int)=3))))),(2,(V.i y.1)),(4,(V.i y1.1)),(5,(V.b y1.2.1)),(8,(V.b y2.2.1)),(10,(V.ptr 1 0 0)),(11,(V.b y4.2.1)),(13,(V.i y5.1)),(15,(V.sl (List.map ZM y7.1))),(17,(V.ptr 2 0 0)),(18,(V.b y9.2.1)),(20,(V.i y11.1))] ?_ ?_
 ·intro hg
  refine X.split (!decide (y.2=0)) (fun h_14=>?_) (fun h_14=>?_)
  ·refine au 36 ?_
   exact X.ng hg rfl (by simp only [h_14,X.bb])
  refine X.split (!decide (y1.2.2=0)) (fun h_15=>?_) (fun h_15=>?_)
  ·refine au 36 ?_
   exact X.ng hg rfl (by simp only [h_14,h_15,X.bb])
  refine X.split (!decide (y2.2.2=0)) (fun h_16=>?_) (fun h_16=>?_)
  ·refine au 36 ?_
   exact X.ng hg rfl (by simp only [h_14,h_15,h_16,X.bb])
  refine X.split (!decide (y4.2.2=0)) (fun h_17=>?_) (fun h_17=>?_)
  ·refine au 36 ?_
   exact X.ng hg rfl (by simp only [h_14,h_15,h_16,h_17,X.bb])
  refine X.split (!decide (y5.2=0)) (fun h_18=>?_) (fun h_18=>?_)
  ·refine au 36 ?_
   exact X.ng hg rfl (by simp only [h_14,h_15,h_16,h_17,h_18,X.bb])
  refine X.split (!decide (y7.2=0)) (fun h_19=>?_) (fun h_19=>?_)
  ·refine au 36 ?_
   exact X.ng hg rfl (by simp only [h_14,h_15,h_16,h_17,h_18,h_19,X.bb])
  refine X.split (!decide (y9.2.2=0)) (fun h_20=>?_) (fun h_20=>?_)
  ·refine au 36 ?_
   exact X.ng hg rfl (by simp only [h_14,h_15,h_16,h_17,h_18,h_19,h_20,X.bb])
  refine X.split (!decide (y11.2=0)) (fun h_21=>?_) (fun h_21=>?_)
  ·refine au 36 ?_
   exact X.ng hg rfl (by simp only [h_14,h_15,h_16,h_17,h_18,h_19,h_20,h_21,X.bb])
  refine au 36 ?_
  exact X.ng hg rfl (by simp only [h_14,h_15,h_16,h_17,h_18,h_19,h_20,h_21,X.bb])
 refine X.cm hM (fun h_22 hM=>?_) (fun h_22 hM=>?_)
 ·refine au 3 ?_
  cases hM
  exact X.rt
 refine au 2 ?_
 refine X.mid [(22,(V.b (((((((decide (y.1=1000))&&y1.2.1)&&(decide (y1.1=60)))&&(!y2.2.1))&&y4.2.1)&&(decide (y4.1=(⟨120,179⟩:zC))))&&(decide (y5.1=650))))),(15,(V.sl (List.map ZM y7.1))),(17,(V.ptr 2 0 0)),(18,(V.b y9.2.1)),(20,(V.i y11.1))] ?_ ?_
 ·intro hg
  refine X.split (decide (y.1=1000)) (fun h_23=>?_) (fun h_23=>?_)
  ·refine X.split (y1.2.1) (fun h_24=>?_) (fun h_24=>?_)
   ·refine X.split (decide (y1.1=60)) (fun h_25=>?_) (fun h_25=>?_)
    ·refine X.split (!y2.2.1) (fun h_26=>?_) (fun h_26=>?_)
     ·refine X.split (y4.2.1) (fun h_27=>?_) (fun h_27=>?_)
      ·refine X.split (decide (y4.1=(⟨120,179⟩:zC))) (fun h_28=>?_) (fun h_28=>?_)
       ·refine au 19 ?_
        refine X.opR (X.on_t rfl rfl rfl h_27) (X.eqlE (zGm y4.1 (⟨120,179⟩:zC)) rfl rfl) rfl ?_
        refine au 7 ?_
        exact X.ng hg rfl (by simp only [h_23,h_24,h_25,h_26,h_27,h_28,X.bb])
       refine au 19 ?_
       refine X.opR (X.on_t rfl rfl rfl h_27) (X.eqlE (zGm y4.1 (⟨120,179⟩:zC)) rfl rfl) rfl ?_
       refine au 7 ?_
       exact X.ng hg rfl (by simp only [h_23,h_24,h_25,h_26,h_27,h_28,X.bb])
      refine au 27 ?_
      exact X.ng hg rfl (by simp only [h_23,h_24,h_25,h_26,h_27,X.bb])
     refine au 27 ?_
     exact X.ng hg rfl (by simp only [h_23,h_24,h_25,h_26,X.bb])
    refine au 27 ?_
    exact X.ng hg rfl (by simp only [h_23,h_24,h_25,X.bb])
   refine au 27 ?_
   exact X.ng hg rfl (by simp only [h_23,h_24,X.bb])
  refine au 27 ?_
  exact X.ng hg rfl (by simp only [h_23,X.bb])
 refine GS.seq ?_
 replace hM:=Q5 hM
 obtain ⟨x1,h_29,hM⟩:=hM
 refine GS.region ?_
 refine X.mid [(0,(V.b ((((((((((((decide (y.1=1000))&&y1.2.1)&&(decide (y1.1=60)))&&(!y2.2.1))&&y4.2.1)&&(decide (y4.1=(⟨120,179⟩:zC))))&&(decide (y5.1=650)))&&(decide (x1=(⟨13,(⟨1,1⟩:zB),(⟨240,299⟩:zC)⟩:ZO))))&&y9.2.1)&&(decide ((y9.1.Calls.length:Int)=5)))&&(decide ((y9.1.Slots.length:Int)=4)))&&(decide (y11.1=1)))))] ?_ ?_
 ·intro hg
  refine X.split (decide (y.1=1000)) (fun h_30=>?_) (fun h_30=>?_)
  ·refine X.split (y1.2.1) (fun h_31=>?_) (fun h_31=>?_)
   ·refine X.split (decide (y1.1=60)) (fun h_32=>?_) (fun h_32=>?_)
    ·refine X.split (!y2.2.1) (fun h_33=>?_) (fun h_33=>?_)
     ·refine X.split (y4.2.1) (fun h_34=>?_) (fun h_34=>?_)
      ·refine X.split (decide (y4.1=(⟨120,179⟩:zC))) (fun h_35=>?_) (fun h_35=>?_)
       ·refine X.split (decide (y5.1=650)) (fun h_36=>?_) (fun h_36=>?_)
        ·refine X.split (decide (x1=(⟨13,(⟨1,1⟩:zB),(⟨240,299⟩:zC)⟩:ZO))) (fun h_37=>?_) (fun h_37=>?_)
         ·refine X.split (y9.2.1) (fun h_38=>?_) (fun h_38=>?_)
          ·refine X.split (decide ((y9.1.Calls.length:Int)=5)) (fun h_39=>?_) (fun h_39=>?_)
           ·refine X.split (decide ((y9.1.Slots.length:Int)=4)) (fun h_40=>?_) (fun h_40=>?_)
            ·refine au 2 ?_
             refine X.opR (X.on_t rfl rfl rfl (X.zK (X.zK (X.zK (X.zK (X.zK (X.zK h_30 h_31) h_32) h_33) h_34) h_35) h_36)) rfl rfl ?_
             refine X.opR (X.on_t rfl rfl rfl (X.zK (X.zK (X.zK (X.zK (X.zK (X.zK h_30 h_31) h_32) h_33) h_34) h_35) h_36)) (X.Zh (f:=ZM) (h_29 (X.zK (X.zK (X.zK (X.zK (X.zK (X.zK h_30 h_31) h_32) h_33) h_34) h_35) h_36)) (fun _=>rfl) rfl rfl rfl rfl) rfl ?_
             refine X.opR (X.on_t rfl rfl rfl (X.zK (X.zK (X.zK (X.zK (X.zK (X.zK h_30 h_31) h_32) h_33) h_34) h_35) h_36)) (X.JA (h_29 (X.zK (X.zK (X.zK (X.zK (X.zK (X.zK h_30 h_31) h_32) h_33) h_34) h_35) h_36)) rfl rfl rfl) rfl ?_
             iterate 3 refine X.opR (X.on_t rfl rfl rfl (X.zK (X.zK (X.zK (X.zK (X.zK (X.zK h_30 h_31) h_32) h_33) h_34) h_35) h_36)) rfl rfl ?_
             refine X.opR (X.on_t rfl rfl rfl (X.zK (X.zK (X.zK (X.zK (X.zK (X.zK h_30 h_31) h_32) h_33) h_34) h_35) h_36)) (X.eqlE (zBH x1 (⟨13,(⟨1,1⟩:zB),(⟨240,299⟩:zC)⟩:ZO)) rfl rfl) rfl ?_
             refine X.opR rfl (X.zDn rfl (X.zK (X.zK (X.zK (X.zK (X.zK (X.zK h_30 h_31) h_32) h_33) h_34) h_35) h_36) rfl) rfl ?_
             refine au 21 ?_
             exact X.ng hg rfl (by simp only [h_30,h_31,h_32,h_33,h_34,h_35,h_36,h_37,h_38,h_39,h_40,X.bb])
            refine au 2 ?_
            refine X.opR (X.on_t rfl rfl rfl (X.zK (X.zK (X.zK (X.zK (X.zK (X.zK h_30 h_31) h_32) h_33) h_34) h_35) h_36)) rfl rfl ?_
            refine X.opR (X.on_t rfl rfl rfl (X.zK (X.zK (X.zK (X.zK (X.zK (X.zK h_30 h_31) h_32) h_33) h_34) h_35) h_36)) (X.Zh (f:=ZM) (h_29 (X.zK (X.zK (X.zK (X.zK (X.zK (X.zK h_30 h_31) h_32) h_33) h_34) h_35) h_36)) (fun _=>rfl) rfl rfl rfl rfl) rfl ?_
            refine X.opR (X.on_t rfl rfl rfl (X.zK (X.zK (X.zK (X.zK (X.zK (X.zK h_30 h_31) h_32) h_33) h_34) h_35) h_36)) (X.JA (h_29 (X.zK (X.zK (X.zK (X.zK (X.zK (X.zK h_30 h_31) h_32) h_33) h_34) h_35) h_36)) rfl rfl rfl) rfl ?_
            iterate 3 refine X.opR (X.on_t rfl rfl rfl (X.zK (X.zK (X.zK (X.zK (X.zK (X.zK h_30 h_31) h_32) h_33) h_34) h_35) h_36)) rfl rfl ?_
            refine X.opR (X.on_t rfl rfl rfl (X.zK (X.zK (X.zK (X.zK (X.zK (X.zK h_30 h_31) h_32) h_33) h_34) h_35) h_36)) (X.eqlE (zBH x1 (⟨13,(⟨1,1⟩:zB),(⟨240,299⟩:zC)⟩:ZO)) rfl rfl) rfl ?_
            refine X.opR rfl (X.zDn rfl (X.zK (X.zK (X.zK (X.zK (X.zK (X.zK h_30 h_31) h_32) h_33) h_34) h_35) h_36) rfl) rfl ?_
            refine au 21 ?_
            exact X.ng hg rfl (by simp only [h_30,h_31,h_32,h_33,h_34,h_35,h_36,h_37,h_38,h_39,h_40,X.bb])
           refine au 2 ?_
           refine X.opR (X.on_t rfl rfl rfl (X.zK (X.zK (X.zK (X.zK (X.zK (X.zK h_30 h_31) h_32) h_33) h_34) h_35) h_36)) rfl rfl ?_
           refine X.opR (X.on_t rfl rfl rfl (X.zK (X.zK (X.zK (X.zK (X.zK (X.zK h_30 h_31) h_32) h_33) h_34) h_35) h_36)) (X.Zh (f:=ZM) (h_29 (X.zK (X.zK (X.zK (X.zK (X.zK (X.zK h_30 h_31) h_32) h_33) h_34) h_35) h_36)) (fun _=>rfl) rfl rfl rfl rfl) rfl ?_
           refine X.opR (X.on_t rfl rfl rfl (X.zK (X.zK (X.zK (X.zK (X.zK (X.zK h_30 h_31) h_32) h_33) h_34) h_35) h_36)) (X.JA (h_29 (X.zK (X.zK (X.zK (X.zK (X.zK (X.zK h_30 h_31) h_32) h_33) h_34) h_35) h_36)) rfl rfl rfl) rfl ?_
           iterate 3 refine X.opR (X.on_t rfl rfl rfl (X.zK (X.zK (X.zK (X.zK (X.zK (X.zK h_30 h_31) h_32) h_33) h_34) h_35) h_36)) rfl rfl ?_
           refine X.opR (X.on_t rfl rfl rfl (X.zK (X.zK (X.zK (X.zK (X.zK (X.zK h_30 h_31) h_32) h_33) h_34) h_35) h_36)) (X.eqlE (zBH x1 (⟨13,(⟨1,1⟩:zB),(⟨240,299⟩:zC)⟩:ZO)) rfl rfl) rfl ?_
           refine X.opR rfl (X.zDn rfl (X.zK (X.zK (X.zK (X.zK (X.zK (X.zK h_30 h_31) h_32) h_33) h_34) h_35) h_36) rfl) rfl ?_
           refine au 21 ?_
           exact X.ng hg rfl (by simp only [h_30,h_31,h_32,h_33,h_34,h_35,h_36,h_37,h_38,h_39,X.bb])
          refine au 2 ?_
          refine X.opR (X.on_t rfl rfl rfl (X.zK (X.zK (X.zK (X.zK (X.zK (X.zK h_30 h_31) h_32) h_33) h_34) h_35) h_36)) rfl rfl ?_
          refine X.opR (X.on_t rfl rfl rfl (X.zK (X.zK (X.zK (X.zK (X.zK (X.zK h_30 h_31) h_32) h_33) h_34) h_35) h_36)) (X.Zh (f:=ZM) (h_29 (X.zK (X.zK (X.zK (X.zK (X.zK (X.zK h_30 h_31) h_32) h_33) h_34) h_35) h_36)) (fun _=>rfl) rfl rfl rfl rfl) rfl ?_
          refine X.opR (X.on_t rfl rfl rfl (X.zK (X.zK (X.zK (X.zK (X.zK (X.zK h_30 h_31) h_32) h_33) h_34) h_35) h_36)) (X.JA (h_29 (X.zK (X.zK (X.zK (X.zK (X.zK (X.zK h_30 h_31) h_32) h_33) h_34) h_35) h_36)) rfl rfl rfl) rfl ?_
          iterate 3 refine X.opR (X.on_t rfl rfl rfl (X.zK (X.zK (X.zK (X.zK (X.zK (X.zK h_30 h_31) h_32) h_33) h_34) h_35) h_36)) rfl rfl ?_
          refine X.opR (X.on_t rfl rfl rfl (X.zK (X.zK (X.zK (X.zK (X.zK (X.zK h_30 h_31) h_32) h_33) h_34) h_35) h_36)) (X.eqlE (zBH x1 (⟨13,(⟨1,1⟩:zB),(⟨240,299⟩:zC)⟩:ZO)) rfl rfl) rfl ?_
          refine X.opR rfl (X.zDn rfl (X.zK (X.zK (X.zK (X.zK (X.zK (X.zK h_30 h_31) h_32) h_33) h_34) h_35) h_36) rfl) rfl ?_
          refine au 21 ?_
          exact X.ng hg rfl (by simp only [h_30,h_31,h_32,h_33,h_34,h_35,h_36,h_37,h_38,X.bb])
         refine au 2 ?_
         refine X.opR (X.on_t rfl rfl rfl (X.zK (X.zK (X.zK (X.zK (X.zK (X.zK h_30 h_31) h_32) h_33) h_34) h_35) h_36)) rfl rfl ?_
         refine X.opR (X.on_t rfl rfl rfl (X.zK (X.zK (X.zK (X.zK (X.zK (X.zK h_30 h_31) h_32) h_33) h_34) h_35) h_36)) (X.Zh (f:=ZM) (h_29 (X.zK (X.zK (X.zK (X.zK (X.zK (X.zK h_30 h_31) h_32) h_33) h_34) h_35) h_36)) (fun _=>rfl) rfl rfl rfl rfl) rfl ?_
         refine X.opR (X.on_t rfl rfl rfl (X.zK (X.zK (X.zK (X.zK (X.zK (X.zK h_30 h_31) h_32) h_33) h_34) h_35) h_36)) (X.JA (h_29 (X.zK (X.zK (X.zK (X.zK (X.zK (X.zK h_30 h_31) h_32) h_33) h_34) h_35) h_36)) rfl rfl rfl) rfl ?_
         iterate 3 refine X.opR (X.on_t rfl rfl rfl (X.zK (X.zK (X.zK (X.zK (X.zK (X.zK h_30 h_31) h_32) h_33) h_34) h_35) h_36)) rfl rfl ?_
         refine X.opR (X.on_t rfl rfl rfl (X.zK (X.zK (X.zK (X.zK (X.zK (X.zK h_30 h_31) h_32) h_33) h_34) h_35) h_36)) (X.eqlE (zBH x1 (⟨13,(⟨1,1⟩:zB),(⟨240,299⟩:zC)⟩:ZO)) rfl rfl) rfl ?_
         refine X.opR rfl (X.zDn rfl (X.zK (X.zK (X.zK (X.zK (X.zK (X.zK h_30 h_31) h_32) h_33) h_34) h_35) h_36) rfl) rfl ?_
         refine au 21 ?_
         exact X.ng hg rfl (by simp only [h_30,h_31,h_32,h_33,h_34,h_35,h_36,h_37,X.bb])
        refine au 2 ?_
        iterate 7 refine X.off (X.zFW rfl rfl rfl (X.zK (X.zK (X.zK (X.zK (X.zK (X.zK h_30 h_31) h_32) h_33) h_34) h_35) h_36)) rfl ?_
        refine X.opR rfl (X.zCU rfl (X.zK (X.zK (X.zK (X.zK (X.zK (X.zK h_30 h_31) h_32) h_33) h_34) h_35) h_36) rfl) rfl ?_
        refine au 21 ?_
        exact X.ng hg rfl (by simp only [h_30,h_31,h_32,h_33,h_34,h_35,h_36,X.bb])
       refine au 2 ?_
       iterate 7 refine X.off (X.zFW rfl rfl rfl (X.Zp (X.zK (X.zK (X.zK (X.zK (X.zK h_30 h_31) h_32) h_33) h_34) h_35))) rfl ?_
       refine X.opR rfl (X.zCU rfl (X.Zp (X.zK (X.zK (X.zK (X.zK (X.zK h_30 h_31) h_32) h_33) h_34) h_35)) rfl) rfl ?_
       refine au 21 ?_
       exact X.ng hg rfl (by simp only [h_30,h_31,h_32,h_33,h_34,h_35,X.bb])
      refine au 2 ?_
      iterate 7 refine X.off (X.zFW rfl rfl rfl (X.Zp (X.Zp (X.zK (X.zK (X.zK (X.zK h_30 h_31) h_32) h_33) h_34)))) rfl ?_
      refine X.opR rfl (X.zCU rfl (X.Zp (X.Zp (X.zK (X.zK (X.zK (X.zK h_30 h_31) h_32) h_33) h_34))) rfl) rfl ?_
      refine au 21 ?_
      exact X.ng hg rfl (by simp only [h_30,h_31,h_32,h_33,h_34,X.bb])
     refine au 2 ?_
     iterate 7 refine X.off (X.zFW rfl rfl rfl (X.Zp (X.Zp (X.Zp (X.zK (X.zK (X.zK h_30 h_31) h_32) h_33))))) rfl ?_
     refine X.opR rfl (X.zCU rfl (X.Zp (X.Zp (X.Zp (X.zK (X.zK (X.zK h_30 h_31) h_32) h_33)))) rfl) rfl ?_
     refine au 21 ?_
     exact X.ng hg rfl (by simp only [h_30,h_31,h_32,h_33,X.bb])
    refine au 2 ?_
    iterate 7 refine X.off (X.zFW rfl rfl rfl (X.Zp (X.Zp (X.Zp (X.Zp (X.zK (X.zK h_30 h_31) h_32)))))) rfl ?_
    refine X.opR rfl (X.zCU rfl (X.Zp (X.Zp (X.Zp (X.Zp (X.zK (X.zK h_30 h_31) h_32))))) rfl) rfl ?_
    refine au 21 ?_
    exact X.ng hg rfl (by simp only [h_30,h_31,h_32,X.bb])
   refine au 2 ?_
   iterate 7 refine X.off (X.zFW rfl rfl rfl (X.Zp (X.Zp (X.Zp (X.Zp (X.Zp (X.zK h_30 h_31))))))) rfl ?_
   refine X.opR rfl (X.zCU rfl (X.Zp (X.Zp (X.Zp (X.Zp (X.Zp (X.zK h_30 h_31)))))) rfl) rfl ?_
   refine au 21 ?_
   exact X.ng hg rfl (by simp only [h_30,h_31,X.bb])
  refine au 2 ?_
  iterate 7 refine X.off (X.zFW rfl rfl rfl (X.Zp (X.Zp (X.Zp (X.Zp (X.Zp (X.Zp h_30))))))) rfl ?_
  refine X.opR rfl (X.zCU rfl (X.Zp (X.Zp (X.Zp (X.Zp (X.Zp (X.Zp h_30)))))) rfl) rfl ?_
  refine au 21 ?_
  exact X.ng hg rfl (by simp only [h_30,X.bb])
 cases hM
 exact X.rt
theorem JN (n:Int) (lo:Int) (hi:Int):Ct Tryz.prog 102 [(V.i n),(V.i lo),(V.i hi)] (V.b (zt n lo hi)):=by
 refine zP zl rfl ?_
 generalize hM:zt n lo hi=r
 unfold zt at hM
 refine au 4 ?_
 refine X.mid [(6,(V.b ((decide (lo≤n))&&(decide (n≤hi)))))] ?_ ?_
 ·intro hg
  refine X.split (decide (lo≤n)) (fun h_1=>?_) (fun h_1=>?_)
  ·refine au 10 ?_
   exact X.ng hg rfl (by simp only [h_1,X.bb])
  refine au 10 ?_
  exact X.ng hg rfl (by simp only [h_1,X.bb])
 subst hM
 exact X.rt
theorem zHp {c:zX} {r:Bool} (hM:zBB c=some r):Ct Tryz.prog 103 [(zk c)] (V.b r):=by
 refine zP zl rfl ?_
 unfold zBB at hM
 refine au 7 ?_
 refine X.ca (JN c.ID 1 1099511627776) ?_
 refine au 5 ?_
 refine X.ca (JN c.Begin 0 1048576) ?_
 refine au 5 ?_
 refine X.ca (JN c.Every 1 120) ?_
 refine au 6 ?_
 refine X.ca (JN (c.Heights.length:Int) 1 60) ?_
 refine au 4 ?_
 refine X.mid [(35,(V.b ((((!(zt c.ID 1 1099511627776))||(!(zt c.Begin 0 1048576)))||(!(zt c.Every 1 120)))||(!(zt (c.Heights.length:Int) 1 60))))),(1,(V.ptr 0 0 0))] ?_ ?_
 ·intro hg
  refine X.split (!(zt c.ID 1 1099511627776)) (fun h_1=>?_) (fun h_1=>?_)
  ·refine au 15 ?_
   exact X.ng hg rfl (by simp only [h_1,X.bb])
  refine X.split (!(zt c.Begin 0 1048576)) (fun h_2=>?_) (fun h_2=>?_)
  ·refine au 15 ?_
   exact X.ng hg rfl (by simp only [h_1,h_2,X.bb])
  refine X.split (!(zt c.Every 1 120)) (fun h_3=>?_) (fun h_3=>?_)
  ·refine au 15 ?_
   exact X.ng hg rfl (by simp only [h_1,h_2,h_3,X.bb])
  refine au 15 ?_
  exact X.ng hg rfl (by simp only [h_1,h_2,h_3,X.bb])
 refine X.cm hM (fun h_4 hM=>?_) (fun h_4 hM=>?_)
 ·refine au 3 ?_
  cases hM
  exact X.rt
 refine au 5 ?_
 refine X.join (τ:=Unit) (fun v=>zAD=some r) (fun v=>⟨[],[],0,none,51⟩) ?_ ?_
 ·intro _ hM
  replace hM:zAD=some r:=hM
  unfold zAD at hM
  refine au 3 ?_
  cases hM
  exact X.rt
 intro hj_1
 refine au 1 ?_
 refine X.gx [some 0] (X.loop (σ:=Int) (fun v=>⟨[(1,(V.ptr 0 0 0)),(7,(V.i v))],[.rows 4 [(zk c)]],0,none,51⟩) hM ?_ rfl)
 intro i b_1 hM hc_2 hr_1
 rw [zAE] at hM
 refine au 8 ?_
 refine X.cm hM (fun h_5 hM=>?_) (fun h_5 hM=>?_)
 ·obtain ⟨x,h_6,hM⟩:=zF hM
  refine au 9 ?_
  refine X.ca (JN x (-4000) 4000) ?_
  refine au 6 ?_
  refine X.cm hM (fun h_7 hM=>?_) (fun h_7 hM=>?_)
  ·refine au 3 ?_
   have hE:=Option.some.inj hM
   replace hE:=hr_1 _ hE.symm
   subst hE
   exact X.rt
  refine au 7 ?_
  have hE:=Option.some.inj hM
  exact X.gx [some 0] (hc_2 (w64 (i+1)) hE.symm)
 obtain ⟨y_1,hM,hy⟩:=zz hM
 rw [hr_1 _ hy.symm] at hM
 refine au 1 ?_
 exact X.gx [] (hj_1 () hM)
set_option maxHeartbeats 4000000 in
theorem zGD {l:(List jP)} {r:Int} (hM:Qz l=some r):Ct Tryz.prog 104 [(V.sl (List.map ZN l))] (V.i r):=by
 refine zP zl rfl ?_
 unfold Qz at hM
 refine au 7 ?_
 refine X.join (τ:=Unit) (fun v=>QY=some r) (fun v=>⟨[],[],0,none,65⟩) ?_ ?_
 ·intro _ hM
  replace hM:QY=some r:=hM
  unfold QY at hM
  refine au 3 ?_
  cases hM
  exact X.rt
 intro hj_1
 refine au 1 ?_
 refine X.gx [] (X.loop (σ:=Int) (fun v=>⟨[(0,(V.sl (List.map ZN l))),(3,(V.i v))],[],0,none,65⟩) hM ?_ rfl)
 intro i b_1 hM hc_2 hr_1
 rw [QZ] at hM
 refine au 7 ?_
 refine X.cm hM (fun h_1 hM=>?_) (fun h_1 hM=>?_)
 ·obtain ⟨x,h_2,hM⟩:=zF hM
  refine au 9 ?_
  refine X.ca (JN x.Add (-4000) 4000) ?_
  obtain ⟨x1,h_3,hM⟩:=zF hM
  obtain ⟨x2,h_4,hM⟩:=Q5 hM
  obtain ⟨x3,h_5,hM⟩:=Q5 hM
  obtain ⟨x4,h_6,hM⟩:=Q5 hM
  refine au 3 ?_
  refine GS.seq ?_
  refine X.mid [(47,(V.b ((((decide (x1.From<0))||(decide (x3.To<x2.From)))||(decide (728<x4.To)))||(!(zt x.Add (-4000) 4000))))),(0,(V.sl (List.map ZN l))),(3,(V.i i))] ?_ ?_
  ·intro hg
   refine X.split (decide (x1.From<0)) (fun h_7=>?_) (fun h_7=>?_)
   ·refine au 33 ?_
    exact X.ng hg rfl (by simp only [h_7,X.bb])
   refine X.split (decide (x3.To<x2.From)) (fun h_8=>?_) (fun h_8=>?_)
   ·refine au 10 ?_
    refine X.cop (X.on_f rfl rfl rfl h_7) (X.Zh (f:=ZN) (h_4 (X.nt h_7)) (fun _=>rfl) rfl rfl rfl rfl) rfl rfl ?_
    refine au 1 ?_
    refine X.cop (X.on_f rfl rfl rfl h_7) (X.JA (h_4 (X.nt h_7)) rfl rfl rfl) rfl rfl ?_
    refine au 2 ?_
    refine X.cop (X.on_f rfl rfl rfl h_7) (X.Zh (f:=ZN) (h_5 (X.nt h_7)) (fun _=>rfl) rfl rfl rfl rfl) rfl rfl ?_
    refine au 1 ?_
    refine X.cop (X.on_f rfl rfl rfl h_7) (X.JA (h_5 (X.nt h_7)) rfl rfl rfl) rfl rfl ?_
    refine au 15 ?_
    exact X.ng hg rfl (by simp only [h_7,h_8,X.bb])
   refine X.split (decide (728<x4.To)) (fun h_9=>?_) (fun h_9=>?_)
   ·refine au 10 ?_
    refine X.cop (X.on_f rfl rfl rfl h_7) (X.Zh (f:=ZN) (h_4 (X.nt h_7)) (fun _=>rfl) rfl rfl rfl rfl) rfl rfl ?_
    refine au 1 ?_
    refine X.cop (X.on_f rfl rfl rfl h_7) (X.JA (h_4 (X.nt h_7)) rfl rfl rfl) rfl rfl ?_
    refine au 2 ?_
    refine X.cop (X.on_f rfl rfl rfl h_7) (X.Zh (f:=ZN) (h_5 (X.nt h_7)) (fun _=>rfl) rfl rfl rfl rfl) rfl rfl ?_
    refine au 1 ?_
    refine X.cop (X.on_f rfl rfl rfl h_7) (X.JA (h_5 (X.nt h_7)) rfl rfl rfl) rfl rfl ?_
    refine au 5 ?_
    refine X.cop (X.on_f rfl rfl rfl h_8) (X.Zh (f:=ZN) (h_6 (X.nt (X.zJK h_7 h_8))) (fun _=>rfl) rfl rfl rfl rfl) rfl rfl ?_
    refine au 1 ?_
    refine X.cop (X.on_f rfl rfl rfl h_8) (X.JA (h_6 (X.nt (X.zJK h_7 h_8))) rfl rfl rfl) rfl rfl ?_
    refine au 7 ?_
    exact X.ng hg rfl (by simp only [h_7,h_8,h_9,X.bb])
   refine au 10 ?_
   refine X.cop (X.on_f rfl rfl rfl h_7) (X.Zh (f:=ZN) (h_4 (X.nt h_7)) (fun _=>rfl) rfl rfl rfl rfl) rfl rfl ?_
   refine au 1 ?_
   refine X.cop (X.on_f rfl rfl rfl h_7) (X.JA (h_4 (X.nt h_7)) rfl rfl rfl) rfl rfl ?_
   refine au 2 ?_
   refine X.cop (X.on_f rfl rfl rfl h_7) (X.Zh (f:=ZN) (h_5 (X.nt h_7)) (fun _=>rfl) rfl rfl rfl rfl) rfl rfl ?_
   refine au 1 ?_
   refine X.cop (X.on_f rfl rfl rfl h_7) (X.JA (h_5 (X.nt h_7)) rfl rfl rfl) rfl rfl ?_
   refine au 5 ?_
   refine X.cop (X.on_f rfl rfl rfl h_8) (X.Zh (f:=ZN) (h_6 (X.nt (X.zJK h_7 h_8))) (fun _=>rfl) rfl rfl rfl rfl) rfl rfl ?_
   refine au 1 ?_
   refine X.cop (X.on_f rfl rfl rfl h_8) (X.JA (h_6 (X.nt (X.zJK h_7 h_8))) rfl rfl rfl) rfl rfl ?_
   refine au 7 ?_
   exact X.ng hg rfl (by simp only [h_7,h_8,h_9,X.bb])
  refine X.cm hM (fun h_10 hM=>?_) (fun h_10 hM=>?_)
  ·refine au 3 ?_
   have hE:=Option.some.inj hM
   replace hE:=hr_1 _ hE.symm
   subst hE
   exact X.rt
  obtain ⟨x5,h_11,hM⟩:=Q5 hM
  obtain ⟨x6,h_12,hM⟩:=Q5 hM
  refine GS.skip (GS.seq ?_)
  refine X.mid [(64,(V.b ((decide (0<i))&&(decide (x5.From≤x6.To))))),(0,(V.sl (List.map ZN l))),(3,(V.i i))] ?_ ?_
  ·intro hg
   refine X.split (decide (0<i)) (fun h_13=>?_) (fun h_13=>?_)
   ·refine au 6 ?_
    refine X.cop (X.on_t rfl rfl rfl h_13) (X.Zh (f:=ZN) (h_11 h_13) (fun _=>rfl) rfl rfl rfl rfl) rfl rfl ?_
    refine au 1 ?_
    refine X.cop (X.on_t rfl rfl rfl h_13) (X.JA (h_11 h_13) rfl rfl rfl) rfl rfl ?_
    refine au 4 ?_
    refine X.cop (X.on_t rfl rfl rfl h_13) (X.Zh (f:=ZN) (h_12 h_13) (fun _=>rfl) rfl rfl rfl rfl) rfl rfl ?_
    refine au 1 ?_
    refine X.cop (X.on_t rfl rfl rfl h_13) (X.JA (h_12 h_13) rfl rfl rfl) rfl rfl ?_
    refine au 3 ?_
    exact X.ng hg rfl (by simp only [h_13,X.bb])
   refine au 19 ?_
   exact X.ng hg rfl (by simp only [h_13,X.bb])
  refine X.cm hM (fun h_14 hM=>?_) (fun h_14 hM=>?_)
  ·refine au 3 ?_
   have hE:=Option.some.inj hM
   replace hE:=hr_1 _ hE.symm
   subst hE
   exact X.rt
  refine au 7 ?_
  have hE:=Option.some.inj hM
  exact X.gx [] (hc_2 (w64 (i+1)) hE.symm)
 obtain ⟨y_1,hM,hy⟩:=zz hM
 rw [hr_1 _ hy.symm] at hM
 refine au 1 ?_
 exact X.gx [] (hj_1 () hM)
theorem zHq {w:zO} {r:Int} (hM:zBC w=some r):Ct Tryz.prog 77 [(zY w)] (V.i r):=by
 refine zP zl rfl ?_
 unfold zBC at hM
 refine au 7 ?_
 refine X.ca (JN w.Level (-4000) 4000) ?_
 refine au 7 ?_
 refine X.cm hM (fun h_1 hM=>?_) (fun h_1 hM=>?_)
 ·refine au 3 ?_
  cases hM
  exact X.rt
 refine au 3 ?_
 refine X.mid [(21,(V.b ((decide (6<(w.Cycles.length:Int)))||(decide (20<(w.Shifts.length:Int)))))),(1,(V.ptr 0 0 0))] ?_ ?_
 ·intro hg
  refine X.split (decide (6<(w.Cycles.length:Int))) (fun h_2=>?_) (fun h_2=>?_)
  ·refine au 11 ?_
   exact X.ng hg rfl (by simp only [h_2,X.bb])
  refine au 11 ?_
  exact X.ng hg rfl (by simp only [h_2,X.bb])
 refine X.cm hM (fun h_3 hM=>?_) (fun h_3 hM=>?_)
 ·refine au 3 ?_
  cases hM
  exact X.rt
 refine au 5 ?_
 refine X.join (τ:=Unit) (fun v=>QF w=some r) (fun v=>⟨[(1,(V.ptr 0 0 0))],[.rows 3 [(zY w)]],0,none,58⟩) ?_ ?_
 ·intro _ hM
  replace hM:QF w=some r:=hM
  unfold QF at hM
  obtain ⟨y,h_4,hM⟩:=zF hM
  refine au 3 ?_
  refine X.ca (zGD h_4) ?_
  refine au 2 ?_
  cases hM
  exact X.rt
 intro hj_1
 refine au 1 ?_
 refine X.gx [some 0] (X.loop (σ:=Int) (fun v=>⟨[(1,(V.ptr 0 0 0)),(4,(V.i v))],[.rows 3 [(zY w)]],0,none,58⟩) hM ?_ rfl)
 intro i b_1 hM hc_2 hr_1
 rw [zAF] at hM
 refine au 8 ?_
 refine X.cm hM (fun h_5 hM=>?_) (fun h_5 hM=>?_)
 ·obtain ⟨x,h_6,hM⟩:=zF hM
  obtain ⟨y1,h_7,hM⟩:=zF hM
  refine au 9 ?_
  refine X.ca (zHp h_7) ?_
  refine au 7 ?_
  refine X.cm hM (fun h_8 hM=>?_) (fun h_8 hM=>?_)
  ·refine au 3 ?_
   have hE:=Option.some.inj hM
   replace hE:=hr_1 _ hE.symm
   subst hE
   exact X.rt
  refine au 4 ?_
  refine X.join (τ:=Unit) (fun v=>QE i=some b_1) (fun v=>⟨[(1,(V.ptr 0 0 0)),(4,(V.i i))],[.rows 3 [(zY w)]],0,none,58⟩) ?_ ?_
  ·intro _ hM
   replace hM:QE i=some b_1:=hM
   unfold QE at hM
   refine au 6 ?_
   have hE:=Option.some.inj hM
   exact X.gx [some 0] (hc_2 (w64 (i+1)) hE.symm)
  intro hj_3
  refine au 1 ?_
  refine X.gx [some 0] (X.loop (σ:=Int) (fun v=>⟨[(1,(V.ptr 0 0 0)),(4,(V.i i)),(6,(V.i v))],[.rows 3 [(zY w)]],0,none,58⟩) hM ?_ rfl)
  intro k b_2 hM hc_4 hr_2
  rw [QG] at hM
  refine au 6 ?_
  refine X.cm hM (fun h_9 hM=>?_) (fun h_9 hM=>?_)
  ·obtain ⟨x1,h_10,hM⟩:=zF hM
   obtain ⟨x2,h_11,hM⟩:=zF hM
   refine au 19 ?_
   refine X.norm [(1,(V.ptr 0 0 0)),(4,(V.i i)),(6,(V.i k)),(54,(V.b (decide (x1.ID=x2.ID))))] ?_ rfl (sr rfl)
   refine X.cm hM (fun h_12 hM=>?_) (fun h_12 hM=>?_)
   ·refine au 3 ?_
    have hE:=Option.some.inj hM
    replace hE:=hr_2 _ hE.symm
    replace hE:=hr_1 _ hE.symm
    subst hE
    exact X.rt
   refine au 7 ?_
   have hE:=Option.some.inj hM
   exact X.gx [some 0] (hc_4 (w64 (k+1)) hE.symm)
  obtain ⟨y_2,hM,hy⟩:=zz hM
  rw [hr_2 _ hy.symm] at hM
  refine au 1 ?_
  exact X.gx [some 0] (hj_3 () hM)
 obtain ⟨y_1,hM,hy⟩:=zz hM
 rw [hr_1 _ hy.symm] at hM
 refine au 1 ?_
 exact X.gx [some 0] (hj_1 () hM)
theorem Zj (n:Int) (lo:Int) (hi:Int):Ct Tryz.prog 78 [(V.i n),(V.i lo),(V.i hi)] (V.b (ZT n lo hi)):=by
 refine zP zl rfl ?_
 generalize hM:ZT n lo hi=r
 unfold ZT at hM
 refine au 4 ?_
 refine X.mid [(6,(V.b ((decide (lo≤n))&&(decide (n≤hi)))))] ?_ ?_
 ·intro hg
  refine X.split (decide (lo≤n)) (fun h_1=>?_) (fun h_1=>?_)
  ·refine au 10 ?_
   exact X.ng hg rfl (by simp only [h_1,X.bb])
  refine au 10 ?_
  exact X.ng hg rfl (by simp only [h_1,X.bb])
 subst hM
 exact X.rt
theorem zIv (s:zC):Ct Tryz.prog 79 [(zI s)] (V.b (yI s)):=by
 refine zP zl rfl ?_
 generalize hM:yI s=r
 unfold yI at hM
 refine au 5 ?_
 refine X.mid [(2,(V.b ((((decide (0≤s.Lo))&&(decide (s.Lo≤s.Hi)))&&(decide (s.Hi≤1048576)))&&(decide ((w64 (s.Hi - s.Lo))<1440)))))] ?_ ?_
 ·intro hg
  refine X.split (decide (0≤s.Lo)) (fun h_1=>?_) (fun h_1=>?_)
  ·refine X.split (decide (s.Lo≤s.Hi)) (fun h_2=>?_) (fun h_2=>?_)
   ·refine X.split (decide (s.Hi≤1048576)) (fun h_3=>?_) (fun h_3=>?_)
    ·refine au 25 ?_
     exact X.ng hg rfl (by simp only [h_1,h_2,h_3,X.bb])
    refine au 25 ?_
    exact X.ng hg rfl (by simp only [h_1,h_2,h_3,X.bb])
   refine au 25 ?_
   exact X.ng hg rfl (by simp only [h_1,h_2,X.bb])
  refine au 25 ?_
  exact X.ng hg rfl (by simp only [h_1,X.bb])
 subst hM
 exact X.rt
set_option maxHeartbeats 4000000 in
theorem zHo {h:zG} {r:Int} (hM:zBA h=some r):Ct Tryz.prog 58 [(zD h)] (V.i r):=by
 refine zP zl rfl ?_
 unfold zBA at hM
 obtain ⟨y,h_1,hM⟩:=zF hM
 refine au 7 ?_
 refine X.ca (zHq h_1) ?_
 refine au 7 ?_
 refine X.cm hM (fun h_2 hM=>?_) (fun h_2 hM=>?_)
 ·refine au 4 ?_
  cases hM
  exact X.rt
 refine au 3 ?_
 refine X.mid [(23,(V.b ((decide (6<(h.Berths.length:Int)))||(decide (12<(h.Tides.length:Int)))))),(1,(V.ptr 0 0 0))] ?_ ?_
 ·intro hg
  refine X.split (decide (6<(h.Berths.length:Int))) (fun h_3=>?_) (fun h_3=>?_)
  ·refine au 11 ?_
   exact X.ng hg rfl (by simp only [h_3,X.bb])
  refine au 11 ?_
  exact X.ng hg rfl (by simp only [h_3,X.bb])
 refine X.cm hM (fun h_4 hM=>?_) (fun h_4 hM=>?_)
 ·refine au 3 ?_
  cases hM
  exact X.rt
 refine au 5 ?_
 refine X.join (τ:=Unit) (fun v=>QD h=some r) (fun v=>⟨[(1,(V.ptr 0 0 0))],[.rows 6 [(zD h)]],0,none,106⟩) ?_ ?_
 ·intro _ hM
  replace hM:QD h=some r:=hM
  unfold QD at hM
  refine au 4 ?_
  refine X.join (τ:=Unit) (fun v=>QC h=some r) (fun v=>⟨[(1,(V.ptr 0 0 0))],[.rows 6 [(zD h)]],0,none,106⟩) ?_ ?_
  ·intro _ hM
   replace hM:QC h=some r:=hM
   unfold QC at hM
   refine au 4 ?_
   refine X.ca (Zj h.Keel 0 8000) ?_
   refine au 2 ?_
   refine X.cm hM (fun h_5 hM=>?_) (fun h_5 hM=>?_)
   ·refine au 3 ?_
    cases hM
    exact X.rt
   refine au 4 ?_
   cases hM
   exact X.rt
  intro hj_2
  refine au 1 ?_
  refine X.gx [some 0] (X.loop (σ:=Int) (fun v=>⟨[(1,(V.ptr 0 0 0)),(6,(V.i v))],[.rows 6 [(zD h)]],0,none,106⟩) hM ?_ rfl)
  intro i b_1 hM hc_3 hr_1
  rw [zAC] at hM
  refine au 8 ?_
  refine X.cm hM (fun h_6 hM=>?_) (fun h_6 hM=>?_)
  ·obtain ⟨x,h_7,hM⟩:=zF hM
   refine au 9 ?_
   refine X.ca (zIv x) ?_
   obtain ⟨x1,h_8,hM⟩:=Q5 hM
   obtain ⟨x2,h_9,hM⟩:=Q5 hM
   refine au 2 ?_
   refine GS.seq ?_
   refine X.mid [(101,(V.b ((!(yI x))||((decide (0<i))&&(decide (x1.Lo≤x2.Hi)))))),(1,(V.ptr 0 0 0)),(6,(V.i i))] ?_ ?_
   ·intro hg
    refine X.split (!(yI x)) (fun h_10=>?_) (fun h_10=>?_)
    ·refine au 24 ?_
     exact X.ng hg rfl (by simp only [h_10,X.bb])
    refine X.split (decide (0<i)) (fun h_11=>?_) (fun h_11=>?_)
    ·refine au 10 ?_
     refine X.cop (X.on_t rfl rfl rfl h_11) (X.Zh (f:=zI) (h_8 (X.zK (X.nt h_10) h_11)) (fun _=>rfl) rfl rfl rfl rfl) rfl rfl ?_
     refine au 1 ?_
     refine X.cop (X.on_t rfl rfl rfl h_11) (X.JA (h_8 (X.zK (X.nt h_10) h_11)) rfl rfl rfl) rfl rfl ?_
     refine au 4 ?_
     refine X.cop (X.on_t rfl rfl rfl h_11) (X.Zh (f:=zI) (h_9 (X.zK (X.nt h_10) h_11)) (fun _=>rfl) rfl rfl rfl rfl) rfl rfl ?_
     refine au 1 ?_
     refine X.cop (X.on_t rfl rfl rfl h_11) (X.JA (h_9 (X.zK (X.nt h_10) h_11)) rfl rfl rfl) rfl rfl ?_
     refine au 4 ?_
     exact X.ng hg rfl (by simp only [h_10,h_11,X.bb])
    refine au 24 ?_
    exact X.ng hg rfl (by simp only [h_10,h_11,X.bb])
   refine X.cm hM (fun h_12 hM=>?_) (fun h_12 hM=>?_)
   ·refine au 3 ?_
    have hE:=Option.some.inj hM
    replace hE:=hr_1 _ hE.symm
    subst hE
    exact X.rt
   refine au 7 ?_
   have hE:=Option.some.inj hM
   exact X.gx [some 0] (hc_3 (w64 (i+1)) hE.symm)
  obtain ⟨y_1,hM,hy⟩:=zz hM
  rw [hr_1 _ hy.symm] at hM
  refine au 1 ?_
  exact X.gx [some 0] (hj_2 () hM)
 intro hj_1
 refine au 1 ?_
 refine X.gx [some 0] (X.loop (σ:=Int) (fun v=>⟨[(1,(V.ptr 0 0 0)),(4,(V.i v))],[.rows 6 [(zD h)]],0,none,106⟩) hM ?_ rfl)
 intro i1 b_1 hM hc_4 hr_1
 rw [zAB] at hM
 refine au 8 ?_
 refine X.cm hM (fun h_13 hM=>?_) (fun h_13 hM=>?_)
 ·obtain ⟨x3,h_14,hM⟩:=zF hM
  obtain ⟨x4,h_15,hM⟩:=Q5 hM
  refine au 5 ?_
  refine X.mid [(48,(V.b ((!(ZT x3.ID 1 1099511627776))||(!(ZT x4.Depth 0 8000))))),(1,(V.ptr 0 0 0)),(4,(V.i i1))] ?_ ?_
  ·intro hg
   refine X.split (!(ZT x3.ID 1 1099511627776)) (fun h_16=>?_) (fun h_16=>?_)
   ·refine au 6 ?_
    refine X.ca (Zj x3.ID 1 1099511627776) ?_
    refine au 12 ?_
    exact X.ng hg rfl (by simp only [h_16,X.bb])
   refine au 6 ?_
   refine X.ca (Zj x3.ID 1 1099511627776) ?_
   refine au 5 ?_
   refine X.opR (X.on_f rfl rfl rfl h_16) (X.Zh (f:=zQ) (h_15 (X.nt h_16)) (fun _=>rfl) rfl rfl rfl rfl) rfl ?_
   refine au 1 ?_
   refine X.opR (X.on_f rfl rfl rfl h_16) (X.JA (h_15 (X.nt h_16)) rfl rfl rfl) rfl ?_
   refine X.ca (Zj x4.Depth 0 8000) ?_
   refine au 3 ?_
   exact X.ng hg rfl (by simp only [h_16,X.bb])
  refine X.cm hM (fun h_17 hM=>?_) (fun h_17 hM=>?_)
  ·refine au 3 ?_
   have hE:=Option.some.inj hM
   replace hE:=hr_1 _ hE.symm
   subst hE
   exact X.rt
  refine au 4 ?_
  refine X.join (τ:=Unit) (fun v=>QB i1=some b_1) (fun v=>⟨[(1,(V.ptr 0 0 0)),(4,(V.i i1))],[.rows 6 [(zD h)]],0,none,106⟩) ?_ ?_
  ·intro _ hM
   replace hM:QB i1=some b_1:=hM
   unfold QB at hM
   refine au 6 ?_
   have hE:=Option.some.inj hM
   exact X.gx [some 0] (hc_4 (w64 (i1+1)) hE.symm)
  intro hj_5
  refine au 1 ?_
  refine X.gx [some 0] (X.loop (σ:=Int) (fun v=>⟨[(1,(V.ptr 0 0 0)),(4,(V.i i1)),(5,(V.i v))],[.rows 6 [(zD h)]],0,none,106⟩) hM ?_ rfl)
  intro k b_2 hM hc_6 hr_2
  rw [zAA] at hM
  refine au 6 ?_
  refine X.cm hM (fun h_18 hM=>?_) (fun h_18 hM=>?_)
  ·obtain ⟨x5,h_19,hM⟩:=zF hM
   obtain ⟨x6,h_20,hM⟩:=zF hM
   refine au 19 ?_
   refine X.norm [(1,(V.ptr 0 0 0)),(4,(V.i i1)),(5,(V.i k)),(66,(V.b (decide (x5.ID=x6.ID))))] ?_ rfl (sr rfl)
   refine X.cm hM (fun h_21 hM=>?_) (fun h_21 hM=>?_)
   ·refine au 3 ?_
    have hE:=Option.some.inj hM
    replace hE:=hr_2 _ hE.symm
    replace hE:=hr_1 _ hE.symm
    subst hE
    exact X.rt
   refine au 7 ?_
   have hE:=Option.some.inj hM
   exact X.gx [some 0] (hc_6 (w64 (k+1)) hE.symm)
  obtain ⟨y_2,hM,hy⟩:=zz hM
  rw [hr_2 _ hy.symm] at hM
  refine au 1 ?_
  exact X.gx [some 0] (hj_5 () hM)
 obtain ⟨y_1,hM,hy⟩:=zz hM
 rw [hr_1 _ hy.symm] at hM
 refine au 1 ?_
 exact X.gx [some 0] (hj_1 () hM)
end Go.Proofs.YtmebbbblomlgdaaGreat
