/- The program's functions compute the plain ones. Conditions: none. Printed by a program (wip/tools/xg.py). -/
import Derived.Test.YtnkngglimidldaaGreatP1
set_option linter.unusedVariables false
set_option linter.unusedSimpArgs false
namespace Go.Proofs.YtnkngglimidldaaGreat
open Go Go.Am Go.Proofs Go.Mx
set_option maxHeartbeats 4000000 in
theorem zFB {cost : (List (List Int))} {places : Int} {r : (List Int) × Int} (hM : JF cost places = some r) : Ct Tryz.prog 101 [(V.sl (List.map (fun l => V.sl (List.map V.i l)) cost)), (V.i places)] (V.tup [(V.sl (List.map V.i r.1)), (V.i r.2)]) := by
 refine ze ZK rfl ?_
 unfold JF at hM
 refine X.sq (X.q rfl (X.q rfl ?_))
 refine GS.zA (GS.seq ?_)
 obtain ⟨l, h_1, hM⟩ := zH hM
 refine GS.region (X.q rfl ?_)
 refine X.opR rfl (X.lenF rfl rfl rfl) rfl ?_
 refine X.opR rfl (X.addE rfl rfl) rfl ?_
 refine X.opW rfl (X.zDc (f := V.i) h_1 rfl rfl rfl rfl rfl rfl rfl rfl) rfl rfl (X.q rfl (GS.zA (GS.seq ?_)))
 obtain ⟨l1, h_2, hM⟩ := zH hM
 refine GS.region (X.q rfl ?_)
 refine X.opR rfl (X.addE rfl rfl) rfl ?_
 refine X.opW rfl (X.zDc (f := V.i) h_2 rfl rfl rfl rfl rfl rfl rfl rfl) rfl rfl (X.q rfl (GS.zA (GS.seq ?_)))
 obtain ⟨l2, h_3, hM⟩ := zH hM
 refine GS.region (X.q rfl ?_)
 refine X.opR rfl (X.addE rfl rfl) rfl ?_
 refine X.opW rfl (X.zDc (f := V.i) h_3 rfl rfl rfl rfl rfl rfl rfl rfl) rfl rfl (X.q rfl (GS.zA (GS.seq (X.sq (X.q rfl (GS.zA ?_))))))
 refine X.join (τ := (List Int)) (fun v => j6 cost places v = some r) (fun v => ⟨[(0, (V.sl (List.map (fun l => V.sl (List.map V.i l)) cost))), (1, (V.i places)), (8, (V.osl 0 0 (List.length v)))], [.rows 1 (List.map V.i v)], 0, none, 215⟩) ?_ ?_
 ·intro l3 hM
  replace hM : j6 cost places l3 = some r := hM
  unfold j6 at hM
  refine GS.seq ?_
  obtain ⟨l4, h_4, hM⟩ := zH hM
  refine GS.region (X.q rfl ?_)
  refine X.opR rfl (X.lenF rfl rfl rfl) rfl ?_
  refine X.opW rfl (X.zDc (f := V.i) h_4 rfl rfl rfl rfl rfl rfl rfl rfl) rfl rfl (X.q rfl (X.nq (X.q rfl (GS.zA (GS.seq (X.sq (X.q rfl (GS.zA ?_))))))))
  refine X.join (τ := Int × (List Int)) (fun v => yd v.1 v.2 = some r) (fun v => ⟨[(21, (V.osl 0 0 (List.length v.2))), (22, (V.i v.1))], [.rows 1 (List.map V.i v.2)], 0, none, 215⟩) ?_ ?_
  ·rintro ⟨sum, l5⟩ hM
   replace hM : yd sum l5 = some r := hM
   unfold yd at hM
   refine X.sq ?_
   iterate 4 refine X.q rfl ?_
   refine GS.zA ?_
   have hE := Option.some.inj hM
   subst hE
   exact GS.ret ⟨_, rfl, FR.tup (.cons (FR.osl (f := V.i) (l := l5) 9 rfl rfl (fun _ => rfl)) (.cons ⟨30, rfl⟩ .nil))⟩
  intro hj_2
  refine GS.block ?_
  refine X.gc [some 0, some 1] (X.loop (σ := (Int × Int × (List Int))) (fun v => ⟨[(0, (V.sl (List.map (fun l => V.sl (List.map V.i l)) cost))), (1, (V.i places)), (8, (V.osl 0 0 (List.length l3))), (21, (V.osl 1 0 (List.length v.2.2))), (22, (V.i v.1)), (23, (V.i v.2.1))], [.rows 1 (List.map V.i l3), .rows 1 (List.map V.i v.2.2)], 0, none, 215⟩) hM ?_ rfl) rfl rfl rfl (ga rfl rfl) (zP 9 rfl rfl (fun _ => rfl) (zP 9 rfl rfl (fun _ => rfl) zL))
  rintro ⟨sum2, k, l7⟩ b_1 hM hc_3 hr_1
  rw [Jc] at hM
  refine GS.seq (X.sq (X.q rfl (X.q rfl (X.q rfl ?_))))
  refine GS.zA ?_
  refine X.cond rfl (fun h_5 => ?_) (fun h_5 => ?_)
  ·replace hM := zZ h_5 hM
   refine GS.skip (GS.seq ?_)
   refine X.join (τ := Int × (List Int)) (fun v => j5 k v.1 v.2 = some b_1) (fun v => ⟨[(0, (V.sl (List.map (fun l => V.sl (List.map V.i l)) cost))), (1, (V.i places)), (8, (V.osl 0 0 (List.length l3))), (21, (V.osl 1 0 (List.length v.2))), (22, (V.i v.1)), (23, (V.i k))], [.rows 1 (List.map V.i l3), .rows 1 (List.map V.i v.2)], 0, none, 215⟩) ?_ ?_
   ·rintro ⟨sum1, l6⟩ hM
    replace hM : j5 k sum1 l6 = some b_1 := hM
    unfold j5 at hM
    refine GS.region (X.q rfl ?_)
    refine X.opR rfl (X.addE rfl rfl) rfl (X.q rfl (GS.zA ?_))
    have hE := Option.some.inj hM
    exact X.gc [some 0, some 1] (hc_3 (sum1, w64 (k + 1), l6) hE.symm) rfl rfl rfl (ga rfl rfl) (zP 9 rfl rfl (fun _ => rfl) (zP 9 rfl rfl (fun _ => rfl) zL))
   intro hj_4
   refine GS.block (GS.seq ?_)
   obtain ⟨x, h_6, hM⟩ := zH hM
   refine GS.region (X.q rfl (X.q rfl ?_))
   refine X.opR rfl (X.Zw h_6 rfl rfl rfl rfl rfl) rfl ?_
   refine X.opR rfl (X.QQ h_6 rfl rfl rfl rfl) rfl (X.q rfl (GS.zA ?_))
   refine X.cond rfl (fun h_7 => ?_) (fun h_7 => ?_)
   ·replace hM := zZ h_7 hM
    refine GS.seq ?_
    obtain ⟨x1, h_8, hM⟩ := zH hM
    obtain ⟨x2, h_9, hM⟩ := zH hM
    refine GS.region (X.q rfl (X.q rfl (X.q rfl ?_)))
    refine X.opR rfl (X.Zw h_8 rfl rfl rfl rfl rfl) rfl ?_
    refine X.opR rfl (X.QQ h_8 rfl rfl rfl rfl) rfl ?_
    refine X.opR rfl (X.subE rfl rfl) rfl (X.q rfl ?_)
    refine X.opR rfl (X.subE rfl rfl) rfl ?_
    refine X.opR rfl (X.Zw h_9 rfl rfl rfl rfl rfl) rfl ?_
    refine X.op0W rfl (X.yK (b := w64 (k - 1)) h_9 rfl rfl rfl rfl rfl rfl rfl) rfl (GS.zA ?_)
    obtain ⟨x3, h_10, hM⟩ := zH hM
    obtain ⟨x4, h_11, hM⟩ := zH hM
    obtain ⟨x5, h_12, hM⟩ := zH hM
    refine GS.region ?_
    iterate 4 refine X.q rfl ?_
    refine X.opR rfl (X.Zw h_10 rfl rfl rfl rfl rfl) rfl ?_
    refine X.opR rfl (X.QQ h_10 rfl rfl rfl rfl) rfl ?_
    refine X.opR rfl (X.subE rfl rfl) rfl ?_
    refine X.opR rfl (X.ZC (f := (fun l => V.sl (List.map V.i l))) h_11 (fun _ => rfl) rfl rfl rfl rfl) rfl ?_
    refine X.opR rfl (X.ZS h_11 rfl rfl rfl) rfl (X.q rfl ?_)
    refine X.opR rfl (X.subE rfl rfl) rfl ?_
    refine X.opR rfl (X.ZC (f := V.i) h_12 (fun _ => rfl) rfl rfl rfl rfl) rfl ?_
    refine X.opR rfl (X.ZS h_12 rfl rfl rfl) rfl ?_
    refine X.opR rfl (X.addE rfl rfl) rfl (X.q rfl (GS.zA ?_))
    refine GS.endB ?_
    exact X.gc [some 0, some 1] (hj_4 (w64 (sum2 + x5), (put l7 (w64 (x1 - 1)) (w64 (k - 1)))) hM) rfl rfl rfl (zN rfl ⟨9, rfl⟩ (zN rfl ⟨9, rfl⟩ (zN rfl ⟨9, rfl⟩ (zN rfl (Yq X.jf ⟨9, rfl⟩) (ga rfl rfl))))) (zP 9 rfl rfl (fun _ => rfl) (zP 9 rfl rfl (fun _ => rfl) zL))
   replace hM := za h_7 hM
   refine GS.skip ?_
   refine GS.endB ?_
   exact X.gc [some 0, some 1] (hj_4 (sum2, l7) hM) rfl rfl rfl (ga rfl rfl) (zP 9 rfl rfl (fun _ => rfl) (zP 9 rfl rfl (fun _ => rfl) zL))
  replace hM := za h_5 hM
  refine GS.exit rfl ?_
  obtain ⟨y_1, hM, hy⟩ := ZN hM
  rw [hr_1 _ hy.symm] at hM
  exact X.gc [some 1] (hj_2 (sum2, l7) hM) rfl rfl rfl (ga rfl rfl) (zP 9 rfl rfl (fun _ => rfl) zL)
 intro hj_1
 refine GS.block ?_
 refine X.gc [some 0, some 1, some 2] (X.loop (σ := (Int × (List Int) × (List Int) × (List Int))) (fun v => ⟨[(0, (V.sl (List.map (fun l => V.sl (List.map V.i l)) cost))), (1, (V.i places)), (6, (V.osl 0 0 (List.length v.2.1))), (7, (V.osl 1 0 (List.length v.2.2.1))), (8, (V.osl 2 0 (List.length v.2.2.2))), (9, (V.i v.1))], [.rows 1 (List.map V.i v.2.1), .rows 1 (List.map V.i v.2.2.1), .rows 1 (List.map V.i v.2.2.2)], 0, none, 215⟩) hM ?_ rfl) rfl rfl rfl (ga rfl rfl) (zP 9 rfl rfl (fun _ => rfl) (zP 9 rfl rfl (fun _ => rfl) (zP 9 rfl rfl (fun _ => rfl) zL)))
 rintro ⟨i, l40, l41, l42⟩ b_1 hM hc_5 hr_1
 rw [yf] at hM
 refine GS.seq (X.sq (X.q rfl (X.q rfl ?_)))
 refine X.opR rfl (X.lenF rfl rfl rfl) rfl (X.q rfl (GS.zA ?_))
 refine X.cond rfl (fun h_13 => ?_) (fun h_13 => ?_)
 ·replace hM := zZ h_13 hM
  refine GS.skip (GS.seq (GS.block ?_))
  refine GS.scope (GS.seq ?_)
  obtain ⟨x6, h_14, hM⟩ := zH hM
  refine GS.region (X.q rfl (X.q rfl ?_))
  refine X.opR rfl (X.Zw h_14 rfl rfl rfl rfl rfl) rfl ?_
  refine X.op0W rfl (X.yK (b := i) h_14 rfl rfl rfl rfl rfl rfl rfl) rfl (X.nq (X.q rfl (GS.zA (GS.seq ?_))))
  obtain ⟨l8, h_15, hM⟩ := zH hM
  refine GS.region (X.q rfl ?_)
  refine X.opR rfl (X.addE rfl rfl) rfl ?_
  refine X.opW (H' := [.rows 1 (List.map V.i l40), .rows 1 (List.map V.i l41), .rows 1 (List.map V.i (put l42 0 i)), .rows 1 (List.map V.i l8)]) rfl (X.zDc (f := V.i) h_15 rfl rfl rfl rfl rfl rfl rfl rfl) rfl rfl (X.q rfl (GS.zA (GS.seq ?_)))
  obtain ⟨l9, h_16, hM⟩ := zH hM
  refine GS.region (X.q rfl ?_)
  refine X.opR rfl (X.addE rfl rfl) rfl ?_
  refine X.opW (H' := [.rows 1 (List.map V.i l40), .rows 1 (List.map V.i l41), .rows 1 (List.map V.i (put l42 0 i)), .rows 1 (List.map V.i l8), .rows 1 (List.map V.i l9)]) rfl (X.zDc (f := V.i) h_16 rfl rfl rfl rfl rfl rfl rfl rfl) rfl rfl (X.q rfl (GS.zA (GS.seq ?_)))
  obtain ⟨l10, h_17, hM⟩ := zH hM
  refine GS.region (X.q rfl ?_)
  refine X.opR rfl (X.addE rfl rfl) rfl ?_
  refine X.opW (H' := [.rows 1 (List.map V.i l40), .rows 1 (List.map V.i l41), .rows 1 (List.map V.i (put l42 0 i)), .rows 1 (List.map V.i l8), .rows 1 (List.map V.i l9), .rows 1 (List.map V.b l10)]) rfl (X.zDc (f := V.b) h_17 rfl rfl rfl rfl rfl rfl rfl rfl) rfl rfl (X.q rfl (GS.zA (GS.seq (X.sq (X.q rfl ?_)))))
  refine X.opR rfl (X.lenO (l := l8) rfl rfl rfl) rfl (X.q rfl (GS.zA ?_))
  refine X.join (τ := (List Int)) (fun v => Jb cost places i l40 l41 l42 l9 l10 v = some b_1) (fun v => ⟨[(0, (V.sl (List.map (fun l => V.sl (List.map V.i l)) cost))), (1, (V.i places)), (6, (V.osl 0 0 (List.length l40))), (7, (V.osl 1 0 (List.length l41))), (8, (V.osl 2 0 (List.length (put l42 0 i)))), (9, (V.i i)), (10, (V.i 0)), (11, (V.osl 3 0 (List.length v))), (12, (V.osl 4 0 (List.length l9))), (13, (V.osl 5 0 (List.length l10)))], [.rows 1 (List.map V.i l40), .rows 1 (List.map V.i l41), .rows 1 (List.map V.i (put l42 0 i)), .rows 1 (List.map V.i v), .rows 1 (List.map V.i l9), .rows 1 (List.map V.b l10)], 0, none, 215⟩) ?_ ?_
  ·intro l11 hM
   replace hM : Jb cost places i l40 l41 l42 l9 l10 l11 = some b_1 := hM
   unfold Jb at hM
   refine GS.seq ?_
   refine GS.label (GS.seq ?_)
   refine X.join (τ := Int × (List Int) × (List Int) × (List Int)) (fun v => yc i l42 v.1 v.2.1 v.2.2.1 v.2.2.2 = some b_1) (fun v => ⟨[(0, (V.sl (List.map (fun l => V.sl (List.map V.i l)) cost))), (1, (V.i places)), (6, (V.osl 0 0 (List.length v.2.1))), (7, (V.osl 1 0 (List.length v.2.2.1))), (8, (V.osl 2 0 (List.length (put l42 0 i)))), (9, (V.i i)), (10, (V.i v.1)), (12, (V.osl 3 0 (List.length v.2.2.2)))], [.rows 1 (List.map V.i v.2.1), .rows 1 (List.map V.i v.2.2.1), .rows 1 (List.map V.i (put l42 0 i)), .rows 1 (List.map V.i v.2.2.2)], 0, none, 215⟩) ?_ ?_
   ·rintro ⟨at_, l12, l13, l14⟩ hM
    replace hM : yc i l42 at_ l12 l13 l14 = some b_1 := hM
    unfold yc at hM
    refine X.join (τ := (List Int)) (fun v => yb i l12 l13 v = some b_1) (fun v => ⟨[(0, (V.sl (List.map (fun l => V.sl (List.map V.i l)) cost))), (1, (V.i places)), (6, (V.osl 0 0 (List.length l12))), (7, (V.osl 1 0 (List.length l13))), (8, (V.osl 2 0 (List.length v))), (9, (V.i i))], [.rows 1 (List.map V.i l12), .rows 1 (List.map V.i l13), .rows 1 (List.map V.i v)], 0, none, 215⟩) ?_ ?_
    ·intro l15 hM
     replace hM : yb i l12 l13 l15 = some b_1 := hM
     unfold yb at hM
     refine GS.endB (GS.region (X.q rfl ?_))
     refine X.opR rfl (X.addE rfl rfl) rfl (X.q rfl (GS.zA ?_))
     have hE := Option.some.inj hM
     exact X.gc [some 0, some 1, some 2] (hc_5 (w64 (i + 1), l12, l13, l15) hE.symm) rfl rfl rfl (ga rfl rfl) (zP 9 rfl rfl (fun _ => rfl) (zP 9 rfl rfl (fun _ => rfl) (zP 9 rfl rfl (fun _ => rfl) zL)))
    intro hj_8
    refine GS.block ?_
    refine X.gc [some 0, some 1, some 2, some 3] (X.loop (σ := (Int × (List Int))) (fun v => ⟨[(0, (V.sl (List.map (fun l => V.sl (List.map V.i l)) cost))), (1, (V.i places)), (6, (V.osl 0 0 (List.length l12))), (7, (V.osl 1 0 (List.length l13))), (8, (V.osl 2 0 (List.length v.2))), (9, (V.i i)), (10, (V.i v.1)), (12, (V.osl 3 0 (List.length l14)))], [.rows 1 (List.map V.i l12), .rows 1 (List.map V.i l13), .rows 1 (List.map V.i v.2), .rows 1 (List.map V.i l14)], 0, none, 215⟩) hM ?_ rfl) rfl rfl rfl (ga rfl rfl) (zP 9 rfl rfl (fun _ => rfl) (zP 9 rfl rfl (fun _ => rfl) (zP 9 rfl rfl (fun _ => rfl) (zP 9 rfl rfl (fun _ => rfl) zL))))
    rintro ⟨at_1, l16⟩ b_2 hM hc_9 hr_2
    rw [ye] at hM
    refine GS.seq (X.sq (X.q rfl (X.q rfl ?_)))
    refine GS.zA ?_
    refine X.cond rfl (fun h_18 => ?_) (fun h_18 => ?_)
    ·replace hM := zZ h_18 hM
     refine GS.skip (GS.block (GS.seq ?_))
     obtain ⟨x7, h_19, hM⟩ := zH hM
     obtain ⟨x8, h_20, hM⟩ := zH hM
     obtain ⟨x9, h_21, hM⟩ := zH hM
     refine GS.region ?_
     iterate 5 refine X.q rfl ?_
     refine X.opR rfl (X.Zw h_19 rfl rfl rfl rfl rfl) rfl ?_
     refine X.opR rfl (X.QQ h_19 rfl rfl rfl rfl) rfl ?_
     refine X.opR rfl (X.Zw h_20 rfl rfl rfl rfl rfl) rfl ?_
     refine X.opR rfl (X.QQ h_20 rfl rfl rfl rfl) rfl ?_
     refine X.opR rfl (X.Zw h_21 rfl rfl rfl rfl rfl) rfl ?_
     refine X.op0W (H' := [.rows 1 (List.map V.i l12), .rows 1 (List.map V.i l13), .rows 1 (List.map V.i (put l16 at_1 x8)), .rows 1 (List.map V.i l14)]) rfl (X.yK (b := x8) h_21 rfl rfl rfl rfl rfl rfl rfl) rfl (GS.zA ?_)
     obtain ⟨x10, h_22, hM⟩ := zH hM
     refine GS.region (X.q rfl (X.q rfl ?_))
     refine X.opR rfl (X.Zw h_22 rfl rfl rfl rfl rfl) rfl ?_
     refine X.opR rfl (X.QQ h_22 rfl rfl rfl rfl) rfl (X.q rfl (GS.zA ?_))
     refine GS.endB ?_
     have hE := Option.some.inj hM
     exact X.gc [some 0, some 1, some 2, some 3] (hc_9 (x10, (put l16 at_1 x8)) hE.symm) rfl rfl rfl (zN rfl ⟨9, rfl⟩ (zN rfl ⟨9, rfl⟩ (zN rfl ⟨9, rfl⟩ (zN rfl ⟨9, rfl⟩ (zN rfl (Yq X.jf ⟨9, rfl⟩) (ga rfl rfl)))))) (zP 9 rfl rfl (fun _ => rfl) (zP 9 rfl rfl (fun _ => rfl) (zP 9 rfl rfl (fun _ => rfl) (zP 9 rfl rfl (fun _ => rfl) zL))))
    replace hM := za h_18 hM
    refine GS.exit rfl ?_
    obtain ⟨y_2, hM, hy⟩ := ZN hM
    rw [hr_2 _ hy.symm] at hM
    exact X.gc [some 0, some 1, some 2] (hj_8 l16 hM) rfl rfl rfl (ga rfl rfl) (zP 9 rfl rfl (fun _ => rfl) (zP 9 rfl rfl (fun _ => rfl) (zP 9 rfl rfl (fun _ => rfl) zL)))
   intro hj_7
   refine GS.block ?_
   refine X.gc [some 0, some 1, some 2, some 3, some 4, some 5] (X.loop (σ := (Int × (List Int) × (List Int) × (List Int) × (List Int) × (List Bool))) (fun v => ⟨[(0, (V.sl (List.map (fun l => V.sl (List.map V.i l)) cost))), (1, (V.i places)), (6, (V.osl 0 0 (List.length v.2.1))), (7, (V.osl 1 0 (List.length v.2.2.1))), (8, (V.osl 2 0 (List.length (put l42 0 i)))), (9, (V.i i)), (10, (V.i v.1)), (11, (V.osl 3 0 (List.length v.2.2.2.1))), (12, (V.osl 4 0 (List.length v.2.2.2.2.1))), (13, (V.osl 5 0 (List.length v.2.2.2.2.2)))], [.rows 1 (List.map V.i v.2.1), .rows 1 (List.map V.i v.2.2.1), .rows 1 (List.map V.i (put l42 0 i)), .rows 1 (List.map V.i v.2.2.2.1), .rows 1 (List.map V.i v.2.2.2.2.1), .rows 1 (List.map V.b v.2.2.2.2.2)], 0, none, 215⟩) hM ?_ rfl) rfl rfl rfl (ga rfl rfl) (zP 9 rfl rfl (fun _ => rfl) (zP 9 rfl rfl (fun _ => rfl) (zP 9 rfl rfl (fun _ => rfl) (zP 9 rfl rfl (fun _ => rfl) (zP 9 rfl rfl (fun _ => rfl) (zP 9 rfl rfl (fun _ => rfl) zL))))))
   rintro ⟨at_2, l34, l35, l36, l37, l38⟩ b_2 hM hc_10 hr_2
   rw [yB] at hM
   refine GS.block (GS.seq ?_)
   obtain ⟨x11, h_23, hM⟩ := zH hM
   refine GS.region (X.q rfl (X.q rfl ?_))
   refine X.opR rfl (X.Zw h_23 rfl rfl rfl rfl rfl) rfl ?_
   refine X.op0W (H' := [.rows 1 (List.map V.i l34), .rows 1 (List.map V.i l35), .rows 1 (List.map V.i (put l42 0 i)), .rows 1 (List.map V.i l36), .rows 1 (List.map V.i l37), .rows 1 (List.map V.b (put l38 at_2 true))]) rfl (X.yK (b := true) h_23 rfl rfl rfl rfl rfl rfl rfl) rfl (GS.zA (GS.seq ?_))
   obtain ⟨x12, h_24, hM⟩ := zH hM
   refine GS.region (X.q rfl (X.q rfl ?_))
   refine X.opR rfl (X.Zw h_24 rfl rfl rfl rfl rfl) rfl ?_
   refine X.opR rfl (X.QQ h_24 rfl rfl rfl rfl) rfl (X.q rfl (X.q rfl (X.q rfl ?_)))
   refine GS.zA (GS.seq (X.sq (X.q rfl (GS.zA ?_))))
   refine X.join (τ := Int × Int × (List Int) × (List Int)) (fun v => jm i l42 at_2 l34 l35 l38 v.1 v.2.1 v.2.2.1 v.2.2.2 = some b_2) (fun v => ⟨[(0, (V.sl (List.map (fun l => V.sl (List.map V.i l)) cost))), (1, (V.i places)), (6, (V.osl 0 0 (List.length l34))), (7, (V.osl 1 0 (List.length l35))), (8, (V.osl 2 0 (List.length (put l42 0 i)))), (9, (V.i i)), (11, (V.osl 3 0 (List.length v.2.2.1))), (12, (V.osl 4 0 (List.length v.2.2.2))), (13, (V.osl 5 0 (List.length (put l38 at_2 true)))), (16, (V.i v.1)), (17, (V.i v.2.1))], [.rows 1 (List.map V.i l34), .rows 1 (List.map V.i l35), .rows 1 (List.map V.i (put l42 0 i)), .rows 1 (List.map V.i v.2.2.1), .rows 1 (List.map V.i v.2.2.2), .rows 1 (List.map V.b (put l38 at_2 true))], 0, none, 215⟩) ?_ ?_
   ·rintro ⟨next, step, l17, l18⟩ hM
    replace hM : jm i l42 at_2 l34 l35 l38 next step l17 l18 = some b_2 := hM
    unfold jm at hM
    refine GS.seq (X.sq (X.q rfl ?_))
    refine X.opR rfl (X.lenO (l := (put l38 at_2 true)) rfl rfl rfl) rfl (X.q rfl (GS.zA ?_))
    refine X.join (τ := (List Int) × (List Int) × (List Int)) (fun v => jR i l42 at_2 l38 next l18 v.1 v.2.1 v.2.2 = some b_2) (fun v => ⟨[(0, (V.sl (List.map (fun l => V.sl (List.map V.i l)) cost))), (1, (V.i places)), (6, (V.osl 0 0 (List.length v.1))), (7, (V.osl 1 0 (List.length v.2.1))), (8, (V.osl 2 0 (List.length (put l42 0 i)))), (9, (V.i i)), (11, (V.osl 3 0 (List.length v.2.2))), (12, (V.osl 4 0 (List.length l18))), (13, (V.osl 5 0 (List.length (put l38 at_2 true)))), (16, (V.i next))], [.rows 1 (List.map V.i v.1), .rows 1 (List.map V.i v.2.1), .rows 1 (List.map V.i (put l42 0 i)), .rows 1 (List.map V.i v.2.2), .rows 1 (List.map V.i l18), .rows 1 (List.map V.b (put l38 at_2 true))], 0, none, 215⟩) ?_ ?_
    ·rintro ⟨l19, l20, l21⟩ hM
     replace hM : jR i l42 at_2 l38 next l18 l19 l20 l21 = some b_2 := hM
     unfold jR at hM
     refine X.sq (X.q rfl (X.q rfl ?_))
     refine GS.zA (GS.seq ?_)
     obtain ⟨x13, h_25, hM⟩ := zH hM
     refine GS.region (X.q rfl (X.q rfl ?_))
     refine X.opR rfl (X.Zw h_25 rfl rfl rfl rfl rfl) rfl ?_
     refine X.opR rfl (X.QQ h_25 rfl rfl rfl rfl) rfl (X.q rfl (GS.zA ?_))
     refine X.cond rfl (fun h_26 => ?_) (fun h_26 => ?_)
     ·replace hM := zZ h_26 hM
      refine GS.exit rfl ?_
      obtain ⟨y_2, hM, hy⟩ := ZN hM
      rw [hr_2 _ hy.symm] at hM
      exact X.gc [some 0, some 1, some 2, some 4] (hj_7 (next, l19, l20, l18) hM) rfl rfl rfl (ga rfl rfl) (zP 9 rfl rfl (fun _ => rfl) (zP 9 rfl rfl (fun _ => rfl) (zP 9 rfl rfl (fun _ => rfl) (zP 9 rfl rfl (fun _ => rfl) zL))))
     replace hM := za h_26 hM
     refine GS.skip ?_
     refine GS.endB ?_
     have hE := Option.some.inj hM
     exact X.gc [some 0, some 1, some 2, some 3, some 4, some 5] (hc_10 (next, l19, l20, l21, l18, (put l38 at_2 true)) hE.symm) rfl rfl rfl (ga rfl rfl) (zP 9 rfl rfl (fun _ => rfl) (zP 9 rfl rfl (fun _ => rfl) (zP 9 rfl rfl (fun _ => rfl) (zP 9 rfl rfl (fun _ => rfl) (zP 9 rfl rfl (fun _ => rfl) (zP 9 rfl rfl (fun _ => rfl) zL))))))
    intro hj_12
    refine GS.block ?_
    refine X.gc [some 0, some 1, some 2, some 3, some 4, some 5] (X.loop (σ := (Int × (List Int) × (List Int) × (List Int))) (fun v => ⟨[(0, (V.sl (List.map (fun l => V.sl (List.map V.i l)) cost))), (1, (V.i places)), (6, (V.osl 0 0 (List.length v.2.1))), (7, (V.osl 1 0 (List.length v.2.2.1))), (8, (V.osl 2 0 (List.length (put l42 0 i)))), (9, (V.i i)), (11, (V.osl 3 0 (List.length v.2.2.2))), (12, (V.osl 4 0 (List.length l18))), (13, (V.osl 5 0 (List.length (put l38 at_2 true)))), (16, (V.i next)), (17, (V.i step)), (122, (V.i ((put l38 at_2 true).length : Int))), (123, (V.i v.1))], [.rows 1 (List.map V.i v.2.1), .rows 1 (List.map V.i v.2.2.1), .rows 1 (List.map V.i (put l42 0 i)), .rows 1 (List.map V.i v.2.2.2), .rows 1 (List.map V.i l18), .rows 1 (List.map V.b (put l38 at_2 true))], 0, none, 215⟩) hM ?_ rfl) rfl rfl rfl (ga rfl rfl) (zP 9 rfl rfl (fun _ => rfl) (zP 9 rfl rfl (fun _ => rfl) (zP 9 rfl rfl (fun _ => rfl) (zP 9 rfl rfl (fun _ => rfl) (zP 9 rfl rfl (fun _ => rfl) (zP 9 rfl rfl (fun _ => rfl) zL))))))
    rintro ⟨x22, l25, l26, l27⟩ b_3 hM hc_13 hr_3
    rw [JL] at hM
    refine X.sq (X.q rfl (GS.zA (GS.seq ?_)))
    refine X.cond rfl (fun h_27 => ?_) (fun h_27 => ?_)
    ·replace hM := zZ h_27 hM
     refine GS.skip (GS.seq ?_)
     refine X.join (τ := (List Int) × (List Int) × (List Int)) (fun v => jk x22 v.1 v.2.1 v.2.2 = some b_3) (fun v => ⟨[(0, (V.sl (List.map (fun l => V.sl (List.map V.i l)) cost))), (1, (V.i places)), (6, (V.osl 0 0 (List.length v.1))), (7, (V.osl 1 0 (List.length v.2.1))), (8, (V.osl 2 0 (List.length (put l42 0 i)))), (9, (V.i i)), (11, (V.osl 3 0 (List.length v.2.2))), (12, (V.osl 4 0 (List.length l18))), (13, (V.osl 5 0 (List.length (put l38 at_2 true)))), (16, (V.i next)), (17, (V.i step)), (122, (V.i ((put l38 at_2 true).length : Int))), (123, (V.i x22))], [.rows 1 (List.map V.i v.1), .rows 1 (List.map V.i v.2.1), .rows 1 (List.map V.i (put l42 0 i)), .rows 1 (List.map V.i v.2.2), .rows 1 (List.map V.i l18), .rows 1 (List.map V.b (put l38 at_2 true))], 0, none, 215⟩) ?_ ?_
     ·rintro ⟨l22, l23, l24⟩ hM
      replace hM : jk x22 l22 l23 l24 = some b_3 := hM
      unfold jk at hM
      refine GS.region ?_
      refine X.opR rfl (X.addE rfl rfl) rfl (X.q rfl (GS.zA ?_))
      have hE := Option.some.inj hM
      exact X.gc [some 0, some 1, some 2, some 3, some 4, some 5] (hc_13 (w64 (x22 + 1), l22, l23, l24) hE.symm) rfl rfl rfl (ga rfl rfl) (zP 9 rfl rfl (fun _ => rfl) (zP 9 rfl rfl (fun _ => rfl) (zP 9 rfl rfl (fun _ => rfl) (zP 9 rfl rfl (fun _ => rfl) (zP 9 rfl rfl (fun _ => rfl) (zP 9 rfl rfl (fun _ => rfl) zL))))))
     intro hj_14
     refine GS.block (X.sq (X.q rfl (X.q rfl ?_)))
     refine GS.zA (GS.seq ?_)
     obtain ⟨x14, h_28, hM⟩ := zH hM
     refine GS.region (X.q rfl (X.q rfl ?_))
     refine X.opR rfl (X.Zw h_28 rfl rfl rfl rfl rfl) rfl ?_
     refine X.opR rfl (X.QQ h_28 rfl rfl rfl rfl) rfl (GS.zA ?_)
     refine X.cond rfl (fun h_29 => ?_) (fun h_29 => ?_)
     ·replace hM := zZ h_29 hM
      refine GS.seq ?_
      obtain ⟨x15, h_30, hM⟩ := zH hM
      obtain ⟨x16, h_31, hM⟩ := zH hM
      obtain ⟨x17, h_32, hM⟩ := zH hM
      refine GS.region (X.q rfl (X.q rfl (X.q rfl ?_)))
      refine X.opR rfl (X.Zw h_30 rfl rfl rfl rfl rfl) rfl ?_
      refine X.opR rfl (X.QQ h_30 rfl rfl rfl rfl) rfl ?_
      refine X.opR rfl (X.Zw h_31 rfl rfl rfl rfl rfl) rfl ?_
      refine X.opR rfl (X.QQ h_31 rfl rfl rfl rfl) rfl (X.q rfl ?_)
      refine X.opR rfl (X.addE rfl rfl) rfl ?_
      refine X.opR rfl (X.Zw h_32 rfl rfl rfl rfl rfl) rfl ?_
      refine X.op0W (H' := [.rows 1 (List.map V.i (put l25 x15 (w64 (x16 + step)))), .rows 1 (List.map V.i l26), .rows 1 (List.map V.i (put l42 0 i)), .rows 1 (List.map V.i l27), .rows 1 (List.map V.i l18), .rows 1 (List.map V.b (put l38 at_2 true))]) rfl (X.yK (b := w64 (x16 + step)) h_32 rfl rfl rfl rfl rfl rfl rfl) rfl (GS.zA ?_)
      obtain ⟨x18, h_33, hM⟩ := zH hM
      obtain ⟨x19, h_34, hM⟩ := zH hM
      refine GS.region (X.q rfl (X.q rfl ?_))
      refine X.opR rfl (X.Zw h_33 rfl rfl rfl rfl rfl) rfl ?_
      refine X.opR rfl (X.QQ h_33 rfl rfl rfl rfl) rfl (X.q rfl ?_)
      refine X.opR rfl (X.subE rfl rfl) rfl ?_
      refine X.opR rfl (X.Zw h_34 rfl rfl rfl rfl rfl) rfl ?_
      refine X.op0W (H' := [.rows 1 (List.map V.i (put l25 x15 (w64 (x16 + step)))), .rows 1 (List.map V.i (put l26 x22 (w64 (x18 - step)))), .rows 1 (List.map V.i (put l42 0 i)), .rows 1 (List.map V.i l27), .rows 1 (List.map V.i l18), .rows 1 (List.map V.b (put l38 at_2 true))]) rfl (X.yK (b := w64 (x18 - step)) h_34 rfl rfl rfl rfl rfl rfl rfl) rfl (GS.zA ?_)
      refine GS.endB ?_
      exact X.gc [some 0, some 1, some 2, some 3, some 4, some 5] (hj_14 ((put l25 x15 (w64 (x16 + step))), (put l26 x22 (w64 (x18 - step))), l27) hM) rfl rfl rfl (zN rfl ⟨9, rfl⟩ (zN rfl ⟨9, rfl⟩ (zN rfl (Yq X.jf ⟨9, rfl⟩) (zN rfl (Yq X.jf ⟨9, rfl⟩) (ga rfl rfl))))) (zP 9 rfl rfl (fun _ => rfl) (zP 9 rfl rfl (fun _ => rfl) (zP 9 rfl rfl (fun _ => rfl) (zP 9 rfl rfl (fun _ => rfl) (zP 9 rfl rfl (fun _ => rfl) (zP 9 rfl rfl (fun _ => rfl) zL))))))
     replace hM := za h_29 hM
     obtain ⟨x20, h_35, hM⟩ := zH hM
     obtain ⟨x21, h_36, hM⟩ := zH hM
     refine GS.region (X.q rfl (X.q rfl ?_))
     refine X.opR rfl (X.Zw h_35 rfl rfl rfl rfl rfl) rfl ?_
     refine X.opR rfl (X.QQ h_35 rfl rfl rfl rfl) rfl (X.q rfl ?_)
     refine X.opR rfl (X.subE rfl rfl) rfl ?_
     refine X.opR rfl (X.Zw h_36 rfl rfl rfl rfl rfl) rfl ?_
     refine X.op0W (H' := [.rows 1 (List.map V.i l25), .rows 1 (List.map V.i l26), .rows 1 (List.map V.i (put l42 0 i)), .rows 1 (List.map V.i (put l27 x22 (w64 (x20 - step)))), .rows 1 (List.map V.i l18), .rows 1 (List.map V.b (put l38 at_2 true))]) rfl (X.yK (b := w64 (x20 - step)) h_36 rfl rfl rfl rfl rfl rfl rfl) rfl (GS.zA ?_)
     refine GS.endB ?_
     exact X.gc [some 0, some 1, some 2, some 3, some 4, some 5] (hj_14 (l25, l26, (put l27 x22 (w64 (x20 - step)))) hM) rfl rfl rfl (zN rfl ⟨9, rfl⟩ (zN rfl ⟨9, rfl⟩ (zN rfl ⟨9, rfl⟩ (zN rfl ⟨9, rfl⟩ (zN rfl ⟨9, rfl⟩ (zN rfl ⟨9, rfl⟩ (zN rfl (Yq X.jf ⟨9, rfl⟩) (ga rfl rfl)))))))) (zP 9 rfl rfl (fun _ => rfl) (zP 9 rfl rfl (fun _ => rfl) (zP 9 rfl rfl (fun _ => rfl) (zP 9 rfl rfl (fun _ => rfl) (zP 9 rfl rfl (fun _ => rfl) (zP 9 rfl rfl (fun _ => rfl) zL))))))
    replace hM := za h_27 hM
    refine GS.exit rfl ?_
    obtain ⟨y_3, hM, hy⟩ := ZN hM
    rw [hr_3 _ hy.symm] at hM
    exact X.gc [some 0, some 1, some 2, some 3, some 4, some 5] (hj_12 (l25, l26, l27) hM) rfl rfl rfl (ga rfl rfl) (zP 9 rfl rfl (fun _ => rfl) (zP 9 rfl rfl (fun _ => rfl) (zP 9 rfl rfl (fun _ => rfl) (zP 9 rfl rfl (fun _ => rfl) (zP 9 rfl rfl (fun _ => rfl) (zP 9 rfl rfl (fun _ => rfl) zL))))))
   intro hj_11
   refine GS.block ?_
   refine X.gc [some 0, some 1, some 2, some 3, some 4, some 5] (X.loop (σ := (Int × Int × Int × (List Int) × (List Int))) (fun v => ⟨[(0, (V.sl (List.map (fun l => V.sl (List.map V.i l)) cost))), (1, (V.i places)), (6, (V.osl 0 0 (List.length l34))), (7, (V.osl 1 0 (List.length l35))), (8, (V.osl 2 0 (List.length (put l42 0 i)))), (9, (V.i i)), (10, (V.i at_2)), (11, (V.osl 3 0 (List.length v.2.2.2.1))), (12, (V.osl 4 0 (List.length v.2.2.2.2))), (13, (V.osl 5 0 (List.length (put l38 at_2 true)))), (15, (V.i x12)), (16, (V.i v.1)), (17, (V.i v.2.1)), (18, (V.i v.2.2.1))], [.rows 1 (List.map V.i l34), .rows 1 (List.map V.i l35), .rows 1 (List.map V.i (put l42 0 i)), .rows 1 (List.map V.i v.2.2.2.1), .rows 1 (List.map V.i v.2.2.2.2), .rows 1 (List.map V.b (put l38 at_2 true))], 0, none, 215⟩) hM ?_ rfl) rfl rfl rfl (zN rfl ⟨9, rfl⟩ (zN rfl ⟨9, rfl⟩ (zN rfl ⟨9, rfl⟩ (zN rfl ⟨9, rfl⟩ (zN rfl ⟨9, rfl⟩ (zN rfl ⟨9, rfl⟩ (zN rfl ⟨9, rfl⟩ (zN rfl ⟨9, rfl⟩ (zN rfl ⟨9, rfl⟩ (zN rfl (Yq X.jf ⟨9, rfl⟩) (ga rfl rfl))))))))))) (zP 9 rfl rfl (fun _ => rfl) (zP 9 rfl rfl (fun _ => rfl) (zP 9 rfl rfl (fun _ => rfl) (zP 9 rfl rfl (fun _ => rfl) (zP 9 rfl rfl (fun _ => rfl) (zP 9 rfl rfl (fun _ => rfl) zL))))))
   rintro ⟨next2, step2, k1, l32, l33⟩ b_3 hM hc_15 hr_3
   rw [JK] at hM
   refine GS.seq (X.sq (X.q rfl (X.q rfl (X.q rfl ?_))))
   refine GS.zA ?_
   refine X.cond rfl (fun h_37 => ?_) (fun h_37 => ?_)
   ·replace hM := zZ h_37 hM
    refine GS.skip (GS.seq ?_)
    refine X.join (τ := Int × Int × (List Int) × (List Int)) (fun v => jQ k1 v.1 v.2.1 v.2.2.1 v.2.2.2 = some b_3) (fun v => ⟨[(0, (V.sl (List.map (fun l => V.sl (List.map V.i l)) cost))), (1, (V.i places)), (6, (V.osl 0 0 (List.length l34))), (7, (V.osl 1 0 (List.length l35))), (8, (V.osl 2 0 (List.length (put l42 0 i)))), (9, (V.i i)), (10, (V.i at_2)), (11, (V.osl 3 0 (List.length v.2.2.1))), (12, (V.osl 4 0 (List.length v.2.2.2))), (13, (V.osl 5 0 (List.length (put l38 at_2 true)))), (15, (V.i x12)), (16, (V.i v.1)), (17, (V.i v.2.1)), (18, (V.i k1))], [.rows 1 (List.map V.i l34), .rows 1 (List.map V.i l35), .rows 1 (List.map V.i (put l42 0 i)), .rows 1 (List.map V.i v.2.2.1), .rows 1 (List.map V.i v.2.2.2), .rows 1 (List.map V.b (put l38 at_2 true))], 0, none, 215⟩) ?_ ?_
    ·rintro ⟨next1, step1, l28, l29⟩ hM
     replace hM : jQ k1 next1 step1 l28 l29 = some b_3 := hM
     unfold jQ at hM
     refine GS.region (X.q rfl ?_)
     refine X.opR rfl (X.addE rfl rfl) rfl (X.q rfl (GS.zA ?_))
     have hE := Option.some.inj hM
     exact X.gc [some 0, some 1, some 2, some 3, some 4, some 5] (hc_15 (next1, step1, w64 (k1 + 1), l28, l29) hE.symm) rfl rfl rfl (ga rfl rfl) (zP 9 rfl rfl (fun _ => rfl) (zP 9 rfl rfl (fun _ => rfl) (zP 9 rfl rfl (fun _ => rfl) (zP 9 rfl rfl (fun _ => rfl) (zP 9 rfl rfl (fun _ => rfl) (zP 9 rfl rfl (fun _ => rfl) zL))))))
    intro hj_16
    refine GS.block ?_
    iterate 2 refine GS.seq ?_
    obtain ⟨x23, h_38, hM⟩ := zH hM
    refine GS.region (X.q rfl (X.q rfl ?_))
    refine X.opR rfl (X.Zw h_38 rfl rfl rfl rfl rfl) rfl ?_
    refine X.opR rfl (X.QQ h_38 rfl rfl rfl rfl) rfl (GS.zA ?_)
    refine X.cond rfl (fun h_39 => ?_) (fun h_39 => ?_)
    ·replace hM := zZ h_39 hM
     refine GS.exit rfl ?_
     exact X.gc [some 0, some 1, some 2, some 3, some 4, some 5] (hj_16 (next2, step2, l32, l33) hM) rfl rfl rfl (ga rfl rfl) (zP 9 rfl rfl (fun _ => rfl) (zP 9 rfl rfl (fun _ => rfl) (zP 9 rfl rfl (fun _ => rfl) (zP 9 rfl rfl (fun _ => rfl) (zP 9 rfl rfl (fun _ => rfl) (zP 9 rfl rfl (fun _ => rfl) zL))))))
    replace hM := za h_39 hM
    refine GS.skip ?_
    iterate 2 refine GS.seq ?_
    obtain ⟨x24, h_40, hM⟩ := zH hM
    obtain ⟨x25, h_41, hM⟩ := zH hM
    obtain ⟨x26, h_42, hM⟩ := zH hM
    obtain ⟨x27, h_43, hM⟩ := zH hM
    refine X.drawc (by kernel_rfl) rfl ?_
    iterate 2 refine X.cop rfl rfl rfl rfl ?_
    refine X.cop rfl (X.subE rfl rfl) rfl rfl ?_
    refine X.cop rfl (X.ZC (f := (fun l => V.sl (List.map V.i l))) h_40 (fun _ => rfl) rfl rfl rfl rfl) rfl rfl ?_
    refine X.cop rfl (X.ZS h_40 rfl rfl rfl) rfl rfl ?_
    refine X.cop rfl rfl rfl rfl ?_
    refine X.cop rfl (X.subE rfl rfl) rfl rfl ?_
    refine X.cop rfl (X.ZC (f := V.i) h_41 (fun _ => rfl) rfl rfl rfl rfl) rfl rfl ?_
    refine X.cop rfl (X.ZS h_41 rfl rfl rfl) rfl rfl ?_
    iterate 2 refine X.cop rfl rfl rfl rfl ?_
    refine X.cop rfl (X.Zw h_42 rfl rfl rfl rfl rfl) rfl rfl ?_
    refine X.cop rfl (X.QQ h_42 rfl rfl rfl rfl) rfl rfl ?_
    refine X.cop rfl (X.subE rfl rfl) rfl rfl ?_
    iterate 2 refine X.cop rfl rfl rfl rfl ?_
    refine X.cop rfl (X.Zw h_43 rfl rfl rfl rfl rfl) rfl rfl ?_
    refine X.cop rfl (X.QQ h_43 rfl rfl rfl rfl) rfl rfl ?_
    refine X.cop rfl (X.subE rfl rfl) rfl rfl ?_
    refine X.cop rfl rfl rfl rfl ?_
    refine X.cnil ?_
    refine X.norm [(0, (V.sl (List.map (fun l => V.sl (List.map V.i l)) cost))), (1, (V.i places)), (6, (V.osl 0 0 (List.length l34))), (7, (V.osl 1 0 (List.length l35))), (8, (V.osl 2 0 (List.length (put l42 0 i)))), (9, (V.i i)), (10, (V.i at_2)), (11, (V.osl 3 0 (List.length l32))), (12, (V.osl 4 0 (List.length l33))), (13, (V.osl 5 0 (List.length (put l38 at_2 true)))), (15, (V.i x12)), (16, (V.i next2)), (17, (V.i step2)), (18, (V.i k1)), (19, (V.i (w64 ((w64 (x25 - x26)) - x27))))] ?_ rfl (sr rfl)
    refine GS.seq ?_
    obtain ⟨x28, h_44, hM⟩ := zH hM
    refine GS.region (X.q rfl (X.q rfl (X.q rfl ?_)))
    refine X.opR rfl (X.Zw h_44 rfl rfl rfl rfl rfl) rfl ?_
    refine X.opR rfl (X.QQ h_44 rfl rfl rfl rfl) rfl (X.q rfl (GS.zA ?_))
    refine X.join (τ := (List Int) × (List Int)) (fun v => jj next2 step2 k1 v.1 v.2 = some b_3) (fun v => ⟨[(0, (V.sl (List.map (fun l => V.sl (List.map V.i l)) cost))), (1, (V.i places)), (6, (V.osl 0 0 (List.length l34))), (7, (V.osl 1 0 (List.length l35))), (8, (V.osl 2 0 (List.length (put l42 0 i)))), (9, (V.i i)), (10, (V.i at_2)), (11, (V.osl 3 0 (List.length v.1))), (12, (V.osl 4 0 (List.length v.2))), (13, (V.osl 5 0 (List.length (put l38 at_2 true)))), (15, (V.i x12)), (16, (V.i next2)), (17, (V.i step2)), (18, (V.i k1))], [.rows 1 (List.map V.i l34), .rows 1 (List.map V.i l35), .rows 1 (List.map V.i (put l42 0 i)), .rows 1 (List.map V.i v.1), .rows 1 (List.map V.i v.2), .rows 1 (List.map V.b (put l38 at_2 true))], 0, none, 215⟩) ?_ ?_
    ·rintro ⟨l30, l31⟩ hM
     replace hM : jj next2 step2 k1 l30 l31 = some b_3 := hM
     unfold jj at hM
     refine GS.seq ?_
     obtain ⟨x29, h_45, hM⟩ := zH hM
     refine GS.region (X.q rfl (X.q rfl ?_))
     refine X.opR rfl (X.Zw h_45 rfl rfl rfl rfl rfl) rfl ?_
     refine X.opR rfl (X.QQ h_45 rfl rfl rfl rfl) rfl (X.q rfl (X.q rfl ?_))
     refine GS.zA ?_
     refine X.cond rfl (fun h_46 => ?_) (fun h_46 => ?_)
     ·replace hM := zZ h_46 hM
      obtain ⟨x30, h_47, hM⟩ := zH hM
      refine GS.region (X.q rfl (X.q rfl ?_))
      refine X.opR rfl (X.Zw h_47 rfl rfl rfl rfl rfl) rfl ?_
      refine X.opR rfl (X.QQ h_47 rfl rfl rfl rfl) rfl (X.q rfl (X.q rfl (X.q rfl ?_)))
      refine GS.zA ?_
      refine GS.endB ?_
      exact X.gc [some 0, some 1, some 2, some 3, some 4, some 5] (hj_16 (k1, x30, l30, l31) hM) rfl rfl rfl (ga rfl rfl) (zP 9 rfl rfl (fun _ => rfl) (zP 9 rfl rfl (fun _ => rfl) (zP 9 rfl rfl (fun _ => rfl) (zP 9 rfl rfl (fun _ => rfl) (zP 9 rfl rfl (fun _ => rfl) (zP 9 rfl rfl (fun _ => rfl) zL))))))
     replace hM := za h_46 hM
     refine GS.skip ?_
     refine GS.endB ?_
     exact X.gc [some 0, some 1, some 2, some 3, some 4, some 5] (hj_16 (next2, step2, l30, l31) hM) rfl rfl rfl (ga rfl rfl) (zP 9 rfl rfl (fun _ => rfl) (zP 9 rfl rfl (fun _ => rfl) (zP 9 rfl rfl (fun _ => rfl) (zP 9 rfl rfl (fun _ => rfl) (zP 9 rfl rfl (fun _ => rfl) (zP 9 rfl rfl (fun _ => rfl) zL))))))
    intro hj_17
    refine X.cond rfl (fun h_48 => ?_) (fun h_48 => ?_)
    ·replace hM := zZ h_48 hM
     obtain ⟨x31, h_49, hM⟩ := zH hM
     obtain ⟨x32, h_50, hM⟩ := zH hM
     refine GS.region ?_
     iterate 6 refine X.q rfl ?_
     refine X.opR rfl (X.Zw h_49 rfl rfl rfl rfl rfl) rfl ?_
     refine X.op0W (H' := [.rows 1 (List.map V.i l34), .rows 1 (List.map V.i l35), .rows 1 (List.map V.i (put l42 0 i)), .rows 1 (List.map V.i (put l32 k1 (w64 ((w64 (x25 - x26)) - x27)))), .rows 1 (List.map V.i l33), .rows 1 (List.map V.b (put l38 at_2 true))]) rfl (X.yK (b := w64 ((w64 (x25 - x26)) - x27)) h_49 rfl rfl rfl rfl rfl rfl rfl) rfl ?_
     refine X.opR rfl (X.Zw h_50 rfl rfl rfl rfl rfl) rfl ?_
     refine X.op0W (H' := [.rows 1 (List.map V.i l34), .rows 1 (List.map V.i l35), .rows 1 (List.map V.i (put l42 0 i)), .rows 1 (List.map V.i (put l32 k1 (w64 ((w64 (x25 - x26)) - x27)))), .rows 1 (List.map V.i (put l33 k1 at_2)), .rows 1 (List.map V.b (put l38 at_2 true))]) rfl (X.yK (b := at_2) h_50 rfl rfl rfl rfl rfl rfl rfl) rfl (GS.zA ?_)
     exact X.gc [some 0, some 1, some 2, some 3, some 4, some 5] (hj_17 ((put l32 k1 (w64 ((w64 (x25 - x26)) - x27))), (put l33 k1 at_2)) hM) rfl rfl rfl (zN rfl ⟨9, rfl⟩ (zN rfl ⟨9, rfl⟩ (zN rfl ⟨9, rfl⟩ (zN rfl ⟨9, rfl⟩ (zN rfl ⟨9, rfl⟩ (zN rfl ⟨9, rfl⟩ (zN rfl ⟨9, rfl⟩ (zN rfl (Yq X.jf ⟨9, rfl⟩) (zN rfl (Yq X.jf ⟨9, rfl⟩) (ga rfl rfl)))))))))) (zP 9 rfl rfl (fun _ => rfl) (zP 9 rfl rfl (fun _ => rfl) (zP 9 rfl rfl (fun _ => rfl) (zP 9 rfl rfl (fun _ => rfl) (zP 9 rfl rfl (fun _ => rfl) (zP 9 rfl rfl (fun _ => rfl) zL))))))
    replace hM := za h_48 hM
    refine GS.skip ?_
    exact X.gc [some 0, some 1, some 2, some 3, some 4, some 5] (hj_17 (l32, l33) hM) rfl rfl rfl (ga rfl rfl) (zP 9 rfl rfl (fun _ => rfl) (zP 9 rfl rfl (fun _ => rfl) (zP 9 rfl rfl (fun _ => rfl) (zP 9 rfl rfl (fun _ => rfl) (zP 9 rfl rfl (fun _ => rfl) (zP 9 rfl rfl (fun _ => rfl) zL))))))
   replace hM := za h_37 hM
   refine GS.exit rfl ?_
   obtain ⟨y_3, hM, hy⟩ := ZN hM
   rw [hr_3 _ hy.symm] at hM
   exact X.gc [some 0, some 1, some 2, some 3, some 4, some 5] (hj_11 (next2, step2, l32, l33) hM) rfl rfl rfl (ga rfl rfl) (zP 9 rfl rfl (fun _ => rfl) (zP 9 rfl rfl (fun _ => rfl) (zP 9 rfl rfl (fun _ => rfl) (zP 9 rfl rfl (fun _ => rfl) (zP 9 rfl rfl (fun _ => rfl) (zP 9 rfl rfl (fun _ => rfl) zL))))))
  intro hj_6
  refine GS.block ?_
  refine X.gc [some 0, some 1, some 2, some 3, some 4, some 5] (X.loop (σ := (Int × (List Int))) (fun v => ⟨[(0, (V.sl (List.map (fun l => V.sl (List.map V.i l)) cost))), (1, (V.i places)), (6, (V.osl 0 0 (List.length l40))), (7, (V.osl 1 0 (List.length l41))), (8, (V.osl 2 0 (List.length (put l42 0 i)))), (9, (V.i i)), (10, (V.i 0)), (11, (V.osl 3 0 (List.length v.2))), (12, (V.osl 4 0 (List.length l9))), (13, (V.osl 5 0 (List.length l10))), (53, (V.i (l8.length : Int))), (54, (V.i v.1))], [.rows 1 (List.map V.i l40), .rows 1 (List.map V.i l41), .rows 1 (List.map V.i (put l42 0 i)), .rows 1 (List.map V.i v.2), .rows 1 (List.map V.i l9), .rows 1 (List.map V.b l10)], 0, none, 215⟩) hM ?_ rfl) rfl rfl rfl (zN rfl ⟨9, rfl⟩ (zN rfl ⟨9, rfl⟩ (zN rfl ⟨9, rfl⟩ (zN rfl ⟨9, rfl⟩ (zN rfl (Yq X.jf ⟨9, rfl⟩) (ga rfl rfl)))))) (zP 9 rfl rfl (fun _ => rfl) (zP 9 rfl rfl (fun _ => rfl) (zP 9 rfl rfl (fun _ => rfl) (zP 9 rfl rfl (fun _ => rfl) (zP 9 rfl rfl (fun _ => rfl) (zP 9 rfl rfl (fun _ => rfl) zL))))))
  rintro ⟨x34, l39⟩ b_2 hM hc_18 hr_2
  rw [yA] at hM
  refine X.sq (X.q rfl (GS.zA (GS.seq ?_)))
  refine X.cond rfl (fun h_51 => ?_) (fun h_51 => ?_)
  ·replace hM := zZ h_51 hM
   refine GS.skip (GS.seq (GS.block (X.sq (X.q rfl (X.q rfl ?_)))))
   refine GS.zA ?_
   obtain ⟨x33, h_52, hM⟩ := zH hM
   refine GS.region (X.q rfl (X.q rfl ?_))
   refine X.opR rfl (X.Zw h_52 rfl rfl rfl rfl rfl) rfl ?_
   refine X.op0W (H' := [.rows 1 (List.map V.i l40), .rows 1 (List.map V.i l41), .rows 1 (List.map V.i (put l42 0 i)), .rows 1 (List.map V.i (put l39 x34 4294967296)), .rows 1 (List.map V.i l9), .rows 1 (List.map V.b l10)]) rfl (X.yK (b := 4294967296) h_52 rfl rfl rfl rfl rfl rfl rfl) rfl (GS.zA ?_)
   refine GS.endB (GS.region ?_)
   refine X.opR rfl (X.addE rfl rfl) rfl (X.q rfl (GS.zA ?_))
   have hE := Option.some.inj hM
   exact X.gc [some 0, some 1, some 2, some 3, some 4, some 5] (hc_18 (w64 (x34 + 1), (put l39 x34 4294967296)) hE.symm) rfl rfl rfl (zN rfl ⟨9, rfl⟩ (zN rfl ⟨9, rfl⟩ (zN rfl ⟨9, rfl⟩ (zN rfl ⟨9, rfl⟩ (zN rfl ⟨9, rfl⟩ (zN rfl ⟨9, rfl⟩ (zN rfl ⟨9, rfl⟩ (zN rfl (Yq X.jf ⟨9, rfl⟩) (ga rfl rfl))))))))) (zP 9 rfl rfl (fun _ => rfl) (zP 9 rfl rfl (fun _ => rfl) (zP 9 rfl rfl (fun _ => rfl) (zP 9 rfl rfl (fun _ => rfl) (zP 9 rfl rfl (fun _ => rfl) (zP 9 rfl rfl (fun _ => rfl) zL))))))
  replace hM := za h_51 hM
  refine GS.exit rfl ?_
  obtain ⟨y_2, hM, hy⟩ := ZN hM
  rw [hr_2 _ hy.symm] at hM
  exact X.gc [some 0, some 1, some 2, some 3, some 4, some 5] (hj_6 l39 hM) rfl rfl rfl (ga rfl rfl) (zP 9 rfl rfl (fun _ => rfl) (zP 9 rfl rfl (fun _ => rfl) (zP 9 rfl rfl (fun _ => rfl) (zP 9 rfl rfl (fun _ => rfl) (zP 9 rfl rfl (fun _ => rfl) (zP 9 rfl rfl (fun _ => rfl) zL))))))
 replace hM := za h_13 hM
 refine GS.exit rfl ?_
 obtain ⟨y_1, hM, hy⟩ := ZN hM
 rw [hr_1 _ hy.symm] at hM
 exact X.gc [some 2] (hj_1 l42 hM) rfl rfl rfl (ga rfl rfl) (zP 9 rfl rfl (fun _ => rfl) zL)
set_option maxHeartbeats 4000000 in
theorem Jw {b : zJ} {fixed : (List Int)} {r : (List Int) × Int} (hM : Zg b fixed = some r) : Ct Tryz.prog 65 [(V.fptr [(zS b)] 0 0), (V.sl (List.map V.i fixed))] (V.tup [(V.sl (List.map V.i r.1)), (V.i r.2)]) := by
 refine ze ZK rfl ?_
 unfold Zg at hM
 refine X.sq (X.q rfl (X.q rfl ?_))
 refine X.nq (X.q rfl (GS.zA (GS.seq (X.sq ?_))))
 iterate 4 refine X.q rfl ?_
 refine X.opR rfl (X.lenF rfl rfl rfl) rfl (X.q rfl (GS.zA ?_))
 refine X.join (τ := (List (List Int))) (fun v => jc b v = some r) (fun v => ⟨[(0, (V.fptr [(zS b)] 0 0)), (6, (ovl 0 v))], [obl 1 (fun v => V.sl (List.map V.i v)) v], 0, none, 71⟩) ?_ ?_
 ·intro l hM
  replace hM : jc b l = some r := hM
  unfold jc at hM
  refine GS.seq ?_
  refine X.zCB (z := true) (f := (fun l => V.sl (List.map V.i l))) (l := l) (es := 1) 6 rfl rfl rfl rfl (fun _ => rfl) ?_
  obtain ⟨y, h_1, hM⟩ := zH hM
  refine X.drawc (by kernel_rfl) rfl ?_
  iterate 5 refine X.cop rfl rfl rfl rfl ?_
  refine X.cop rfl (X.lenF rfl rfl rfl) rfl rfl ?_
  iterate 4 refine X.cop rfl rfl rfl rfl ?_
  refine X.cop rfl (X.lenF rfl rfl rfl) rfl rfl ?_
  refine X.cop rfl (X.addE rfl rfl) rfl rfl ?_
  refine X.ccall (zFB h_1) rfl rfl rfl rfl (.cons (.shut (n := 9) rfl) (.cons (.shut (n := 9) rfl) .nil)) ?_
  iterate 4 refine X.cop rfl rfl rfl rfl ?_
  refine X.cnil ?_
  refine X.norm [(4, (V.sl (List.map V.i y.1))), (5, (V.i y.2))] ?_ rfl (sr rfl)
  cases hM
  exact GS.ret ⟨_, rfl, ⟨30, rfl⟩⟩
 intro hj_1
 refine GS.block ?_
 refine X.gc [none] (X.loop (σ := (Int × (List (List Int)))) (fun v => ⟨[(0, (V.fptr [(zS b)] 0 0)), (1, (V.sl (List.map V.i fixed))), (6, (ovl 0 v.2)), (15, (V.i (b.calls.length : Int))), (16, (V.i v.1))], [obl 1 (fun l => V.sl (List.map V.i l)) v.2], 0, none, 71⟩) hM ?_ rfl) rfl rfl rfl (ga rfl rfl) (gb_pad' rfl zL)
 rintro ⟨x3, l5⟩ b_1 hM hc_2 hr_1
 rw [JD] at hM
 refine X.sq (X.q rfl (GS.zA (GS.seq ?_)))
 refine X.cond rfl (fun h_2 => ?_) (fun h_2 => ?_)
 ·replace hM := zZ h_2 hM
  refine GS.skip (GS.seq (GS.block (X.sq (X.q rfl (X.q rfl ?_)))))
  refine GS.zA (GS.seq ?_)
  obtain ⟨y1, h_3, hM⟩ := zH hM
  refine GS.region (X.q rfl (X.q rfl ?_))
  refine X.own (zBf h_3) (fun z_6 => (ovlz z_6 1 y1)) rfl rfl rfl (.cons (.shut (n := 9) rfl) (.cons (.shut (n := 9) rfl) .nil)) rfl (fun _ => ⟨_, (X.zi rfl)⟩) (fun _ => ⟨_, X.zHk 9 (fun _ => rfl)⟩) (fun z_6 => (X.q rfl (GS.zA (GS.seq (X.sq (X.q rfl (X.q rfl ?_)))))))
  refine X.opR rfl (X.lenF rfl rfl rfl) rfl (X.q rfl (GS.zA ?_))
  refine X.join (τ := (List Int)) (fun v => Zz x3 l5 v = some b_1) (fun v => ⟨[(0, (V.fptr [(zS b)] 0 0)), (1, (V.sl (List.map V.i fixed))), (6, (ovl 0 l5)), (8, (ovlz z_6 1 v)), (15, (V.i (b.calls.length : Int))), (16, (V.i x3))], [obl 1 (fun l => V.sl (List.map V.i l)) l5, oblz z_6 1 V.i v], 0, none, 71⟩) ?_ ?_
  ·intro l1 hM
   replace hM : Zz x3 l5 l1 = some b_1 := hM
   unfold Zz at hM
   refine X.zCB (z := z_6) (f := V.i) (l := l1) (es := 1) 8 rfl rfl rfl rfl (fun _ => rfl) ?_
   obtain ⟨l2, h_4, hM⟩ := zH hM
   refine GS.region (X.q rfl (X.q rfl ?_))
   refine X.opW rfl rfl rfl rfl ?_
   refine X.appN (f := (fun l => V.sl (List.map V.i l))) h_4 (fun _ => rfl) (by rfl) (by rfl) (by rfl) (by rfl) (by rfl) (by rfl) (by rfl) (by rfl) (by rfl) (by rfl) (by rfl) (by exact rfl) (by rfl) (by rfl) (X.q rfl (GS.zA ?_))
   refine GS.endB (GS.region ?_)
   refine X.opR rfl (X.addE rfl rfl) rfl (X.q rfl (GS.zA ?_))
   have hE := Option.some.inj hM
   exact X.gc [some 3] (hc_2 (w64 (x3 + 1), l2) hE.symm) rfl rfl rfl (zN rfl ⟨9, rfl⟩ (zN rfl ⟨9, rfl⟩ (zN rfl (qh (jH h_4) rfl) (ga rfl rfl)))) (gb_obl' 9 (jH h_4) rfl rfl (fun _ => rfl) zL)
  intro hj_3
  refine X.cond rfl (fun h_5 => ?_) (fun h_5 => ?_)
  ·replace hM := zZ h_5 hM
   refine GS.seq ?_
   obtain ⟨x, h_6, hM⟩ := zH hM
   refine GS.region (X.q rfl (X.q rfl ?_))
   refine X.opR rfl (X.ZC (f := V.i) h_6 (fun _ => rfl) rfl rfl rfl rfl) rfl ?_
   refine X.opR rfl (X.ZS h_6 rfl rfl rfl) rfl (X.q rfl (GS.zA (GS.seq (X.sq (X.q rfl (X.q rfl ?_))))))
   refine GS.zA ?_
   refine X.join (τ := Int) (fun v => jD x3 l5 y1 v = some b_1) (fun v => ⟨[(0, (V.fptr [(zS b)] 0 0)), (1, (V.sl (List.map V.i fixed))), (6, (ovl 0 l5)), (8, (ovlz z_6 1 y1)), (9, (V.i v)), (15, (V.i (b.calls.length : Int))), (16, (V.i x3))], [obl 1 (fun l => V.sl (List.map V.i l)) l5, oblz z_6 1 V.i y1], 0, none, 71⟩) ?_ ?_
   ·intro k hM
    replace hM : jD x3 l5 y1 k = some b_1 := hM
    unfold jD at hM
    refine X.sq (X.q rfl ?_)
    refine X.opR rfl (X.lenN (l := y1) rfl rfl rfl) rfl (X.q rfl (GS.zA (GS.block ?_)))
    refine X.gc [some 0, some 1] (X.loop (σ := (Int × (List Int))) (fun v => ⟨[(0, (V.fptr [(zS b)] 0 0)), (1, (V.sl (List.map V.i fixed))), (6, (ovl 0 l5)), (8, (ovlz z_6 1 v.2)), (9, (V.i k)), (15, (V.i (b.calls.length : Int))), (16, (V.i x3)), (40, (V.i (y1.length : Int))), (41, (V.i v.1))], [obl 1 (fun l => V.sl (List.map V.i l)) l5, oblz z_6 1 V.i v.2], 0, none, 71⟩) hM ?_ rfl) rfl rfl rfl (zN rfl ⟨9, rfl⟩ (zN rfl ⟨9, rfl⟩ (zN rfl (zi rfl) (zN rfl (zi rfl) (ga rfl rfl))))) (zk 9 rfl rfl (fun _ => rfl) (zk 9 rfl rfl (fun _ => rfl) zL))
    rintro ⟨x2, l4⟩ b_2 hM hc_5 hr_2
    rw [JC] at hM
    refine X.sq (X.q rfl (GS.zA (GS.seq ?_)))
    refine X.cond rfl (fun h_7 => ?_) (fun h_7 => ?_)
    ·replace hM := zZ h_7 hM
     refine GS.skip (GS.seq ?_)
     refine X.join (τ := (List Int)) (fun v => jC x2 v = some b_2) (fun v => ⟨[(0, (V.fptr [(zS b)] 0 0)), (1, (V.sl (List.map V.i fixed))), (6, (ovl 0 l5)), (8, (ovlz z_6 1 v)), (9, (V.i k)), (15, (V.i (b.calls.length : Int))), (16, (V.i x3)), (40, (V.i (y1.length : Int))), (41, (V.i x2))], [obl 1 (fun l => V.sl (List.map V.i l)) l5, oblz z_6 1 V.i v], 0, none, 71⟩) ?_ ?_
     ·intro l3 hM
      replace hM : jC x2 l3 = some b_2 := hM
      unfold jC at hM
      refine GS.region ?_
      refine X.opR rfl (X.addE rfl rfl) rfl (X.q rfl (GS.zA ?_))
      have hE := Option.some.inj hM
      exact X.gc [some 0, some 1] (hc_5 (w64 (x2 + 1), l3) hE.symm) rfl rfl rfl (zN rfl ⟨9, rfl⟩ (zN rfl ⟨9, rfl⟩ (zN rfl (zi rfl) (zN rfl (zi rfl) (ga rfl rfl))))) (zk 9 rfl rfl (fun _ => rfl) (zk 9 rfl rfl (fun _ => rfl) zL))
     intro hj_6
     refine GS.block (X.sq (X.q rfl (X.q rfl ?_)))
     refine X.nq (X.q rfl (X.q rfl (X.q rfl ?_)))
     refine GS.zA ?_
     refine X.cond rfl (fun h_8 => ?_) (fun h_8 => ?_)
     ·replace hM := zZ h_8 hM
      obtain ⟨x1, h_9, hM⟩ := zH hM
      refine GS.region (X.q rfl (X.q rfl ?_))
      refine X.opR rfl (X.zBL h_9 rfl rfl rfl rfl rfl) rfl ?_
      refine X.op0W rfl (X.zAc (b := 1073741824) h_9 rfl rfl rfl rfl rfl rfl rfl) rfl (GS.zA ?_)
      refine GS.endB ?_
      exact X.gc [some 0, some 1] (hj_6 (put l4 x2 1073741824) hM) rfl rfl rfl (zN rfl ⟨9, rfl⟩ (zN rfl ⟨9, rfl⟩ (zN rfl (zi rfl) (zN rfl (Yq X.zDU (zi rfl)) (ga rfl rfl))))) (zk 9 rfl rfl (fun _ => rfl) (zk 9 rfl rfl (fun _ => rfl) zL))
     replace hM := za h_8 hM
     refine GS.skip ?_
     refine GS.endB ?_
     exact X.gc [some 0, some 1] (hj_6 l4 hM) rfl rfl rfl (zN rfl ⟨9, rfl⟩ (zN rfl ⟨9, rfl⟩ (zN rfl (zi rfl) (zN rfl (zi rfl) (ga rfl rfl))))) (zk 9 rfl rfl (fun _ => rfl) (zk 9 rfl rfl (fun _ => rfl) zL))
    replace hM := za h_7 hM
    refine GS.exit rfl ?_
    obtain ⟨y_2, hM, hy⟩ := ZN hM
    rw [hr_2 _ hy.symm] at hM
    exact X.gc [some 0, some 1] (hj_3 l4 hM) rfl rfl rfl (zN rfl ⟨9, rfl⟩ (zN rfl ⟨9, rfl⟩ (zN rfl (zi rfl) (zN rfl (zi rfl) (ga rfl rfl))))) (zk 9 rfl rfl (fun _ => rfl) (zk 9 rfl rfl (fun _ => rfl) zL))
   intro hj_4
   refine X.cond rfl (fun h_10 => ?_) (fun h_10 => ?_)
   ·replace hM := zZ h_10 hM
    refine GS.region ?_
    iterate 4 refine X.q rfl ?_
    refine X.opR rfl (X.lenF rfl rfl rfl) rfl (X.q rfl ?_)
    refine X.opR rfl (X.addE rfl rfl) rfl (X.q rfl (GS.zA ?_))
    exact X.gc [some 0, some 1] (hj_4 (w64 ((b.slots.length : Int) + x3)) hM) rfl rfl rfl (zN rfl ⟨9, rfl⟩ (zN rfl ⟨9, rfl⟩ (zN rfl (zi rfl) (zN rfl (zi rfl) (ga rfl rfl))))) (zk 9 rfl rfl (fun _ => rfl) (zk 9 rfl rfl (fun _ => rfl) zL))
   replace hM := za h_10 hM
   refine GS.skip ?_
   exact X.gc [some 0, some 1] (hj_4 x hM) rfl rfl rfl (zN rfl ⟨9, rfl⟩ (zN rfl ⟨9, rfl⟩ (zN rfl (zi rfl) (zN rfl (zi rfl) (ga rfl rfl))))) (zk 9 rfl rfl (fun _ => rfl) (zk 9 rfl rfl (fun _ => rfl) zL))
  replace hM := za h_5 hM
  refine GS.skip ?_
  exact X.gc [some 0, some 1] (hj_3 y1 hM) rfl rfl rfl (zN rfl ⟨9, rfl⟩ (zN rfl ⟨9, rfl⟩ (zN rfl (zi rfl) (zN rfl (zi rfl) (ga rfl rfl))))) (zk 9 rfl rfl (fun _ => rfl) (zk 9 rfl rfl (fun _ => rfl) zL))
 replace hM := za h_2 hM
 refine GS.exit rfl ?_
 obtain ⟨y_1, hM, hy⟩ := ZN hM
 rw [hr_1 _ hy.symm] at hM
 exact X.gc [some 0] (hj_1 l5 hM) rfl rfl rfl (zN rfl ⟨9, rfl⟩ (zN rfl (zi rfl) Jq)) (zk 9 rfl rfl (fun _ => rfl) zL)
theorem zJM {l r : List Int} (hM : zAx l = some r) : Ct Tryz.prog 110 [V.sl (List.map V.i l)] (V.sl (List.map V.i r)) := by
 unfold zAx at hM
 have hr : r = l := by obtain ⟨_, e⟩ := zDD hM; simpa using e
 refine ze ZK rfl ?_
 refine GS.seq ?_
 refine GS.region ?_
 refine X.opR rfl rfl rfl ?_
 refine GS.zA ?_
 iterate 2 refine GS.seq ?_
 refine GS.region ?_
 refine X.opR rfl rfl rfl ?_
 refine X.zIh rfl rfl rfl rfl rfl rfl (fun h => ?_) ?_
 ·have hl : r = [] := by rw [hr]; simpa using h
  subst hl
  refine GS.zA ?_
  refine GS.zDw rfl ?_
  refine GS.seq ?_
  refine GS.region ?_
  refine X.opR rfl rfl rfl ?_
  refine GS.zA ?_
  exact GS.ret ⟨_, rfl, ⟨30, rfl⟩⟩
 ·refine GS.zA ?_
  refine GS.ql rfl ?_
  refine GS.skip ?_
  refine GS.seq ?_
  refine GS.region ?_
  refine X.opW rfl rfl rfl rfl ?_
  refine X.opR rfl rfl rfl ?_
  refine X.opW rfl (X.appO (f := V.i) (l := []) (xs := l) hM (fun _ => rfl) rfl rfl rfl rfl rfl rfl rfl rfl rfl rfl) rfl rfl ?_
  refine X.opR rfl rfl rfl ?_
  refine GS.zA ?_
  exact GS.ret ⟨_, rfl, FR.osl (f := V.i) (l := r) 9 rfl rfl (fun _ => rfl)⟩
theorem clone_int {all os : List Oper} {k : List It} {K : List (Nat × V)} {H : List Blk} {lo n d N : Nat} {rnd : Option Nat} {Q : Ex → St → Prop} {p : Op} {ty : TypeId} {pos : String} {after : Array Edge} {g : Option (Nat × Bool)} {l r : List Int} (hM : app [] l = some r) (hw : wants all K g = some true) (hc : callee K p = some (.fn 110 [.sl (l.map V.i)])) (hd : Nat.blt d n = true) (hlo : Nat.ble lo H.length = true) {i : Nat} (hi : H.length + 1 = i)
  (h : ∀ z : Bool, GS CC N (.ops all os :: k) ⟨(d, ovlz z i r) :: K, H ++ [.dead, oblz z 1 V.i r], lo, rnd, n⟩ Q) : GS CC N (.ops all (⟨some d, p, ty, pos, after, g⟩ :: os) :: k) ⟨K, H, lo, rnd, n⟩ Q := by
 subst hi
 have hr : r = l := by obtain ⟨_, e⟩ := zDD hM; simpa using e
 refine GS.im (s := ⟨K, H, lo, rnd, n⟩) (fun v H1 => ∃ z : Bool, v = ovlz z (H.length + 1) r ∧ H1 = H ++ [.dead, oblz z 1 V.i r]) hw hc rfl ?_ (fun v H1 hT => ?_)
 ·refine GS.seq ?_
  refine GS.region ?_
  refine X.opR rfl rfl rfl ?_
  refine GS.zA ?_
  iterate 2 refine GS.seq ?_
  refine GS.region ?_
  refine X.opR rfl rfl rfl ?_
  refine X.zIh rfl rfl rfl rfl rfl rfl (fun h => ?_) ?_
  ·have hl : r = [] := by rw [hr]; simpa using h
   subst hl
   refine GS.zA ?_
   refine GS.zDw rfl ?_
   refine GS.seq ?_
   refine GS.region ?_
   refine X.opR rfl rfl rfl ?_
   refine GS.zA ?_
   refine GS.pad ?_
   refine GS.pad ?_
   exact GS.ret ⟨_, rfl, true, rfl, by simp [oblz]⟩
  ·refine GS.zA ?_
   refine GS.ql rfl ?_
   refine GS.skip ?_
   refine GS.seq ?_
   refine GS.region ?_
   refine X.opW rfl (v := .osl H.length 0 0) (wr := [(H.length, .rows 1 [])]) rfl X.zIX rfl ?_
   refine X.opR rfl rfl rfl ?_
   refine X.opW (H' := H ++ [.dead, .rows 1 (r.map V.i)]) rfl (X.appO (f := V.i) (l := []) (xs := l) (es := 1) hM (fun _ => rfl) rfl rfl rfl rfl rfl rfl X.zIr hlo rfl rfl) ?_ rfl ?_
   ·show hput (hput (H ++ [Blk.rows 1 []]) H.length Blk.dead) (H ++ [Blk.rows 1 []]).length (Blk.rows 1 (r.map V.i)) = _
    have e1 : hput (H ++ [Blk.rows 1 []]) H.length Blk.dead = H ++ [Blk.dead] := X.puts_end' (B := .rows 1 []) (B' := .dead)
    rw [e1, show (H ++ [Blk.rows 1 []]).length = (H ++ [Blk.dead]).length by simp, zA6]
    simp
   refine X.opR rfl rfl rfl ?_
   refine GS.zA ?_
   exact GS.ret ⟨_, rfl, false, by simp [ovlz], rfl⟩
 ·obtain ⟨z, rfl, rfl⟩ := hT
  exact X.front rfl hd (h z) rfl
theorem zBv {l r : List Int} (hM : app [] l = some r) : zD6 Tryz.prog 110 [V.sl (List.map V.i l)] (fun z => ovlz z 0 r) (fun z => oblz z 1 V.i r) := by
 have hr : r = l := by obtain ⟨_, e⟩ := zDD hM; simpa using e
 refine zGx ZK rfl ?_
 refine GS.seq ?_
 refine GS.region ?_
 refine X.opR rfl rfl rfl ?_
 refine GS.zA ?_
 iterate 2 refine GS.seq ?_
 refine GS.region ?_
 refine X.opR rfl rfl rfl ?_
 refine X.zIh rfl rfl rfl rfl rfl rfl (fun h => ?_) ?_
 ·have hl : r = [] := by rw [hr]; simpa using h
  subst hl
  refine GS.zA ?_
  refine GS.zDw rfl ?_
  refine GS.seq ?_
  refine GS.region ?_
  refine X.opR rfl rfl rfl ?_
  refine GS.zA ?_
  refine GS.pad ?_
  exact GS.ret ⟨true, rfl, rfl⟩
 ·refine GS.zA ?_
  refine GS.ql rfl ?_
  refine GS.skip ?_
  refine GS.seq ?_
  refine GS.region ?_
  refine X.opW rfl rfl rfl rfl ?_
  refine X.opR rfl rfl rfl ?_
  refine X.opW rfl (X.appO (f := V.i) (l := []) (xs := l) hM (fun _ => rfl) rfl rfl rfl rfl rfl rfl rfl rfl rfl rfl) rfl rfl ?_
  refine X.opR rfl rfl rfl ?_
  refine GS.zA ?_
  refine X.gc [some 1] (H' := [.rows 1 (List.map V.i r)]) (K' := [(2, (V.osl 0 0 (List.length r)))]) ?_ rfl rfl rfl (ga rfl rfl) (zP 9 rfl rfl (fun _ => rfl) zL)
  exact GS.ret ⟨false, rfl, rfl⟩
set_option maxHeartbeats 4000000 in
theorem qi {b : zJ} {r : (List zO)} (hM : Z6 b = some r) : Ct Tryz.prog 79 [(V.fptr [(zS b)] 0 0)] (V.sl (List.map zR r)) := by
 refine ze ZK rfl ?_
 unfold Z6 at hM
 refine X.sq (X.q rfl (GS.zA ?_))
 refine GS.scope (GS.seq ?_)
 obtain ⟨y, h_1, hM⟩ := zH hM
 refine GS.region (X.q rfl ?_)
 refine X.zBd (v := (V.tup [V.uns, (V.i y.2)])) (Ct.mask (Jw h_1)) rfl rfl rfl (m := 9) rfl (.cons (.shut (n := 9) rfl) (.cons (.nil (n := 9) rfl) .nil)) ?_
 iterate 5 refine X.q rfl ?_
 refine X.nq (X.q rfl (X.nq (X.q rfl (GS.zA (GS.seq ?_)))))
 refine GS.label (GS.seq (X.sq ?_))
 iterate 4 refine X.q rfl ?_
 refine X.opR rfl (X.lenF rfl rfl rfl) rfl (X.q rfl (GS.zA ?_))
 refine X.join (τ := (List zO)) (fun v => j9 v = some r) (fun v => ⟨[(6, (ovl 0 v))], [obl 5 zR v], 0, none, 85⟩) ?_ ?_
 ·intro l hM
  replace hM : j9 l = some r := hM
  unfold j9 at hM
  refine X.sq (X.q rfl (X.q rfl ?_))
  refine GS.zA ?_
  have hE := Option.some.inj hM
  subst hE
  exact GS.ret ⟨_, rfl, FR.ovl (f := zR) (l := l) 9 rfl rfl (fun _ => rfl)⟩
 intro hj_1
 refine GS.block ?_
 refine X.gc [none, none] (X.loop (σ := (Int × (List Int) × (List zO))) (fun v => ⟨[(0, (V.fptr [(zS b)] 0 0)), (4, (V.i y.2)), (5, (ovl 0 v.2.1)), (6, (ovl 1 v.2.2)), (23, (V.sl (List.map zF b.calls))), (24, (V.i (b.calls.length : Int))), (25, (V.i v.1))], [obl 1 V.i v.2.1, obl 5 zR v.2.2], 0, none, 85⟩) hM ?_ rfl) rfl rfl rfl (ga rfl rfl) (gb_pad' rfl (gb_pad' rfl zL))
 rintro ⟨x4, l8, l9⟩ b_1 hM hc_2 hr_1
 rw [JA] at hM
 refine X.sq (X.q rfl (GS.zA (GS.seq ?_)))
 refine X.cond rfl (fun h_2 => ?_) (fun h_2 => ?_)
 ·replace hM := zZ h_2 hM
  refine GS.skip (GS.seq ?_)
  refine X.join (τ := (List Int) × (List zO)) (fun v => jA x4 v.1 v.2 = some b_1) (fun v => ⟨[(0, (V.fptr [(zS b)] 0 0)), (4, (V.i y.2)), (5, (ovl 0 v.1)), (6, (ovl 1 v.2)), (23, (V.sl (List.map zF b.calls))), (24, (V.i (b.calls.length : Int))), (25, (V.i x4))], [obl 1 V.i v.1, obl 5 zR v.2], 0, none, 85⟩) ?_ ?_
  ·rintro ⟨l1, l2⟩ hM
   replace hM : jA x4 l1 l2 = some b_1 := hM
   unfold jA at hM
   refine GS.region ?_
   refine X.opR rfl (X.addE rfl rfl) rfl (X.q rfl (GS.zA ?_))
   have hE := Option.some.inj hM
   exact X.gc [some 0, some 1] (hc_2 (w64 (x4 + 1), l1, l2) hE.symm) rfl rfl rfl (zN rfl ⟨9, rfl⟩ (zN rfl ⟨9, rfl⟩ (zN rfl (zi rfl) (zN rfl (zi rfl) (ga rfl rfl))))) (zk 9 rfl rfl (fun _ => rfl) (zk 9 rfl rfl (fun _ => rfl) zL))
  intro hj_3
  refine GS.block (GS.seq ?_)
  obtain ⟨x, h_3, hM⟩ := zH hM
  refine GS.region (X.q rfl ?_)
  refine X.opR rfl (X.ZC (f := zF) h_3 (fun _ => rfl) rfl rfl rfl rfl) rfl ?_
  refine X.opR rfl (X.ZS h_3 rfl rfl rfl) rfl ?_
  refine X.opW rfl rfl rfl rfl (X.q rfl ?_)
  refine X.op0W rfl rfl rfl (GS.zA (GS.seq (X.sq ?_)))
  iterate 4 refine X.q rfl ?_
  refine X.opR rfl (X.lenF rfl rfl rfl) rfl (X.q rfl (GS.zA ?_))
  refine X.join (τ := Unit) (fun v => j8 x4 l8 l9 = some b_1) (fun v => ⟨[(0, (V.fptr [(zS b)] 0 0)), (4, (V.i y.2)), (5, (ovl 0 l8)), (6, (ovl 1 l9)), (23, (V.sl (List.map zF b.calls))), (24, (V.i (b.calls.length : Int))), (25, (V.i x4))], [obl 1 V.i l8, obl 5 zR l9], 0, none, 85⟩) ?_ ?_
  ·intro _ hM
   replace hM : j8 x4 l8 l9 = some b_1 := hM
   unfold j8 at hM
   obtain ⟨l3, h_4, hM⟩ := zH hM
   refine GS.region (X.q rfl ?_)
   refine X.opW rfl rfl rfl rfl ?_
   refine X.appN (f := V.i) h_4 (fun _ => rfl) (by rfl) (by rfl) (by rfl) (by rfl) (by rfl) (by rfl) (by rfl) (by rfl) (by rfl) (by rfl) (by rfl) (by exact rfl) (by rfl) (by rfl) (X.q rfl (GS.zA ?_))
   refine GS.endB ?_
   exact X.gc [some 3, some 1] (hj_3 (l3, l9) hM) rfl rfl rfl (zN rfl ⟨9, rfl⟩ (zN rfl ⟨9, rfl⟩ (zN rfl (qh (jH h_4) rfl) (zN rfl (zi rfl) (ga rfl rfl))))) (gb_obl' 9 (jH h_4) rfl rfl (fun _ => rfl) (zk 9 rfl rfl (fun _ => rfl) zL))
  intro hj_4
  refine GS.block ?_
  refine X.gc [some 0, some 1, some 2] (X.loop (σ := Int) (fun v => ⟨[(0, (V.fptr [(zS b)] 0 0)), (4, (V.i y.2)), (5, (ovl 0 l8)), (6, (ovl 1 l9)), (7, (V.i x4)), (8, (V.ptr 2 0 0)), (23, (V.sl (List.map zF b.calls))), (24, (V.i (b.calls.length : Int))), (25, (V.i x4)), (33, (V.sl (List.map zC b.slots))), (34, (V.i (b.slots.length : Int))), (35, (V.i v))], [obl 1 V.i l8, obl 5 zR l9, .rows 5 [(zF x)]], 0, none, 85⟩) hM ?_ rfl) rfl rfl rfl (zN rfl ⟨9, rfl⟩ (zN rfl ⟨9, rfl⟩ (zN rfl (zi rfl) (zN rfl (zi rfl) (ga rfl rfl))))) (zk 9 rfl rfl (fun _ => rfl) (zk 9 rfl rfl (fun _ => rfl) (gb9 rfl rfl rfl zL)))
  intro x3 b_2 hM hc_5 hr_2
  rw [Jy] at hM
  refine X.sq (X.q rfl (GS.zA (GS.seq ?_)))
  refine X.cond rfl (fun h_5 => ?_) (fun h_5 => ?_)
  ·replace hM := zZ h_5 hM
   refine GS.skip (GS.seq ?_)
   refine X.join (τ := Unit) (fun v => Z9 x3 = some b_2) (fun v => ⟨[(0, (V.fptr [(zS b)] 0 0)), (4, (V.i y.2)), (5, (ovl 0 l8)), (6, (ovl 1 l9)), (7, (V.i x4)), (8, (V.ptr 2 0 0)), (23, (V.sl (List.map zF b.calls))), (24, (V.i (b.calls.length : Int))), (25, (V.i x4)), (33, (V.sl (List.map zC b.slots))), (34, (V.i (b.slots.length : Int))), (35, (V.i x3))], [obl 1 V.i l8, obl 5 zR l9, .rows 5 [(zF x)]], 0, none, 85⟩) ?_ ?_
   ·intro _ hM
    replace hM : Z9 x3 = some b_2 := hM
    unfold Z9 at hM
    refine GS.region ?_
    refine X.opR rfl (X.addE rfl rfl) rfl (X.q rfl (GS.zA ?_))
    have hE := Option.some.inj hM
    exact X.gc [some 0, some 1, some 2] (hc_5 (w64 (x3 + 1)) hE.symm) rfl rfl rfl (zN rfl ⟨9, rfl⟩ (zN rfl ⟨9, rfl⟩ (zN rfl (zi rfl) (zN rfl (zi rfl) (ga rfl rfl))))) (zk 9 rfl rfl (fun _ => rfl) (zk 9 rfl rfl (fun _ => rfl) (gb9 rfl rfl rfl zL)))
   intro hj_6
   refine GS.block (GS.seq ?_)
   obtain ⟨x1, h_6, hM⟩ := zH hM
   refine GS.region (X.q rfl ?_)
   refine X.opR rfl (X.ZC (f := zC) h_6 (fun _ => rfl) rfl rfl rfl rfl) rfl ?_
   refine X.opR rfl (X.ZS h_6 rfl rfl rfl) rfl ?_
   refine X.opW (H' := [obl 1 V.i l8, obl 5 zR l9, .rows 5 [(zF x)], .rows 2 [(V.agg [(V.i 0), (V.i 0)])]]) rfl rfl rfl rfl (X.q rfl ?_)
   refine X.op0W (H' := [obl 1 V.i l8, obl 5 zR l9, .rows 5 [(zF x)], .rows 2 [(zC x1)]]) rfl rfl rfl (GS.zA (GS.seq ?_))
   obtain ⟨x2, h_7, hM⟩ := zH hM
   refine X.draw (by kernel_rfl) ?_
   iterate 5 refine X.dop rfl rfl rfl rfl (by kernel_rfl) rfl rfl ?_
   refine X.dop rfl (X.ZC (f := (fun l => V.fmap (List.map (fun p => zC p.1) l) (List.map (fun p => zI p.2) l))) h_7 (fun _ => rfl) rfl rfl rfl rfl) rfl rfl (by kernel_rfl) rfl rfl ?_
   refine X.dop rfl (X.ZS h_7 rfl rfl rfl) rfl rfl (by kernel_rfl) rfl rfl ?_
   refine X.dop rfl rfl rfl rfl (by kernel_rfl) rfl rfl ?_
   refine X.dop rfl (X.zF0 (f := zC) (g := zI) (k := x1) (l := x2) (z := (⟨0, 0⟩ : zD)) (ok := true) Ji rfl rfl rfl rfl rfl) rfl rfl (by kernel_rfl) rfl rfl ?_
   iterate 4 refine X.dop rfl rfl rfl rfl (by kernel_rfl) rfl rfl ?_
   refine X.dop0 rfl rfl rfl rfl (by kernel_rfl) rfl ?_
   refine X.dop rfl rfl rfl rfl (by kernel_rfl) rfl rfl ?_
   refine X.dnil ?_
   refine X.norm [(0, (V.fptr [(zS b)] 0 0)), (4, (V.i y.2)), (5, (ovl 0 l8)), (6, (ovl 1 l9)), (7, (V.i x4)), (8, (V.ptr 2 0 0)), (9, (V.i x3)), (10, (V.ptr 3 0 0)), (11, (V.ptr 4 0 0)), (12, (V.b ((ZA x1 x2).isSome))), (23, (V.sl (List.map zF b.calls))), (24, (V.i (b.calls.length : Int))), (25, (V.i x4)), (33, (V.sl (List.map zC b.slots))), (34, (V.i (b.slots.length : Int))), (35, (V.i x3))] ?_ rfl (sr rfl)
   refine GS.seq (X.sq (X.q rfl (X.q rfl ?_)))
   refine GS.zA ?_
   refine X.cond rfl (fun h_8 => ?_) (fun h_8 => ?_)
   ·replace hM := zZ h_8 hM
    refine GS.exit rfl ?_
    exact X.gc [some 0, some 1, some 2] (hj_6 () hM) rfl rfl rfl (zN rfl ⟨9, rfl⟩ (zN rfl ⟨9, rfl⟩ (zN rfl (zi rfl) (zN rfl (zi rfl) (ga rfl rfl))))) (zk 9 rfl rfl (fun _ => rfl) (zk 9 rfl rfl (fun _ => rfl) (gb9 rfl rfl rfl zL)))
   replace hM := za h_8 hM
   refine GS.skip (GS.seq ?_)
   obtain ⟨l4, h_9, hM⟩ := zH hM
   obtain ⟨l5, h_10, hM⟩ := zH hM
   obtain ⟨y1, h_11, hM⟩ := zH hM
   refine GS.region (X.q rfl (X.q rfl ?_))
   refine X.ownF (zBv h_9) (nn := 9) (fun _ => rfl) rfl rfl rfl (.cons (FR.arg (FR.ovl (f := V.i) (l := l8) 9 rfl rfl (fun _ => rfl))) .nil) rfl (fun z_144 => (X.q rfl ?_))
   refine X.opW (H' := [obl 1 V.i l8, obl 5 zR l9, .rows 5 [(zF x)], .rows 2 [(zC x1)], .rows 2 [(zI ((ZA x1 x2).getD (⟨0, 0⟩ : zD)))], oblz z_144 1 V.i l4, .rows 1 (List.map V.i ([x3]))]) rfl rfl rfl rfl ?_
   refine X.appN (f := V.i) h_10 (fun _ => rfl) (by rfl) (by rfl) (by rfl) (by rfl) (by rfl) (by rfl) (by rfl) (by rfl) (by rfl) (by rfl) (by rfl) (by exact rfl) (by rfl) (by rfl) ?_
   refine X.zBd (v := (V.tup [V.uns, (V.i y1.2)])) (Ct.mask (Jw h_11)) rfl rfl rfl (m := 9) rfl (.cons (.shut (n := 9) rfl) (.cons (FR.arg (FR.osl (f := V.i) (l := l5) 9 rfl rfl (fun _ => rfl))) .nil)) ?_
   iterate 5 refine X.q rfl ?_
   refine X.nq (X.q rfl (X.q rfl (X.q rfl ?_)))
   refine GS.zA ?_
   refine X.cond rfl (fun h_12 => ?_) (fun h_12 => ?_)
   ·replace hM := zZ h_12 hM
    refine GS.seq ?_
    obtain ⟨l6, h_13, hM⟩ := zH hM
    refine GS.region (X.q rfl (X.q rfl ?_))
    refine X.opW (H' := [obl 1 V.i l8, obl 5 zR l9, .rows 5 [(zF x)], .rows 2 [(zC x1)], .rows 2 [(zI ((ZA x1 x2).getD (⟨0, 0⟩ : zD)))], .dead, .rows 1 (List.map V.i ([x3])), .rows 1 (List.map V.i l5), .rows 1 (List.map V.i ([x3]))]) rfl rfl rfl rfl ?_
    refine X.appN (f := V.i) h_13 (fun _ => rfl) (by rfl) (by rfl) (by rfl) (by rfl) (by rfl) (by rfl) (by rfl) (by rfl) (by rfl) (by rfl) (by rfl) (by exact rfl) (by rfl) (by rfl) (X.q rfl (GS.zA (GS.seq ?_)))
    obtain ⟨l7, h_14, hM⟩ := zH hM
    refine GS.region ?_
    iterate 6 refine X.q rfl ?_
    refine X.opW (H' := [.dead, obl 5 zR l9, .rows 5 [(zF x)], .rows 2 [(zC x1)], .rows 2 [(zI ((ZA x1 x2).getD (⟨0, 0⟩ : zD)))], .dead, .rows 1 (List.map V.i ([x3])), .rows 1 (List.map V.i l5), .rows 1 (List.map V.i ([x3])), .rows 1 (List.map V.i l6), .rows 5 (List.map zR ([(⟨x.ID, x1, ((ZA x1 x2).getD (⟨0, 0⟩ : zD))⟩ : zO)]))]) rfl rfl rfl rfl ?_
    refine X.appN (f := zR) h_14 (fun _ => rfl) (by rfl) (by rfl) (by rfl) (by rfl) (by rfl) (by rfl) (by rfl) (by rfl) (by rfl) (by rfl) (by rfl) (by exact rfl) (by rfl) (by rfl) (X.q rfl (GS.zA ?_))
    refine GS.exit rfl ?_
    obtain ⟨y_2, hM, hy⟩ := ZN hM
    rw [hr_2 _ hy.symm] at hM
    exact X.gc [some 9, some 11] (hj_3 (l6, l7) hM) rfl rfl rfl (zN rfl ⟨9, rfl⟩ (zN rfl ⟨9, rfl⟩ (zN rfl (qh (jH h_13) rfl) (zN rfl (qh (jH h_14) rfl) (ga rfl rfl))))) (gb_obl' 9 (jH h_13) rfl rfl (fun _ => rfl) (gb_obl' 9 (jH h_14) rfl rfl (fun _ => rfl) zL))
   replace hM := za h_12 hM
   refine GS.skip ?_
   refine GS.endB ?_
   exact X.gc [some 0, some 1, some 2] (hj_6 () hM) rfl rfl rfl (zN rfl ⟨9, rfl⟩ (zN rfl ⟨9, rfl⟩ (zN rfl (zi rfl) (zN rfl (zi rfl) (ga rfl rfl))))) (zk 9 rfl rfl (fun _ => rfl) (zk 9 rfl rfl (fun _ => rfl) (gb9 rfl rfl rfl zL)))
  replace hM := za h_5 hM
  refine GS.exit rfl ?_
  obtain ⟨y_2, hM, hy⟩ := ZN hM
  rw [hr_2 _ hy.symm] at hM
  exact X.gc [some 0, some 1] (hj_4 () hM) rfl rfl rfl (zN rfl ⟨9, rfl⟩ (zN rfl ⟨9, rfl⟩ (zN rfl (zi rfl) (zN rfl (zi rfl) (ga rfl rfl))))) (zk 9 rfl rfl (fun _ => rfl) (zk 9 rfl rfl (fun _ => rfl) zL))
 replace hM := za h_2 hM
 refine GS.exit rfl ?_
 obtain ⟨y_1, hM, hy⟩ := ZN hM
 rw [hr_1 _ hy.symm] at hM
 exact X.gc [some 1] (hj_1 l9 hM) rfl rfl rfl (zN rfl (zi rfl) Jq) (zk 9 rfl rfl (fun _ => rfl) zL)
theorem zCi {h : zK} {l : (List zM)} {r : (List zO) × Int} (hM : yT h l = some r) : Ct Tryz.prog 33 [(zG h), (V.sl (List.map zF l))] (V.tup [(V.sl (List.map zR r.1)), (V.i r.2)]) := by
 refine ze ZK rfl ?_
 unfold yT at hM
 refine X.sq ?_
 refine X.opW rfl rfl rfl rfl (X.q rfl (X.q rfl ?_))
 refine GS.zA ?_
 iterate 2 refine GS.seq ?_
 obtain ⟨y, h_1, hM⟩ := zH hM
 refine GS.region (X.q rfl (X.q rfl ?_))
 refine X.call (ja h_1) rfl rfl rfl (.cons (.shut (n := 9) rfl) (.cons (.shut (n := 9) rfl) .nil)) (X.q rfl (X.nq (X.q rfl (X.q rfl ?_))))
 refine GS.zA ?_
 refine X.cond rfl (fun h_2 => ?_) (fun h_2 => ?_)
 ·replace hM := zZ h_2 hM
  refine X.sq (X.q rfl (X.q rfl (X.q rfl ?_)))
  refine GS.zA ?_
  cases hM
  exact GS.ret ⟨_, rfl, ⟨30, rfl⟩⟩
 replace hM := za h_2 hM
 refine GS.skip (GS.seq ?_)
 obtain ⟨y1, h_3, hM⟩ := zH hM
 obtain ⟨y2, h_4, hM⟩ := zH hM
 refine GS.region (X.q rfl (X.q rfl ?_))
 refine X.call (qE h_3) rfl rfl rfl (.cons (.shut (n := 9) rfl) (.cons (.shut (n := 9) rfl) .nil)) ?_
 refine X.call (qi h_4) rfl rfl rfl (.cons (.shut (n := 9) rfl) .nil) (X.q rfl (X.q rfl ?_))
 refine GS.zA ?_
 cases hM
 exact GS.ret ⟨_, rfl, ⟨30, rfl⟩⟩
abbrev Jj (x : ZE) : V := .agg [(V.sl (List.map V.i x.Calls)), (V.sl (List.map zC x.Slots))]
theorem zBE {c : zM} {c1 : zJ} {c2 : zE} {c3 : (List (Int × Bool))} {r : Bool} (hM : Yt c c1 c2 c3 = some r) : Ct Tryz.prog 103 [(zF c), (V.fptr [(V.fptr [(zS c1)] 0 0)] 0 0), (V.fptr [(zC c2)] 0 0), (V.fptr [(V.fmap (List.map (fun p : Int × Bool => V.i p.1) c3) (List.map (fun p : Int × Bool => V.b p.2) c3))] 0 0)] (V.b r) := by
 refine ze ZK rfl ?_
 unfold Yt at hM
 refine X.sq ?_
 refine X.opW rfl rfl rfl rfl (X.q rfl (GS.zA (GS.seq ?_)))
 obtain ⟨y, h_1, hM⟩ := zH hM
 refine X.drawc (by kernel_rfl) rfl ?_
 iterate 6 refine X.cop rfl rfl rfl rfl ?_
 refine X.ccall (Zn h_1) rfl rfl rfl rfl (.cons (.shut (n := 9) rfl) (.cons (.shut (n := 9) rfl) (.cons (.shut (n := 9) rfl) .nil))) ?_
 refine X.cop rfl rfl rfl rfl ?_
 refine X.cnil ?_
 refine X.norm [(1, (V.fptr [(V.fptr [(zS c1)] 0 0)] 0 0)), (2, (V.fptr [(zC c2)] 0 0)), (3, (V.fptr [(V.fmap (List.map (fun p : Int × Bool => V.i p.1) c3) (List.map (fun p : Int × Bool => V.b p.2) c3))] 0 0)), (6, (V.i y))] ?_ rfl (sr rfl)
 refine GS.seq ?_
 obtain ⟨x, h_2, hM⟩ := zH hM
 refine X.draw (by kernel_rfl) ?_
 iterate 5 refine X.dop rfl rfl rfl rfl (by kernel_rfl) rfl rfl ?_
 refine X.dop rfl (X.ZC (f := (fun l => V.fmap (List.map (fun p => zC p.1) l) (List.map (fun p => zI p.2) l))) h_2 (fun _ => rfl) rfl rfl rfl rfl) rfl rfl (by kernel_rfl) rfl rfl ?_
 refine X.dop rfl (X.ZS h_2 rfl rfl rfl) rfl rfl (by kernel_rfl) rfl rfl ?_
 refine X.dop rfl rfl rfl rfl (by kernel_rfl) rfl rfl ?_
 refine X.dop rfl (X.zF0 (f := zC) (g := zI) (k := c2) (l := x) (z := (⟨0, 0⟩ : zD)) (ok := true) Ji rfl rfl rfl rfl rfl) rfl rfl (by kernel_rfl) rfl rfl ?_
 iterate 4 refine X.dop rfl rfl rfl rfl (by kernel_rfl) rfl rfl ?_
 refine X.dop0 rfl rfl rfl rfl (by kernel_rfl) rfl ?_
 refine X.dop rfl rfl rfl rfl (by kernel_rfl) rfl rfl ?_
 refine X.dnil ?_
 refine X.norm [(3, (V.fptr [(V.fmap (List.map (fun p : Int × Bool => V.i p.1) c3) (List.map (fun p : Int × Bool => V.b p.2) c3))] 0 0)), (6, (V.i y)), (8, (V.b ((ZA c2 x).isSome)))] ?_ rfl (sr rfl)
 refine X.sq ?_
 refine X.mid [(5, (V.b (((ZA c2 x).isSome) && ((ZA y c3).getD false))))] ?_ ?_
 ·intro hg
  refine X.split ((ZA c2 x).isSome) (fun h_3 => ?_) (fun h_3 => ?_)
  ·iterate 2 refine X.q rfl ?_
   iterate 2 refine X.opR (X.on_t rfl rfl rfl h_3) rfl rfl ?_
   refine X.opR (X.on_t rfl rfl rfl h_3) (X.zF0 (f := V.i) (g := V.b) (k := y) (l := c3) (z := false) (ok := false) X.qt rfl rfl rfl rfl rfl) rfl ?_
   refine X.opR rfl (X.zW (y := ((ZA y c3).getD false)) rfl h_3 rfl) rfl (X.q rfl (GS.zA ?_))
   exact X.norm _ hg rfl (sr rfl)
  refine X.q rfl (X.q rfl ?_)
  iterate 3 refine X.off (X.zn rfl rfl rfl h_3) rfl ?_
  refine X.opR rfl (X.zQ (y := ((ZA y c3).getD false)) rfl h_3 rfl) rfl (X.q rfl (GS.zA ?_))
  exact X.norm _ hg rfl (sr rfl)
 cases hM
 exact GS.ret ⟨_, rfl, ⟨30, rfl⟩⟩
theorem JZ {s : (List zM)} {c : zJ} {c1 : zE} {c2 : (List (Int × Bool))} {r : Int} (hM : Zl s c c1 c2 = some r) : Ct Tryz.prog 96 [(V.sl (List.map zF s)), (V.fn 103 [(V.fptr [(V.fptr [(zS c)] 0 0)] 0 0), (V.fptr [(zC c1)] 0 0), (V.fptr [(V.fmap (List.map (fun p : Int × Bool => V.i p.1) c2) (List.map (fun p : Int × Bool => V.b p.2) c2))] 0 0)])] (V.i r) := by
 refine ze ZK rfl ?_
 unfold Zl at hM
 refine X.sq (X.q rfl (GS.zA (GS.seq (X.sq (X.q rfl ?_)))))
 refine X.opR rfl (X.lenF rfl rfl rfl) rfl (X.q rfl (GS.zA ?_))
 refine X.join (τ := Unit) (fun v => ZO = some r) (fun v => ⟨[], [], 0, none, 19⟩) ?_ ?_
 ·intro _ hM
  replace hM : ZO = some r := hM
  unfold ZO at hM
  refine X.sq (X.q rfl (GS.zA ?_))
  cases hM
  exact GS.ret ⟨_, rfl, ⟨30, rfl⟩⟩
 intro hj_1
 refine GS.block ?_
 refine X.gc [] (X.loop (σ := Int) (fun v => ⟨[(0, (V.sl (List.map zF s))), (1, (V.fn 103 [(V.fptr [(V.fptr [(zS c)] 0 0)] 0 0), (V.fptr [(zC c1)] 0 0), (V.fptr [(V.fmap (List.map (fun p : Int × Bool => V.i p.1) c2) (List.map (fun p : Int × Bool => V.b p.2) c2))] 0 0)])), (7, (V.i (s.length : Int))), (8, (V.i v))], [], 0, none, 19⟩) hM ?_ rfl) rfl rfl rfl (ga rfl rfl) (zL)
 intro x1 b_1 hM hc_2 hr_1
 rw [Z4] at hM
 refine X.sq (X.q rfl (GS.zA (GS.seq ?_)))
 refine X.cond rfl (fun h_1 => ?_) (fun h_1 => ?_)
 ·replace hM := zZ h_1 hM
  refine GS.skip (GS.seq (GS.block (X.sq (X.q rfl (X.q rfl ?_)))))
  refine GS.zA (GS.seq ?_)
  obtain ⟨x, h_2, hM⟩ := zH hM
  obtain ⟨y, h_3, hM⟩ := zH hM
  refine GS.region (X.q rfl (X.q rfl (X.q rfl ?_)))
  refine X.opR rfl (X.ZC (f := zF) h_2 (fun _ => rfl) rfl rfl rfl rfl) rfl ?_
  refine X.opR rfl (X.ZS h_2 rfl rfl rfl) rfl ?_
  refine X.call (zBE h_3) rfl rfl rfl (.cons (.shut (n := 9) rfl) (.cons (.shut (n := 9) rfl) (.cons (.shut (n := 9) rfl) (.cons (.shut (n := 9) rfl) .nil)))) (GS.zA ?_)
  refine X.cond rfl (fun h_4 => ?_) (fun h_4 => ?_)
  ·replace hM := zZ h_4 hM
   refine X.sq (X.q rfl (X.q rfl ?_))
   refine GS.zA ?_
   have hE := Option.some.inj hM
   replace hE := hr_1 _ hE.symm
   subst hE
   exact GS.ret ⟨_, rfl, ⟨30, rfl⟩⟩
  replace hM := za h_4 hM
  refine GS.skip ?_
  refine GS.endB (GS.region ?_)
  refine X.opR rfl (X.addE rfl rfl) rfl (X.q rfl (GS.zA ?_))
  have hE := Option.some.inj hM
  exact X.gc [] (hc_2 (w64 (x1 + 1)) hE.symm) rfl rfl rfl (ga rfl rfl) (zL)
 replace hM := za h_1 hM
 refine GS.exit rfl ?_
 obtain ⟨y_1, hM, hy⟩ := ZN hM
 rw [hr_1 _ hy.symm] at hM
 exact X.gc [] (hj_1 () hM) rfl rfl rfl (Jq) (zL)
theorem JE {s : (List zM)} {c : zJ} {c1 : zE} {c2 : (List (Int × Bool))} {r : Bool} (hM : Ze s c c1 c2 = some r) : Ct Tryz.prog 102 [(V.sl (List.map zF s)), (V.fn 103 [(V.fptr [(V.fptr [(zS c)] 0 0)] 0 0), (V.fptr [(zC c1)] 0 0), (V.fptr [(V.fmap (List.map (fun p : Int × Bool => V.i p.1) c2) (List.map (fun p : Int × Bool => V.b p.2) c2))] 0 0)])] (V.b r) := by
 refine ze ZK rfl ?_
 unfold Ze at hM
 refine X.sq (X.q rfl (GS.zA (GS.seq ?_)))
 obtain ⟨y, h_1, hM⟩ := zH hM
 refine GS.region (X.q rfl (X.q rfl ?_))
 refine X.call (JZ h_1) rfl rfl rfl (.cons (.shut (n := 9) rfl) (.cons (.shut (n := 9) rfl) .nil)) (X.q rfl (X.q rfl ?_))
 refine GS.zA ?_
 cases hM
 exact GS.ret ⟨_, rfl, ⟨30, rfl⟩⟩
set_option maxHeartbeats 4000000 in
theorem qT {b : zJ} {ships : (List (Int × Bool))} {r : ZE} (hM : j3 b ships = some r) : Ct Tryz.prog 66 [(V.fptr [(zS b)] 0 0), (V.fmap (List.map (fun p : Int × Bool => V.i p.1) ships) (List.map (fun p : Int × Bool => V.b p.2) ships))] (Jj r) := by
 refine ze ZK rfl ?_
 unfold j3 at hM
 refine X.sq ?_
 iterate 3 refine X.opW rfl rfl rfl rfl ?_
 refine X.nq ?_
 refine X.opW (H' := [.rows 1 [(V.fptr [(zS b)] 0 0)], .rows 1 [(V.fmap (List.map (fun p : Int × Bool => V.i p.1) ships) (List.map (fun p : Int × Bool => V.b p.2) ships))], .rows 2 [(V.agg [V.nil, V.nil])], .rows 2 [(V.agg [V.nil, V.nil])]]) rfl rfl rfl rfl (GS.zA (GS.seq (X.sq ?_)))
 iterate 4 refine X.q rfl ?_
 refine X.opR rfl (X.lenF rfl rfl rfl) rfl (X.q rfl (GS.zA ?_))
 refine X.join (τ := (List Int)) (fun v => jN b ships v = some r) (fun v => ⟨[(2, (V.ptr 0 0 0)), (3, (V.ptr 1 0 0)), (4, (V.ptr 2 0 0)), (5, (V.ptr 3 0 0))], [.rows 1 [(V.fptr [(zS b)] 0 0)], .rows 1 [(V.fmap (List.map (fun p : Int × Bool => V.i p.1) ships) (List.map (fun p : Int × Bool => V.b p.2) ships))], .rows 2 [(V.agg [V.nil, V.nil])], .rows 2 [(V.agg [(ovl 4 v), V.nil])], obl 1 V.i v], 0, none, 57⟩) ?_ ?_
 ·intro l hM
  replace hM : jN b ships l = some r := hM
  unfold jN at hM
  refine GS.seq ?_
  obtain ⟨l1, h_1, hM⟩ := zH hM
  refine GS.region (X.q rfl (X.q rfl ?_))
  refine X.norm [(2, (V.ptr 0 0 0)), (3, (V.ptr 1 0 0)), (4, (V.ptr 2 0 0)), (5, (V.ptr 3 0 0)), (31, (V.ptr 3 0 0)), (32, (ovl 4 l))] ?_ rfl (sr rfl)
  refine X.zFD (z := true) h_1 zLI zIP (fun _ _ _ h => h) (K' := [(2, (V.ptr 0 0 0)), (3, (V.ptr 1 0 0)), (4, (V.ptr 2 0 0)), (5, (V.ptr 3 0 0)), (31, (V.ptr 3 0 0)), (32, (ovl 4 l1))]) (H' := [.rows 1 [(V.fptr [(zS b)] 0 0)], .rows 1 [(V.fmap (List.map (fun p : Int × Bool => V.i p.1) ships) (List.map (fun p : Int × Bool => V.b p.2) ships))], .rows 2 [(V.agg [V.nil, V.nil])], .rows 2 [(V.agg [(ovl 4 l1), V.nil])], obl 1 V.i l1]) rfl rfl rfl rfl rfl rfl ?_ ?_ ?_
  ·first | rfl | rw [X.zAz (qO h_1)] | simp only [ovl, X.zAz (qO h_1)] | simp only [qO h_1]
  ·first | rfl | (simp only [hput]; rfl) | (simp only [ovl, obl]; rw [X.zAz (qO h_1)] <;> rfl)
  refine GS.zA (GS.seq (X.sq ?_))
  iterate 4 refine X.q rfl ?_
  refine X.opR rfl (X.lenF rfl rfl rfl) rfl (X.q rfl (GS.zA ?_))
  refine X.join (τ := (List zE)) (fun v => Jk l1 v = some r) (fun v => ⟨[(4, (V.ptr 0 0 0)), (5, (V.ptr 1 0 0))], [.rows 2 [(V.agg [V.nil, V.nil])], .rows 2 [(V.agg [(ovl 2 l1), (ovl 3 v)])], obl 1 V.i l1, obl 2 zC v], 0, none, 57⟩) ?_ ?_
  ·intro l2 hM
   replace hM : Jk l1 l2 = some r := hM
   unfold Jk at hM
   refine X.sq (X.q rfl ?_)
   refine X.op0W (H' := [.rows 2 [(V.agg [(ovl 2 l1), (ovl 3 l2)])], .rows 2 [(V.agg [(ovl 2 l1), (ovl 3 l2)])], obl 1 V.i l1, obl 2 zC l2]) rfl (v := jI) (wr := [(0, .rows 2 [(V.agg [(ovl 2 l1), (ovl 3 l2)])])]) (by rcases X.YG (z := true) 2 l1 with h0 | ⟨n0, h0⟩ <;> rcases X.YG (z := true) 3 l2 with h1 | ⟨n1, h1⟩ <;> simp only [h0, h1] <;> rfl) rfl (GS.zA ?_)
   have hE := Option.some.inj hM
   subst hE
   exact GS.ret ⟨_, rfl, FR.agg (.cons (FR.ovl (f := V.i) (l := l1) 9 rfl rfl (fun _ => rfl)) (.cons (FR.ovl (f := zC) (l := l2) 9 rfl rfl (fun _ => rfl)) .nil))⟩
  intro hj_2
  refine GS.block ?_
  refine X.gc [some 0, some 1, some 2, some 3, some 4, none] (X.loop (σ := (Int × (List zE))) (fun v => ⟨[(2, (V.ptr 0 0 0)), (3, (V.ptr 1 0 0)), (4, (V.ptr 2 0 0)), (5, (V.ptr 3 0 0)), (37, (V.sl (List.map zC b.slots))), (38, (V.i (b.slots.length : Int))), (39, (V.i v.1))], [.rows 1 [(V.fptr [(zS b)] 0 0)], .rows 1 [(V.fmap (List.map (fun p : Int × Bool => V.i p.1) ships) (List.map (fun p : Int × Bool => V.b p.2) ships))], .rows 2 [(V.agg [V.nil, V.nil])], .rows 2 [(V.agg [(ovl 4 l1), (ovl 5 v.2)])], obl 1 V.i l1, obl 2 zC v.2], 0, none, 57⟩) hM ?_ rfl) rfl rfl rfl (ga rfl rfl) (gb9 rfl rfl rfl (gb9 rfl rfl rfl (gb9 rfl rfl rfl (Zs rfl rfl (jV (.cons (zi rfl) (.cons ⟨9, rfl⟩ .nil))) (zk 9 rfl rfl (fun _ => rfl) (gb_pad' rfl zL))))))
  rintro ⟨x1, l5⟩ b_1 hM hc_3 hr_1
  rw [YP] at hM
  refine X.sq (X.q rfl (GS.zA (GS.seq ?_)))
  refine X.cond rfl (fun h_2 => ?_) (fun h_2 => ?_)
  ·replace hM := zZ h_2 hM
   refine GS.skip (GS.seq ?_)
   refine X.join (τ := (List zE)) (fun v => jy x1 v = some b_1) (fun v => ⟨[(2, (V.ptr 0 0 0)), (3, (V.ptr 1 0 0)), (4, (V.ptr 2 0 0)), (5, (V.ptr 3 0 0)), (37, (V.sl (List.map zC b.slots))), (38, (V.i (b.slots.length : Int))), (39, (V.i x1))], [.rows 1 [(V.fptr [(zS b)] 0 0)], .rows 1 [(V.fmap (List.map (fun p : Int × Bool => V.i p.1) ships) (List.map (fun p : Int × Bool => V.b p.2) ships))], .rows 2 [(V.agg [V.nil, V.nil])], .rows 2 [(V.agg [(ovl 4 l1), (ovl 5 v)])], obl 1 V.i l1, obl 2 zC v], 0, none, 57⟩) ?_ ?_
   ·intro l3 hM
    replace hM : jy x1 l3 = some b_1 := hM
    unfold jy at hM
    refine GS.region ?_
    refine X.opR rfl (X.addE rfl rfl) rfl (X.q rfl (GS.zA ?_))
    have hE := Option.some.inj hM
    exact X.gc [some 0, some 1, some 2, some 3, some 4, some 5] (hc_3 (w64 (x1 + 1), l3) hE.symm) rfl rfl rfl (ga rfl rfl) (gb9 rfl rfl rfl (gb9 rfl rfl rfl (gb9 rfl rfl rfl (Zs rfl rfl (jV (.cons (zi rfl) (.cons (zi rfl) .nil))) (zk 9 rfl rfl (fun _ => rfl) (zk 9 rfl rfl (fun _ => rfl) zL))))))
   intro hj_4
   refine GS.block (GS.seq ?_)
   obtain ⟨x, h_3, hM⟩ := zH hM
   refine GS.region ?_
   refine X.opR rfl (X.ZC (f := zC) h_3 (fun _ => rfl) rfl rfl rfl rfl) rfl ?_
   refine X.opR rfl (X.ZS h_3 rfl rfl rfl) rfl ?_
   refine X.opW (H' := [.rows 1 [(V.fptr [(zS b)] 0 0)], .rows 1 [(V.fmap (List.map (fun p : Int × Bool => V.i p.1) ships) (List.map (fun p : Int × Bool => V.b p.2) ships))], .rows 2 [(V.agg [V.nil, V.nil])], .rows 2 [(V.agg [(ovl 4 l1), (ovl 5 l5)])], obl 1 V.i l1, obl 2 zC l5, .rows 2 [(V.agg [(V.i 0), (V.i 0)])]]) rfl rfl rfl rfl ?_
   refine X.op0W (H' := [.rows 1 [(V.fptr [(zS b)] 0 0)], .rows 1 [(V.fmap (List.map (fun p : Int × Bool => V.i p.1) ships) (List.map (fun p : Int × Bool => V.b p.2) ships))], .rows 2 [(V.agg [V.nil, V.nil])], .rows 2 [(V.agg [(ovl 4 l1), (ovl 5 l5)])], obl 1 V.i l1, obl 2 zC l5, .rows 2 [(zC x)]]) rfl rfl rfl (GS.zA (GS.seq ?_))
   obtain ⟨y, h_4, hM⟩ := zH hM
   refine GS.region ?_
   iterate 5 refine X.q rfl ?_
   refine X.zBd (JE h_4) rfl rfl rfl (m := 9) rfl (.cons (.shut (n := 9) rfl) (.cons (FR.arg ⟨30, rfl⟩) .nil)) (GS.zA ?_)
   refine X.cond rfl (fun h_5 => ?_) (fun h_5 => ?_)
   ·replace hM := zZ h_5 hM
    obtain ⟨l4, h_6, hM⟩ := zH hM
    refine GS.region (X.q rfl (X.q rfl (X.q rfl ?_)))
    refine X.opW (H' := [.rows 1 [(V.fptr [(zS b)] 0 0)], .rows 1 [(V.fmap (List.map (fun p : Int × Bool => V.i p.1) ships) (List.map (fun p : Int × Bool => V.b p.2) ships))], .rows 2 [(V.agg [V.nil, V.nil])], .rows 2 [(V.agg [(ovl 4 l1), (ovl 5 l5)])], obl 1 V.i l1, obl 2 zC l5, .rows 2 [(zC x)], .rows 2 (List.map zC ([x]))]) rfl rfl rfl rfl ?_
    refine X.appN (f := zC) h_6 (fun _ => rfl) (by rfl) (by rfl) (by rfl) (by rfl) (by rfl) (by rfl) (by rfl) (by rfl) (by rfl) (by rfl) (by rfl) (by exact rfl) (by rfl) (by rfl) (X.q rfl ?_)
    refine X.op0W (H' := [.rows 1 [(V.fptr [(zS b)] 0 0)], .rows 1 [(V.fmap (List.map (fun p : Int × Bool => V.i p.1) ships) (List.map (fun p : Int × Bool => V.b p.2) ships))], .rows 2 [(V.agg [V.nil, V.nil])], .rows 2 [(V.agg [(ovl 4 l1), (V.osl 8 0 (List.length l4))])], obl 1 V.i l1, .dead, .rows 2 [(zC x)], .rows 2 (List.map zC ([x])), .rows 2 (List.map zC l4)]) rfl rfl rfl (GS.zA ?_)
    refine GS.endB ?_
    exact X.gc [some 0, some 1, some 2, some 3, some 4, some 8] (hj_4 l4 hM) rfl rfl rfl (ga rfl rfl) (gb9 rfl rfl rfl (gb9 rfl rfl rfl (gb9 rfl rfl rfl (Zs rfl rfl (jV (.cons (zi rfl) (.cons (qh (jH h_6) rfl) .nil))) (zk 9 rfl rfl (fun _ => rfl) (gb_obl' 9 (jH h_6) rfl rfl (fun _ => rfl) zL))))))
   replace hM := za h_5 hM
   refine GS.skip ?_
   refine GS.endB ?_
   exact X.gc [some 0, some 1, some 2, some 3, some 4, some 5] (hj_4 l5 hM) rfl rfl rfl (ga rfl rfl) (gb9 rfl rfl rfl (gb9 rfl rfl rfl (gb9 rfl rfl rfl (Zs rfl rfl (jV (.cons (zi rfl) (.cons (zi rfl) .nil))) (zk 9 rfl rfl (fun _ => rfl) (zk 9 rfl rfl (fun _ => rfl) zL))))))
  replace hM := za h_2 hM
  refine GS.exit rfl ?_
  obtain ⟨y_1, hM, hy⟩ := ZN hM
  rw [hr_1 _ hy.symm] at hM
  exact X.gc [some 2, some 3, some 4, some 5] (hj_2 l5 hM) rfl rfl rfl (ga rfl rfl) (gb9 rfl rfl rfl (Zs rfl rfl (jV (.cons (zi rfl) (.cons (zi rfl) .nil))) (zk 9 rfl rfl (fun _ => rfl) (zk 9 rfl rfl (fun _ => rfl) zL))))
 intro hj_1
 refine GS.block ?_
 refine X.gc [some 0, some 1, some 2, some 3, none] (X.loop (σ := (Int × (List Int))) (fun v => ⟨[(2, (V.ptr 0 0 0)), (3, (V.ptr 1 0 0)), (4, (V.ptr 2 0 0)), (5, (V.ptr 3 0 0)), (13, (V.sl (List.map zF b.calls))), (14, (V.i (b.calls.length : Int))), (15, (V.i v.1))], [.rows 1 [(V.fptr [(zS b)] 0 0)], .rows 1 [(V.fmap (List.map (fun p : Int × Bool => V.i p.1) ships) (List.map (fun p : Int × Bool => V.b p.2) ships))], .rows 2 [(V.agg [V.nil, V.nil])], .rows 2 [(V.agg [(ovl 4 v.2), V.nil])], obl 1 V.i v.2], 0, none, 57⟩) hM ?_ rfl) rfl rfl rfl (ga rfl rfl) (gb9 rfl rfl rfl (gb9 rfl rfl rfl (gb9 rfl rfl rfl (gb9 rfl rfl rfl (gb_pad' rfl zL)))))
 rintro ⟨x3, l8⟩ b_1 hM hc_5 hr_1
 rw [Jl] at hM
 refine X.sq (X.q rfl (GS.zA (GS.seq ?_)))
 refine X.cond rfl (fun h_7 => ?_) (fun h_7 => ?_)
 ·replace hM := zZ h_7 hM
  refine GS.skip (GS.seq ?_)
  refine X.join (τ := (List Int)) (fun v => Z2 x3 v = some b_1) (fun v => ⟨[(2, (V.ptr 0 0 0)), (3, (V.ptr 1 0 0)), (4, (V.ptr 2 0 0)), (5, (V.ptr 3 0 0)), (13, (V.sl (List.map zF b.calls))), (14, (V.i (b.calls.length : Int))), (15, (V.i x3))], [.rows 1 [(V.fptr [(zS b)] 0 0)], .rows 1 [(V.fmap (List.map (fun p : Int × Bool => V.i p.1) ships) (List.map (fun p : Int × Bool => V.b p.2) ships))], .rows 2 [(V.agg [V.nil, V.nil])], .rows 2 [(V.agg [(ovl 4 v), V.nil])], obl 1 V.i v], 0, none, 57⟩) ?_ ?_
  ·intro l6 hM
   replace hM : Z2 x3 l6 = some b_1 := hM
   unfold Z2 at hM
   refine GS.region ?_
   refine X.opR rfl (X.addE rfl rfl) rfl (X.q rfl (GS.zA ?_))
   have hE := Option.some.inj hM
   exact X.gc [some 0, some 1, some 2, some 3, some 4] (hc_5 (w64 (x3 + 1), l6) hE.symm) rfl rfl rfl (ga rfl rfl) (gb9 rfl rfl rfl (gb9 rfl rfl rfl (gb9 rfl rfl rfl (Zs rfl rfl (jV (.cons (zi rfl) (.cons ⟨9, rfl⟩ .nil))) (zk 9 rfl rfl (fun _ => rfl) zL)))))
  intro hj_6
  refine GS.block (GS.seq ?_)
  obtain ⟨x2, h_8, hM⟩ := zH hM
  refine GS.region (X.q rfl ?_)
  refine X.opR rfl (X.ZC (f := zF) h_8 (fun _ => rfl) rfl rfl rfl rfl) rfl ?_
  refine X.opR rfl (X.ZS h_8 rfl rfl rfl) rfl ?_
  refine X.opW (H' := [.rows 1 [(V.fptr [(zS b)] 0 0)], .rows 1 [(V.fmap (List.map (fun p : Int × Bool => V.i p.1) ships) (List.map (fun p : Int × Bool => V.b p.2) ships))], .rows 2 [(V.agg [V.nil, V.nil])], .rows 2 [(V.agg [(ovl 4 l8), V.nil])], obl 1 V.i l8, .rows 5 [(V.agg [(V.i 0), (V.i 0), (V.i 0), (V.i 0), (V.i 0)])]]) rfl rfl rfl rfl (X.q rfl ?_)
  refine X.op0W (H' := [.rows 1 [(V.fptr [(zS b)] 0 0)], .rows 1 [(V.fmap (List.map (fun p : Int × Bool => V.i p.1) ships) (List.map (fun p : Int × Bool => V.b p.2) ships))], .rows 2 [(V.agg [V.nil, V.nil])], .rows 2 [(V.agg [(ovl 4 l8), V.nil])], obl 1 V.i l8, .rows 5 [(zF x2)]]) rfl rfl rfl (X.nq (X.q rfl (X.q rfl ?_)))
  refine X.opR rfl (X.zF0 (f := V.i) (g := V.b) (k := x3) (l := ships) (z := false) (ok := false) X.qt rfl rfl rfl rfl rfl) rfl (GS.zA ?_)
  refine X.cond rfl (fun h_9 => ?_) (fun h_9 => ?_)
  ·replace hM := zZ h_9 hM
   obtain ⟨l7, h_10, hM⟩ := zH hM
   refine GS.region ?_
   iterate 4 refine X.q rfl ?_
   refine X.opW (H' := [.rows 1 [(V.fptr [(zS b)] 0 0)], .rows 1 [(V.fmap (List.map (fun p : Int × Bool => V.i p.1) ships) (List.map (fun p : Int × Bool => V.b p.2) ships))], .rows 2 [(V.agg [V.nil, V.nil])], .rows 2 [(V.agg [(ovl 4 l8), V.nil])], obl 1 V.i l8, .rows 5 [(zF x2)], .rows 1 (List.map V.i ([x2.ID]))]) rfl rfl rfl rfl ?_
   refine X.appN (f := V.i) h_10 (fun _ => rfl) (by rfl) (by rfl) (by rfl) (by rfl) (by rfl) (by rfl) (by rfl) (by rfl) (by rfl) (by rfl) (by rfl) (by exact rfl) (by rfl) (by rfl) (X.q rfl ?_)
   refine X.op0W (H' := [.rows 1 [(V.fptr [(zS b)] 0 0)], .rows 1 [(V.fmap (List.map (fun p : Int × Bool => V.i p.1) ships) (List.map (fun p : Int × Bool => V.b p.2) ships))], .rows 2 [(V.agg [V.nil, V.nil])], .rows 2 [(V.agg [(V.osl 7 0 (List.length l7)), V.nil])], .dead, .rows 5 [(zF x2)], .rows 1 (List.map V.i ([x2.ID])), .rows 1 (List.map V.i l7)]) rfl rfl rfl (GS.zA ?_)
   refine GS.endB ?_
   exact X.gc [some 0, some 1, some 2, some 3, some 7] (hj_6 l7 hM) rfl rfl rfl (ga rfl rfl) (gb9 rfl rfl rfl (gb9 rfl rfl rfl (gb9 rfl rfl rfl (Zs rfl rfl (jV (.cons (qh (jH h_10) rfl) (.cons ⟨9, rfl⟩ .nil))) (gb_obl' 9 (jH h_10) rfl rfl (fun _ => rfl) zL)))))
  replace hM := za h_9 hM
  refine GS.skip ?_
  refine GS.endB ?_
  exact X.gc [some 0, some 1, some 2, some 3, some 4] (hj_6 l8 hM) rfl rfl rfl (ga rfl rfl) (gb9 rfl rfl rfl (gb9 rfl rfl rfl (gb9 rfl rfl rfl (Zs rfl rfl (jV (.cons (zi rfl) (.cons ⟨9, rfl⟩ .nil))) (zk 9 rfl rfl (fun _ => rfl) zL)))))
 replace hM := za h_7 hM
 refine GS.exit rfl ?_
 obtain ⟨y_1, hM, hy⟩ := ZN hM
 rw [hr_1 _ hy.symm] at hM
 exact X.gc [some 0, some 1, some 2, some 3, some 4] (hj_1 l8 hM) rfl rfl rfl (ga rfl rfl) (gb9 rfl rfl rfl (gb9 rfl rfl rfl (gb9 rfl rfl rfl (Zs rfl rfl (jV (.cons (zi rfl) (.cons ⟨9, rfl⟩ .nil))) (zk 9 rfl rfl (fun _ => rfl) zL)))))
set_option maxHeartbeats 4000000 in
theorem zGh {h : zK} {l : (List zM)} {r : ZE × Bool × Int} (hM : zAU h l = some r) : Ct Tryz.prog 25 [(zG h), (V.sl (List.map zF l))] (V.tup [(Jj r.1), (V.b r.2.1), (V.i r.2.2)]) := by
 refine ze ZK rfl ?_
 unfold zAU at hM
 refine X.sq ?_
 iterate 2 refine X.opW rfl rfl rfl rfl ?_
 refine X.q rfl (X.q rfl ?_)
 refine GS.zA ?_
 iterate 2 refine GS.seq ?_
 obtain ⟨y, h_1, hM⟩ := zH hM
 refine GS.region (X.q rfl (X.q rfl ?_))
 refine X.call (ja h_1) rfl rfl rfl (.cons (.shut (n := 9) rfl) (.cons (.shut (n := 9) rfl) .nil)) (X.q rfl (X.nq (X.q rfl (X.q rfl ?_))))
 refine GS.zA ?_
 refine X.cond rfl (fun h_2 => ?_) (fun h_2 => ?_)
 ·replace hM := zZ h_2 hM
  refine X.sq (X.q rfl (X.q rfl ?_))
  refine X.op0W rfl rfl rfl (X.q rfl (X.q rfl ?_))
  refine GS.zA ?_
  cases hM
  exact GS.ret ⟨_, rfl, ⟨30, rfl⟩⟩
 replace hM := za h_2 hM
 refine GS.skip (GS.seq ?_)
 obtain ⟨y1, h_3, hM⟩ := zH hM
 refine GS.region (X.q rfl (X.q rfl ?_))
 refine X.call (qE h_3) rfl rfl rfl (.cons (.shut (n := 9) rfl) (.cons (.shut (n := 9) rfl) .nil)) (X.q rfl (GS.zA (GS.seq ?_)))
 obtain ⟨y2, h_4, hM⟩ := zH hM
 refine GS.region (X.q rfl ?_)
 refine X.call (Jw h_4) rfl rfl rfl (.cons (.shut (n := 9) rfl) (.cons (.nil (n := 9) rfl) .nil)) ?_
 iterate 5 refine X.q rfl ?_
 refine X.nq ?_
 refine X.opW rfl rfl rfl rfl (X.q rfl (X.nq ?_))
 refine X.opW (H' := [.rows 6 [(zG h)], .rows 2 [(V.agg [V.nil, V.nil])], .map (List.map (fun p : Int × Bool => V.i p.1) []) (List.map (fun p : Int × Bool => V.b p.2) []), .map (List.map (fun p : Int × Int => V.i p.1) []) (List.map (fun p : Int × Int => V.i p.2) [])]) rfl rfl rfl rfl (X.q rfl (GS.zA (GS.seq (X.sq (X.q rfl ?_)))))
 refine X.opR rfl (X.lenF rfl rfl rfl) rfl (X.q rfl (GS.zA ?_))
 refine X.join (τ := (List (Int × Bool)) × (List (Int × Int))) (fun v => yw l y1 v.1 v.2 = some r) (fun v => ⟨[(1, (V.sl (List.map zF l))), (4, (V.ptr 0 0 0)), (8, (V.fptr [(zS y1)] 0 0)), (11, (V.map 1)), (12, (V.map 2))], [.rows 2 [(V.agg [V.nil, V.nil])], .map (List.map (fun p : Int × Bool => V.i p.1) v.1) (List.map (fun p : Int × Bool => V.b p.2) v.1), .map (List.map (fun p : Int × Int => V.i p.1) v.2) (List.map (fun p : Int × Int => V.i p.2) v.2)], 0, none, 118⟩) ?_ ?_
 ·rintro ⟨m, m1⟩ hM
  replace hM : yw l y1 m m1 = some r := hM
  unfold yw at hM
  refine GS.seq (X.sq (X.q rfl ?_))
  refine X.opR rfl (X.lenMo (l := m) rfl rfl rfl rfl) rfl (X.q rfl (GS.zA ?_))
  refine X.cond rfl (fun h_5 => ?_) (fun h_5 => ?_)
  ·replace hM := zZ h_5 hM
   refine X.sq (X.q rfl ?_)
   refine X.op0W rfl rfl rfl (X.q rfl (X.q rfl ?_))
   refine GS.zA ?_
   cases hM
   exact GS.ret ⟨_, rfl, ⟨30, rfl⟩⟩
  replace hM := za h_5 hM
  refine GS.skip (GS.seq (X.sq (X.q rfl (GS.zA ?_))))
  refine X.join (τ := (List (Int × Bool))) (fun v => yu y1 v = some r) (fun v => ⟨[(4, (V.ptr 0 0 0)), (8, (V.fptr [(zS y1)] 0 0)), (11, (V.map 1))], [.rows 2 [(V.agg [V.nil, V.nil])], .map (List.map (fun p : Int × Bool => V.i p.1) v) (List.map (fun p : Int × Bool => V.b p.2) v)], 0, none, 118⟩) ?_ ?_
  ·intro m2 hM
   replace hM : yu y1 m2 = some r := hM
   unfold yu at hM
   refine GS.seq ?_
   obtain ⟨y3, h_6, hM⟩ := zH hM
   refine GS.region (X.q rfl (X.q rfl ?_))
   refine X.zFJ (f := V.i) (g := V.b) (pa := fun p => p.1) (pb := fun p => p.2) (l := m2) 116 rfl rfl rfl (fun _ => rfl) (fun _ => rfl) ?_
   refine X.call (qT h_6) rfl rfl rfl (.cons (.shut (n := 9) rfl) (.cons (.shut (n := 9) rfl) .nil)) ?_
   refine X.op0W rfl rfl rfl (X.q rfl (X.q rfl ?_))
   refine GS.zA ?_
   cases hM
   exact GS.ret ⟨_, rfl, ⟨30, rfl⟩⟩
  intro hj_2
  refine GS.block ?_
  refine X.gc [some 0, some 1, some 2] (X.loop (σ := (Bool × (List (Int × Bool)))) (fun v => ⟨[(1, (V.sl (List.map zF l))), (4, (V.ptr 0 0 0)), (8, (V.fptr [(zS y1)] 0 0)), (11, (V.map 1)), (12, (V.map 2)), (15, (V.b v.1))], [.rows 2 [(V.agg [V.nil, V.nil])], .map (List.map (fun p : Int × Bool => V.i p.1) v.2) (List.map (fun p : Int × Bool => V.b p.2) v.2), .map (List.map (fun p : Int × Int => V.i p.1) m1) (List.map (fun p : Int × Int => V.i p.2) m1)], 0, none, 118⟩) hM ?_ rfl) rfl rfl rfl (ga rfl rfl) (gb9 rfl rfl rfl (X.ZQ 9 rfl rfl (fun _ => rfl) (fun _ => rfl) (X.ZQ 9 rfl rfl (fun _ => rfl) (fun _ => rfl) zL)))
  rintro ⟨more4, m7⟩ b_1 hM hc_3 hr_1
  rw [qK] at hM
  refine GS.seq (X.sq (X.q rfl (GS.zA ?_)))
  refine X.cond rfl (fun h_7 => ?_) (fun h_7 => ?_)
  ·replace hM := zZ h_7 hM
   refine GS.skip (GS.block (X.sq (X.q rfl (X.nq ?_))))
   iterate 4 refine X.q rfl ?_
   refine X.opR rfl (X.lenF rfl rfl rfl) rfl (X.q rfl (GS.zA (GS.block ?_)))
   refine X.gc [some 0, some 1, some 2] (X.loop (σ := (Bool × Int × (List (Int × Bool)))) (fun v => ⟨[(1, (V.sl (List.map zF l))), (4, (V.ptr 0 0 0)), (8, (V.fptr [(zS y1)] 0 0)), (11, (V.map 1)), (12, (V.map 2)), (15, (V.b v.1)), (68, (V.sl (List.map zC y1.slots))), (69, (V.i (y1.slots.length : Int))), (70, (V.i v.2.1))], [.rows 2 [(V.agg [V.nil, V.nil])], .map (List.map (fun p : Int × Bool => V.i p.1) v.2.2) (List.map (fun p : Int × Bool => V.b p.2) v.2.2), .map (List.map (fun p : Int × Int => V.i p.1) m1) (List.map (fun p : Int × Int => V.i p.2) m1)], 0, none, 118⟩) hM ?_ rfl) rfl rfl rfl (ga rfl rfl) (gb9 rfl rfl rfl (X.ZQ 9 rfl rfl (fun _ => rfl) (fun _ => rfl) (X.ZQ 9 rfl rfl (fun _ => rfl) (fun _ => rfl) zL)))
   rintro ⟨more3, x3, m6⟩ b_2 hM hc_4 hr_2
   rw [zAs] at hM
   refine X.sq (X.q rfl (GS.zA (GS.seq ?_)))
   refine X.cond rfl (fun h_8 => ?_) (fun h_8 => ?_)
   ·replace hM := zZ h_8 hM
    refine GS.skip (GS.seq ?_)
    refine X.join (τ := Bool × (List (Int × Bool))) (fun v => Y7 x3 v.1 v.2 = some b_2) (fun v => ⟨[(1, (V.sl (List.map zF l))), (4, (V.ptr 0 0 0)), (8, (V.fptr [(zS y1)] 0 0)), (11, (V.map 1)), (12, (V.map 2)), (15, (V.b v.1)), (68, (V.sl (List.map zC y1.slots))), (69, (V.i (y1.slots.length : Int))), (70, (V.i x3))], [.rows 2 [(V.agg [V.nil, V.nil])], .map (List.map (fun p : Int × Bool => V.i p.1) v.2) (List.map (fun p : Int × Bool => V.b p.2) v.2), .map (List.map (fun p : Int × Int => V.i p.1) m1) (List.map (fun p : Int × Int => V.i p.2) m1)], 0, none, 118⟩) ?_ ?_
    ·rintro ⟨more, m3⟩ hM
     replace hM : Y7 x3 more m3 = some b_2 := hM
     unfold Y7 at hM
     refine GS.region ?_
     refine X.opR rfl (X.addE rfl rfl) rfl (X.q rfl (GS.zA ?_))
     have hE := Option.some.inj hM
     exact X.gc [some 0, some 1, some 2] (hc_4 (more, w64 (x3 + 1), m3) hE.symm) rfl rfl rfl (ga rfl rfl) (gb9 rfl rfl rfl (X.ZQ 9 rfl rfl (fun _ => rfl) (fun _ => rfl) (X.ZQ 9 rfl rfl (fun _ => rfl) (fun _ => rfl) zL)))
    intro hj_5
    refine GS.block (GS.seq ?_)
    obtain ⟨x, h_9, hM⟩ := zH hM
    refine GS.region (X.q rfl ?_)
    refine X.opR rfl (X.ZC (f := zC) h_9 (fun _ => rfl) rfl rfl rfl rfl) rfl ?_
    refine X.opR rfl (X.ZS h_9 rfl rfl rfl) rfl ?_
    refine X.opW (H' := [.rows 2 [(V.agg [V.nil, V.nil])], .map (List.map (fun p : Int × Bool => V.i p.1) m6) (List.map (fun p : Int × Bool => V.b p.2) m6), .map (List.map (fun p : Int × Int => V.i p.1) m1) (List.map (fun p : Int × Int => V.i p.2) m1), .rows 2 [(V.agg [(V.i 0), (V.i 0)])]]) rfl rfl rfl rfl (X.q rfl ?_)
    refine X.op0W (H' := [.rows 2 [(V.agg [V.nil, V.nil])], .map (List.map (fun p : Int × Bool => V.i p.1) m6) (List.map (fun p : Int × Bool => V.b p.2) m6), .map (List.map (fun p : Int × Int => V.i p.1) m1) (List.map (fun p : Int × Int => V.i p.2) m1), .rows 2 [(zC x)]]) rfl rfl rfl (X.nq (X.q rfl (X.q rfl ?_)))
    refine X.opR rfl (X.zKH (f := V.i) (g := V.i) (k := x3) (l := m1) (z := 0) (ok := true) X.qt rfl rfl rfl rfl rfl rfl) rfl ?_
    iterate 5 refine X.q rfl ?_
    refine GS.zA (GS.seq (X.sq ?_))
    refine X.mid [(1, (V.sl (List.map zF l))), (4, (V.ptr 0 0 0)), (8, (V.fptr [(zS y1)] 0 0)), (11, (V.map 1)), (12, (V.map 2)), (15, (V.b more3)), (17, (V.ptr 3 0 0)), (18, (V.i ((ZA x3 m1).getD 0))), (68, (V.sl (List.map zC y1.slots))), (69, (V.i (y1.slots.length : Int))), (70, (V.i x3)), (87, (V.b ((!(ZA x3 m1).isSome) || ((ZA ((ZA x3 m1).getD 0) m6).getD false))))] ?_ ?_
    ·intro hg
     refine X.split (!(ZA x3 m1).isSome) (fun h_10 => ?_) (fun h_10 => ?_)
     ·iterate 3 refine X.q rfl ?_
      iterate 3 refine X.off (X.ZL rfl rfl rfl h_10) rfl ?_
      refine X.opR rfl (X.zd (y := ((ZA ((ZA x3 m1).getD 0) m6).getD false)) rfl h_10 rfl) rfl (GS.zA ?_)
      exact X.norm _ hg rfl (sr rfl)
     iterate 3 refine X.q rfl ?_
     iterate 2 refine X.opR (X.on_f rfl rfl rfl h_10) rfl rfl ?_
     refine X.opR (X.on_f rfl rfl rfl h_10) (X.zKH (f := V.i) (g := V.b) (k := ((ZA x3 m1).getD 0)) (l := m6) (z := false) (ok := false) X.qt rfl rfl rfl rfl rfl rfl) rfl ?_
     refine X.opR rfl (X.zb (y := ((ZA ((ZA x3 m1).getD 0) m6).getD false)) rfl h_10 rfl) rfl (GS.zA ?_)
     exact X.norm _ hg rfl (sr rfl)
    refine X.cond rfl (fun h_11 => ?_) (fun h_11 => ?_)
    ·replace hM := zZ h_11 hM
     refine GS.exit rfl ?_
     exact X.gc [some 0, some 1, some 2] (hj_5 (more3, m6) hM) rfl rfl rfl (ga rfl rfl) (gb9 rfl rfl rfl (X.ZQ 9 rfl rfl (fun _ => rfl) (fun _ => rfl) (X.ZQ 9 rfl rfl (fun _ => rfl) (fun _ => rfl) zL)))
    replace hM := za h_11 hM
    refine GS.skip (X.sq (X.q rfl ?_))
    refine X.opR rfl (X.lenF rfl rfl rfl) rfl (X.q rfl (GS.zA (GS.block ?_)))
    refine X.gc [some 0, some 1, some 2, some 3] (X.loop (σ := (Bool × Int × (List (Int × Bool)))) (fun v => ⟨[(1, (V.sl (List.map zF l))), (4, (V.ptr 0 0 0)), (8, (V.fptr [(zS y1)] 0 0)), (11, (V.map 1)), (12, (V.map 2)), (15, (V.b v.1)), (17, (V.ptr 3 0 0)), (18, (V.i ((ZA x3 m1).getD 0))), (68, (V.sl (List.map zC y1.slots))), (69, (V.i (y1.slots.length : Int))), (70, (V.i x3)), (89, (V.i (l.length : Int))), (90, (V.i v.2.1))], [.rows 2 [(V.agg [V.nil, V.nil])], .map (List.map (fun p : Int × Bool => V.i p.1) v.2.2) (List.map (fun p : Int × Bool => V.b p.2) v.2.2), .map (List.map (fun p : Int × Int => V.i p.1) m1) (List.map (fun p : Int × Int => V.i p.2) m1), .rows 2 [(zC x)]], 0, none, 118⟩) hM ?_ rfl) rfl rfl rfl (ga rfl rfl) (gb9 rfl rfl rfl (X.ZQ 9 rfl rfl (fun _ => rfl) (fun _ => rfl) (X.ZQ 9 rfl rfl (fun _ => rfl) (fun _ => rfl) (gb9 rfl rfl rfl zL))))
    rintro ⟨more2, x2, m5⟩ b_3 hM hc_6 hr_3
    rw [zCp] at hM
    refine X.sq (X.q rfl (GS.zA (GS.seq ?_)))
    refine X.cond rfl (fun h_12 => ?_) (fun h_12 => ?_)
    ·replace hM := zZ h_12 hM
     refine GS.skip (GS.seq ?_)
     refine X.join (τ := Bool × (List (Int × Bool))) (fun v => Y6 x2 v.1 v.2 = some b_3) (fun v => ⟨[(1, (V.sl (List.map zF l))), (4, (V.ptr 0 0 0)), (8, (V.fptr [(zS y1)] 0 0)), (11, (V.map 1)), (12, (V.map 2)), (15, (V.b v.1)), (17, (V.ptr 3 0 0)), (18, (V.i ((ZA x3 m1).getD 0))), (68, (V.sl (List.map zC y1.slots))), (69, (V.i (y1.slots.length : Int))), (70, (V.i x3)), (89, (V.i (l.length : Int))), (90, (V.i x2))], [.rows 2 [(V.agg [V.nil, V.nil])], .map (List.map (fun p : Int × Bool => V.i p.1) v.2) (List.map (fun p : Int × Bool => V.b p.2) v.2), .map (List.map (fun p : Int × Int => V.i p.1) m1) (List.map (fun p : Int × Int => V.i p.2) m1), .rows 2 [(zC x)]], 0, none, 118⟩) ?_ ?_
     ·rintro ⟨more1, m4⟩ hM
      replace hM : Y6 x2 more1 m4 = some b_3 := hM
      unfold Y6 at hM
      refine GS.region ?_
      refine X.opR rfl (X.addE rfl rfl) rfl (X.q rfl (GS.zA ?_))
      have hE := Option.some.inj hM
      exact X.gc [some 0, some 1, some 2, some 3] (hc_6 (more1, w64 (x2 + 1), m4) hE.symm) rfl rfl rfl (ga rfl rfl) (gb9 rfl rfl rfl (X.ZQ 9 rfl rfl (fun _ => rfl) (fun _ => rfl) (X.ZQ 9 rfl rfl (fun _ => rfl) (fun _ => rfl) (gb9 rfl rfl rfl zL))))
     intro hj_7
     refine GS.block (X.sq (X.q rfl (X.q rfl ?_)))
     refine GS.zA (GS.seq ?_)
     obtain ⟨x1, h_13, hM⟩ := zH hM
     refine X.draw (by kernel_rfl) ?_
     iterate 5 refine X.dop rfl rfl rfl rfl (by kernel_rfl) rfl rfl ?_
     refine X.dop rfl (X.ZC (f := (fun l => V.fmap (List.map (fun p => zC p.1) l) (List.map (fun p => zI p.2) l))) h_13 (fun _ => rfl) rfl rfl rfl rfl) rfl rfl (by kernel_rfl) rfl rfl ?_
     refine X.dop rfl (X.ZS h_13 rfl rfl rfl) rfl rfl (by kernel_rfl) rfl rfl ?_
     refine X.dop rfl rfl rfl rfl (by kernel_rfl) rfl rfl ?_
     refine X.dop rfl (X.zF0 (f := zC) (g := zI) (k := x) (l := x1) (z := (⟨0, 0⟩ : zD)) (ok := true) Ji rfl rfl rfl rfl rfl) rfl rfl (by kernel_rfl) rfl rfl ?_
     iterate 4 refine X.dop rfl rfl rfl rfl (by kernel_rfl) rfl rfl ?_
     refine X.dop0 rfl rfl rfl rfl (by kernel_rfl) rfl ?_
     refine X.dop rfl rfl rfl rfl (by kernel_rfl) rfl rfl ?_
     refine X.dnil ?_
     refine X.norm [(1, (V.sl (List.map zF l))), (4, (V.ptr 0 0 0)), (8, (V.fptr [(zS y1)] 0 0)), (11, (V.map 1)), (12, (V.map 2)), (15, (V.b more2)), (17, (V.ptr 3 0 0)), (18, (V.i ((ZA x3 m1).getD 0))), (20, (V.i x2)), (22, (V.b ((ZA x x1).isSome))), (68, (V.sl (List.map zC y1.slots))), (69, (V.i (y1.slots.length : Int))), (70, (V.i x3)), (89, (V.i (l.length : Int))), (90, (V.i x2))] ?_ rfl (sr rfl)
     refine X.sq ?_
     refine X.mid [(1, (V.sl (List.map zF l))), (4, (V.ptr 0 0 0)), (8, (V.fptr [(zS y1)] 0 0)), (11, (V.map 1)), (12, (V.map 2)), (15, (V.b more2)), (17, (V.ptr 3 0 0)), (18, (V.i ((ZA x3 m1).getD 0))), (68, (V.sl (List.map zC y1.slots))), (69, (V.i (y1.slots.length : Int))), (70, (V.i x3)), (89, (V.i (l.length : Int))), (90, (V.i x2)), (110, (V.b (((ZA x x1).isSome) && ((ZA x2 m5).getD false))))] ?_ ?_
     ·intro hg
      refine X.split ((ZA x x1).isSome) (fun h_14 => ?_) (fun h_14 => ?_)
      ·iterate 2 refine X.q rfl ?_
       iterate 2 refine X.opR (X.on_t rfl rfl rfl h_14) rfl rfl ?_
       refine X.opR (X.on_t rfl rfl rfl h_14) (X.zKH (f := V.i) (g := V.b) (k := x2) (l := m5) (z := false) (ok := false) X.qt rfl rfl rfl rfl rfl rfl) rfl ?_
       refine X.opR rfl (X.zW (y := ((ZA x2 m5).getD false)) rfl h_14 rfl) rfl (GS.zA ?_)
       exact X.norm _ hg rfl (sr rfl)
      refine X.q rfl (X.q rfl ?_)
      iterate 3 refine X.off (X.zn rfl rfl rfl h_14) rfl ?_
      refine X.opR rfl (X.zQ (y := ((ZA x2 m5).getD false)) rfl h_14 rfl) rfl (GS.zA ?_)
      exact X.norm _ hg rfl (sr rfl)
     refine X.cond rfl (fun h_15 => ?_) (fun h_15 => ?_)
     ·replace hM := zZ h_15 hM
      refine GS.region (X.q rfl (X.q rfl ?_))
      refine X.op0W (H' := [.rows 2 [(V.agg [V.nil, V.nil])], .map (List.map (fun p : Int × Bool => V.i p.1) (putM posI m5 ((ZA x3 m1).getD 0) true)) (List.map (fun p : Int × Bool => V.b p.2) (putM posI m5 ((ZA x3 m1).getD 0) true)), .map (List.map (fun p : Int × Int => V.i p.1) m1) (List.map (fun p : Int × Int => V.i p.2) m1), .rows 2 [(zC x)], .rows 2 [(zI ((ZA x x1).getD (⟨0, 0⟩ : zD)))]]) rfl (X.putW (f := V.i) (g := V.b) (pos := posI) (k := ((ZA x3 m1).getD 0)) (v := true) (l := m5) X.qt (X.zDR _) rfl rfl rfl rfl rfl rfl rfl) rfl ?_
      refine X.q rfl (GS.zA ?_)
      refine GS.endB ?_
      exact X.gc [some 0, some 1, some 2, some 3] (hj_7 (true, (putM posI m5 ((ZA x3 m1).getD 0) true)) hM) rfl rfl rfl (ga rfl rfl) (gb9 rfl rfl rfl (X.ZQ 9 rfl rfl (fun _ => rfl) (fun _ => rfl) (X.ZQ 9 rfl rfl (fun _ => rfl) (fun _ => rfl) (gb9 rfl rfl rfl zL))))
     replace hM := za h_15 hM
     refine GS.skip ?_
     refine GS.endB ?_
     exact X.gc [some 0, some 1, some 2, some 3] (hj_7 (more2, m5) hM) rfl rfl rfl (ga rfl rfl) (gb9 rfl rfl rfl (X.ZQ 9 rfl rfl (fun _ => rfl) (fun _ => rfl) (X.ZQ 9 rfl rfl (fun _ => rfl) (fun _ => rfl) (gb9 rfl rfl rfl zL))))
    replace hM := za h_12 hM
    refine GS.exit rfl ?_
    refine GS.endB ?_
    obtain ⟨y_3, hM, hy⟩ := ZN hM
    rw [hr_3 _ hy.symm] at hM
    exact X.gc [some 0, some 1, some 2] (hj_5 (more2, m5) hM) rfl rfl rfl (ga rfl rfl) (gb9 rfl rfl rfl (X.ZQ 9 rfl rfl (fun _ => rfl) (fun _ => rfl) (X.ZQ 9 rfl rfl (fun _ => rfl) (fun _ => rfl) zL)))
   replace hM := za h_8 hM
   refine GS.exit rfl ?_
   refine GS.endB ?_
   have hE := Option.some.inj hM
   replace hE := hr_2 _ hE.symm
   exact X.gc [some 0, some 1, some 2] (hc_3 (more3, m6) hE.symm) rfl rfl rfl (ga rfl rfl) (gb9 rfl rfl rfl (X.ZQ 9 rfl rfl (fun _ => rfl) (fun _ => rfl) (X.ZQ 9 rfl rfl (fun _ => rfl) (fun _ => rfl) zL)))
  replace hM := za h_7 hM
  refine GS.exit rfl ?_
  obtain ⟨y_1, hM, hy⟩ := ZN hM
  rw [hr_1 _ hy.symm] at hM
  exact X.gc [some 0, some 1] (hj_2 m7 hM) rfl rfl rfl (ga rfl rfl) (gb9 rfl rfl rfl (X.ZQ 9 rfl rfl (fun _ => rfl) (fun _ => rfl) zL))
 intro hj_1
 refine GS.block ?_
 refine X.gc [some 1, some 2, some 3] (X.loop (σ := (Int × (List (Int × Bool)) × (List (Int × Int)))) (fun v => ⟨[(1, (V.sl (List.map zF l))), (4, (V.ptr 0 0 0)), (8, (V.fptr [(zS y1)] 0 0)), (11, (V.map 1)), (12, (V.map 2)), (40, (V.sl (List.map V.i y2.1))), (41, (V.i (y2.1.length : Int))), (42, (V.i v.1))], [.rows 2 [(V.agg [V.nil, V.nil])], .map (List.map (fun p : Int × Bool => V.i p.1) v.2.1) (List.map (fun p : Int × Bool => V.b p.2) v.2.1), .map (List.map (fun p : Int × Int => V.i p.1) v.2.2) (List.map (fun p : Int × Int => V.i p.2) v.2.2)], 0, none, 118⟩) hM ?_ rfl) rfl rfl rfl (ga rfl rfl) (gb9 rfl rfl rfl (X.ZQ 9 rfl rfl (fun _ => rfl) (fun _ => rfl) (X.ZQ 9 rfl rfl (fun _ => rfl) (fun _ => rfl) zL)))
 rintro ⟨x5, m10, m11⟩ b_1 hM hc_8 hr_1
 rw [qJ] at hM
 refine X.sq (X.q rfl (GS.zA (GS.seq ?_)))
 refine X.cond rfl (fun h_16 => ?_) (fun h_16 => ?_)
 ·replace hM := zZ h_16 hM
  refine GS.skip (GS.seq ?_)
  refine X.join (τ := (List (Int × Bool)) × (List (Int × Int))) (fun v => Jt x5 v.1 v.2 = some b_1) (fun v => ⟨[(1, (V.sl (List.map zF l))), (4, (V.ptr 0 0 0)), (8, (V.fptr [(zS y1)] 0 0)), (11, (V.map 1)), (12, (V.map 2)), (40, (V.sl (List.map V.i y2.1))), (41, (V.i (y2.1.length : Int))), (42, (V.i x5))], [.rows 2 [(V.agg [V.nil, V.nil])], .map (List.map (fun p : Int × Bool => V.i p.1) v.1) (List.map (fun p : Int × Bool => V.b p.2) v.1), .map (List.map (fun p : Int × Int => V.i p.1) v.2) (List.map (fun p : Int × Int => V.i p.2) v.2)], 0, none, 118⟩) ?_ ?_
  ·rintro ⟨m8, m9⟩ hM
   replace hM : Jt x5 m8 m9 = some b_1 := hM
   unfold Jt at hM
   refine GS.region ?_
   refine X.opR rfl (X.addE rfl rfl) rfl (X.q rfl (GS.zA ?_))
   have hE := Option.some.inj hM
   exact X.gc [some 0, some 1, some 2] (hc_8 (w64 (x5 + 1), m8, m9) hE.symm) rfl rfl rfl (ga rfl rfl) (gb9 rfl rfl rfl (X.ZQ 9 rfl rfl (fun _ => rfl) (fun _ => rfl) (X.ZQ 9 rfl rfl (fun _ => rfl) (fun _ => rfl) zL)))
  intro hj_9
  refine GS.block (GS.seq ?_)
  obtain ⟨x4, h_17, hM⟩ := zH hM
  refine GS.region (X.q rfl ?_)
  refine X.opR rfl (X.ZC (f := V.i) h_17 (fun _ => rfl) rfl rfl rfl rfl) rfl ?_
  refine X.opR rfl (X.ZS h_17 rfl rfl rfl) rfl (X.q rfl (X.q rfl ?_))
  refine X.nq ?_
  iterate 5 refine X.q rfl ?_
  refine X.opR rfl (X.lenF rfl rfl rfl) rfl (X.q rfl (GS.zA ?_))
  refine X.cond rfl (fun h_18 => ?_) (fun h_18 => ?_)
  ·replace hM := zZ h_18 hM
   refine GS.region (X.q rfl (X.q rfl ?_))
   refine X.op0W rfl (X.putW (f := V.i) (g := V.b) (pos := posI) (k := x5) (v := true) (l := m10) X.qt (X.zDR _) rfl rfl rfl rfl rfl rfl rfl) rfl (GS.zA ?_)
   refine GS.endB ?_
   exact X.gc [some 0, some 1, some 2] (hj_9 ((putM posI m10 x5 true), m11) hM) rfl rfl rfl (ga rfl rfl) (gb9 rfl rfl rfl (X.ZQ 9 rfl rfl (fun _ => rfl) (fun _ => rfl) (X.ZQ 9 rfl rfl (fun _ => rfl) (fun _ => rfl) zL)))
  replace hM := za h_18 hM
  refine GS.region (X.q rfl (X.q rfl (X.q rfl ?_)))
  refine X.op0W rfl (X.putW (f := V.i) (g := V.i) (pos := posI) (k := x4) (v := x5) (l := m11) X.qt (X.zDR _) rfl rfl rfl rfl rfl rfl rfl) rfl (GS.zA ?_)
  refine GS.endB ?_
  exact X.gc [some 0, some 1, some 2] (hj_9 (m10, (putM posI m11 x4 x5)) hM) rfl rfl rfl (ga rfl rfl) (gb9 rfl rfl rfl (X.ZQ 9 rfl rfl (fun _ => rfl) (fun _ => rfl) (X.ZQ 9 rfl rfl (fun _ => rfl) (fun _ => rfl) zL)))
 replace hM := za h_16 hM
 refine GS.exit rfl ?_
 obtain ⟨y_1, hM, hy⟩ := ZN hM
 rw [hr_1 _ hy.symm] at hM
 exact X.gc [some 0, some 1, some 2] (hj_1 (m10, m11) hM) rfl rfl rfl (ga rfl rfl) (gb9 rfl rfl rfl (X.ZQ 9 rfl rfl (fun _ => rfl) (fun _ => rfl) (X.ZQ 9 rfl rfl (fun _ => rfl) (fun _ => rfl) zL)))
theorem Yr {s1 : (List Int)} {s2 : (List Int)} {r : Bool} (hM : YX s1 s2 = some r) : Ct Tryz.prog 71 [(V.sl (List.map V.i s1)), (V.sl (List.map V.i s2))] (V.b r) := by
 refine ze ZK rfl ?_
 unfold YX at hM
 refine X.sq (X.q rfl (GS.zA (GS.seq (X.sq (X.q rfl ?_)))))
 refine X.opR rfl (X.lenF rfl rfl rfl) rfl (X.q rfl ?_)
 refine X.opR rfl (X.lenF rfl rfl rfl) rfl (X.q rfl (GS.zA ?_))
 refine X.cond rfl (fun h_1 => ?_) (fun h_1 => ?_)
 ·replace hM := zZ h_1 hM
  refine X.sq (X.q rfl (GS.zA ?_))
  cases hM
  exact GS.ret ⟨_, rfl, ⟨30, rfl⟩⟩
 replace hM := za h_1 hM
 refine GS.skip (GS.seq (X.sq (X.q rfl ?_)))
 refine X.opR rfl (X.lenF rfl rfl rfl) rfl (X.q rfl (GS.zA ?_))
 refine X.join (τ := Unit) (fun v => Jv = some r) (fun v => ⟨[], [], 0, none, 26⟩) ?_ ?_
 ·intro _ hM
  replace hM : Jv = some r := hM
  unfold Jv at hM
  refine X.sq (X.q rfl (GS.zA ?_))
  cases hM
  exact GS.ret ⟨_, rfl, ⟨30, rfl⟩⟩
 intro hj_1
 refine GS.block ?_
 refine X.gc [] (X.loop (σ := Int) (fun v => ⟨[(0, (V.sl (List.map V.i s1))), (1, (V.sl (List.map V.i s2))), (12, (V.i (s1.length : Int))), (13, (V.i v))], [], 0, none, 26⟩) hM ?_ rfl) rfl rfl rfl (ga rfl rfl) (zL)
 intro x2 b_1 hM hc_2 hr_1
 rw [qg] at hM
 refine X.sq (X.q rfl (GS.zA (GS.seq ?_)))
 refine X.cond rfl (fun h_2 => ?_) (fun h_2 => ?_)
 ·replace hM := zZ h_2 hM
  refine GS.skip (GS.seq (GS.block (X.sq (X.q rfl (X.q rfl ?_)))))
  refine GS.zA (GS.seq ?_)
  obtain ⟨x, h_3, hM⟩ := zH hM
  obtain ⟨x1, h_4, hM⟩ := zH hM
  refine X.drawc (by kernel_rfl) rfl ?_
  iterate 2 refine X.cop rfl rfl rfl rfl ?_
  refine X.cop rfl (X.ZC (f := V.i) h_3 (fun _ => rfl) rfl rfl rfl rfl) rfl rfl ?_
  refine X.cop rfl (X.ZS h_3 rfl rfl rfl) rfl rfl ?_
  iterate 2 refine X.cop rfl rfl rfl rfl ?_
  refine X.cop rfl (X.ZC (f := V.i) h_4 (fun _ => rfl) rfl rfl rfl rfl) rfl rfl ?_
  refine X.cop rfl (X.ZS h_4 rfl rfl rfl) rfl rfl ?_
  refine X.cop rfl rfl rfl rfl ?_
  refine X.cnil ?_
  refine X.norm [(0, (V.sl (List.map V.i s1))), (1, (V.sl (List.map V.i s2))), (12, (V.i (s1.length : Int))), (13, (V.i x2)), (24, (V.b (!decide (x = x1))))] ?_ rfl (sr rfl)
  refine X.cond rfl (fun h_5 => ?_) (fun h_5 => ?_)
  ·replace hM := zZ h_5 hM
   refine X.sq (X.q rfl (GS.zA ?_))
   have hE := Option.some.inj hM
   replace hE := hr_1 _ hE.symm
   subst hE
   exact GS.ret ⟨_, rfl, ⟨30, rfl⟩⟩
  replace hM := za h_5 hM
  refine GS.skip ?_
  refine GS.endB (GS.region ?_)
  refine X.opR rfl (X.addE rfl rfl) rfl (X.q rfl (GS.zA ?_))
  have hE := Option.some.inj hM
  exact X.gc [] (hc_2 (w64 (x2 + 1)) hE.symm) rfl rfl rfl (ga rfl rfl) (zL)
 replace hM := za h_2 hM
 refine GS.exit rfl ?_
 obtain ⟨y_1, hM, hy⟩ := ZN hM
 rw [hr_1 _ hy.symm] at hM
 exact X.gc [] (hj_1 () hM) rfl rfl rfl (Jq) (zL)
theorem zCH (a b : zE) : eqA CC.ty 46 (zC a) (zC b) = some (decide (a = b)) := by
 refine (X.eqa rfl rfl (X.eqp rfl rfl rfl (X.eqp rfl rfl rfl X.eqn'))).trans ?_
 congr 1
 rw [Bool.eq_iff_iff]
 simp only [Bool.and_eq_true, decide_eq_true_eq, beq_iff_eq, and_true]
 constructor
 ·intro h
  obtain ⟨a1, a2⟩ := a
  obtain ⟨b3, b4⟩ := b
  simp at h
  simp [h]
 ·rintro rfl
  simp
theorem Yz {s1 : (List zE)} {s2 : (List zE)} {r : Bool} (hM : JY s1 s2 = some r) : Ct Tryz.prog 72 [(V.sl (List.map zC s1)), (V.sl (List.map zC s2))] (V.b r) := by
 refine ze ZK rfl ?_
 unfold JY at hM
 refine X.sq (X.q rfl (GS.zA (GS.seq (X.sq (X.q rfl ?_)))))
 refine X.opR rfl (X.lenF rfl rfl rfl) rfl (X.q rfl ?_)
 refine X.opR rfl (X.lenF rfl rfl rfl) rfl (X.q rfl (GS.zA ?_))
 refine X.cond rfl (fun h_1 => ?_) (fun h_1 => ?_)
 ·replace hM := zZ h_1 hM
  refine X.sq (X.q rfl (GS.zA ?_))
  cases hM
  exact GS.ret ⟨_, rfl, ⟨30, rfl⟩⟩
 replace hM := za h_1 hM
 refine GS.skip (GS.seq (X.sq (X.q rfl ?_)))
 refine X.opR rfl (X.lenF rfl rfl rfl) rfl (X.q rfl (GS.zA ?_))
 refine X.join (τ := Unit) (fun v => jq = some r) (fun v => ⟨[], [], 0, none, 26⟩) ?_ ?_
 ·intro _ hM
  replace hM : jq = some r := hM
  unfold jq at hM
  refine X.sq (X.q rfl (GS.zA ?_))
  cases hM
  exact GS.ret ⟨_, rfl, ⟨30, rfl⟩⟩
 intro hj_1
 refine GS.block ?_
 refine X.gc [] (X.loop (σ := Int) (fun v => ⟨[(0, (V.sl (List.map zC s1))), (1, (V.sl (List.map zC s2))), (12, (V.i (s1.length : Int))), (13, (V.i v))], [], 0, none, 26⟩) hM ?_ rfl) rfl rfl rfl (ga rfl rfl) (zL)
 intro x2 b_1 hM hc_2 hr_1
 rw [Yx] at hM
 refine X.sq (X.q rfl (GS.zA (GS.seq ?_)))
 refine X.cond rfl (fun h_2 => ?_) (fun h_2 => ?_)
 ·replace hM := zZ h_2 hM
  refine GS.skip (GS.seq (GS.block (X.sq (X.q rfl (X.q rfl ?_)))))
  refine GS.zA (GS.seq ?_)
  obtain ⟨x, h_3, hM⟩ := zH hM
  obtain ⟨x1, h_4, hM⟩ := zH hM
  refine X.drawc (by kernel_rfl) rfl ?_
  iterate 2 refine X.cop rfl rfl rfl rfl ?_
  refine X.cop rfl (X.ZC (f := zC) h_3 (fun _ => rfl) rfl rfl rfl rfl) rfl rfl ?_
  refine X.cop rfl (X.ZS h_3 rfl rfl rfl) rfl rfl ?_
  iterate 2 refine X.cop rfl rfl rfl rfl ?_
  refine X.cop rfl (X.ZC (f := zC) h_4 (fun _ => rfl) rfl rfl rfl rfl) rfl rfl ?_
  refine X.cop rfl (X.ZS h_4 rfl rfl rfl) rfl rfl ?_
  refine X.cop rfl (X.neqE (zCH x x1) rfl rfl) rfl rfl ?_
  refine X.cnil ?_
  refine X.norm [(0, (V.sl (List.map zC s1))), (1, (V.sl (List.map zC s2))), (12, (V.i (s1.length : Int))), (13, (V.i x2)), (24, (V.b (!decide (x = x1))))] ?_ rfl (sr rfl)
  refine X.cond rfl (fun h_5 => ?_) (fun h_5 => ?_)
  ·replace hM := zZ h_5 hM
   refine X.sq (X.q rfl (GS.zA ?_))
   have hE := Option.some.inj hM
   replace hE := hr_1 _ hE.symm
   subst hE
   exact GS.ret ⟨_, rfl, ⟨30, rfl⟩⟩
  replace hM := za h_5 hM
  refine GS.skip ?_
  refine GS.endB (GS.region ?_)
  refine X.opR rfl (X.addE rfl rfl) rfl (X.q rfl (GS.zA ?_))
  have hE := Option.some.inj hM
  exact X.gc [] (hc_2 (w64 (x2 + 1)) hE.symm) rfl rfl rfl (ga rfl rfl) (zL)
 replace hM := za h_2 hM
 refine GS.exit rfl ?_
 obtain ⟨y_1, hM, hy⟩ := ZN hM
 rw [hr_1 _ hy.symm] at hM
 exact X.gc [] (hj_1 () hM) rfl rfl rfl (Jq) (zL)
set_option maxHeartbeats 4000000 in
theorem zC2 {h : zK} {l : (List zM)} {x : ZE} {r : Int × Int} (hM : yh h l x = some r) : Ct Tryz.prog 28 [(zG h), (V.sl (List.map zF l)), (Jj x)] (V.tup [(V.i r.1), (V.i r.2)]) := by
 refine ze ZK rfl ?_
 unfold yh at hM
 refine X.sq ?_
 iterate 2 refine X.opW rfl rfl rfl rfl ?_
 refine X.q rfl (X.q rfl ?_)
 refine GS.zA ?_
 iterate 2 refine GS.seq ?_
 obtain ⟨y, h_1, hM⟩ := zH hM
 refine GS.region (X.q rfl (X.q rfl ?_))
 refine X.call (ja h_1) rfl rfl rfl (.cons (.shut (n := 9) rfl) (.cons (.shut (n := 9) rfl) .nil)) (X.q rfl (X.nq (X.q rfl (X.q rfl ?_))))
 refine GS.zA ?_
 refine X.cond rfl (fun h_2 => ?_) (fun h_2 => ?_)
 ·replace hM := zZ h_2 hM
  refine X.sq (X.q rfl (X.q rfl (X.q rfl ?_)))
  refine GS.zA ?_
  cases hM
  exact GS.ret ⟨_, rfl, ⟨30, rfl⟩⟩
 replace hM := za h_2 hM
 refine GS.skip (X.sq ?_)
 refine X.opW rfl rfl rfl rfl (X.q rfl (GS.zA (GS.seq (X.sq (X.q rfl (X.q rfl ?_))))))
 refine X.opR rfl (X.lenF rfl rfl rfl) rfl (X.q rfl (GS.zA ?_))
 refine X.join (τ := (List (Int × Bool))) (fun v => jn h l x v = some r) (fun v => ⟨[(1, (V.sl (List.map zF l))), (3, (V.ptr 0 0 0)), (5, (V.ptr 1 0 0)), (9, (V.map 2))], [.rows 6 [(zG h)], .rows 2 [(Jj x)], .map (List.map (fun p : Int × Bool => V.i p.1) v) (List.map (fun p : Int × Bool => V.b p.2) v)], 0, none, 77⟩) ?_ ?_
 ·intro m hM
  replace hM : jn h l x m = some r := hM
  unfold jn at hM
  refine GS.seq ?_
  obtain ⟨y1, h_3, hM⟩ := zH hM
  obtain ⟨y2, h_4, hM⟩ := zH hM
  refine GS.region (X.q rfl (X.q rfl ?_))
  refine X.call (qE h_3) rfl rfl rfl (.cons (.shut (n := 9) rfl) (.cons (.shut (n := 9) rfl) .nil)) (X.q rfl ?_)
  refine X.zFJ (f := V.i) (g := V.b) (pa := fun p => p.1) (pb := fun p => p.2) (l := m) 39 rfl rfl rfl (fun _ => rfl) (fun _ => rfl) ?_
  refine X.call (qT h_4) rfl rfl rfl (.cons (.shut (n := 9) rfl) (.cons (.shut (n := 9) rfl) .nil)) ?_
  refine X.opW (H' := [.rows 6 [(zG h)], .rows 2 [(Jj x)], .dead, .rows 2 [(V.agg [V.nil, V.nil])]]) rfl rfl rfl rfl ?_
  refine X.op0W (H' := [.rows 6 [(zG h)], .rows 2 [(Jj x)], .dead, .rows 2 [(Jj y2)]]) rfl rfl rfl (GS.zA ?_)
  iterate 2 refine GS.seq ?_
  obtain ⟨y3, h_5, hM⟩ := zCA hM
  obtain ⟨y4, h_6, hM⟩ := zCA hM
  refine GS.region ?_
  refine X.mid [(5, (V.ptr 1 0 0)), (69, (V.b ((((decide ((x.Calls.length : Int) = 0)) || (!y3)) || (!y4)) || (decide ((x.Calls.length : Int) ≤ (x.Slots.length : Int))))))] ?_ ?_
  ·intro hg
   refine X.split (decide ((x.Calls.length : Int) = 0)) (fun h_7 => ?_) (fun h_7 => ?_)
   ·iterate 2 refine X.q rfl ?_
    refine X.opR rfl (X.lenF rfl rfl rfl) rfl (X.q rfl (X.q rfl ?_))
    iterate 6 refine X.off (X.ZL rfl rfl rfl h_7) rfl ?_
    refine X.opR rfl (X.zd (y := !y3) rfl h_7 rfl) rfl (X.q rfl ?_)
    iterate 6 refine X.off (X.ZL rfl rfl rfl (X.zU h_7)) rfl ?_
    refine X.opR rfl (X.zd (y := !y4) rfl (X.zU h_7) rfl) rfl (X.q rfl ?_)
    iterate 7 refine X.off (X.ZL rfl rfl rfl (X.zU (X.zU h_7))) rfl ?_
    refine X.opR rfl (X.zd (y := decide ((x.Calls.length : Int) ≤ (x.Slots.length : Int))) rfl (X.zU (X.zU h_7)) rfl) rfl (GS.zA ?_)
    exact X.norm _ hg rfl (sr rfl)
   refine X.split (((decide ((x.Calls.length : Int) = 0)) || (!y3))) (fun h_8 => ?_) (fun h_8 => ?_)
   ·iterate 2 refine X.q rfl ?_
    refine X.opR rfl (X.lenF rfl rfl rfl) rfl (X.q rfl (X.q rfl ?_))
    iterate 4 refine X.opR (X.on_f rfl rfl rfl h_7) rfl rfl ?_
    refine X.call (Yr (h_5 (X.nt h_7))) (X.on_f rfl rfl rfl h_7) rfl rfl (.cons (.shut (n := 9) rfl) (.cons (.shut (n := 9) rfl) .nil)) ?_
    refine X.opR (X.on_f rfl rfl rfl h_7) rfl rfl ?_
    refine X.opR rfl (X.zb (y := !y3) rfl h_7 rfl) rfl (X.q rfl ?_)
    iterate 6 refine X.off (X.ZL rfl rfl rfl h_8) rfl ?_
    refine X.opR rfl (X.zd (y := !y4) rfl h_8 rfl) rfl (X.q rfl ?_)
    iterate 7 refine X.off (X.ZL rfl rfl rfl (X.zU h_8)) rfl ?_
    refine X.opR rfl (X.zd (y := decide ((x.Calls.length : Int) ≤ (x.Slots.length : Int))) rfl (X.zU h_8) rfl) rfl (GS.zA ?_)
    exact X.norm _ hg rfl (sr rfl)
   refine X.split ((((decide ((x.Calls.length : Int) = 0)) || (!y3)) || (!y4))) (fun h_9 => ?_) (fun h_9 => ?_)
   ·iterate 2 refine X.q rfl ?_
    refine X.opR rfl (X.lenF rfl rfl rfl) rfl (X.q rfl (X.q rfl ?_))
    iterate 4 refine X.opR (X.on_f rfl rfl rfl h_7) rfl rfl ?_
    refine X.call (Yr (h_5 (X.nt h_7))) (X.on_f rfl rfl rfl h_7) rfl rfl (.cons (.shut (n := 9) rfl) (.cons (.shut (n := 9) rfl) .nil)) ?_
    refine X.opR (X.on_f rfl rfl rfl h_7) rfl rfl ?_
    refine X.opR rfl (X.zb (y := !y3) rfl h_7 rfl) rfl (X.q rfl ?_)
    iterate 4 refine X.opR (X.on_f rfl rfl rfl h_8) rfl rfl ?_
    refine X.call (Yz (h_6 (X.nt h_8))) (X.on_f rfl rfl rfl h_8) rfl rfl (.cons (.shut (n := 9) rfl) (.cons (.shut (n := 9) rfl) .nil)) ?_
    refine X.opR (X.on_f rfl rfl rfl h_8) rfl rfl ?_
    refine X.opR rfl (X.zb (y := !y4) rfl h_8 rfl) rfl (X.q rfl ?_)
    iterate 7 refine X.off (X.ZL rfl rfl rfl h_9) rfl ?_
    refine X.opR rfl (X.zd (y := decide ((x.Calls.length : Int) ≤ (x.Slots.length : Int))) rfl h_9 rfl) rfl (GS.zA ?_)
    exact X.norm _ hg rfl (sr rfl)
   refine X.q rfl (X.q rfl ?_)
   refine X.opR rfl (X.lenF rfl rfl rfl) rfl (X.q rfl (X.q rfl ?_))
   iterate 4 refine X.opR (X.on_f rfl rfl rfl h_7) rfl rfl ?_
   refine X.call (Yr (h_5 (X.nt h_7))) (X.on_f rfl rfl rfl h_7) rfl rfl (.cons (.shut (n := 9) rfl) (.cons (.shut (n := 9) rfl) .nil)) ?_
   refine X.opR (X.on_f rfl rfl rfl h_7) rfl rfl ?_
   refine X.opR rfl (X.zb (y := !y3) rfl h_7 rfl) rfl (X.q rfl ?_)
   iterate 4 refine X.opR (X.on_f rfl rfl rfl h_8) rfl rfl ?_
   refine X.call (Yz (h_6 (X.nt h_8))) (X.on_f rfl rfl rfl h_8) rfl rfl (.cons (.shut (n := 9) rfl) (.cons (.shut (n := 9) rfl) .nil)) ?_
   refine X.opR (X.on_f rfl rfl rfl h_8) rfl rfl ?_
   refine X.opR rfl (X.zb (y := !y4) rfl h_8 rfl) rfl (X.q rfl ?_)
   iterate 2 refine X.opR (X.on_f rfl rfl rfl h_9) rfl rfl ?_
   refine X.opR (X.on_f rfl rfl rfl h_9) (X.lenF rfl rfl rfl) rfl ?_
   iterate 2 refine X.opR (X.on_f rfl rfl rfl h_9) rfl rfl ?_
   refine X.opR (X.on_f rfl rfl rfl h_9) (X.lenF rfl rfl rfl) rfl ?_
   refine X.opR (X.on_f rfl rfl rfl h_9) rfl rfl ?_
   refine X.opR rfl (X.zb (y := decide ((x.Calls.length : Int) ≤ (x.Slots.length : Int))) rfl h_9 rfl) rfl (GS.zA ?_)
   exact X.norm _ hg rfl (sr rfl)
  refine X.cond rfl (fun h_10 => ?_) (fun h_10 => ?_)
  ·replace hM := zZ h_10 hM
   refine X.sq (X.q rfl (X.q rfl ?_))
   refine GS.zA ?_
   cases hM
   exact GS.ret ⟨_, rfl, ⟨30, rfl⟩⟩
  replace hM := za h_10 hM
  refine GS.skip (X.sq (X.q rfl (X.q rfl ?_)))
  refine X.opR rfl (X.lenF rfl rfl rfl) rfl (X.q rfl (X.q rfl ?_))
  refine X.opR rfl (X.lenF rfl rfl rfl) rfl ?_
  refine X.opR rfl (X.subE rfl rfl) rfl (X.q rfl (X.q rfl ?_))
  refine GS.zA ?_
  cases hM
  exact GS.ret ⟨_, rfl, ⟨30, rfl⟩⟩
 intro hj_1
 refine GS.block ?_
 refine X.gc [some 0, some 1, some 2] (X.loop (σ := (Int × (List (Int × Bool)))) (fun v => ⟨[(1, (V.sl (List.map zF l))), (3, (V.ptr 0 0 0)), (5, (V.ptr 1 0 0)), (9, (V.map 2)), (22, (V.sl (List.map V.i x.Calls))), (23, (V.i (x.Calls.length : Int))), (24, (V.i v.1))], [.rows 6 [(zG h)], .rows 2 [(Jj x)], .map (List.map (fun p : Int × Bool => V.i p.1) v.2) (List.map (fun p : Int × Bool => V.b p.2) v.2)], 0, none, 77⟩) hM ?_ rfl) rfl rfl rfl (ga rfl rfl) (gb9 rfl rfl rfl (gb9 rfl rfl rfl (X.ZQ 9 rfl rfl (fun _ => rfl) (fun _ => rfl) zL)))
 rintro ⟨x2, m2⟩ b_1 hM hc_2 hr_1
 rw [yU] at hM
 refine X.sq (X.q rfl (GS.zA (GS.seq ?_)))
 refine X.cond rfl (fun h_11 => ?_) (fun h_11 => ?_)
 ·replace hM := zZ h_11 hM
  refine GS.skip (GS.seq ?_)
  refine X.join (τ := (List (Int × Bool))) (fun v => jL x2 v = some b_1) (fun v => ⟨[(1, (V.sl (List.map zF l))), (3, (V.ptr 0 0 0)), (5, (V.ptr 1 0 0)), (9, (V.map 2)), (22, (V.sl (List.map V.i x.Calls))), (23, (V.i (x.Calls.length : Int))), (24, (V.i x2))], [.rows 6 [(zG h)], .rows 2 [(Jj x)], .map (List.map (fun p : Int × Bool => V.i p.1) v) (List.map (fun p : Int × Bool => V.b p.2) v)], 0, none, 77⟩) ?_ ?_
  ·intro m1 hM
   replace hM : jL x2 m1 = some b_1 := hM
   unfold jL at hM
   refine GS.region ?_
   refine X.opR rfl (X.addE rfl rfl) rfl (X.q rfl (GS.zA ?_))
   have hE := Option.some.inj hM
   exact X.gc [some 0, some 1, some 2] (hc_2 (w64 (x2 + 1), m1) hE.symm) rfl rfl rfl (ga rfl rfl) (gb9 rfl rfl rfl (gb9 rfl rfl rfl (X.ZQ 9 rfl rfl (fun _ => rfl) (fun _ => rfl) zL)))
  intro hj_3
  refine GS.block (GS.seq ?_)
  obtain ⟨x1, h_12, hM⟩ := zH hM
  refine GS.region ?_
  refine X.opR rfl (X.ZC (f := V.i) h_12 (fun _ => rfl) rfl rfl rfl rfl) rfl ?_
  refine X.opR rfl (X.ZS h_12 rfl rfl rfl) rfl (X.q rfl (GS.zA (GS.seq ?_)))
  obtain ⟨y5, h_13, hM⟩ := zH hM
  refine GS.region (X.q rfl (X.q rfl ?_))
  refine X.call (Zn h_13) rfl rfl rfl (.cons (.shut (n := 9) rfl) (.cons (.shut (n := 9) rfl) (.cons (.shut (n := 9) rfl) .nil))) (X.q rfl (X.nq (X.q rfl (X.q rfl ?_))))
  refine GS.zA ?_
  refine X.cond rfl (fun h_14 => ?_) (fun h_14 => ?_)
  ·replace hM := zZ h_14 hM
   refine GS.region (X.q rfl (X.q rfl ?_))
   refine X.op0W rfl (X.putW (f := V.i) (g := V.b) (pos := posI) (k := y5) (v := true) (l := m2) X.qt (X.zDR _) rfl rfl rfl rfl rfl rfl rfl) rfl (GS.zA ?_)
   refine GS.endB ?_
   exact X.gc [some 0, some 1, some 2] (hj_3 (putM posI m2 y5 true) hM) rfl rfl rfl (ga rfl rfl) (gb9 rfl rfl rfl (gb9 rfl rfl rfl (X.ZQ 9 rfl rfl (fun _ => rfl) (fun _ => rfl) zL)))
  replace hM := za h_14 hM
  refine GS.skip ?_
  refine GS.endB ?_
  exact X.gc [some 0, some 1, some 2] (hj_3 m2 hM) rfl rfl rfl (ga rfl rfl) (gb9 rfl rfl rfl (gb9 rfl rfl rfl (X.ZQ 9 rfl rfl (fun _ => rfl) (fun _ => rfl) zL)))
 replace hM := za h_11 hM
 refine GS.exit rfl ?_
 obtain ⟨y_1, hM, hy⟩ := ZN hM
 rw [hr_1 _ hy.symm] at hM
 exact X.gc [some 0, some 1, some 2] (hj_1 m2 hM) rfl rfl rfl (ga rfl rfl) (gb9 rfl rfl rfl (gb9 rfl rfl rfl (X.ZQ 9 rfl rfl (fun _ => rfl) (fun _ => rfl) zL)))
theorem zCG (a b : zD) : eqA CC.ty 32 (zI a) (zI b) = some (decide (a = b)) := by
 refine (X.eqa rfl rfl (X.eqp rfl rfl rfl (X.eqp rfl rfl rfl X.eqn'))).trans ?_
 congr 1
 rw [Bool.eq_iff_iff]
 simp only [Bool.and_eq_true, decide_eq_true_eq, beq_iff_eq, and_true]
 constructor
 ·intro h
  obtain ⟨a1, a2⟩ := a
  obtain ⟨b3, b4⟩ := b
  simp at h
  simp [h]
 ·rintro rfl
  simp
theorem QU (a b : zO) : eqA CC.ty 87 (zR a) (zR b) = some (decide (a = b)) := by
 refine (X.eqa rfl rfl (X.eqp rfl rfl rfl (X.eqp rfl rfl (X.eqs rfl rfl (X.eqp rfl rfl rfl (X.eqp rfl rfl rfl X.eqn'))) (X.eqp rfl rfl (X.eqs rfl rfl (X.eqp rfl rfl rfl (X.eqp rfl rfl rfl X.eqn'))) X.eqn')))).trans ?_
 congr 1
 rw [Bool.eq_iff_iff]
 simp only [Bool.and_eq_true, decide_eq_true_eq, beq_iff_eq, and_true]
 constructor
 ·intro h
  obtain ⟨a1, ⟨a2, a3⟩, ⟨a4, a5⟩⟩ := a
  obtain ⟨b6, ⟨b7, b8⟩, ⟨b9, b10⟩⟩ := b
  simp at h
  simp [h]
 ·rintro rfl
  simp
set_option maxHeartbeats 4000000 in
theorem QC {r : Bool} (hM : Jh = some r) : Ct Tryz.prog 8 [] (V.b r) := by
 refine ze ZK rfl ?_
 unfold Jh at hM
 refine X.sq (X.q rfl (X.nq ?_))
 refine X.call zEK rfl rfl rfl .nil ?_
 refine X.opW rfl rfl rfl rfl ?_
 refine X.op0W rfl rfl rfl (GS.zA (GS.seq ?_))
 replace hM := zH hM
 obtain ⟨y, h_1, hM⟩ := hM
 refine GS.region (X.q rfl ?_)
 refine X.call (zFk h_1) rfl rfl rfl (.cons (.shut (n := 9) rfl) (.cons (.shut (n := 9) rfl) (.cons (.shut (n := 9) rfl) .nil))) ?_
 iterate 5 refine X.q rfl ?_
 refine GS.zA (GS.seq ?_)
 replace hM := zH hM
 obtain ⟨y1, h_2, hM⟩ := hM
 refine GS.region (X.q rfl (X.q rfl ?_))
 refine X.call (zBy h_2) rfl rfl rfl (.cons (.shut (n := 9) rfl) (.cons (.shut (n := 9) rfl) (.cons (.shut (n := 9) rfl) (.cons (.shut (n := 9) rfl) .nil)))) ?_
 iterate 7 refine X.q rfl ?_
 refine GS.zA (GS.seq ?_)
 replace hM := zH hM
 obtain ⟨y2, h_3, hM⟩ := hM
 refine GS.region (X.q rfl (X.q rfl ?_))
 refine X.call (zBy h_3) rfl rfl rfl (.cons (.shut (n := 9) rfl) (.cons (.shut (n := 9) rfl) (.cons (.shut (n := 9) rfl) (.cons (.shut (n := 9) rfl) .nil)))) ?_
 iterate 7 refine X.q rfl ?_
 refine GS.zA (GS.seq ?_)
 replace hM := zH hM
 obtain ⟨y3, h_4, hM⟩ := hM
 replace hM := zH hM
 obtain ⟨x, h_5, hM⟩ := hM
 replace hM := zH hM
 obtain ⟨y4, h_6, hM⟩ := hM
 refine X.draw (by kernel_rfl) ?_
 refine X.dop rfl rfl rfl rfl (by kernel_rfl) rfl rfl ?_
 refine X.dcall (YZ h_4) rfl rfl rfl (by kernel_rfl) rfl (.cons (.shut (n := 9) rfl) .nil) ?_
 refine X.dop rfl (X.ZC (f := zF) h_5 (fun _ => rfl) rfl rfl rfl rfl) rfl rfl (by kernel_rfl) rfl rfl ?_
 refine X.dop rfl (X.ZS h_5 rfl rfl rfl) rfl rfl (by kernel_rfl) rfl rfl ?_
 refine X.dop rfl rfl rfl rfl (by kernel_rfl) rfl rfl ?_
 refine X.dcall (zGf h_6) rfl rfl rfl (by kernel_rfl) rfl (.cons (.shut (n := 9) rfl) (.cons (.shut (n := 9) rfl) (.cons (.shut (n := 9) rfl) .nil))) ?_
 iterate 5 refine X.dop rfl rfl rfl rfl (by kernel_rfl) rfl rfl ?_
 refine X.dop0 rfl rfl rfl rfl (by kernel_rfl) rfl ?_
 iterate 2 refine X.dop rfl rfl rfl rfl (by kernel_rfl) rfl rfl ?_
 refine X.dnil ?_
 refine X.norm [(1, (V.ptr 0 0 0)), (2, (V.i y.1)), (3, (V.i y.2)), (4, (V.i y1.1)), (5, (V.b y1.2.1)), (6, (V.i y1.2.2)), (8, (V.b y2.2.1)), (9, (V.i y2.2.2)), (10, (V.ptr 1 0 0)), (11, (V.b y4.2.1)), (12, (V.i y4.2.2))] ?_ rfl (sr rfl)
 refine GS.seq ?_
 replace hM := zH hM
 obtain ⟨y5, h_7, hM⟩ := hM
 refine GS.region (X.q rfl (X.q rfl ?_))
 refine X.call (zFl h_7) rfl rfl rfl (.cons (.shut (n := 9) rfl) (.cons (.shut (n := 9) rfl) (.cons (.shut (n := 9) rfl) .nil))) ?_
 iterate 5 refine X.q rfl ?_
 refine GS.zA (GS.seq ?_)
 replace hM := zH hM
 obtain ⟨y6, h_8, hM⟩ := hM
 replace hM := zH hM
 obtain ⟨y7, h_9, hM⟩ := hM
 refine X.drawc (by kernel_rfl) rfl ?_
 refine X.cop rfl rfl rfl rfl ?_
 refine X.ccall (YZ h_8) rfl rfl rfl rfl (.cons (.shut (n := 9) rfl) .nil) ?_
 refine X.ccall (zCi h_9) rfl rfl rfl rfl (.cons (.shut (n := 9) rfl) (.cons (.shut (n := 9) rfl) .nil)) ?_
 iterate 5 refine X.cop rfl rfl rfl rfl ?_
 refine X.cnil ?_
 refine X.norm [(1, (V.ptr 0 0 0)), (2, (V.i y.1)), (3, (V.i y.2)), (4, (V.i y1.1)), (5, (V.b y1.2.1)), (6, (V.i y1.2.2)), (8, (V.b y2.2.1)), (9, (V.i y2.2.2)), (10, (V.ptr 1 0 0)), (11, (V.b y4.2.1)), (12, (V.i y4.2.2)), (13, (V.i y5.1)), (14, (V.i y5.2)), (15, (V.sl (List.map zR y7.1))), (16, (V.i y7.2))] ?_ rfl (sr rfl)
 refine GS.seq ?_
 replace hM := zH hM
 obtain ⟨y8, h_10, hM⟩ := hM
 replace hM := zH hM
 obtain ⟨y9, h_11, hM⟩ := hM
 refine X.draw (by kernel_rfl) ?_
 refine X.dop rfl rfl rfl rfl (by kernel_rfl) rfl rfl ?_
 refine X.dcall (YZ h_10) rfl rfl rfl (by kernel_rfl) rfl (.cons (.shut (n := 9) rfl) .nil) ?_
 refine X.dcall (zGh h_11) rfl rfl rfl (by kernel_rfl) rfl (.cons (.shut (n := 9) rfl) (.cons (.shut (n := 9) rfl) .nil)) ?_
 iterate 5 refine X.dop rfl rfl rfl rfl (by kernel_rfl) rfl rfl ?_
 refine X.dop0 rfl rfl rfl rfl (by kernel_rfl) rfl ?_
 iterate 2 refine X.dop rfl rfl rfl rfl (by kernel_rfl) rfl rfl ?_
 refine X.dnil ?_
 refine X.norm [(1, (V.ptr 0 0 0)), (2, (V.i y.1)), (3, (V.i y.2)), (4, (V.i y1.1)), (5, (V.b y1.2.1)), (6, (V.i y1.2.2)), (8, (V.b y2.2.1)), (9, (V.i y2.2.2)), (10, (V.ptr 1 0 0)), (11, (V.b y4.2.1)), (12, (V.i y4.2.2)), (13, (V.i y5.1)), (14, (V.i y5.2)), (15, (V.sl (List.map zR y7.1))), (16, (V.i y7.2)), (17, (V.ptr 2 0 0)), (18, (V.b y9.2.1)), (19, (V.i y9.2.2))] ?_ rfl (sr rfl)
 refine GS.seq ?_
 replace hM := zH hM
 obtain ⟨y10, h_12, hM⟩ := hM
 replace hM := zH hM
 obtain ⟨y11, h_13, hM⟩ := hM
 refine X.drawc (by kernel_rfl) rfl ?_
 refine X.cop rfl rfl rfl rfl ?_
 refine X.ccall (YZ h_12) rfl rfl rfl rfl (.cons (.shut (n := 9) rfl) .nil) ?_
 refine X.cop rfl rfl rfl rfl ?_
 refine X.ccall (zC2 h_13) rfl rfl rfl rfl (.cons (.shut (n := 9) rfl) (.cons (.shut (n := 9) rfl) (.cons (.shut (n := 9) rfl) .nil))) ?_
 iterate 5 refine X.cop rfl rfl rfl rfl ?_
 refine X.cnil ?_
 refine X.norm [(2, (V.i y.1)), (3, (V.i y.2)), (4, (V.i y1.1)), (5, (V.b y1.2.1)), (6, (V.i y1.2.2)), (8, (V.b y2.2.1)), (9, (V.i y2.2.2)), (10, (V.ptr 1 0 0)), (11, (V.b y4.2.1)), (12, (V.i y4.2.2)), (13, (V.i y5.1)), (14, (V.i y5.2)), (15, (V.sl (List.map zR y7.1))), (16, (V.i y7.2)), (17, (V.ptr 2 0 0)), (18, (V.b y9.2.1)), (19, (V.i y9.2.2)), (20, (V.i y11.1)), (21, (V.i y11.2))] ?_ rfl (sr rfl)
 refine GS.seq (X.sq ?_)
 refine X.mid [(2, (V.i y.1)), (4, (V.i y1.1)), (5, (V.b y1.2.1)), (8, (V.b y2.2.1)), (10, (V.ptr 1 0 0)), (11, (V.b y4.2.1)), (13, (V.i y5.1)), (15, (V.sl (List.map zR y7.1))), (17, (V.ptr 2 0 0)), (18, (V.b y9.2.1)), (20, (V.i y11.1)), (113, (V.b (((((((((!decide (y.2 = 0)) || (!decide (y1.2.2 = 0))) || (!decide (y2.2.2 = 0))) || (!decide (y4.2.2 = 0))) || (!decide (y5.2 = 0))) || (!decide (y7.2 = 0))) || (!decide (y9.2.2 = 0))) || (!decide (y11.2 = 0))) || (!decide ((y7.1.length : Int) = 3)))))] ?_ ?_
 ·intro hg
  refine X.split (!decide (y.2 = 0)) (fun h_14 => ?_) (fun h_14 => ?_)
  ·iterate 3 refine X.q rfl ?_
   iterate 2 refine X.off (X.ZL rfl rfl rfl h_14) rfl ?_
   refine X.opR rfl (X.zd (y := !decide (y1.2.2 = 0)) rfl h_14 rfl) rfl (X.q rfl ?_)
   iterate 2 refine X.off (X.ZL rfl rfl rfl (X.zU h_14)) rfl ?_
   refine X.opR rfl (X.zd (y := !decide (y2.2.2 = 0)) rfl (X.zU h_14) rfl) rfl (X.q rfl ?_)
   iterate 2 refine X.off (X.ZL rfl rfl rfl (X.zU (X.zU h_14))) rfl ?_
   refine X.opR rfl (X.zd (y := !decide (y4.2.2 = 0)) rfl (X.zU (X.zU h_14)) rfl) rfl (X.q rfl ?_)
   iterate 2 refine X.off (X.ZL rfl rfl rfl (X.zU (X.zU (X.zU h_14)))) rfl ?_
   refine X.opR rfl (X.zd (y := !decide (y5.2 = 0)) rfl (X.zU (X.zU (X.zU h_14))) rfl) rfl (X.q rfl ?_)
   iterate 2 refine X.off (X.ZL rfl rfl rfl (X.zU (X.zU (X.zU (X.zU h_14))))) rfl ?_
   refine X.opR rfl (X.zd (y := !decide (y7.2 = 0)) rfl (X.zU (X.zU (X.zU (X.zU h_14)))) rfl) rfl (X.q rfl ?_)
   iterate 2 refine X.off (X.ZL rfl rfl rfl (X.zU (X.zU (X.zU (X.zU (X.zU h_14)))))) rfl ?_
   refine X.opR rfl (X.zd (y := !decide (y9.2.2 = 0)) rfl (X.zU (X.zU (X.zU (X.zU (X.zU h_14))))) rfl) rfl (X.q rfl ?_)
   iterate 2 refine X.off (X.ZL rfl rfl rfl (X.zU (X.zU (X.zU (X.zU (X.zU (X.zU h_14))))))) rfl ?_
   refine X.opR rfl (X.zd (y := !decide (y11.2 = 0)) rfl (X.zU (X.zU (X.zU (X.zU (X.zU (X.zU h_14)))))) rfl) rfl (X.q rfl ?_)
   iterate 3 refine X.off (X.ZL rfl rfl rfl (X.zU (X.zU (X.zU (X.zU (X.zU (X.zU (X.zU h_14)))))))) rfl ?_
   refine X.opR rfl (X.zd (y := !decide ((y7.1.length : Int) = 3)) rfl (X.zU (X.zU (X.zU (X.zU (X.zU (X.zU (X.zU h_14))))))) rfl) rfl (GS.zA ?_)
   exact X.norm _ hg rfl (sr rfl)
  refine X.split (((!decide (y.2 = 0)) || (!decide (y1.2.2 = 0)))) (fun h_15 => ?_) (fun h_15 => ?_)
  ·iterate 3 refine X.q rfl ?_
   iterate 2 refine X.opR (X.on_f rfl rfl rfl h_14) rfl rfl ?_
   refine X.opR rfl (X.zb (y := !decide (y1.2.2 = 0)) rfl h_14 rfl) rfl (X.q rfl ?_)
   iterate 2 refine X.off (X.ZL rfl rfl rfl h_15) rfl ?_
   refine X.opR rfl (X.zd (y := !decide (y2.2.2 = 0)) rfl h_15 rfl) rfl (X.q rfl ?_)
   iterate 2 refine X.off (X.ZL rfl rfl rfl (X.zU h_15)) rfl ?_
   refine X.opR rfl (X.zd (y := !decide (y4.2.2 = 0)) rfl (X.zU h_15) rfl) rfl (X.q rfl ?_)
   iterate 2 refine X.off (X.ZL rfl rfl rfl (X.zU (X.zU h_15))) rfl ?_
   refine X.opR rfl (X.zd (y := !decide (y5.2 = 0)) rfl (X.zU (X.zU h_15)) rfl) rfl (X.q rfl ?_)
   iterate 2 refine X.off (X.ZL rfl rfl rfl (X.zU (X.zU (X.zU h_15)))) rfl ?_
   refine X.opR rfl (X.zd (y := !decide (y7.2 = 0)) rfl (X.zU (X.zU (X.zU h_15))) rfl) rfl (X.q rfl ?_)
   iterate 2 refine X.off (X.ZL rfl rfl rfl (X.zU (X.zU (X.zU (X.zU h_15))))) rfl ?_
   refine X.opR rfl (X.zd (y := !decide (y9.2.2 = 0)) rfl (X.zU (X.zU (X.zU (X.zU h_15)))) rfl) rfl (X.q rfl ?_)
   iterate 2 refine X.off (X.ZL rfl rfl rfl (X.zU (X.zU (X.zU (X.zU (X.zU h_15)))))) rfl ?_
   refine X.opR rfl (X.zd (y := !decide (y11.2 = 0)) rfl (X.zU (X.zU (X.zU (X.zU (X.zU h_15))))) rfl) rfl (X.q rfl ?_)
   iterate 3 refine X.off (X.ZL rfl rfl rfl (X.zU (X.zU (X.zU (X.zU (X.zU (X.zU h_15))))))) rfl ?_
   refine X.opR rfl (X.zd (y := !decide ((y7.1.length : Int) = 3)) rfl (X.zU (X.zU (X.zU (X.zU (X.zU (X.zU h_15)))))) rfl) rfl (GS.zA ?_)
   exact X.norm _ hg rfl (sr rfl)
  refine X.split ((((!decide (y.2 = 0)) || (!decide (y1.2.2 = 0))) || (!decide (y2.2.2 = 0)))) (fun h_16 => ?_) (fun h_16 => ?_)
  ·iterate 3 refine X.q rfl ?_
   iterate 2 refine X.opR (X.on_f rfl rfl rfl h_14) rfl rfl ?_
   refine X.opR rfl (X.zb (y := !decide (y1.2.2 = 0)) rfl h_14 rfl) rfl (X.q rfl ?_)
   iterate 2 refine X.opR (X.on_f rfl rfl rfl h_15) rfl rfl ?_
   refine X.opR rfl (X.zb (y := !decide (y2.2.2 = 0)) rfl h_15 rfl) rfl (X.q rfl ?_)
   iterate 2 refine X.off (X.ZL rfl rfl rfl h_16) rfl ?_
   refine X.opR rfl (X.zd (y := !decide (y4.2.2 = 0)) rfl h_16 rfl) rfl (X.q rfl ?_)
   iterate 2 refine X.off (X.ZL rfl rfl rfl (X.zU h_16)) rfl ?_
   refine X.opR rfl (X.zd (y := !decide (y5.2 = 0)) rfl (X.zU h_16) rfl) rfl (X.q rfl ?_)
   iterate 2 refine X.off (X.ZL rfl rfl rfl (X.zU (X.zU h_16))) rfl ?_
   refine X.opR rfl (X.zd (y := !decide (y7.2 = 0)) rfl (X.zU (X.zU h_16)) rfl) rfl (X.q rfl ?_)
   iterate 2 refine X.off (X.ZL rfl rfl rfl (X.zU (X.zU (X.zU h_16)))) rfl ?_
   refine X.opR rfl (X.zd (y := !decide (y9.2.2 = 0)) rfl (X.zU (X.zU (X.zU h_16))) rfl) rfl (X.q rfl ?_)
   iterate 2 refine X.off (X.ZL rfl rfl rfl (X.zU (X.zU (X.zU (X.zU h_16))))) rfl ?_
   refine X.opR rfl (X.zd (y := !decide (y11.2 = 0)) rfl (X.zU (X.zU (X.zU (X.zU h_16)))) rfl) rfl (X.q rfl ?_)
   iterate 3 refine X.off (X.ZL rfl rfl rfl (X.zU (X.zU (X.zU (X.zU (X.zU h_16)))))) rfl ?_
   refine X.opR rfl (X.zd (y := !decide ((y7.1.length : Int) = 3)) rfl (X.zU (X.zU (X.zU (X.zU (X.zU h_16))))) rfl) rfl (GS.zA ?_)
   exact X.norm _ hg rfl (sr rfl)
  refine X.split (((((!decide (y.2 = 0)) || (!decide (y1.2.2 = 0))) || (!decide (y2.2.2 = 0))) || (!decide (y4.2.2 = 0)))) (fun h_17 => ?_) (fun h_17 => ?_)
  ·iterate 3 refine X.q rfl ?_
   iterate 2 refine X.opR (X.on_f rfl rfl rfl h_14) rfl rfl ?_
   refine X.opR rfl (X.zb (y := !decide (y1.2.2 = 0)) rfl h_14 rfl) rfl (X.q rfl ?_)
   iterate 2 refine X.opR (X.on_f rfl rfl rfl h_15) rfl rfl ?_
   refine X.opR rfl (X.zb (y := !decide (y2.2.2 = 0)) rfl h_15 rfl) rfl (X.q rfl ?_)
   iterate 2 refine X.opR (X.on_f rfl rfl rfl h_16) rfl rfl ?_
   refine X.opR rfl (X.zb (y := !decide (y4.2.2 = 0)) rfl h_16 rfl) rfl (X.q rfl ?_)
   iterate 2 refine X.off (X.ZL rfl rfl rfl h_17) rfl ?_
   refine X.opR rfl (X.zd (y := !decide (y5.2 = 0)) rfl h_17 rfl) rfl (X.q rfl ?_)
   iterate 2 refine X.off (X.ZL rfl rfl rfl (X.zU h_17)) rfl ?_
   refine X.opR rfl (X.zd (y := !decide (y7.2 = 0)) rfl (X.zU h_17) rfl) rfl (X.q rfl ?_)
   iterate 2 refine X.off (X.ZL rfl rfl rfl (X.zU (X.zU h_17))) rfl ?_
   refine X.opR rfl (X.zd (y := !decide (y9.2.2 = 0)) rfl (X.zU (X.zU h_17)) rfl) rfl (X.q rfl ?_)
   iterate 2 refine X.off (X.ZL rfl rfl rfl (X.zU (X.zU (X.zU h_17)))) rfl ?_
   refine X.opR rfl (X.zd (y := !decide (y11.2 = 0)) rfl (X.zU (X.zU (X.zU h_17))) rfl) rfl (X.q rfl ?_)
   iterate 3 refine X.off (X.ZL rfl rfl rfl (X.zU (X.zU (X.zU (X.zU h_17))))) rfl ?_
   refine X.opR rfl (X.zd (y := !decide ((y7.1.length : Int) = 3)) rfl (X.zU (X.zU (X.zU (X.zU h_17)))) rfl) rfl (GS.zA ?_)
   exact X.norm _ hg rfl (sr rfl)
  refine X.split ((((((!decide (y.2 = 0)) || (!decide (y1.2.2 = 0))) || (!decide (y2.2.2 = 0))) || (!decide (y4.2.2 = 0))) || (!decide (y5.2 = 0)))) (fun h_18 => ?_) (fun h_18 => ?_)
  ·iterate 3 refine X.q rfl ?_
   iterate 2 refine X.opR (X.on_f rfl rfl rfl h_14) rfl rfl ?_
   refine X.opR rfl (X.zb (y := !decide (y1.2.2 = 0)) rfl h_14 rfl) rfl (X.q rfl ?_)
   iterate 2 refine X.opR (X.on_f rfl rfl rfl h_15) rfl rfl ?_
   refine X.opR rfl (X.zb (y := !decide (y2.2.2 = 0)) rfl h_15 rfl) rfl (X.q rfl ?_)
   iterate 2 refine X.opR (X.on_f rfl rfl rfl h_16) rfl rfl ?_
   refine X.opR rfl (X.zb (y := !decide (y4.2.2 = 0)) rfl h_16 rfl) rfl (X.q rfl ?_)
   iterate 2 refine X.opR (X.on_f rfl rfl rfl h_17) rfl rfl ?_
   refine X.opR rfl (X.zb (y := !decide (y5.2 = 0)) rfl h_17 rfl) rfl (X.q rfl ?_)
   iterate 2 refine X.off (X.ZL rfl rfl rfl h_18) rfl ?_
   refine X.opR rfl (X.zd (y := !decide (y7.2 = 0)) rfl h_18 rfl) rfl (X.q rfl ?_)
   iterate 2 refine X.off (X.ZL rfl rfl rfl (X.zU h_18)) rfl ?_
   refine X.opR rfl (X.zd (y := !decide (y9.2.2 = 0)) rfl (X.zU h_18) rfl) rfl (X.q rfl ?_)
   iterate 2 refine X.off (X.ZL rfl rfl rfl (X.zU (X.zU h_18))) rfl ?_
   refine X.opR rfl (X.zd (y := !decide (y11.2 = 0)) rfl (X.zU (X.zU h_18)) rfl) rfl (X.q rfl ?_)
   iterate 3 refine X.off (X.ZL rfl rfl rfl (X.zU (X.zU (X.zU h_18)))) rfl ?_
   refine X.opR rfl (X.zd (y := !decide ((y7.1.length : Int) = 3)) rfl (X.zU (X.zU (X.zU h_18))) rfl) rfl (GS.zA ?_)
   exact X.norm _ hg rfl (sr rfl)
  refine X.split (((((((!decide (y.2 = 0)) || (!decide (y1.2.2 = 0))) || (!decide (y2.2.2 = 0))) || (!decide (y4.2.2 = 0))) || (!decide (y5.2 = 0))) || (!decide (y7.2 = 0)))) (fun h_19 => ?_) (fun h_19 => ?_)
  ·iterate 3 refine X.q rfl ?_
   iterate 2 refine X.opR (X.on_f rfl rfl rfl h_14) rfl rfl ?_
   refine X.opR rfl (X.zb (y := !decide (y1.2.2 = 0)) rfl h_14 rfl) rfl (X.q rfl ?_)
   iterate 2 refine X.opR (X.on_f rfl rfl rfl h_15) rfl rfl ?_
   refine X.opR rfl (X.zb (y := !decide (y2.2.2 = 0)) rfl h_15 rfl) rfl (X.q rfl ?_)
   iterate 2 refine X.opR (X.on_f rfl rfl rfl h_16) rfl rfl ?_
   refine X.opR rfl (X.zb (y := !decide (y4.2.2 = 0)) rfl h_16 rfl) rfl (X.q rfl ?_)
   iterate 2 refine X.opR (X.on_f rfl rfl rfl h_17) rfl rfl ?_
   refine X.opR rfl (X.zb (y := !decide (y5.2 = 0)) rfl h_17 rfl) rfl (X.q rfl ?_)
   iterate 2 refine X.opR (X.on_f rfl rfl rfl h_18) rfl rfl ?_
   refine X.opR rfl (X.zb (y := !decide (y7.2 = 0)) rfl h_18 rfl) rfl (X.q rfl ?_)
   iterate 2 refine X.off (X.ZL rfl rfl rfl h_19) rfl ?_
   refine X.opR rfl (X.zd (y := !decide (y9.2.2 = 0)) rfl h_19 rfl) rfl (X.q rfl ?_)
   iterate 2 refine X.off (X.ZL rfl rfl rfl (X.zU h_19)) rfl ?_
   refine X.opR rfl (X.zd (y := !decide (y11.2 = 0)) rfl (X.zU h_19) rfl) rfl (X.q rfl ?_)
   iterate 3 refine X.off (X.ZL rfl rfl rfl (X.zU (X.zU h_19))) rfl ?_
   refine X.opR rfl (X.zd (y := !decide ((y7.1.length : Int) = 3)) rfl (X.zU (X.zU h_19)) rfl) rfl (GS.zA ?_)
   exact X.norm _ hg rfl (sr rfl)
  refine X.split ((((((((!decide (y.2 = 0)) || (!decide (y1.2.2 = 0))) || (!decide (y2.2.2 = 0))) || (!decide (y4.2.2 = 0))) || (!decide (y5.2 = 0))) || (!decide (y7.2 = 0))) || (!decide (y9.2.2 = 0)))) (fun h_20 => ?_) (fun h_20 => ?_)
  ·iterate 3 refine X.q rfl ?_
   iterate 2 refine X.opR (X.on_f rfl rfl rfl h_14) rfl rfl ?_
   refine X.opR rfl (X.zb (y := !decide (y1.2.2 = 0)) rfl h_14 rfl) rfl (X.q rfl ?_)
   iterate 2 refine X.opR (X.on_f rfl rfl rfl h_15) rfl rfl ?_
   refine X.opR rfl (X.zb (y := !decide (y2.2.2 = 0)) rfl h_15 rfl) rfl (X.q rfl ?_)
   iterate 2 refine X.opR (X.on_f rfl rfl rfl h_16) rfl rfl ?_
   refine X.opR rfl (X.zb (y := !decide (y4.2.2 = 0)) rfl h_16 rfl) rfl (X.q rfl ?_)
   iterate 2 refine X.opR (X.on_f rfl rfl rfl h_17) rfl rfl ?_
   refine X.opR rfl (X.zb (y := !decide (y5.2 = 0)) rfl h_17 rfl) rfl (X.q rfl ?_)
   iterate 2 refine X.opR (X.on_f rfl rfl rfl h_18) rfl rfl ?_
   refine X.opR rfl (X.zb (y := !decide (y7.2 = 0)) rfl h_18 rfl) rfl (X.q rfl ?_)
   iterate 2 refine X.opR (X.on_f rfl rfl rfl h_19) rfl rfl ?_
   refine X.opR rfl (X.zb (y := !decide (y9.2.2 = 0)) rfl h_19 rfl) rfl (X.q rfl ?_)
   iterate 2 refine X.off (X.ZL rfl rfl rfl h_20) rfl ?_
   refine X.opR rfl (X.zd (y := !decide (y11.2 = 0)) rfl h_20 rfl) rfl (X.q rfl ?_)
   iterate 3 refine X.off (X.ZL rfl rfl rfl (X.zU h_20)) rfl ?_
   refine X.opR rfl (X.zd (y := !decide ((y7.1.length : Int) = 3)) rfl (X.zU h_20) rfl) rfl (GS.zA ?_)
   exact X.norm _ hg rfl (sr rfl)
  refine X.split (((((((((!decide (y.2 = 0)) || (!decide (y1.2.2 = 0))) || (!decide (y2.2.2 = 0))) || (!decide (y4.2.2 = 0))) || (!decide (y5.2 = 0))) || (!decide (y7.2 = 0))) || (!decide (y9.2.2 = 0))) || (!decide (y11.2 = 0)))) (fun h_21 => ?_) (fun h_21 => ?_)
  ·iterate 3 refine X.q rfl ?_
   iterate 2 refine X.opR (X.on_f rfl rfl rfl h_14) rfl rfl ?_
   refine X.opR rfl (X.zb (y := !decide (y1.2.2 = 0)) rfl h_14 rfl) rfl (X.q rfl ?_)
   iterate 2 refine X.opR (X.on_f rfl rfl rfl h_15) rfl rfl ?_
   refine X.opR rfl (X.zb (y := !decide (y2.2.2 = 0)) rfl h_15 rfl) rfl (X.q rfl ?_)
   iterate 2 refine X.opR (X.on_f rfl rfl rfl h_16) rfl rfl ?_
   refine X.opR rfl (X.zb (y := !decide (y4.2.2 = 0)) rfl h_16 rfl) rfl (X.q rfl ?_)
   iterate 2 refine X.opR (X.on_f rfl rfl rfl h_17) rfl rfl ?_
   refine X.opR rfl (X.zb (y := !decide (y5.2 = 0)) rfl h_17 rfl) rfl (X.q rfl ?_)
   iterate 2 refine X.opR (X.on_f rfl rfl rfl h_18) rfl rfl ?_
   refine X.opR rfl (X.zb (y := !decide (y7.2 = 0)) rfl h_18 rfl) rfl (X.q rfl ?_)
   iterate 2 refine X.opR (X.on_f rfl rfl rfl h_19) rfl rfl ?_
   refine X.opR rfl (X.zb (y := !decide (y9.2.2 = 0)) rfl h_19 rfl) rfl (X.q rfl ?_)
   iterate 2 refine X.opR (X.on_f rfl rfl rfl h_20) rfl rfl ?_
   refine X.opR rfl (X.zb (y := !decide (y11.2 = 0)) rfl h_20 rfl) rfl (X.q rfl ?_)
   iterate 3 refine X.off (X.ZL rfl rfl rfl h_21) rfl ?_
   refine X.opR rfl (X.zd (y := !decide ((y7.1.length : Int) = 3)) rfl h_21 rfl) rfl (GS.zA ?_)
   exact X.norm _ hg rfl (sr rfl)
  iterate 3 refine X.q rfl ?_
  iterate 2 refine X.opR (X.on_f rfl rfl rfl h_14) rfl rfl ?_
  refine X.opR rfl (X.zb (y := !decide (y1.2.2 = 0)) rfl h_14 rfl) rfl (X.q rfl ?_)
  iterate 2 refine X.opR (X.on_f rfl rfl rfl h_15) rfl rfl ?_
  refine X.opR rfl (X.zb (y := !decide (y2.2.2 = 0)) rfl h_15 rfl) rfl (X.q rfl ?_)
  iterate 2 refine X.opR (X.on_f rfl rfl rfl h_16) rfl rfl ?_
  refine X.opR rfl (X.zb (y := !decide (y4.2.2 = 0)) rfl h_16 rfl) rfl (X.q rfl ?_)
  iterate 2 refine X.opR (X.on_f rfl rfl rfl h_17) rfl rfl ?_
  refine X.opR rfl (X.zb (y := !decide (y5.2 = 0)) rfl h_17 rfl) rfl (X.q rfl ?_)
  iterate 2 refine X.opR (X.on_f rfl rfl rfl h_18) rfl rfl ?_
  refine X.opR rfl (X.zb (y := !decide (y7.2 = 0)) rfl h_18 rfl) rfl (X.q rfl ?_)
  iterate 2 refine X.opR (X.on_f rfl rfl rfl h_19) rfl rfl ?_
  refine X.opR rfl (X.zb (y := !decide (y9.2.2 = 0)) rfl h_19 rfl) rfl (X.q rfl ?_)
  iterate 2 refine X.opR (X.on_f rfl rfl rfl h_20) rfl rfl ?_
  refine X.opR rfl (X.zb (y := !decide (y11.2 = 0)) rfl h_20 rfl) rfl (X.q rfl ?_)
  refine X.opR (X.on_f rfl rfl rfl h_21) rfl rfl ?_
  refine X.opR (X.on_f rfl rfl rfl h_21) (X.lenF rfl rfl rfl) rfl ?_
  refine X.opR (X.on_f rfl rfl rfl h_21) rfl rfl ?_
  refine X.opR rfl (X.zb (y := !decide ((y7.1.length : Int) = 3)) rfl h_21 rfl) rfl (GS.zA ?_)
  exact X.norm _ hg rfl (sr rfl)
 refine X.cond rfl (fun h_22 => ?_) (fun h_22 => ?_)
 ·replace hM := zZ h_22 hM
  refine X.sq (X.q rfl (GS.zA ?_))
  cases hM
  exact GS.ret ⟨_, rfl, ⟨30, rfl⟩⟩
 replace hM := za h_22 hM
 refine GS.skip (X.sq ?_)
 refine X.mid [(15, (V.sl (List.map zR y7.1))), (17, (V.ptr 2 0 0)), (18, (V.b y9.2.1)), (20, (V.i y11.1)), (22, (V.b (((((((decide (y.1 = 1000)) && y1.2.1) && (decide (y1.1 = 60))) && (!y2.2.1)) && y4.2.1) && (decide (y4.1 = (⟨120, 179⟩ : zD)))) && (decide (y5.1 = 650)))))] ?_ ?_
 ·intro hg
  refine X.split (decide (y.1 = 1000)) (fun h_23 => ?_) (fun h_23 => ?_)
  ·refine X.split (((decide (y.1 = 1000)) && y1.2.1)) (fun h_24 => ?_) (fun h_24 => ?_)
   ·refine X.split ((((decide (y.1 = 1000)) && y1.2.1) && (decide (y1.1 = 60)))) (fun h_25 => ?_) (fun h_25 => ?_)
    ·refine X.split (((((decide (y.1 = 1000)) && y1.2.1) && (decide (y1.1 = 60))) && (!y2.2.1))) (fun h_26 => ?_) (fun h_26 => ?_)
     ·refine X.split ((((((decide (y.1 = 1000)) && y1.2.1) && (decide (y1.1 = 60))) && (!y2.2.1)) && y4.2.1)) (fun h_27 => ?_) (fun h_27 => ?_)
      ·refine X.split (((((((decide (y.1 = 1000)) && y1.2.1) && (decide (y1.1 = 60))) && (!y2.2.1)) && y4.2.1) && (decide (y4.1 = (⟨120, 179⟩ : zD))))) (fun h_28 => ?_) (fun h_28 => ?_)
       ·iterate 3 refine X.q rfl ?_
        refine X.opR (X.on_t rfl rfl rfl h_23) rfl rfl ?_
        refine X.opR rfl (X.zW (y := y1.2.1) rfl h_23 rfl) rfl (X.q rfl ?_)
        iterate 2 refine X.opR (X.on_t rfl rfl rfl h_24) rfl rfl ?_
        refine X.opR rfl (X.zW (y := decide (y1.1 = 60)) rfl h_24 rfl) rfl (X.q rfl ?_)
        iterate 2 refine X.opR (X.on_t rfl rfl rfl h_25) rfl rfl ?_
        refine X.opR rfl (X.zW (y := !y2.2.1) rfl h_25 rfl) rfl (X.q rfl ?_)
        refine X.opR (X.on_t rfl rfl rfl h_26) rfl rfl ?_
        refine X.opR rfl (X.zW (y := y4.2.1) rfl h_26 rfl) rfl (X.q rfl ?_)
        iterate 2 refine X.opR (X.on_t rfl rfl rfl h_27) rfl rfl ?_
        refine X.opR (X.on_t rfl rfl rfl h_27) (X.eqlE (zCG y4.1 (⟨120, 179⟩ : zD)) rfl rfl) rfl ?_
        refine X.opR rfl (X.zW (y := decide (y4.1 = (⟨120, 179⟩ : zD))) rfl h_27 rfl) rfl (X.q rfl ?_)
        iterate 2 refine X.opR (X.on_t rfl rfl rfl h_28) rfl rfl ?_
        refine X.opR rfl (X.zW (y := decide (y5.1 = 650)) rfl h_28 rfl) rfl (X.q rfl (GS.zA ?_))
        exact X.norm _ hg rfl (sr rfl)
       iterate 3 refine X.q rfl ?_
       refine X.opR (X.on_t rfl rfl rfl h_23) rfl rfl ?_
       refine X.opR rfl (X.zW (y := y1.2.1) rfl h_23 rfl) rfl (X.q rfl ?_)
       iterate 2 refine X.opR (X.on_t rfl rfl rfl h_24) rfl rfl ?_
       refine X.opR rfl (X.zW (y := decide (y1.1 = 60)) rfl h_24 rfl) rfl (X.q rfl ?_)
       iterate 2 refine X.opR (X.on_t rfl rfl rfl h_25) rfl rfl ?_
       refine X.opR rfl (X.zW (y := !y2.2.1) rfl h_25 rfl) rfl (X.q rfl ?_)
       refine X.opR (X.on_t rfl rfl rfl h_26) rfl rfl ?_
       refine X.opR rfl (X.zW (y := y4.2.1) rfl h_26 rfl) rfl (X.q rfl ?_)
       iterate 2 refine X.opR (X.on_t rfl rfl rfl h_27) rfl rfl ?_
       refine X.opR (X.on_t rfl rfl rfl h_27) (X.eqlE (zCG y4.1 (⟨120, 179⟩ : zD)) rfl rfl) rfl ?_
       refine X.opR rfl (X.zW (y := decide (y4.1 = (⟨120, 179⟩ : zD))) rfl h_27 rfl) rfl (X.q rfl ?_)
       iterate 2 refine X.off (X.zn rfl rfl rfl h_28) rfl ?_
       refine X.opR rfl (X.zQ (y := decide (y5.1 = 650)) rfl h_28 rfl) rfl (X.q rfl (GS.zA ?_))
       exact X.norm _ hg rfl (sr rfl)
      iterate 3 refine X.q rfl ?_
      refine X.opR (X.on_t rfl rfl rfl h_23) rfl rfl ?_
      refine X.opR rfl (X.zW (y := y1.2.1) rfl h_23 rfl) rfl (X.q rfl ?_)
      iterate 2 refine X.opR (X.on_t rfl rfl rfl h_24) rfl rfl ?_
      refine X.opR rfl (X.zW (y := decide (y1.1 = 60)) rfl h_24 rfl) rfl (X.q rfl ?_)
      iterate 2 refine X.opR (X.on_t rfl rfl rfl h_25) rfl rfl ?_
      refine X.opR rfl (X.zW (y := !y2.2.1) rfl h_25 rfl) rfl (X.q rfl ?_)
      refine X.opR (X.on_t rfl rfl rfl h_26) rfl rfl ?_
      refine X.opR rfl (X.zW (y := y4.2.1) rfl h_26 rfl) rfl (X.q rfl ?_)
      iterate 3 refine X.off (X.zn rfl rfl rfl h_27) rfl ?_
      refine X.opR rfl (X.zQ (y := decide (y4.1 = (⟨120, 179⟩ : zD))) rfl h_27 rfl) rfl (X.q rfl ?_)
      iterate 2 refine X.off (X.zn rfl rfl rfl (X.zB h_27)) rfl ?_
      refine X.opR rfl (X.zQ (y := decide (y5.1 = 650)) rfl (X.zB h_27) rfl) rfl (X.q rfl (GS.zA ?_))
      exact X.norm _ hg rfl (sr rfl)
     iterate 3 refine X.q rfl ?_
     refine X.opR (X.on_t rfl rfl rfl h_23) rfl rfl ?_
     refine X.opR rfl (X.zW (y := y1.2.1) rfl h_23 rfl) rfl (X.q rfl ?_)
     iterate 2 refine X.opR (X.on_t rfl rfl rfl h_24) rfl rfl ?_
     refine X.opR rfl (X.zW (y := decide (y1.1 = 60)) rfl h_24 rfl) rfl (X.q rfl ?_)
     iterate 2 refine X.opR (X.on_t rfl rfl rfl h_25) rfl rfl ?_
     refine X.opR rfl (X.zW (y := !y2.2.1) rfl h_25 rfl) rfl (X.q rfl ?_)
     refine X.off (X.zn rfl rfl rfl h_26) rfl ?_
     refine X.opR rfl (X.zQ (y := y4.2.1) rfl h_26 rfl) rfl (X.q rfl ?_)
     iterate 3 refine X.off (X.zn rfl rfl rfl (X.zB h_26)) rfl ?_
     refine X.opR rfl (X.zQ (y := decide (y4.1 = (⟨120, 179⟩ : zD))) rfl (X.zB h_26) rfl) rfl (X.q rfl ?_)
     iterate 2 refine X.off (X.zn rfl rfl rfl (X.zB (X.zB h_26))) rfl ?_
     refine X.opR rfl (X.zQ (y := decide (y5.1 = 650)) rfl (X.zB (X.zB h_26)) rfl) rfl (X.q rfl (GS.zA ?_))
     exact X.norm _ hg rfl (sr rfl)
    iterate 3 refine X.q rfl ?_
    refine X.opR (X.on_t rfl rfl rfl h_23) rfl rfl ?_
    refine X.opR rfl (X.zW (y := y1.2.1) rfl h_23 rfl) rfl (X.q rfl ?_)
    iterate 2 refine X.opR (X.on_t rfl rfl rfl h_24) rfl rfl ?_
    refine X.opR rfl (X.zW (y := decide (y1.1 = 60)) rfl h_24 rfl) rfl (X.q rfl ?_)
    iterate 2 refine X.off (X.zn rfl rfl rfl h_25) rfl ?_
    refine X.opR rfl (X.zQ (y := !y2.2.1) rfl h_25 rfl) rfl (X.q rfl ?_)
    refine X.off (X.zn rfl rfl rfl (X.zB h_25)) rfl ?_
    refine X.opR rfl (X.zQ (y := y4.2.1) rfl (X.zB h_25) rfl) rfl (X.q rfl ?_)
    iterate 3 refine X.off (X.zn rfl rfl rfl (X.zB (X.zB h_25))) rfl ?_
    refine X.opR rfl (X.zQ (y := decide (y4.1 = (⟨120, 179⟩ : zD))) rfl (X.zB (X.zB h_25)) rfl) rfl (X.q rfl ?_)
    iterate 2 refine X.off (X.zn rfl rfl rfl (X.zB (X.zB (X.zB h_25)))) rfl ?_
    refine X.opR rfl (X.zQ (y := decide (y5.1 = 650)) rfl (X.zB (X.zB (X.zB h_25))) rfl) rfl (X.q rfl (GS.zA ?_))
    exact X.norm _ hg rfl (sr rfl)
   iterate 3 refine X.q rfl ?_
   refine X.opR (X.on_t rfl rfl rfl h_23) rfl rfl ?_
   refine X.opR rfl (X.zW (y := y1.2.1) rfl h_23 rfl) rfl (X.q rfl ?_)
   iterate 2 refine X.off (X.zn rfl rfl rfl h_24) rfl ?_
   refine X.opR rfl (X.zQ (y := decide (y1.1 = 60)) rfl h_24 rfl) rfl (X.q rfl ?_)
   iterate 2 refine X.off (X.zn rfl rfl rfl (X.zB h_24)) rfl ?_
   refine X.opR rfl (X.zQ (y := !y2.2.1) rfl (X.zB h_24) rfl) rfl (X.q rfl ?_)
   refine X.off (X.zn rfl rfl rfl (X.zB (X.zB h_24))) rfl ?_
   refine X.opR rfl (X.zQ (y := y4.2.1) rfl (X.zB (X.zB h_24)) rfl) rfl (X.q rfl ?_)
   iterate 3 refine X.off (X.zn rfl rfl rfl (X.zB (X.zB (X.zB h_24)))) rfl ?_
   refine X.opR rfl (X.zQ (y := decide (y4.1 = (⟨120, 179⟩ : zD))) rfl (X.zB (X.zB (X.zB h_24))) rfl) rfl (X.q rfl ?_)
   iterate 2 refine X.off (X.zn rfl rfl rfl (X.zB (X.zB (X.zB (X.zB h_24))))) rfl ?_
   refine X.opR rfl (X.zQ (y := decide (y5.1 = 650)) rfl (X.zB (X.zB (X.zB (X.zB h_24)))) rfl) rfl (X.q rfl (GS.zA ?_))
   exact X.norm _ hg rfl (sr rfl)
  iterate 3 refine X.q rfl ?_
  refine X.off (X.zn rfl rfl rfl h_23) rfl ?_
  refine X.opR rfl (X.zQ (y := y1.2.1) rfl h_23 rfl) rfl (X.q rfl ?_)
  iterate 2 refine X.off (X.zn rfl rfl rfl (X.zB h_23)) rfl ?_
  refine X.opR rfl (X.zQ (y := decide (y1.1 = 60)) rfl (X.zB h_23) rfl) rfl (X.q rfl ?_)
  iterate 2 refine X.off (X.zn rfl rfl rfl (X.zB (X.zB h_23))) rfl ?_
  refine X.opR rfl (X.zQ (y := !y2.2.1) rfl (X.zB (X.zB h_23)) rfl) rfl (X.q rfl ?_)
  refine X.off (X.zn rfl rfl rfl (X.zB (X.zB (X.zB h_23)))) rfl ?_
  refine X.opR rfl (X.zQ (y := y4.2.1) rfl (X.zB (X.zB (X.zB h_23))) rfl) rfl (X.q rfl ?_)
  iterate 3 refine X.off (X.zn rfl rfl rfl (X.zB (X.zB (X.zB (X.zB h_23))))) rfl ?_
  refine X.opR rfl (X.zQ (y := decide (y4.1 = (⟨120, 179⟩ : zD))) rfl (X.zB (X.zB (X.zB (X.zB h_23)))) rfl) rfl (X.q rfl ?_)
  iterate 2 refine X.off (X.zn rfl rfl rfl (X.zB (X.zB (X.zB (X.zB (X.zB h_23)))))) rfl ?_
  refine X.opR rfl (X.zQ (y := decide (y5.1 = 650)) rfl (X.zB (X.zB (X.zB (X.zB (X.zB h_23))))) rfl) rfl (X.q rfl (GS.zA ?_))
  exact X.norm _ hg rfl (sr rfl)
 refine GS.seq ?_
 replace hM := zCA hM
 obtain ⟨x1, h_29, hM⟩ := hM
 refine GS.region ?_
 refine X.mid [(0, (V.b ((((((((((((decide (y.1 = 1000)) && y1.2.1) && (decide (y1.1 = 60))) && (!y2.2.1)) && y4.2.1) && (decide (y4.1 = (⟨120, 179⟩ : zD)))) && (decide (y5.1 = 650))) && (decide (x1 = (⟨13, (⟨1, 1⟩ : zE), (⟨240, 299⟩ : zD)⟩ : zO)))) && y9.2.1) && (decide ((y9.1.Calls.length : Int) = 5))) && (decide ((y9.1.Slots.length : Int) = 4))) && (decide (y11.1 = 1)))))] ?_ ?_
 ·intro hg
  refine X.split (decide (y.1 = 1000)) (fun h_30 => ?_) (fun h_30 => ?_)
  ·refine X.split (((decide (y.1 = 1000)) && y1.2.1)) (fun h_31 => ?_) (fun h_31 => ?_)
   ·refine X.split ((((decide (y.1 = 1000)) && y1.2.1) && (decide (y1.1 = 60)))) (fun h_32 => ?_) (fun h_32 => ?_)
    ·refine X.split (((((decide (y.1 = 1000)) && y1.2.1) && (decide (y1.1 = 60))) && (!y2.2.1))) (fun h_33 => ?_) (fun h_33 => ?_)
     ·refine X.split ((((((decide (y.1 = 1000)) && y1.2.1) && (decide (y1.1 = 60))) && (!y2.2.1)) && y4.2.1)) (fun h_34 => ?_) (fun h_34 => ?_)
      ·refine X.split (((((((decide (y.1 = 1000)) && y1.2.1) && (decide (y1.1 = 60))) && (!y2.2.1)) && y4.2.1) && (decide (y4.1 = (⟨120, 179⟩ : zD))))) (fun h_35 => ?_) (fun h_35 => ?_)
       ·refine X.split ((((((((decide (y.1 = 1000)) && y1.2.1) && (decide (y1.1 = 60))) && (!y2.2.1)) && y4.2.1) && (decide (y4.1 = (⟨120, 179⟩ : zD)))) && (decide (y5.1 = 650)))) (fun h_36 => ?_) (fun h_36 => ?_)
        ·refine X.split (((((((((decide (y.1 = 1000)) && y1.2.1) && (decide (y1.1 = 60))) && (!y2.2.1)) && y4.2.1) && (decide (y4.1 = (⟨120, 179⟩ : zD)))) && (decide (y5.1 = 650))) && (decide (x1 = (⟨13, (⟨1, 1⟩ : zE), (⟨240, 299⟩ : zD)⟩ : zO))))) (fun h_37 => ?_) (fun h_37 => ?_)
         ·refine X.split ((((((((((decide (y.1 = 1000)) && y1.2.1) && (decide (y1.1 = 60))) && (!y2.2.1)) && y4.2.1) && (decide (y4.1 = (⟨120, 179⟩ : zD)))) && (decide (y5.1 = 650))) && (decide (x1 = (⟨13, (⟨1, 1⟩ : zE), (⟨240, 299⟩ : zD)⟩ : zO)))) && y9.2.1)) (fun h_38 => ?_) (fun h_38 => ?_)
          ·refine X.split (((((((((((decide (y.1 = 1000)) && y1.2.1) && (decide (y1.1 = 60))) && (!y2.2.1)) && y4.2.1) && (decide (y4.1 = (⟨120, 179⟩ : zD)))) && (decide (y5.1 = 650))) && (decide (x1 = (⟨13, (⟨1, 1⟩ : zE), (⟨240, 299⟩ : zD)⟩ : zO)))) && y9.2.1) && (decide ((y9.1.Calls.length : Int) = 5)))) (fun h_39 => ?_) (fun h_39 => ?_)
           ·refine X.split ((((((((((((decide (y.1 = 1000)) && y1.2.1) && (decide (y1.1 = 60))) && (!y2.2.1)) && y4.2.1) && (decide (y4.1 = (⟨120, 179⟩ : zD)))) && (decide (y5.1 = 650))) && (decide (x1 = (⟨13, (⟨1, 1⟩ : zE), (⟨240, 299⟩ : zD)⟩ : zO)))) && y9.2.1) && (decide ((y9.1.Calls.length : Int) = 5))) && (decide ((y9.1.Slots.length : Int) = 4)))) (fun h_40 => ?_) (fun h_40 => ?_)
            ·iterate 2 refine X.q rfl ?_
             refine X.opR (X.on_t rfl rfl rfl h_36) rfl rfl ?_
             refine X.opR (X.on_t rfl rfl rfl h_36) (X.ZC (f := zR) (h_29 h_36) (fun _ => rfl) rfl rfl rfl rfl) rfl ?_
             refine X.opR (X.on_t rfl rfl rfl h_36) (X.ZS (h_29 h_36) rfl rfl rfl) rfl ?_
             iterate 3 refine X.opR (X.on_t rfl rfl rfl h_36) rfl rfl ?_
             refine X.opR (X.on_t rfl rfl rfl h_36) (X.eqlE (QU x1 (⟨13, (⟨1, 1⟩ : zE), (⟨240, 299⟩ : zD)⟩ : zO)) rfl rfl) rfl ?_
             refine X.opR rfl (X.zW (y := decide (x1 = (⟨13, (⟨1, 1⟩ : zE), (⟨240, 299⟩ : zD)⟩ : zO))) rfl h_36 rfl) rfl (X.q rfl ?_)
             refine X.opR (X.on_t rfl rfl rfl h_37) rfl rfl ?_
             refine X.opR rfl (X.zW (y := y9.2.1) rfl h_37 rfl) rfl (X.q rfl ?_)
             iterate 2 refine X.opR (X.on_t rfl rfl rfl h_38) rfl rfl ?_
             refine X.opR (X.on_t rfl rfl rfl h_38) (X.lenF rfl rfl rfl) rfl ?_
             refine X.opR (X.on_t rfl rfl rfl h_38) rfl rfl ?_
             refine X.opR rfl (X.zW (y := decide ((y9.1.Calls.length : Int) = 5)) rfl h_38 rfl) rfl (X.q rfl ?_)
             iterate 2 refine X.opR (X.on_t rfl rfl rfl h_39) rfl rfl ?_
             refine X.opR (X.on_t rfl rfl rfl h_39) (X.lenF rfl rfl rfl) rfl ?_
             refine X.opR (X.on_t rfl rfl rfl h_39) rfl rfl ?_
             refine X.opR rfl (X.zW (y := decide ((y9.1.Slots.length : Int) = 4)) rfl h_39 rfl) rfl (X.q rfl ?_)
             iterate 2 refine X.opR (X.on_t rfl rfl rfl h_40) rfl rfl ?_
             refine X.opR rfl (X.zW (y := decide (y11.1 = 1)) rfl h_40 rfl) rfl (X.q rfl (GS.zA ?_))
             exact X.norm _ hg rfl (sr rfl)
            refine X.q rfl (X.q rfl ?_)
            refine X.opR (X.on_t rfl rfl rfl h_36) rfl rfl ?_
            refine X.opR (X.on_t rfl rfl rfl h_36) (X.ZC (f := zR) (h_29 h_36) (fun _ => rfl) rfl rfl rfl rfl) rfl ?_
            refine X.opR (X.on_t rfl rfl rfl h_36) (X.ZS (h_29 h_36) rfl rfl rfl) rfl ?_
            iterate 3 refine X.opR (X.on_t rfl rfl rfl h_36) rfl rfl ?_
            refine X.opR (X.on_t rfl rfl rfl h_36) (X.eqlE (QU x1 (⟨13, (⟨1, 1⟩ : zE), (⟨240, 299⟩ : zD)⟩ : zO)) rfl rfl) rfl ?_
            refine X.opR rfl (X.zW (y := decide (x1 = (⟨13, (⟨1, 1⟩ : zE), (⟨240, 299⟩ : zD)⟩ : zO))) rfl h_36 rfl) rfl (X.q rfl ?_)
            refine X.opR (X.on_t rfl rfl rfl h_37) rfl rfl ?_
            refine X.opR rfl (X.zW (y := y9.2.1) rfl h_37 rfl) rfl (X.q rfl ?_)
            iterate 2 refine X.opR (X.on_t rfl rfl rfl h_38) rfl rfl ?_
            refine X.opR (X.on_t rfl rfl rfl h_38) (X.lenF rfl rfl rfl) rfl ?_
            refine X.opR (X.on_t rfl rfl rfl h_38) rfl rfl ?_
            refine X.opR rfl (X.zW (y := decide ((y9.1.Calls.length : Int) = 5)) rfl h_38 rfl) rfl (X.q rfl ?_)
            iterate 2 refine X.opR (X.on_t rfl rfl rfl h_39) rfl rfl ?_
            refine X.opR (X.on_t rfl rfl rfl h_39) (X.lenF rfl rfl rfl) rfl ?_
            refine X.opR (X.on_t rfl rfl rfl h_39) rfl rfl ?_
            refine X.opR rfl (X.zW (y := decide ((y9.1.Slots.length : Int) = 4)) rfl h_39 rfl) rfl (X.q rfl ?_)
            iterate 2 refine X.off (X.zn rfl rfl rfl h_40) rfl ?_
            refine X.opR rfl (X.zQ (y := decide (y11.1 = 1)) rfl h_40 rfl) rfl (X.q rfl (GS.zA ?_))
            exact X.norm _ hg rfl (sr rfl)
           refine X.q rfl (X.q rfl ?_)
           refine X.opR (X.on_t rfl rfl rfl h_36) rfl rfl ?_
           refine X.opR (X.on_t rfl rfl rfl h_36) (X.ZC (f := zR) (h_29 h_36) (fun _ => rfl) rfl rfl rfl rfl) rfl ?_
           refine X.opR (X.on_t rfl rfl rfl h_36) (X.ZS (h_29 h_36) rfl rfl rfl) rfl ?_
           iterate 3 refine X.opR (X.on_t rfl rfl rfl h_36) rfl rfl ?_
           refine X.opR (X.on_t rfl rfl rfl h_36) (X.eqlE (QU x1 (⟨13, (⟨1, 1⟩ : zE), (⟨240, 299⟩ : zD)⟩ : zO)) rfl rfl) rfl ?_
           refine X.opR rfl (X.zW (y := decide (x1 = (⟨13, (⟨1, 1⟩ : zE), (⟨240, 299⟩ : zD)⟩ : zO))) rfl h_36 rfl) rfl (X.q rfl ?_)
           refine X.opR (X.on_t rfl rfl rfl h_37) rfl rfl ?_
           refine X.opR rfl (X.zW (y := y9.2.1) rfl h_37 rfl) rfl (X.q rfl ?_)
           iterate 2 refine X.opR (X.on_t rfl rfl rfl h_38) rfl rfl ?_
           refine X.opR (X.on_t rfl rfl rfl h_38) (X.lenF rfl rfl rfl) rfl ?_
           refine X.opR (X.on_t rfl rfl rfl h_38) rfl rfl ?_
           refine X.opR rfl (X.zW (y := decide ((y9.1.Calls.length : Int) = 5)) rfl h_38 rfl) rfl (X.q rfl ?_)
           iterate 4 refine X.off (X.zn rfl rfl rfl h_39) rfl ?_
           refine X.opR rfl (X.zQ (y := decide ((y9.1.Slots.length : Int) = 4)) rfl h_39 rfl) rfl (X.q rfl ?_)
           iterate 2 refine X.off (X.zn rfl rfl rfl (X.zB h_39)) rfl ?_
           refine X.opR rfl (X.zQ (y := decide (y11.1 = 1)) rfl (X.zB h_39) rfl) rfl (X.q rfl (GS.zA ?_))
           exact X.norm _ hg rfl (sr rfl)
          refine X.q rfl (X.q rfl ?_)
          refine X.opR (X.on_t rfl rfl rfl h_36) rfl rfl ?_
          refine X.opR (X.on_t rfl rfl rfl h_36) (X.ZC (f := zR) (h_29 h_36) (fun _ => rfl) rfl rfl rfl rfl) rfl ?_
          refine X.opR (X.on_t rfl rfl rfl h_36) (X.ZS (h_29 h_36) rfl rfl rfl) rfl ?_
          iterate 3 refine X.opR (X.on_t rfl rfl rfl h_36) rfl rfl ?_
          refine X.opR (X.on_t rfl rfl rfl h_36) (X.eqlE (QU x1 (⟨13, (⟨1, 1⟩ : zE), (⟨240, 299⟩ : zD)⟩ : zO)) rfl rfl) rfl ?_
          refine X.opR rfl (X.zW (y := decide (x1 = (⟨13, (⟨1, 1⟩ : zE), (⟨240, 299⟩ : zD)⟩ : zO))) rfl h_36 rfl) rfl (X.q rfl ?_)
          refine X.opR (X.on_t rfl rfl rfl h_37) rfl rfl ?_
          refine X.opR rfl (X.zW (y := y9.2.1) rfl h_37 rfl) rfl (X.q rfl ?_)
          iterate 4 refine X.off (X.zn rfl rfl rfl h_38) rfl ?_
          refine X.opR rfl (X.zQ (y := decide ((y9.1.Calls.length : Int) = 5)) rfl h_38 rfl) rfl (X.q rfl ?_)
          iterate 4 refine X.off (X.zn rfl rfl rfl (X.zB h_38)) rfl ?_
          refine X.opR rfl (X.zQ (y := decide ((y9.1.Slots.length : Int) = 4)) rfl (X.zB h_38) rfl) rfl (X.q rfl ?_)
          iterate 2 refine X.off (X.zn rfl rfl rfl (X.zB (X.zB h_38))) rfl ?_
          refine X.opR rfl (X.zQ (y := decide (y11.1 = 1)) rfl (X.zB (X.zB h_38)) rfl) rfl (X.q rfl (GS.zA ?_))
          exact X.norm _ hg rfl (sr rfl)
         refine X.q rfl (X.q rfl ?_)
         refine X.opR (X.on_t rfl rfl rfl h_36) rfl rfl ?_
         refine X.opR (X.on_t rfl rfl rfl h_36) (X.ZC (f := zR) (h_29 h_36) (fun _ => rfl) rfl rfl rfl rfl) rfl ?_
         refine X.opR (X.on_t rfl rfl rfl h_36) (X.ZS (h_29 h_36) rfl rfl rfl) rfl ?_
         iterate 3 refine X.opR (X.on_t rfl rfl rfl h_36) rfl rfl ?_
         refine X.opR (X.on_t rfl rfl rfl h_36) (X.eqlE (QU x1 (⟨13, (⟨1, 1⟩ : zE), (⟨240, 299⟩ : zD)⟩ : zO)) rfl rfl) rfl ?_
         refine X.opR rfl (X.zW (y := decide (x1 = (⟨13, (⟨1, 1⟩ : zE), (⟨240, 299⟩ : zD)⟩ : zO))) rfl h_36 rfl) rfl (X.q rfl ?_)
         refine X.off (X.zn rfl rfl rfl h_37) rfl ?_
         refine X.opR rfl (X.zQ (y := y9.2.1) rfl h_37 rfl) rfl (X.q rfl ?_)
         iterate 4 refine X.off (X.zn rfl rfl rfl (X.zB h_37)) rfl ?_
         refine X.opR rfl (X.zQ (y := decide ((y9.1.Calls.length : Int) = 5)) rfl (X.zB h_37) rfl) rfl (X.q rfl ?_)
         iterate 4 refine X.off (X.zn rfl rfl rfl (X.zB (X.zB h_37))) rfl ?_
         refine X.opR rfl (X.zQ (y := decide ((y9.1.Slots.length : Int) = 4)) rfl (X.zB (X.zB h_37)) rfl) rfl (X.q rfl ?_)
         iterate 2 refine X.off (X.zn rfl rfl rfl (X.zB (X.zB (X.zB h_37)))) rfl ?_
         refine X.opR rfl (X.zQ (y := decide (y11.1 = 1)) rfl (X.zB (X.zB (X.zB h_37))) rfl) rfl (X.q rfl (GS.zA ?_))
         exact X.norm _ hg rfl (sr rfl)
        refine X.q rfl (X.q rfl ?_)
        iterate 7 refine X.off (X.zn rfl rfl rfl h_36) rfl ?_
        refine X.opR rfl (X.zQ (y := decide (x1 = (⟨13, (⟨1, 1⟩ : zE), (⟨240, 299⟩ : zD)⟩ : zO))) rfl h_36 rfl) rfl (X.q rfl ?_)
        refine X.off (X.zn rfl rfl rfl (X.zB h_36)) rfl ?_
        refine X.opR rfl (X.zQ (y := y9.2.1) rfl (X.zB h_36) rfl) rfl (X.q rfl ?_)
        iterate 4 refine X.off (X.zn rfl rfl rfl (X.zB (X.zB h_36))) rfl ?_
        refine X.opR rfl (X.zQ (y := decide ((y9.1.Calls.length : Int) = 5)) rfl (X.zB (X.zB h_36)) rfl) rfl (X.q rfl ?_)
        iterate 4 refine X.off (X.zn rfl rfl rfl (X.zB (X.zB (X.zB h_36)))) rfl ?_
        refine X.opR rfl (X.zQ (y := decide ((y9.1.Slots.length : Int) = 4)) rfl (X.zB (X.zB (X.zB h_36))) rfl) rfl (X.q rfl ?_)
        iterate 2 refine X.off (X.zn rfl rfl rfl (X.zB (X.zB (X.zB (X.zB h_36))))) rfl ?_
        refine X.opR rfl (X.zQ (y := decide (y11.1 = 1)) rfl (X.zB (X.zB (X.zB (X.zB h_36)))) rfl) rfl (X.q rfl (GS.zA ?_))
        exact X.norm _ hg rfl (sr rfl)
       refine X.q rfl (X.q rfl ?_)
       iterate 7 refine X.off (X.zn rfl rfl rfl (X.zB h_35)) rfl ?_
       refine X.opR rfl (X.zQ (y := decide (x1 = (⟨13, (⟨1, 1⟩ : zE), (⟨240, 299⟩ : zD)⟩ : zO))) rfl (X.zB h_35) rfl) rfl (X.q rfl ?_)
       refine X.off (X.zn rfl rfl rfl (X.zB (X.zB h_35))) rfl ?_
       refine X.opR rfl (X.zQ (y := y9.2.1) rfl (X.zB (X.zB h_35)) rfl) rfl (X.q rfl ?_)
       iterate 4 refine X.off (X.zn rfl rfl rfl (X.zB (X.zB (X.zB h_35)))) rfl ?_
       refine X.opR rfl (X.zQ (y := decide ((y9.1.Calls.length : Int) = 5)) rfl (X.zB (X.zB (X.zB h_35))) rfl) rfl (X.q rfl ?_)
       iterate 4 refine X.off (X.zn rfl rfl rfl (X.zB (X.zB (X.zB (X.zB h_35))))) rfl ?_
       refine X.opR rfl (X.zQ (y := decide ((y9.1.Slots.length : Int) = 4)) rfl (X.zB (X.zB (X.zB (X.zB h_35)))) rfl) rfl (X.q rfl ?_)
       iterate 2 refine X.off (X.zn rfl rfl rfl (X.zB (X.zB (X.zB (X.zB (X.zB h_35)))))) rfl ?_
       refine X.opR rfl (X.zQ (y := decide (y11.1 = 1)) rfl (X.zB (X.zB (X.zB (X.zB (X.zB h_35))))) rfl) rfl (X.q rfl (GS.zA ?_))
       exact X.norm _ hg rfl (sr rfl)
      refine X.q rfl (X.q rfl ?_)
      iterate 7 refine X.off (X.zn rfl rfl rfl (X.zB (X.zB h_34))) rfl ?_
      refine X.opR rfl (X.zQ (y := decide (x1 = (⟨13, (⟨1, 1⟩ : zE), (⟨240, 299⟩ : zD)⟩ : zO))) rfl (X.zB (X.zB h_34)) rfl) rfl (X.q rfl ?_)
      refine X.off (X.zn rfl rfl rfl (X.zB (X.zB (X.zB h_34)))) rfl ?_
      refine X.opR rfl (X.zQ (y := y9.2.1) rfl (X.zB (X.zB (X.zB h_34))) rfl) rfl (X.q rfl ?_)
      iterate 4 refine X.off (X.zn rfl rfl rfl (X.zB (X.zB (X.zB (X.zB h_34))))) rfl ?_
      refine X.opR rfl (X.zQ (y := decide ((y9.1.Calls.length : Int) = 5)) rfl (X.zB (X.zB (X.zB (X.zB h_34)))) rfl) rfl (X.q rfl ?_)
      iterate 4 refine X.off (X.zn rfl rfl rfl (X.zB (X.zB (X.zB (X.zB (X.zB h_34)))))) rfl ?_
      refine X.opR rfl (X.zQ (y := decide ((y9.1.Slots.length : Int) = 4)) rfl (X.zB (X.zB (X.zB (X.zB (X.zB h_34))))) rfl) rfl (X.q rfl ?_)
      iterate 2 refine X.off (X.zn rfl rfl rfl (X.zB (X.zB (X.zB (X.zB (X.zB (X.zB h_34))))))) rfl ?_
      refine X.opR rfl (X.zQ (y := decide (y11.1 = 1)) rfl (X.zB (X.zB (X.zB (X.zB (X.zB (X.zB h_34)))))) rfl) rfl (X.q rfl (GS.zA ?_))
      exact X.norm _ hg rfl (sr rfl)
     refine X.q rfl (X.q rfl ?_)
     iterate 7 refine X.off (X.zn rfl rfl rfl (X.zB (X.zB (X.zB h_33)))) rfl ?_
     refine X.opR rfl (X.zQ (y := decide (x1 = (⟨13, (⟨1, 1⟩ : zE), (⟨240, 299⟩ : zD)⟩ : zO))) rfl (X.zB (X.zB (X.zB h_33))) rfl) rfl (X.q rfl ?_)
     refine X.off (X.zn rfl rfl rfl (X.zB (X.zB (X.zB (X.zB h_33))))) rfl ?_
     refine X.opR rfl (X.zQ (y := y9.2.1) rfl (X.zB (X.zB (X.zB (X.zB h_33)))) rfl) rfl (X.q rfl ?_)
     iterate 4 refine X.off (X.zn rfl rfl rfl (X.zB (X.zB (X.zB (X.zB (X.zB h_33)))))) rfl ?_
     refine X.opR rfl (X.zQ (y := decide ((y9.1.Calls.length : Int) = 5)) rfl (X.zB (X.zB (X.zB (X.zB (X.zB h_33))))) rfl) rfl (X.q rfl ?_)
     iterate 4 refine X.off (X.zn rfl rfl rfl (X.zB (X.zB (X.zB (X.zB (X.zB (X.zB h_33))))))) rfl ?_
     refine X.opR rfl (X.zQ (y := decide ((y9.1.Slots.length : Int) = 4)) rfl (X.zB (X.zB (X.zB (X.zB (X.zB (X.zB h_33)))))) rfl) rfl (X.q rfl ?_)
     iterate 2 refine X.off (X.zn rfl rfl rfl (X.zB (X.zB (X.zB (X.zB (X.zB (X.zB (X.zB h_33)))))))) rfl ?_
     refine X.opR rfl (X.zQ (y := decide (y11.1 = 1)) rfl (X.zB (X.zB (X.zB (X.zB (X.zB (X.zB (X.zB h_33))))))) rfl) rfl (X.q rfl (GS.zA ?_))
     exact X.norm _ hg rfl (sr rfl)
    refine X.q rfl (X.q rfl ?_)
    iterate 7 refine X.off (X.zn rfl rfl rfl (X.zB (X.zB (X.zB (X.zB h_32))))) rfl ?_
    refine X.opR rfl (X.zQ (y := decide (x1 = (⟨13, (⟨1, 1⟩ : zE), (⟨240, 299⟩ : zD)⟩ : zO))) rfl (X.zB (X.zB (X.zB (X.zB h_32)))) rfl) rfl (X.q rfl ?_)
    refine X.off (X.zn rfl rfl rfl (X.zB (X.zB (X.zB (X.zB (X.zB h_32)))))) rfl ?_
    refine X.opR rfl (X.zQ (y := y9.2.1) rfl (X.zB (X.zB (X.zB (X.zB (X.zB h_32))))) rfl) rfl (X.q rfl ?_)
    iterate 4 refine X.off (X.zn rfl rfl rfl (X.zB (X.zB (X.zB (X.zB (X.zB (X.zB h_32))))))) rfl ?_
    refine X.opR rfl (X.zQ (y := decide ((y9.1.Calls.length : Int) = 5)) rfl (X.zB (X.zB (X.zB (X.zB (X.zB (X.zB h_32)))))) rfl) rfl (X.q rfl ?_)
    iterate 4 refine X.off (X.zn rfl rfl rfl (X.zB (X.zB (X.zB (X.zB (X.zB (X.zB (X.zB h_32)))))))) rfl ?_
    refine X.opR rfl (X.zQ (y := decide ((y9.1.Slots.length : Int) = 4)) rfl (X.zB (X.zB (X.zB (X.zB (X.zB (X.zB (X.zB h_32))))))) rfl) rfl (X.q rfl ?_)
    iterate 2 refine X.off (X.zn rfl rfl rfl (X.zB (X.zB (X.zB (X.zB (X.zB (X.zB (X.zB (X.zB h_32))))))))) rfl ?_
    refine X.opR rfl (X.zQ (y := decide (y11.1 = 1)) rfl (X.zB (X.zB (X.zB (X.zB (X.zB (X.zB (X.zB (X.zB h_32)))))))) rfl) rfl (X.q rfl (GS.zA ?_))
    exact X.norm _ hg rfl (sr rfl)
   refine X.q rfl (X.q rfl ?_)
   iterate 7 refine X.off (X.zn rfl rfl rfl (X.zB (X.zB (X.zB (X.zB (X.zB h_31)))))) rfl ?_
   refine X.opR rfl (X.zQ (y := decide (x1 = (⟨13, (⟨1, 1⟩ : zE), (⟨240, 299⟩ : zD)⟩ : zO))) rfl (X.zB (X.zB (X.zB (X.zB (X.zB h_31))))) rfl) rfl (X.q rfl ?_)
   refine X.off (X.zn rfl rfl rfl (X.zB (X.zB (X.zB (X.zB (X.zB (X.zB h_31))))))) rfl ?_
   refine X.opR rfl (X.zQ (y := y9.2.1) rfl (X.zB (X.zB (X.zB (X.zB (X.zB (X.zB h_31)))))) rfl) rfl (X.q rfl ?_)
   iterate 4 refine X.off (X.zn rfl rfl rfl (X.zB (X.zB (X.zB (X.zB (X.zB (X.zB (X.zB h_31)))))))) rfl ?_
   refine X.opR rfl (X.zQ (y := decide ((y9.1.Calls.length : Int) = 5)) rfl (X.zB (X.zB (X.zB (X.zB (X.zB (X.zB (X.zB h_31))))))) rfl) rfl (X.q rfl ?_)
   iterate 4 refine X.off (X.zn rfl rfl rfl (X.zB (X.zB (X.zB (X.zB (X.zB (X.zB (X.zB (X.zB h_31))))))))) rfl ?_
   refine X.opR rfl (X.zQ (y := decide ((y9.1.Slots.length : Int) = 4)) rfl (X.zB (X.zB (X.zB (X.zB (X.zB (X.zB (X.zB (X.zB h_31)))))))) rfl) rfl (X.q rfl ?_)
   iterate 2 refine X.off (X.zn rfl rfl rfl (X.zB (X.zB (X.zB (X.zB (X.zB (X.zB (X.zB (X.zB (X.zB h_31)))))))))) rfl ?_
   refine X.opR rfl (X.zQ (y := decide (y11.1 = 1)) rfl (X.zB (X.zB (X.zB (X.zB (X.zB (X.zB (X.zB (X.zB (X.zB h_31))))))))) rfl) rfl (X.q rfl (GS.zA ?_))
   exact X.norm _ hg rfl (sr rfl)
  refine X.q rfl (X.q rfl ?_)
  iterate 7 refine X.off (X.zn rfl rfl rfl (X.zB (X.zB (X.zB (X.zB (X.zB (X.zB h_30))))))) rfl ?_
  refine X.opR rfl (X.zQ (y := decide (x1 = (⟨13, (⟨1, 1⟩ : zE), (⟨240, 299⟩ : zD)⟩ : zO))) rfl (X.zB (X.zB (X.zB (X.zB (X.zB (X.zB h_30)))))) rfl) rfl (X.q rfl ?_)
  refine X.off (X.zn rfl rfl rfl (X.zB (X.zB (X.zB (X.zB (X.zB (X.zB (X.zB h_30)))))))) rfl ?_
  refine X.opR rfl (X.zQ (y := y9.2.1) rfl (X.zB (X.zB (X.zB (X.zB (X.zB (X.zB (X.zB h_30))))))) rfl) rfl (X.q rfl ?_)
  iterate 4 refine X.off (X.zn rfl rfl rfl (X.zB (X.zB (X.zB (X.zB (X.zB (X.zB (X.zB (X.zB h_30))))))))) rfl ?_
  refine X.opR rfl (X.zQ (y := decide ((y9.1.Calls.length : Int) = 5)) rfl (X.zB (X.zB (X.zB (X.zB (X.zB (X.zB (X.zB (X.zB h_30)))))))) rfl) rfl (X.q rfl ?_)
  iterate 4 refine X.off (X.zn rfl rfl rfl (X.zB (X.zB (X.zB (X.zB (X.zB (X.zB (X.zB (X.zB (X.zB h_30)))))))))) rfl ?_
  refine X.opR rfl (X.zQ (y := decide ((y9.1.Slots.length : Int) = 4)) rfl (X.zB (X.zB (X.zB (X.zB (X.zB (X.zB (X.zB (X.zB (X.zB h_30))))))))) rfl) rfl (X.q rfl ?_)
  iterate 2 refine X.off (X.zn rfl rfl rfl (X.zB (X.zB (X.zB (X.zB (X.zB (X.zB (X.zB (X.zB (X.zB (X.zB h_30))))))))))) rfl ?_
  refine X.opR rfl (X.zQ (y := decide (y11.1 = 1)) rfl (X.zB (X.zB (X.zB (X.zB (X.zB (X.zB (X.zB (X.zB (X.zB (X.zB h_30)))))))))) rfl) rfl (X.q rfl (GS.zA ?_))
  exact X.norm _ hg rfl (sr rfl)
 cases hM
 exact GS.ret ⟨_, rfl, ⟨30, rfl⟩⟩
theorem zE9 (s : zO) : Ct Tryz.prog 109 [(zR s)] (V.i (Qp s)) := by
 refine ze ZK rfl ?_
 generalize hM : Qp s = r
 unfold Qp at hM
 refine X.sq ?_
 refine X.opW rfl rfl rfl rfl (X.q rfl (X.nq (X.q rfl (X.q rfl (X.q rfl ?_)))))
 refine GS.zA ?_
 subst hM
 exact GS.ret ⟨_, rfl, ⟨30, rfl⟩⟩
theorem YC (x : zO) (c : Int) : Ct Tryz.prog 134 [(zR x), (V.fptr [(V.fn 109 [])] 0 0), (V.fptr [(V.i c)] 0 0)] (V.b (Zp x c)) := by
 refine ze ZK rfl ?_
 generalize hM : Zp x c = r
 unfold Zp at hM
 refine X.sq ?_
 refine X.opW rfl rfl rfl rfl (X.q rfl (GS.zA (GS.seq ?_)))
 refine X.drawc (by kernel_rfl) rfl ?_
 iterate 2 refine X.cop rfl rfl rfl rfl ?_
 refine X.ccall (zE9 x) rfl rfl rfl rfl (.cons (.shut (n := 9) rfl) .nil) ?_
 iterate 3 refine X.cop rfl rfl rfl rfl ?_
 refine X.cnil ?_
 refine X.norm [(4, (V.b (decide ((Qp x) = c))))] ?_ rfl (sr rfl)
 subst hM
 exact GS.ret ⟨_, rfl, ⟨30, rfl⟩⟩
theorem jJ {s : (List zO)} {c : Int} {r : Int} (hM : zx s c = some r) : Ct Tryz.prog 133 [(V.sl (List.map zR s)), (V.fn 134 [(V.fptr [(V.fn 109 [])] 0 0), (V.fptr [(V.i c)] 0 0)])] (V.i r) := by
 refine ze ZK rfl ?_
 unfold zx at hM
 refine X.sq (X.q rfl (GS.zA (GS.seq (X.sq (X.q rfl ?_)))))
 refine X.opR rfl (X.lenF rfl rfl rfl) rfl (X.q rfl (GS.zA ?_))
 refine X.join (τ := Unit) (fun v => zr = some r) (fun v => ⟨[], [], 0, none, 19⟩) ?_ ?_
 ·intro _ hM
  replace hM : zr = some r := hM
  unfold zr at hM
  refine X.sq (X.q rfl (GS.zA ?_))
  cases hM
  exact GS.ret ⟨_, rfl, ⟨30, rfl⟩⟩
 intro hj_1
 refine GS.block ?_
 refine X.gc [] (X.loop (σ := Int) (fun v => ⟨[(0, (V.sl (List.map zR s))), (1, (V.fn 134 [(V.fptr [(V.fn 109 [])] 0 0), (V.fptr [(V.i c)] 0 0)])), (7, (V.i (s.length : Int))), (8, (V.i v))], [], 0, none, 19⟩) hM ?_ rfl) rfl rfl rfl (ga rfl rfl) (zL)
 intro x1 b_1 hM hc_2 hr_1
 rw [zl] at hM
 refine X.sq (X.q rfl (GS.zA (GS.seq ?_)))
 refine X.cond rfl (fun h_1 => ?_) (fun h_1 => ?_)
 ·replace hM := zZ h_1 hM
  refine GS.skip (GS.seq (GS.block (X.sq (X.q rfl (X.q rfl ?_)))))
  refine GS.zA (GS.seq ?_)
  obtain ⟨x, h_2, hM⟩ := zH hM
  refine GS.region (X.q rfl (X.q rfl (X.q rfl ?_)))
  refine X.opR rfl (X.ZC (f := zR) h_2 (fun _ => rfl) rfl rfl rfl rfl) rfl ?_
  refine X.opR rfl (X.ZS h_2 rfl rfl rfl) rfl ?_
  refine X.call (YC x c) rfl rfl rfl (.cons (.shut (n := 9) rfl) (.cons (.shut (n := 9) rfl) (.cons (.shut (n := 9) rfl) .nil))) (GS.zA ?_)
  refine X.cond rfl (fun h_3 => ?_) (fun h_3 => ?_)
  ·replace hM := zZ h_3 hM
   refine X.sq (X.q rfl (X.q rfl ?_))
   refine GS.zA ?_
   have hE := Option.some.inj hM
   replace hE := hr_1 _ hE.symm
   subst hE
   exact GS.ret ⟨_, rfl, ⟨30, rfl⟩⟩
  replace hM := za h_3 hM
  refine GS.skip ?_
  refine GS.endB (GS.region ?_)
  refine X.opR rfl (X.addE rfl rfl) rfl (X.q rfl (GS.zA ?_))
  have hE := Option.some.inj hM
  exact X.gc [] (hc_2 (w64 (x1 + 1)) hE.symm) rfl rfl rfl (ga rfl rfl) (zL)
 replace hM := za h_1 hM
 refine GS.exit rfl ?_
 obtain ⟨y_1, hM, hy⟩ := ZN hM
 rw [hr_1 _ hy.symm] at hM
 exact X.gc [] (hj_1 () hM) rfl rfl rfl (Jq) (zL)
theorem Ya {l : (List zO)} {id : Int} {r : Int} (hM : Zc l id = some r) : Ct Tryz.prog 108 [(V.sl (List.map zR l)), (V.i id), (V.fn 109 [])] (V.i r) := by
 refine ze ZK rfl ?_
 unfold Zc at hM
 refine X.sq ?_
 iterate 2 refine X.opW rfl rfl rfl rfl ?_
 refine X.q rfl (GS.zA (GS.seq ?_))
 obtain ⟨y, h_1, hM⟩ := zH hM
 refine GS.region (X.q rfl (X.q rfl ?_))
 refine X.zBd (jJ h_1) rfl rfl rfl (m := 9) rfl (.cons (.shut (n := 9) rfl) (.cons (FR.arg ⟨30, rfl⟩) .nil)) (X.q rfl (GS.zA ?_))
 cases hM
 exact GS.ret ⟨_, rfl, ⟨30, rfl⟩⟩
theorem zAg {l : (List zO)} {id : Int} {r : zO × Bool} (hM : QK l id = some r) : Ct Tryz.prog 77 [(V.sl (List.map zR l)), (V.i id)] (V.tup [(zR r.1), (V.b r.2)]) := by
 refine ze ZK rfl ?_
 unfold QK at hM
 refine X.sq ?_
 refine X.opW rfl rfl rfl rfl (X.q rfl (GS.zA (GS.seq ?_)))
 obtain ⟨y, h_1, hM⟩ := zH hM
 refine GS.region (X.q rfl (X.q rfl ?_))
 refine X.call (Ya h_1) rfl rfl rfl (.cons (.shut (n := 9) rfl) (.cons (.shut (n := 9) rfl) (.cons (.shut (n := 9) rfl) .nil))) (X.q rfl (GS.zA (GS.seq (X.sq (X.q rfl (X.q rfl ?_))))))
 refine GS.zA ?_
 refine X.cond rfl (fun h_2 => ?_) (fun h_2 => ?_)
 ·replace hM := zZ h_2 hM
  refine X.sq (X.q rfl ?_)
  refine X.op0W rfl rfl rfl (X.q rfl (GS.zA ?_))
  cases hM
  exact GS.ret ⟨_, rfl, ⟨30, rfl⟩⟩
 replace hM := za h_2 hM
 refine GS.skip (GS.seq ?_)
 obtain ⟨x, h_3, hM⟩ := zH hM
 refine GS.region (X.q rfl (X.q rfl ?_))
 refine X.opR rfl (X.ZC (f := zR) h_3 (fun _ => rfl) rfl rfl rfl rfl) rfl ?_
 refine X.opR rfl (X.ZS h_3 rfl rfl rfl) rfl ?_
 refine X.op0W rfl rfl rfl (X.q rfl (GS.zA ?_))
 cases hM
 exact GS.ret ⟨_, rfl, ⟨30, rfl⟩⟩
theorem zAf {s : (List zE)} {v_ : zE} {r : Int} (hM : jg s v_ = some r) : Ct Tryz.prog 78 [(V.sl (List.map zC s)), (zC v_)] (V.i r) := by
 refine ze ZK rfl ?_
 unfold jg at hM
 refine X.sq ?_
 refine X.opW rfl rfl rfl rfl (X.q rfl (GS.zA (GS.seq (X.sq (X.q rfl ?_)))))
 refine X.opR rfl (X.lenF rfl rfl rfl) rfl (X.q rfl (GS.zA ?_))
 refine X.join (τ := Unit) (fun v => jp = some r) (fun v => ⟨[], [], 0, none, 19⟩) ?_ ?_
 ·intro _ hM
  replace hM : jp = some r := hM
  unfold jp at hM
  refine X.sq (X.q rfl (GS.zA ?_))
  cases hM
  exact GS.ret ⟨_, rfl, ⟨30, rfl⟩⟩
 intro hj_1
 refine GS.block ?_
 refine X.gc [some 0] (X.loop (σ := Int) (fun v => ⟨[(0, (V.sl (List.map zC s))), (3, (V.ptr 0 0 0)), (7, (V.i (s.length : Int))), (8, (V.i v))], [.rows 2 [(zC v_)]], 0, none, 19⟩) hM ?_ rfl) rfl rfl rfl (ga rfl rfl) (gb9 rfl rfl rfl zL)
 intro x1 b_1 hM hc_2 hr_1
 rw [jG] at hM
 refine X.sq (X.q rfl (GS.zA (GS.seq ?_)))
 refine X.cond rfl (fun h_1 => ?_) (fun h_1 => ?_)
 ·replace hM := zZ h_1 hM
  refine GS.skip (GS.seq (GS.block (X.sq (X.q rfl (X.q rfl ?_)))))
  refine GS.zA (GS.seq ?_)
  obtain ⟨x, h_2, hM⟩ := zH hM
  refine X.drawc (by kernel_rfl) rfl ?_
  iterate 3 refine X.cop rfl rfl rfl rfl ?_
  refine X.cop rfl (X.ZC (f := zC) h_2 (fun _ => rfl) rfl rfl rfl rfl) rfl rfl ?_
  refine X.cop rfl (X.ZS h_2 rfl rfl rfl) rfl rfl ?_
  refine X.cop rfl (X.eqlE (zCH v_ x) rfl rfl) rfl rfl ?_
  refine X.cnil ?_
  refine X.norm [(0, (V.sl (List.map zC s))), (3, (V.ptr 0 0 0)), (5, (V.i x1)), (7, (V.i (s.length : Int))), (8, (V.i x1)), (16, (V.b (decide (v_ = x))))] ?_ rfl (sr rfl)
  refine X.cond rfl (fun h_3 => ?_) (fun h_3 => ?_)
  ·replace hM := zZ h_3 hM
   refine X.sq (X.q rfl (X.q rfl ?_))
   refine GS.zA ?_
   have hE := Option.some.inj hM
   replace hE := hr_1 _ hE.symm
   subst hE
   exact GS.ret ⟨_, rfl, ⟨30, rfl⟩⟩
  replace hM := za h_3 hM
  refine GS.skip ?_
  refine GS.endB (GS.region ?_)
  refine X.opR rfl (X.addE rfl rfl) rfl (X.q rfl (GS.zA ?_))
  have hE := Option.some.inj hM
  exact X.gc [some 0] (hc_2 (w64 (x1 + 1)) hE.symm) rfl rfl rfl (ga rfl rfl) (gb9 rfl rfl rfl zL)
 replace hM := za h_1 hM
 refine GS.exit rfl ?_
 obtain ⟨y_1, hM, hy⟩ := ZN hM
 rw [hr_1 _ hy.symm] at hM
 exact X.gc [] (hj_1 () hM) rfl rfl rfl (Jq) (zL)
end Go.Proofs.YtnkngglimidldaaGreat
