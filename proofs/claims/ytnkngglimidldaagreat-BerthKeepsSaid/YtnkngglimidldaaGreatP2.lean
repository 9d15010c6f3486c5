/- The program's functions compute the plain ones. Conditions: none. Printed by a program (wip/tools/xg.py). -/
import Derived.Test.YtnkngglimidldaaGreatP1
set_option linter.unusedVariables false
set_option linter.unusedSimpArgs false
namespace Go.Proofs.YtnkngglimidldaaGreat
open Go Go.Am Go.Proofs Go.Mx
set_option maxHeartbeats 4000000 in
theorem zFg {cost : (List (List Int))} {places : Int} {r : (List Int) × Int} (hM : Jc cost places = some r) : Ct Tryz.prog 101 [(V.sl (List.map (fun l => V.sl (List.map V.i l)) cost)), (V.i places)] (V.tup [(V.sl (List.map V.i r.1)), (V.i r.2)]) := by
 refine zg ZR rfl ?_
 unfold Jc at hM
 refine X.sq (X.q rfl (X.q rfl ?_))
 refine GS.zA (GS.seq ?_)
 obtain ⟨l, h_1, hM⟩ := zI hM
 refine GS.region (X.q rfl ?_)
 refine X.opR rfl (X.lenF rfl rfl rfl) rfl ?_
 refine X.opR rfl (X.addE rfl rfl) rfl ?_
 refine X.opW rfl (X.zEA (f := V.i) h_1 rfl rfl rfl rfl rfl rfl rfl rfl) rfl rfl (X.q rfl (GS.zA (GS.seq ?_)))
 obtain ⟨l1, h_2, hM⟩ := zI hM
 refine GS.region (X.q rfl ?_)
 refine X.opR rfl (X.addE rfl rfl) rfl ?_
 refine X.opW rfl (X.zEA (f := V.i) h_2 rfl rfl rfl rfl rfl rfl rfl rfl) rfl rfl (X.q rfl (GS.zA (GS.seq ?_)))
 obtain ⟨l2, h_3, hM⟩ := zI hM
 refine GS.region (X.q rfl ?_)
 refine X.opR rfl (X.addE rfl rfl) rfl ?_
 refine X.opW rfl (X.zEA (f := V.i) h_3 rfl rfl rfl rfl rfl rfl rfl rfl) rfl rfl (X.q rfl (GS.zA (GS.seq (X.sq (X.q rfl (GS.zA ?_))))))
 refine X.join (τ := (List Int)) (fun v => JR cost places v = some r) (fun v => ⟨[(0, (V.sl (List.map (fun l => V.sl (List.map V.i l)) cost))), (1, (V.i places)), (8, (V.osl 0 0 (List.length v)))], [.rows 1 (List.map V.i v)], 0, none, 215⟩) ?_ ?_
 ·intro l3 hM
  replace hM : JR cost places l3 = some r := hM
  unfold JR at hM
  refine GS.seq ?_
  obtain ⟨l4, h_4, hM⟩ := zI hM
  refine GS.region (X.q rfl ?_)
  refine X.opR rfl (X.lenF rfl rfl rfl) rfl ?_
  refine X.opW rfl (X.zEA (f := V.i) h_4 rfl rfl rfl rfl rfl rfl rfl rfl) rfl rfl (X.q rfl (X.nq (X.q rfl (GS.zA (GS.seq (X.sq (X.q rfl (GS.zA ?_))))))))
  refine X.join (τ := Int × (List Int)) (fun v => YN v.1 v.2 = some r) (fun v => ⟨[(21, (V.osl 0 0 (List.length v.2))), (22, (V.i v.1))], [.rows 1 (List.map V.i v.2)], 0, none, 215⟩) ?_ ?_
  ·rintro ⟨sum, l5⟩ hM
   replace hM : YN sum l5 = some r := hM
   unfold YN at hM
   refine X.sq ?_
   iterate 4 refine X.q rfl ?_
   refine GS.zA ?_
   have hE := Option.some.inj hM
   subst hE
   exact GS.ret ⟨_, rfl, FR.tup (.cons (FR.osl (f := V.i) (l := l5) 9 rfl rfl (fun _ => rfl)) (.cons ⟨30, rfl⟩ .nil))⟩
  intro hj_2
  refine GS.block ?_
  refine X.gc [some 0, some 1] (X.loop (σ := (Int × Int × (List Int))) (fun v => ⟨[(0, (V.sl (List.map (fun l => V.sl (List.map V.i l)) cost))), (1, (V.i places)), (8, (V.osl 0 0 (List.length l3))), (21, (V.osl 1 0 (List.length v.2.2))), (22, (V.i v.1)), (23, (V.i v.2.1))], [.rows 1 (List.map V.i l3), .rows 1 (List.map V.i v.2.2)], 0, none, 215⟩) hM ?_ rfl) rfl rfl rfl (ga rfl rfl) (zQ 9 rfl rfl (fun _ => rfl) (zQ 9 rfl rfl (fun _ => rfl) zM))
  rintro ⟨sum2, k, l7⟩ b_1 hM hc_3 hr_1
  rw [Jw] at hM
  refine GS.seq (X.sq (X.q rfl (X.q rfl (X.q rfl ?_))))
  refine GS.zA ?_
  refine X.cond rfl (fun h_5 => ?_) (fun h_5 => ?_)
  ·replace hM := za h_5 hM
   refine GS.skip (GS.seq ?_)
   refine X.join (τ := Int × (List Int)) (fun v => JP k v.1 v.2 = some b_1) (fun v => ⟨[(0, (V.sl (List.map (fun l => V.sl (List.map V.i l)) cost))), (1, (V.i places)), (8, (V.osl 0 0 (List.length l3))), (21, (V.osl 1 0 (List.length v.2))), (22, (V.i v.1)), (23, (V.i k))], [.rows 1 (List.map V.i l3), .rows 1 (List.map V.i v.2)], 0, none, 215⟩) ?_ ?_
   ·rintro ⟨sum1, l6⟩ hM
    replace hM : JP k sum1 l6 = some b_1 := hM
    unfold JP at hM
    refine GS.region (X.q rfl ?_)
    refine X.opR rfl (X.addE rfl rfl) rfl (X.q rfl (GS.zA ?_))
    have hE := Option.some.inj hM
    exact X.gc [some 0, some 1] (hc_3 (sum1, w64 (k + 1), l6) hE.symm) rfl rfl rfl (ga rfl rfl) (zQ 9 rfl rfl (fun _ => rfl) (zQ 9 rfl rfl (fun _ => rfl) zM))
   intro hj_4
   refine GS.block (GS.seq ?_)
   obtain ⟨x, h_6, hM⟩ := zI hM
   refine GS.region (X.q rfl (X.q rfl ?_))
   refine X.opR rfl (X.Z7 h_6 rfl rfl rfl rfl rfl) rfl ?_
   refine X.opR rfl (X.Qy h_6 rfl rfl rfl rfl) rfl (X.q rfl (GS.zA ?_))
   refine X.cond rfl (fun h_7 => ?_) (fun h_7 => ?_)
   ·replace hM := za h_7 hM
    refine GS.seq ?_
    obtain ⟨x1, h_8, hM⟩ := zI hM
    obtain ⟨x2, h_9, hM⟩ := zI hM
    refine GS.region (X.q rfl (X.q rfl (X.q rfl ?_)))
    refine X.opR rfl (X.Z7 h_8 rfl rfl rfl rfl rfl) rfl ?_
    refine X.opR rfl (X.Qy h_8 rfl rfl rfl rfl) rfl ?_
    refine X.opR rfl (X.subE rfl rfl) rfl (X.q rfl ?_)
    refine X.opR rfl (X.subE rfl rfl) rfl ?_
    refine X.opR rfl (X.Z7 h_9 rfl rfl rfl rfl rfl) rfl ?_
    refine X.op0W rfl (X.yt (b := w64 (k - 1)) h_9 rfl rfl rfl rfl rfl rfl rfl) rfl (GS.zA ?_)
    obtain ⟨x3, h_10, hM⟩ := zI hM
    obtain ⟨x4, h_11, hM⟩ := zI hM
    obtain ⟨x5, h_12, hM⟩ := zI hM
    refine GS.region ?_
    iterate 4 refine X.q rfl ?_
    refine X.opR rfl (X.Z7 h_10 rfl rfl rfl rfl rfl) rfl ?_
    refine X.opR rfl (X.Qy h_10 rfl rfl rfl rfl) rfl ?_
    refine X.opR rfl (X.subE rfl rfl) rfl ?_
    refine X.opR rfl (X.ZJ (f := (fun l => V.sl (List.map V.i l))) h_11 (fun _ => rfl) rfl rfl rfl rfl) rfl ?_
    refine X.opR rfl (X.Za h_11 rfl rfl rfl) rfl (X.q rfl ?_)
    refine X.opR rfl (X.subE rfl rfl) rfl ?_
    refine X.opR rfl (X.ZJ (f := V.i) h_12 (fun _ => rfl) rfl rfl rfl rfl) rfl ?_
    refine X.opR rfl (X.Za h_12 rfl rfl rfl) rfl ?_
    refine X.opR rfl (X.addE rfl rfl) rfl (X.q rfl (GS.zA ?_))
    refine GS.endB ?_
    exact X.gc [some 0, some 1] (hj_4 (w64 (sum2 + x5), (put l7 (w64 (x1 - 1)) (w64 (k - 1)))) hM) rfl rfl rfl (zO rfl ⟨9, rfl⟩ (zO rfl ⟨9, rfl⟩ (zO rfl ⟨9, rfl⟩ (zO rfl (QO X.jv ⟨9, rfl⟩) (ga rfl rfl))))) (zQ 9 rfl rfl (fun _ => rfl) (zQ 9 rfl rfl (fun _ => rfl) zM))
   replace hM := zb h_7 hM
   refine GS.skip ?_
   refine GS.endB ?_
   exact X.gc [some 0, some 1] (hj_4 (sum2, l7) hM) rfl rfl rfl (ga rfl rfl) (zQ 9 rfl rfl (fun _ => rfl) (zQ 9 rfl rfl (fun _ => rfl) zM))
  replace hM := zb h_5 hM
  refine GS.exit rfl ?_
  obtain ⟨y_1, hM, hy⟩ := ZV hM
  rw [hr_1 _ hy.symm] at hM
  exact X.gc [some 1] (hj_2 (sum2, l7) hM) rfl rfl rfl (ga rfl rfl) (zQ 9 rfl rfl (fun _ => rfl) zM)
 intro hj_1
 refine GS.block ?_
 refine X.gc [some 0, some 1, some 2] (X.loop (σ := (Int × (List Int) × (List Int) × (List Int))) (fun v => ⟨[(0, (V.sl (List.map (fun l => V.sl (List.map V.i l)) cost))), (1, (V.i places)), (6, (V.osl 0 0 (List.length v.2.1))), (7, (V.osl 1 0 (List.length v.2.2.1))), (8, (V.osl 2 0 (List.length v.2.2.2))), (9, (V.i v.1))], [.rows 1 (List.map V.i v.2.1), .rows 1 (List.map V.i v.2.2.1), .rows 1 (List.map V.i v.2.2.2)], 0, none, 215⟩) hM ?_ rfl) rfl rfl rfl (ga rfl rfl) (zQ 9 rfl rfl (fun _ => rfl) (zQ 9 rfl rfl (fun _ => rfl) (zQ 9 rfl rfl (fun _ => rfl) zM)))
 rintro ⟨i, l40, l41, l42⟩ b_1 hM hc_5 hr_1
 rw [YP] at hM
 refine GS.seq (X.sq (X.q rfl (X.q rfl ?_)))
 refine X.opR rfl (X.lenF rfl rfl rfl) rfl (X.q rfl (GS.zA ?_))
 refine X.cond rfl (fun h_13 => ?_) (fun h_13 => ?_)
 ·replace hM := za h_13 hM
  refine GS.skip (GS.seq (GS.block ?_))
  refine GS.scope (GS.seq ?_)
  obtain ⟨x6, h_14, hM⟩ := zI hM
  refine GS.region (X.q rfl (X.q rfl ?_))
  refine X.opR rfl (X.Z7 h_14 rfl rfl rfl rfl rfl) rfl ?_
  refine X.op0W rfl (X.yt (b := i) h_14 rfl rfl rfl rfl rfl rfl rfl) rfl (X.nq (X.q rfl (GS.zA (GS.seq ?_))))
  obtain ⟨l8, h_15, hM⟩ := zI hM
  refine GS.region (X.q rfl ?_)
  refine X.opR rfl (X.addE rfl rfl) rfl ?_
  refine X.opW (H' := [.rows 1 (List.map V.i l40), .rows 1 (List.map V.i l41), .rows 1 (List.map V.i (put l42 0 i)), .rows 1 (List.map V.i l8)]) rfl (X.zEA (f := V.i) h_15 rfl rfl rfl rfl rfl rfl rfl rfl) rfl rfl (X.q rfl (GS.zA (GS.seq ?_)))
  obtain ⟨l9, h_16, hM⟩ := zI hM
  refine GS.region (X.q rfl ?_)
  refine X.opR rfl (X.addE rfl rfl) rfl ?_
  refine X.opW (H' := [.rows 1 (List.map V.i l40), .rows 1 (List.map V.i l41), .rows 1 (List.map V.i (put l42 0 i)), .rows 1 (List.map V.i l8), .rows 1 (List.map V.i l9)]) rfl (X.zEA (f := V.i) h_16 rfl rfl rfl rfl rfl rfl rfl rfl) rfl rfl (X.q rfl (GS.zA (GS.seq ?_)))
  obtain ⟨l10, h_17, hM⟩ := zI hM
  refine GS.region (X.q rfl ?_)
  refine X.opR rfl (X.addE rfl rfl) rfl ?_
  refine X.opW (H' := [.rows 1 (List.map V.i l40), .rows 1 (List.map V.i l41), .rows 1 (List.map V.i (put l42 0 i)), .rows 1 (List.map V.i l8), .rows 1 (List.map V.i l9), .rows 1 (List.map V.b l10)]) rfl (X.zEA (f := V.b) h_17 rfl rfl rfl rfl rfl rfl rfl rfl) rfl rfl (X.q rfl (GS.zA (GS.seq (X.sq (X.q rfl ?_)))))
  refine X.opR rfl (X.lenO (l := l8) rfl rfl rfl) rfl (X.q rfl (GS.zA ?_))
  refine X.join (τ := (List Int)) (fun v => Jv cost places i l40 l41 l42 l9 l10 v = some b_1) (fun v => ⟨[(0, (V.sl (List.map (fun l => V.sl (List.map V.i l)) cost))), (1, (V.i places)), (6, (V.osl 0 0 (List.length l40))), (7, (V.osl 1 0 (List.length l41))), (8, (V.osl 2 0 (List.length (put l42 0 i)))), (9, (V.i i)), (10, (V.i 0)), (11, (V.osl 3 0 (List.length v))), (12, (V.osl 4 0 (List.length l9))), (13, (V.osl 5 0 (List.length l10)))], [.rows 1 (List.map V.i l40), .rows 1 (List.map V.i l41), .rows 1 (List.map V.i (put l42 0 i)), .rows 1 (List.map V.i v), .rows 1 (List.map V.i l9), .rows 1 (List.map V.b l10)], 0, none, 215⟩) ?_ ?_
  ·intro l11 hM
   replace hM : Jv cost places i l40 l41 l42 l9 l10 l11 = some b_1 := hM
   unfold Jv at hM
   refine GS.seq ?_
   refine GS.label (GS.seq ?_)
   refine X.join (τ := Int × (List Int) × (List Int) × (List Int)) (fun v => YM i l42 v.1 v.2.1 v.2.2.1 v.2.2.2 = some b_1) (fun v => ⟨[(0, (V.sl (List.map (fun l => V.sl (List.map V.i l)) cost))), (1, (V.i places)), (6, (V.osl 0 0 (List.length v.2.1))), (7, (V.osl 1 0 (List.length v.2.2.1))), (8, (V.osl 2 0 (List.length (put l42 0 i)))), (9, (V.i i)), (10, (V.i v.1)), (12, (V.osl 3 0 (List.length v.2.2.2)))], [.rows 1 (List.map V.i v.2.1), .rows 1 (List.map V.i v.2.2.1), .rows 1 (List.map V.i (put l42 0 i)), .rows 1 (List.map V.i v.2.2.2)], 0, none, 215⟩) ?_ ?_
   ·rintro ⟨at_, l12, l13, l14⟩ hM
    replace hM : YM i l42 at_ l12 l13 l14 = some b_1 := hM
    unfold YM at hM
    refine X.join (τ := (List Int)) (fun v => YL i l12 l13 v = some b_1) (fun v => ⟨[(0, (V.sl (List.map (fun l => V.sl (List.map V.i l)) cost))), (1, (V.i places)), (6, (V.osl 0 0 (List.length l12))), (7, (V.osl 1 0 (List.length l13))), (8, (V.osl 2 0 (List.length v))), (9, (V.i i))], [.rows 1 (List.map V.i l12), .rows 1 (List.map V.i l13), .rows 1 (List.map V.i v)], 0, none, 215⟩) ?_ ?_
    ·intro l15 hM
     replace hM : YL i l12 l13 l15 = some b_1 := hM
     unfold YL at hM
     refine GS.endB (GS.region (X.q rfl ?_))
     refine X.opR rfl (X.addE rfl rfl) rfl (X.q rfl (GS.zA ?_))
     have hE := Option.some.inj hM
     exact X.gc [some 0, some 1, some 2] (hc_5 (w64 (i + 1), l12, l13, l15) hE.symm) rfl rfl rfl (ga rfl rfl) (zQ 9 rfl rfl (fun _ => rfl) (zQ 9 rfl rfl (fun _ => rfl) (zQ 9 rfl rfl (fun _ => rfl) zM)))
    intro hj_8
    refine GS.block ?_
    refine X.gc [some 0, some 1, some 2, some 3] (X.loop (σ := (Int × (List Int))) (fun v => ⟨[(0, (V.sl (List.map (fun l => V.sl (List.map V.i l)) cost))), (1, (V.i places)), (6, (V.osl 0 0 (List.length l12))), (7, (V.osl 1 0 (List.length l13))), (8, (V.osl 2 0 (List.length v.2))), (9, (V.i i)), (10, (V.i v.1)), (12, (V.osl 3 0 (List.length l14)))], [.rows 1 (List.map V.i l12), .rows 1 (List.map V.i l13), .rows 1 (List.map V.i v.2), .rows 1 (List.map V.i l14)], 0, none, 215⟩) hM ?_ rfl) rfl rfl rfl (ga rfl rfl) (zQ 9 rfl rfl (fun _ => rfl) (zQ 9 rfl rfl (fun _ => rfl) (zQ 9 rfl rfl (fun _ => rfl) (zQ 9 rfl rfl (fun _ => rfl) zM))))
    rintro ⟨at_1, l16⟩ b_2 hM hc_9 hr_2
    rw [YO] at hM
    refine GS.seq (X.sq (X.q rfl (X.q rfl ?_)))
    refine GS.zA ?_
    refine X.cond rfl (fun h_18 => ?_) (fun h_18 => ?_)
    ·replace hM := za h_18 hM
     refine GS.skip (GS.block (GS.seq ?_))
     obtain ⟨x7, h_19, hM⟩ := zI hM
     obtain ⟨x8, h_20, hM⟩ := zI hM
     obtain ⟨x9, h_21, hM⟩ := zI hM
     refine GS.region ?_
     iterate 5 refine X.q rfl ?_
     refine X.opR rfl (X.Z7 h_19 rfl rfl rfl rfl rfl) rfl ?_
     refine X.opR rfl (X.Qy h_19 rfl rfl rfl rfl) rfl ?_
     refine X.opR rfl (X.Z7 h_20 rfl rfl rfl rfl rfl) rfl ?_
     refine X.opR rfl (X.Qy h_20 rfl rfl rfl rfl) rfl ?_
     refine X.opR rfl (X.Z7 h_21 rfl rfl rfl rfl rfl) rfl ?_
     refine X.op0W (H' := [.rows 1 (List.map V.i l12), .rows 1 (List.map V.i l13), .rows 1 (List.map V.i (put l16 at_1 x8)), .rows 1 (List.map V.i l14)]) rfl (X.yt (b := x8) h_21 rfl rfl rfl rfl rfl rfl rfl) rfl (GS.zA ?_)
     obtain ⟨x10, h_22, hM⟩ := zI hM
     refine GS.region (X.q rfl (X.q rfl ?_))
     refine X.opR rfl (X.Z7 h_22 rfl rfl rfl rfl rfl) rfl ?_
     refine X.opR rfl (X.Qy h_22 rfl rfl rfl rfl) rfl (X.q rfl (GS.zA ?_))
     refine GS.endB ?_
     have hE := Option.some.inj hM
     exact X.gc [some 0, some 1, some 2, some 3] (hc_9 (x10, (put l16 at_1 x8)) hE.symm) rfl rfl rfl (zO rfl ⟨9, rfl⟩ (zO rfl ⟨9, rfl⟩ (zO rfl ⟨9, rfl⟩ (zO rfl ⟨9, rfl⟩ (zO rfl (QO X.jv ⟨9, rfl⟩) (ga rfl rfl)))))) (zQ 9 rfl rfl (fun _ => rfl) (zQ 9 rfl rfl (fun _ => rfl) (zQ 9 rfl rfl (fun _ => rfl) (zQ 9 rfl rfl (fun _ => rfl) zM))))
    replace hM := zb h_18 hM
    refine GS.exit rfl ?_
    obtain ⟨y_2, hM, hy⟩ := ZV hM
    rw [hr_2 _ hy.symm] at hM
    exact X.gc [some 0, some 1, some 2] (hj_8 l16 hM) rfl rfl rfl (ga rfl rfl) (zQ 9 rfl rfl (fun _ => rfl) (zQ 9 rfl rfl (fun _ => rfl) (zQ 9 rfl rfl (fun _ => rfl) zM)))
   intro hj_7
   refine GS.block ?_
   refine X.gc [some 0, some 1, some 2, some 3, some 4, some 5] (X.loop (σ := (Int × (List Int) × (List Int) × (List Int) × (List Int) × (List Bool))) (fun v => ⟨[(0, (V.sl (List.map (fun l => V.sl (List.map V.i l)) cost))), (1, (V.i places)), (6, (V.osl 0 0 (List.length v.2.1))), (7, (V.osl 1 0 (List.length v.2.2.1))), (8, (V.osl 2 0 (List.length (put l42 0 i)))), (9, (V.i i)), (10, (V.i v.1)), (11, (V.osl 3 0 (List.length v.2.2.2.1))), (12, (V.osl 4 0 (List.length v.2.2.2.2.1))), (13, (V.osl 5 0 (List.length v.2.2.2.2.2)))], [.rows 1 (List.map V.i v.2.1), .rows 1 (List.map V.i v.2.2.1), .rows 1 (List.map V.i (put l42 0 i)), .rows 1 (List.map V.i v.2.2.2.1), .rows 1 (List.map V.i v.2.2.2.2.1), .rows 1 (List.map V.b v.2.2.2.2.2)], 0, none, 215⟩) hM ?_ rfl) rfl rfl rfl (ga rfl rfl) (zQ 9 rfl rfl (fun _ => rfl) (zQ 9 rfl rfl (fun _ => rfl) (zQ 9 rfl rfl (fun _ => rfl) (zQ 9 rfl rfl (fun _ => rfl) (zQ 9 rfl rfl (fun _ => rfl) (zQ 9 rfl rfl (fun _ => rfl) zM))))))
   rintro ⟨at_2, l34, l35, l36, l37, l38⟩ b_2 hM hc_10 hr_2
   rw [yZ] at hM
   refine GS.block (GS.seq ?_)
   obtain ⟨x11, h_23, hM⟩ := zI hM
   refine GS.region (X.q rfl (X.q rfl ?_))
   refine X.opR rfl (X.Z7 h_23 rfl rfl rfl rfl rfl) rfl ?_
   refine X.op0W (H' := [.rows 1 (List.map V.i l34), .rows 1 (List.map V.i l35), .rows 1 (List.map V.i (put l42 0 i)), .rows 1 (List.map V.i l36), .rows 1 (List.map V.i l37), .rows 1 (List.map V.b (put l38 at_2 true))]) rfl (X.yt (b := true) h_23 rfl rfl rfl rfl rfl rfl rfl) rfl (GS.zA (GS.seq ?_))
   obtain ⟨x12, h_24, hM⟩ := zI hM
   refine GS.region (X.q rfl (X.q rfl ?_))
   refine X.opR rfl (X.Z7 h_24 rfl rfl rfl rfl rfl) rfl ?_
   refine X.opR rfl (X.Qy h_24 rfl rfl rfl rfl) rfl (X.q rfl (X.q rfl (X.q rfl ?_)))
   refine GS.zA (GS.seq (X.sq (X.q rfl (GS.zA ?_))))
   refine X.join (τ := Int × Int × (List Int) × (List Int)) (fun v => j6 i l42 at_2 l34 l35 l38 v.1 v.2.1 v.2.2.1 v.2.2.2 = some b_2) (fun v => ⟨[(0, (V.sl (List.map (fun l => V.sl (List.map V.i l)) cost))), (1, (V.i places)), (6, (V.osl 0 0 (List.length l34))), (7, (V.osl 1 0 (List.length l35))), (8, (V.osl 2 0 (List.length (put l42 0 i)))), (9, (V.i i)), (11, (V.osl 3 0 (List.length v.2.2.1))), (12, (V.osl 4 0 (List.length v.2.2.2))), (13, (V.osl 5 0 (List.length (put l38 at_2 true)))), (16, (V.i v.1)), (17, (V.i v.2.1))], [.rows 1 (List.map V.i l34), .rows 1 (List.map V.i l35), .rows 1 (List.map V.i (put l42 0 i)), .rows 1 (List.map V.i v.2.2.1), .rows 1 (List.map V.i v.2.2.2), .rows 1 (List.map V.b (put l38 at_2 true))], 0, none, 215⟩) ?_ ?_
   ·rintro ⟨next, step, l17, l18⟩ hM
    replace hM : j6 i l42 at_2 l34 l35 l38 next step l17 l18 = some b_2 := hM
    unfold j6 at hM
    refine GS.seq (X.sq (X.q rfl ?_))
    refine X.opR rfl (X.lenO (l := (put l38 at_2 true)) rfl rfl rfl) rfl (X.q rfl (GS.zA ?_))
    refine X.join (τ := (List Int) × (List Int) × (List Int)) (fun v => jb i l42 at_2 l38 next l18 v.1 v.2.1 v.2.2 = some b_2) (fun v => ⟨[(0, (V.sl (List.map (fun l => V.sl (List.map V.i l)) cost))), (1, (V.i places)), (6, (V.osl 0 0 (List.length v.1))), (7, (V.osl 1 0 (List.length v.2.1))), (8, (V.osl 2 0 (List.length (put l42 0 i)))), (9, (V.i i)), (11, (V.osl 3 0 (List.length v.2.2))), (12, (V.osl 4 0 (List.length l18))), (13, (V.osl 5 0 (List.length (put l38 at_2 true)))), (16, (V.i next))], [.rows 1 (List.map V.i v.1), .rows 1 (List.map V.i v.2.1), .rows 1 (List.map V.i (put l42 0 i)), .rows 1 (List.map V.i v.2.2), .rows 1 (List.map V.i l18), .rows 1 (List.map V.b (put l38 at_2 true))], 0, none, 215⟩) ?_ ?_
    ·rintro ⟨l19, l20, l21⟩ hM
     replace hM : jb i l42 at_2 l38 next l18 l19 l20 l21 = some b_2 := hM
     unfold jb at hM
     refine X.sq (X.q rfl (X.q rfl ?_))
     refine GS.zA (GS.seq ?_)
     obtain ⟨x13, h_25, hM⟩ := zI hM
     refine GS.region (X.q rfl (X.q rfl ?_))
     refine X.opR rfl (X.Z7 h_25 rfl rfl rfl rfl rfl) rfl ?_
     refine X.opR rfl (X.Qy h_25 rfl rfl rfl rfl) rfl (X.q rfl (GS.zA ?_))
     refine X.cond rfl (fun h_26 => ?_) (fun h_26 => ?_)
     ·replace hM := za h_26 hM
      refine GS.exit rfl ?_
      obtain ⟨y_2, hM, hy⟩ := ZV hM
      rw [hr_2 _ hy.symm] at hM
      exact X.gc [some 0, some 1, some 2, some 4] (hj_7 (next, l19, l20, l18) hM) rfl rfl rfl (ga rfl rfl) (zQ 9 rfl rfl (fun _ => rfl) (zQ 9 rfl rfl (fun _ => rfl) (zQ 9 rfl rfl (fun _ => rfl) (zQ 9 rfl rfl (fun _ => rfl) zM))))
     replace hM := zb h_26 hM
     refine GS.skip ?_
     refine GS.endB ?_
     have hE := Option.some.inj hM
     exact X.gc [some 0, some 1, some 2, some 3, some 4, some 5] (hc_10 (next, l19, l20, l21, l18, (put l38 at_2 true)) hE.symm) rfl rfl rfl (ga rfl rfl) (zQ 9 rfl rfl (fun _ => rfl) (zQ 9 rfl rfl (fun _ => rfl) (zQ 9 rfl rfl (fun _ => rfl) (zQ 9 rfl rfl (fun _ => rfl) (zQ 9 rfl rfl (fun _ => rfl) (zQ 9 rfl rfl (fun _ => rfl) zM))))))
    intro hj_12
    refine GS.block ?_
    refine X.gc [some 0, some 1, some 2, some 3, some 4, some 5] (X.loop (σ := (Int × (List Int) × (List Int) × (List Int))) (fun v => ⟨[(0, (V.sl (List.map (fun l => V.sl (List.map V.i l)) cost))), (1, (V.i places)), (6, (V.osl 0 0 (List.length v.2.1))), (7, (V.osl 1 0 (List.length v.2.2.1))), (8, (V.osl 2 0 (List.length (put l42 0 i)))), (9, (V.i i)), (11, (V.osl 3 0 (List.length v.2.2.2))), (12, (V.osl 4 0 (List.length l18))), (13, (V.osl 5 0 (List.length (put l38 at_2 true)))), (16, (V.i next)), (17, (V.i step)), (122, (V.i ((put l38 at_2 true).length : Int))), (123, (V.i v.1))], [.rows 1 (List.map V.i v.2.1), .rows 1 (List.map V.i v.2.2.1), .rows 1 (List.map V.i (put l42 0 i)), .rows 1 (List.map V.i v.2.2.2), .rows 1 (List.map V.i l18), .rows 1 (List.map V.b (put l38 at_2 true))], 0, none, 215⟩) hM ?_ rfl) rfl rfl rfl (ga rfl rfl) (zQ 9 rfl rfl (fun _ => rfl) (zQ 9 rfl rfl (fun _ => rfl) (zQ 9 rfl rfl (fun _ => rfl) (zQ 9 rfl rfl (fun _ => rfl) (zQ 9 rfl rfl (fun _ => rfl) (zQ 9 rfl rfl (fun _ => rfl) zM))))))
    rintro ⟨x22, l25, l26, l27⟩ b_3 hM hc_13 hr_3
    rw [Ji] at hM
    refine X.sq (X.q rfl (GS.zA (GS.seq ?_)))
    refine X.cond rfl (fun h_27 => ?_) (fun h_27 => ?_)
    ·replace hM := za h_27 hM
     refine GS.skip (GS.seq ?_)
     refine X.join (τ := (List Int) × (List Int) × (List Int)) (fun v => j5 x22 v.1 v.2.1 v.2.2 = some b_3) (fun v => ⟨[(0, (V.sl (List.map (fun l => V.sl (List.map V.i l)) cost))), (1, (V.i places)), (6, (V.osl 0 0 (List.length v.1))), (7, (V.osl 1 0 (List.length v.2.1))), (8, (V.osl 2 0 (List.length (put l42 0 i)))), (9, (V.i i)), (11, (V.osl 3 0 (List.length v.2.2))), (12, (V.osl 4 0 (List.length l18))), (13, (V.osl 5 0 (List.length (put l38 at_2 true)))), (16, (V.i next)), (17, (V.i step)), (122, (V.i ((put l38 at_2 true).length : Int))), (123, (V.i x22))], [.rows 1 (List.map V.i v.1), .rows 1 (List.map V.i v.2.1), .rows 1 (List.map V.i (put l42 0 i)), .rows 1 (List.map V.i v.2.2), .rows 1 (List.map V.i l18), .rows 1 (List.map V.b (put l38 at_2 true))], 0, none, 215⟩) ?_ ?_
     ·rintro ⟨l22, l23, l24⟩ hM
      replace hM : j5 x22 l22 l23 l24 = some b_3 := hM
      unfold j5 at hM
      refine GS.region ?_
      refine X.opR rfl (X.addE rfl rfl) rfl (X.q rfl (GS.zA ?_))
      have hE := Option.some.inj hM
      exact X.gc [some 0, some 1, some 2, some 3, some 4, some 5] (hc_13 (w64 (x22 + 1), l22, l23, l24) hE.symm) rfl rfl rfl (ga rfl rfl) (zQ 9 rfl rfl (fun _ => rfl) (zQ 9 rfl rfl (fun _ => rfl) (zQ 9 rfl rfl (fun _ => rfl) (zQ 9 rfl rfl (fun _ => rfl) (zQ 9 rfl rfl (fun _ => rfl) (zQ 9 rfl rfl (fun _ => rfl) zM))))))
     intro hj_14
     refine GS.block (X.sq (X.q rfl (X.q rfl ?_)))
     refine GS.zA (GS.seq ?_)
     obtain ⟨x14, h_28, hM⟩ := zI hM
     refine GS.region (X.q rfl (X.q rfl ?_))
     refine X.opR rfl (X.Z7 h_28 rfl rfl rfl rfl rfl) rfl ?_
     refine X.opR rfl (X.Qy h_28 rfl rfl rfl rfl) rfl (GS.zA ?_)
     refine X.cond rfl (fun h_29 => ?_) (fun h_29 => ?_)
     ·replace hM := za h_29 hM
      refine GS.seq ?_
      obtain ⟨x15, h_30, hM⟩ := zI hM
      obtain ⟨x16, h_31, hM⟩ := zI hM
      obtain ⟨x17, h_32, hM⟩ := zI hM
      refine GS.region (X.q rfl (X.q rfl (X.q rfl ?_)))
      refine X.opR rfl (X.Z7 h_30 rfl rfl rfl rfl rfl) rfl ?_
      refine X.opR rfl (X.Qy h_30 rfl rfl rfl rfl) rfl ?_
      refine X.opR rfl (X.Z7 h_31 rfl rfl rfl rfl rfl) rfl ?_
      refine X.opR rfl (X.Qy h_31 rfl rfl rfl rfl) rfl (X.q rfl ?_)
      refine X.opR rfl (X.addE rfl rfl) rfl ?_
      refine X.opR rfl (X.Z7 h_32 rfl rfl rfl rfl rfl) rfl ?_
      refine X.op0W (H' := [.rows 1 (List.map V.i (put l25 x15 (w64 (x16 + step)))), .rows 1 (List.map V.i l26), .rows 1 (List.map V.i (put l42 0 i)), .rows 1 (List.map V.i l27), .rows 1 (List.map V.i l18), .rows 1 (List.map V.b (put l38 at_2 true))]) rfl (X.yt (b := w64 (x16 + step)) h_32 rfl rfl rfl rfl rfl rfl rfl) rfl (GS.zA ?_)
      obtain ⟨x18, h_33, hM⟩ := zI hM
      obtain ⟨x19, h_34, hM⟩ := zI hM
      refine GS.region (X.q rfl (X.q rfl ?_))
      refine X.opR rfl (X.Z7 h_33 rfl rfl rfl rfl rfl) rfl ?_
      refine X.opR rfl (X.Qy h_33 rfl rfl rfl rfl) rfl (X.q rfl ?_)
      refine X.opR rfl (X.subE rfl rfl) rfl ?_
      refine X.opR rfl (X.Z7 h_34 rfl rfl rfl rfl rfl) rfl ?_
      refine X.op0W (H' := [.rows 1 (List.map V.i (put l25 x15 (w64 (x16 + step)))), .rows 1 (List.map V.i (put l26 x22 (w64 (x18 - step)))), .rows 1 (List.map V.i (put l42 0 i)), .rows 1 (List.map V.i l27), .rows 1 (List.map V.i l18), .rows 1 (List.map V.b (put l38 at_2 true))]) rfl (X.yt (b := w64 (x18 - step)) h_34 rfl rfl rfl rfl rfl rfl rfl) rfl (GS.zA ?_)
      refine GS.endB ?_
      exact X.gc [some 0, some 1, some 2, some 3, some 4, some 5] (hj_14 ((put l25 x15 (w64 (x16 + step))), (put l26 x22 (w64 (x18 - step))), l27) hM) rfl rfl rfl (zO rfl ⟨9, rfl⟩ (zO rfl ⟨9, rfl⟩ (zO rfl (QO X.jv ⟨9, rfl⟩) (zO rfl (QO X.jv ⟨9, rfl⟩) (ga rfl rfl))))) (zQ 9 rfl rfl (fun _ => rfl) (zQ 9 rfl rfl (fun _ => rfl) (zQ 9 rfl rfl (fun _ => rfl) (zQ 9 rfl rfl (fun _ => rfl) (zQ 9 rfl rfl (fun _ => rfl) (zQ 9 rfl rfl (fun _ => rfl) zM))))))
     replace hM := zb h_29 hM
     obtain ⟨x20, h_35, hM⟩ := zI hM
     obtain ⟨x21, h_36, hM⟩ := zI hM
     refine GS.region (X.q rfl (X.q rfl ?_))
     refine X.opR rfl (X.Z7 h_35 rfl rfl rfl rfl rfl) rfl ?_
     refine X.opR rfl (X.Qy h_35 rfl rfl rfl rfl) rfl (X.q rfl ?_)
     refine X.opR rfl (X.subE rfl rfl) rfl ?_
     refine X.opR rfl (X.Z7 h_36 rfl rfl rfl rfl rfl) rfl ?_
     refine X.op0W (H' := [.rows 1 (List.map V.i l25), .rows 1 (List.map V.i l26), .rows 1 (List.map V.i (put l42 0 i)), .rows 1 (List.map V.i (put l27 x22 (w64 (x20 - step)))), .rows 1 (List.map V.i l18), .rows 1 (List.map V.b (put l38 at_2 true))]) rfl (X.yt (b := w64 (x20 - step)) h_36 rfl rfl rfl rfl rfl rfl rfl) rfl (GS.zA ?_)
     refine GS.endB ?_
     exact X.gc [some 0, some 1, some 2, some 3, some 4, some 5] (hj_14 (l25, l26, (put l27 x22 (w64 (x20 - step)))) hM) rfl rfl rfl (zO rfl ⟨9, rfl⟩ (zO rfl ⟨9, rfl⟩ (zO rfl ⟨9, rfl⟩ (zO rfl ⟨9, rfl⟩ (zO rfl ⟨9, rfl⟩ (zO rfl ⟨9, rfl⟩ (zO rfl (QO X.jv ⟨9, rfl⟩) (ga rfl rfl)))))))) (zQ 9 rfl rfl (fun _ => rfl) (zQ 9 rfl rfl (fun _ => rfl) (zQ 9 rfl rfl (fun _ => rfl) (zQ 9 rfl rfl (fun _ => rfl) (zQ 9 rfl rfl (fun _ => rfl) (zQ 9 rfl rfl (fun _ => rfl) zM))))))
    replace hM := zb h_27 hM
    refine GS.exit rfl ?_
    obtain ⟨y_3, hM, hy⟩ := ZV hM
    rw [hr_3 _ hy.symm] at hM
    exact X.gc [some 0, some 1, some 2, some 3, some 4, some 5] (hj_12 (l25, l26, l27) hM) rfl rfl rfl (ga rfl rfl) (zQ 9 rfl rfl (fun _ => rfl) (zQ 9 rfl rfl (fun _ => rfl) (zQ 9 rfl rfl (fun _ => rfl) (zQ 9 rfl rfl (fun _ => rfl) (zQ 9 rfl rfl (fun _ => rfl) (zQ 9 rfl rfl (fun _ => rfl) zM))))))
   intro hj_11
   refine GS.block ?_
   refine X.gc [some 0, some 1, some 2, some 3, some 4, some 5] (X.loop (σ := (Int × Int × Int × (List Int) × (List Int))) (fun v => ⟨[(0, (V.sl (List.map (fun l => V.sl (List.map V.i l)) cost))), (1, (V.i places)), (6, (V.osl 0 0 (List.length l34))), (7, (V.osl 1 0 (List.length l35))), (8, (V.osl 2 0 (List.length (put l42 0 i)))), (9, (V.i i)), (10, (V.i at_2)), (11, (V.osl 3 0 (List.length v.2.2.2.1))), (12, (V.osl 4 0 (List.length v.2.2.2.2))), (13, (V.osl 5 0 (List.length (put l38 at_2 true)))), (15, (V.i x12)), (16, (V.i v.1)), (17, (V.i v.2.1)), (18, (V.i v.2.2.1))], [.rows 1 (List.map V.i l34), .rows 1 (List.map V.i l35), .rows 1 (List.map V.i (put l42 0 i)), .rows 1 (List.map V.i v.2.2.2.1), .rows 1 (List.map V.i v.2.2.2.2), .rows 1 (List.map V.b (put l38 at_2 true))], 0, none, 215⟩) hM ?_ rfl) rfl rfl rfl (zO rfl ⟨9, rfl⟩ (zO rfl ⟨9, rfl⟩ (zO rfl ⟨9, rfl⟩ (zO rfl ⟨9, rfl⟩ (zO rfl ⟨9, rfl⟩ (zO rfl ⟨9, rfl⟩ (zO rfl ⟨9, rfl⟩ (zO rfl ⟨9, rfl⟩ (zO rfl ⟨9, rfl⟩ (zO rfl (QO X.jv ⟨9, rfl⟩) (ga rfl rfl))))))))))) (zQ 9 rfl rfl (fun _ => rfl) (zQ 9 rfl rfl (fun _ => rfl) (zQ 9 rfl rfl (fun _ => rfl) (zQ 9 rfl rfl (fun _ => rfl) (zQ 9 rfl rfl (fun _ => rfl) (zQ 9 rfl rfl (fun _ => rfl) zM))))))
   rintro ⟨next2, step2, k1, l32, l33⟩ b_3 hM hc_15 hr_3
   rw [Jh] at hM
   refine GS.seq (X.sq (X.q rfl (X.q rfl (X.q rfl ?_))))
   refine GS.zA ?_
   refine X.cond rfl (fun h_37 => ?_) (fun h_37 => ?_)
   ·replace hM := za h_37 hM
    refine GS.skip (GS.seq ?_)
    refine X.join (τ := Int × Int × (List Int) × (List Int)) (fun v => ja k1 v.1 v.2.1 v.2.2.1 v.2.2.2 = some b_3) (fun v => ⟨[(0, (V.sl (List.map (fun l => V.sl (List.map V.i l)) cost))), (1, (V.i places)), (6, (V.osl 0 0 (List.length l34))), (7, (V.osl 1 0 (List.length l35))), (8, (V.osl 2 0 (List.length (put l42 0 i)))), (9, (V.i i)), (10, (V.i at_2)), (11, (V.osl 3 0 (List.length v.2.2.1))), (12, (V.osl 4 0 (List.length v.2.2.2))), (13, (V.osl 5 0 (List.length (put l38 at_2 true)))), (15, (V.i x12)), (16, (V.i v.1)), (17, (V.i v.2.1)), (18, (V.i k1))], [.rows 1 (List.map V.i l34), .rows 1 (List.map V.i l35), .rows 1 (List.map V.i (put l42 0 i)), .rows 1 (List.map V.i v.2.2.1), .rows 1 (List.map V.i v.2.2.2), .rows 1 (List.map V.b (put l38 at_2 true))], 0, none, 215⟩) ?_ ?_
    ·rintro ⟨next1, step1, l28, l29⟩ hM
     replace hM : ja k1 next1 step1 l28 l29 = some b_3 := hM
     unfold ja at hM
     refine GS.region (X.q rfl ?_)
     refine X.opR rfl (X.addE rfl rfl) rfl (X.q rfl (GS.zA ?_))
     have hE := Option.some.inj hM
     exact X.gc [some 0, some 1, some 2, some 3, some 4, some 5] (hc_15 (next1, step1, w64 (k1 + 1), l28, l29) hE.symm) rfl rfl rfl (ga rfl rfl) (zQ 9 rfl rfl (fun _ => rfl) (zQ 9 rfl rfl (fun _ => rfl) (zQ 9 rfl rfl (fun _ => rfl) (zQ 9 rfl rfl (fun _ => rfl) (zQ 9 rfl rfl (fun _ => rfl) (zQ 9 rfl rfl (fun _ => rfl) zM))))))
    intro hj_16
    refine GS.block ?_
    iterate 2 refine GS.seq ?_
    obtain ⟨x23, h_38, hM⟩ := zI hM
    refine GS.region (X.q rfl (X.q rfl ?_))
    refine X.opR rfl (X.Z7 h_38 rfl rfl rfl rfl rfl) rfl ?_
    refine X.opR rfl (X.Qy h_38 rfl rfl rfl rfl) rfl (GS.zA ?_)
    refine X.cond rfl (fun h_39 => ?_) (fun h_39 => ?_)
    ·replace hM := za h_39 hM
     refine GS.exit rfl ?_
     exact X.gc [some 0, some 1, some 2, some 3, some 4, some 5] (hj_16 (next2, step2, l32, l33) hM) rfl rfl rfl (ga rfl rfl) (zQ 9 rfl rfl (fun _ => rfl) (zQ 9 rfl rfl (fun _ => rfl) (zQ 9 rfl rfl (fun _ => rfl) (zQ 9 rfl rfl (fun _ => rfl) (zQ 9 rfl rfl (fun _ => rfl) (zQ 9 rfl rfl (fun _ => rfl) zM))))))
    replace hM := zb h_39 hM
    refine GS.skip ?_
    iterate 2 refine GS.seq ?_
    obtain ⟨x24, h_40, hM⟩ := zI hM
    obtain ⟨x25, h_41, hM⟩ := zI hM
    obtain ⟨x26, h_42, hM⟩ := zI hM
    obtain ⟨x27, h_43, hM⟩ := zI hM
    refine X.drawc (by kernel_rfl) rfl ?_
    iterate 2 refine X.cop rfl rfl rfl rfl ?_
    refine X.cop rfl (X.subE rfl rfl) rfl rfl ?_
    refine X.cop rfl (X.ZJ (f := (fun l => V.sl (List.map V.i l))) h_40 (fun _ => rfl) rfl rfl rfl rfl) rfl rfl ?_
    refine X.cop rfl (X.Za h_40 rfl rfl rfl) rfl rfl ?_
    refine X.cop rfl rfl rfl rfl ?_
    refine X.cop rfl (X.subE rfl rfl) rfl rfl ?_
    refine X.cop rfl (X.ZJ (f := V.i) h_41 (fun _ => rfl) rfl rfl rfl rfl) rfl rfl ?_
    refine X.cop rfl (X.Za h_41 rfl rfl rfl) rfl rfl ?_
    iterate 2 refine X.cop rfl rfl rfl rfl ?_
    refine X.cop rfl (X.Z7 h_42 rfl rfl rfl rfl rfl) rfl rfl ?_
    refine X.cop rfl (X.Qy h_42 rfl rfl rfl rfl) rfl rfl ?_
    refine X.cop rfl (X.subE rfl rfl) rfl rfl ?_
    iterate 2 refine X.cop rfl rfl rfl rfl ?_
    refine X.cop rfl (X.Z7 h_43 rfl rfl rfl rfl rfl) rfl rfl ?_
    refine X.cop rfl (X.Qy h_43 rfl rfl rfl rfl) rfl rfl ?_
    refine X.cop rfl (X.subE rfl rfl) rfl rfl ?_
    refine X.cop rfl rfl rfl rfl ?_
    refine X.cnil ?_
    refine X.norm [(0, (V.sl (List.map (fun l => V.sl (List.map V.i l)) cost))), (1, (V.i places)), (6, (V.osl 0 0 (List.length l34))), (7, (V.osl 1 0 (List.length l35))), (8, (V.osl 2 0 (List.length (put l42 0 i)))), (9, (V.i i)), (10, (V.i at_2)), (11, (V.osl 3 0 (List.length l32))), (12, (V.osl 4 0 (List.length l33))), (13, (V.osl 5 0 (List.length (put l38 at_2 true)))), (15, (V.i x12)), (16, (V.i next2)), (17, (V.i step2)), (18, (V.i k1)), (19, (V.i (w64 ((w64 (x25 - x26)) - x27))))] ?_ rfl (sr rfl)
    refine GS.seq ?_
    obtain ⟨x28, h_44, hM⟩ := zI hM
    refine GS.region (X.q rfl (X.q rfl (X.q rfl ?_)))
    refine X.opR rfl (X.Z7 h_44 rfl rfl rfl rfl rfl) rfl ?_
    refine X.opR rfl (X.Qy h_44 rfl rfl rfl rfl) rfl (X.q rfl (GS.zA ?_))
    refine X.join (τ := (List Int) × (List Int)) (fun v => j4 next2 step2 k1 v.1 v.2 = some b_3) (fun v => ⟨[(0, (V.sl (List.map (fun l => V.sl (List.map V.i l)) cost))), (1, (V.i places)), (6, (V.osl 0 0 (List.length l34))), (7, (V.osl 1 0 (List.length l35))), (8, (V.osl 2 0 (List.length (put l42 0 i)))), (9, (V.i i)), (10, (V.i at_2)), (11, (V.osl 3 0 (List.length v.1))), (12, (V.osl 4 0 (List.length v.2))), (13, (V.osl 5 0 (List.length (put l38 at_2 true)))), (15, (V.i x12)), (16, (V.i next2)), (17, (V.i step2)), (18, (V.i k1))], [.rows 1 (List.map V.i l34), .rows 1 (List.map V.i l35), .rows 1 (List.map V.i (put l42 0 i)), .rows 1 (List.map V.i v.1), .rows 1 (List.map V.i v.2), .rows 1 (List.map V.b (put l38 at_2 true))], 0, none, 215⟩) ?_ ?_
    ·rintro ⟨l30, l31⟩ hM
     replace hM : j4 next2 step2 k1 l30 l31 = some b_3 := hM
     unfold j4 at hM
     refine GS.seq ?_
     obtain ⟨x29, h_45, hM⟩ := zI hM
     refine GS.region (X.q rfl (X.q rfl ?_))
     refine X.opR rfl (X.Z7 h_45 rfl rfl rfl rfl rfl) rfl ?_
     refine X.opR rfl (X.Qy h_45 rfl rfl rfl rfl) rfl (X.q rfl (X.q rfl ?_))
     refine GS.zA ?_
     refine X.cond rfl (fun h_46 => ?_) (fun h_46 => ?_)
     ·replace hM := za h_46 hM
      obtain ⟨x30, h_47, hM⟩ := zI hM
      refine GS.region (X.q rfl (X.q rfl ?_))
      refine X.opR rfl (X.Z7 h_47 rfl rfl rfl rfl rfl) rfl ?_
      refine X.opR rfl (X.Qy h_47 rfl rfl rfl rfl) rfl (X.q rfl (X.q rfl (X.q rfl ?_)))
      refine GS.zA ?_
      refine GS.endB ?_
      exact X.gc [some 0, some 1, some 2, some 3, some 4, some 5] (hj_16 (k1, x30, l30, l31) hM) rfl rfl rfl (ga rfl rfl) (zQ 9 rfl rfl (fun _ => rfl) (zQ 9 rfl rfl (fun _ => rfl) (zQ 9 rfl rfl (fun _ => rfl) (zQ 9 rfl rfl (fun _ => rfl) (zQ 9 rfl rfl (fun _ => rfl) (zQ 9 rfl rfl (fun _ => rfl) zM))))))
     replace hM := zb h_46 hM
     refine GS.skip ?_
     refine GS.endB ?_
     exact X.gc [some 0, some 1, some 2, some 3, some 4, some 5] (hj_16 (next2, step2, l30, l31) hM) rfl rfl rfl (ga rfl rfl) (zQ 9 rfl rfl (fun _ => rfl) (zQ 9 rfl rfl (fun _ => rfl) (zQ 9 rfl rfl (fun _ => rfl) (zQ 9 rfl rfl (fun _ => rfl) (zQ 9 rfl rfl (fun _ => rfl) (zQ 9 rfl rfl (fun _ => rfl) zM))))))
    intro hj_17
    refine X.cond rfl (fun h_48 => ?_) (fun h_48 => ?_)
    ·replace hM := za h_48 hM
     obtain ⟨x31, h_49, hM⟩ := zI hM
     obtain ⟨x32, h_50, hM⟩ := zI hM
     refine GS.region ?_
     iterate 6 refine X.q rfl ?_
     refine X.opR rfl (X.Z7 h_49 rfl rfl rfl rfl rfl) rfl ?_
     refine X.op0W (H' := [.rows 1 (List.map V.i l34), .rows 1 (List.map V.i l35), .rows 1 (List.map V.i (put l42 0 i)), .rows 1 (List.map V.i (put l32 k1 (w64 ((w64 (x25 - x26)) - x27)))), .rows 1 (List.map V.i l33), .rows 1 (List.map V.b (put l38 at_2 true))]) rfl (X.yt (b := w64 ((w64 (x25 - x26)) - x27)) h_49 rfl rfl rfl rfl rfl rfl rfl) rfl ?_
     refine X.opR rfl (X.Z7 h_50 rfl rfl rfl rfl rfl) rfl ?_
     refine X.op0W (H' := [.rows 1 (List.map V.i l34), .rows 1 (List.map V.i l35), .rows 1 (List.map V.i (put l42 0 i)), .rows 1 (List.map V.i (put l32 k1 (w64 ((w64 (x25 - x26)) - x27)))), .rows 1 (List.map V.i (put l33 k1 at_2)), .rows 1 (List.map V.b (put l38 at_2 true))]) rfl (X.yt (b := at_2) h_50 rfl rfl rfl rfl rfl rfl rfl) rfl (GS.zA ?_)
     exact X.gc [some 0, some 1, some 2, some 3, some 4, some 5] (hj_17 ((put l32 k1 (w64 ((w64 (x25 - x26)) - x27))), (put l33 k1 at_2)) hM) rfl rfl rfl (zO rfl ⟨9, rfl⟩ (zO rfl ⟨9, rfl⟩ (zO rfl ⟨9, rfl⟩ (zO rfl ⟨9, rfl⟩ (zO rfl ⟨9, rfl⟩ (zO rfl ⟨9, rfl⟩ (zO rfl ⟨9, rfl⟩ (zO rfl (QO X.jv ⟨9, rfl⟩) (zO rfl (QO X.jv ⟨9, rfl⟩) (ga rfl rfl)))))))))) (zQ 9 rfl rfl (fun _ => rfl) (zQ 9 rfl rfl (fun _ => rfl) (zQ 9 rfl rfl (fun _ => rfl) (zQ 9 rfl rfl (fun _ => rfl) (zQ 9 rfl rfl (fun _ => rfl) (zQ 9 rfl rfl (fun _ => rfl) zM))))))
    replace hM := zb h_48 hM
    refine GS.skip ?_
    exact X.gc [some 0, some 1, some 2, some 3, some 4, some 5] (hj_17 (l32, l33) hM) rfl rfl rfl (ga rfl rfl) (zQ 9 rfl rfl (fun _ => rfl) (zQ 9 rfl rfl (fun _ => rfl) (zQ 9 rfl rfl (fun _ => rfl) (zQ 9 rfl rfl (fun _ => rfl) (zQ 9 rfl rfl (fun _ => rfl) (zQ 9 rfl rfl (fun _ => rfl) zM))))))
   replace hM := zb h_37 hM
   refine GS.exit rfl ?_
   obtain ⟨y_3, hM, hy⟩ := ZV hM
   rw [hr_3 _ hy.symm] at hM
   exact X.gc [some 0, some 1, some 2, some 3, some 4, some 5] (hj_11 (next2, step2, l32, l33) hM) rfl rfl rfl (ga rfl rfl) (zQ 9 rfl rfl (fun _ => rfl) (zQ 9 rfl rfl (fun _ => rfl) (zQ 9 rfl rfl (fun _ => rfl) (zQ 9 rfl rfl (fun _ => rfl) (zQ 9 rfl rfl (fun _ => rfl) (zQ 9 rfl rfl (fun _ => rfl) zM))))))
  intro hj_6
  refine GS.block ?_
  refine X.gc [some 0, some 1, some 2, some 3, some 4, some 5] (X.loop (σ := (Int × (List Int))) (fun v => ⟨[(0, (V.sl (List.map (fun l => V.sl (List.map V.i l)) cost))), (1, (V.i places)), (6, (V.osl 0 0 (List.length l40))), (7, (V.osl 1 0 (List.length l41))), (8, (V.osl 2 0 (List.length (put l42 0 i)))), (9, (V.i i)), (10, (V.i 0)), (11, (V.osl 3 0 (List.length v.2))), (12, (V.osl 4 0 (List.length l9))), (13, (V.osl 5 0 (List.length l10))), (53, (V.i (l8.length : Int))), (54, (V.i v.1))], [.rows 1 (List.map V.i l40), .rows 1 (List.map V.i l41), .rows 1 (List.map V.i (put l42 0 i)), .rows 1 (List.map V.i v.2), .rows 1 (List.map V.i l9), .rows 1 (List.map V.b l10)], 0, none, 215⟩) hM ?_ rfl) rfl rfl rfl (zO rfl ⟨9, rfl⟩ (zO rfl ⟨9, rfl⟩ (zO rfl ⟨9, rfl⟩ (zO rfl ⟨9, rfl⟩ (zO rfl (QO X.jv ⟨9, rfl⟩) (ga rfl rfl)))))) (zQ 9 rfl rfl (fun _ => rfl) (zQ 9 rfl rfl (fun _ => rfl) (zQ 9 rfl rfl (fun _ => rfl) (zQ 9 rfl rfl (fun _ => rfl) (zQ 9 rfl rfl (fun _ => rfl) (zQ 9 rfl rfl (fun _ => rfl) zM))))))
  rintro ⟨x34, l39⟩ b_2 hM hc_18 hr_2
  rw [yY] at hM
  refine X.sq (X.q rfl (GS.zA (GS.seq ?_)))
  refine X.cond rfl (fun h_51 => ?_) (fun h_51 => ?_)
  ·replace hM := za h_51 hM
   refine GS.skip (GS.seq (GS.block (X.sq (X.q rfl (X.q rfl ?_)))))
   refine GS.zA ?_
   obtain ⟨x33, h_52, hM⟩ := zI hM
   refine GS.region (X.q rfl (X.q rfl ?_))
   refine X.opR rfl (X.Z7 h_52 rfl rfl rfl rfl rfl) rfl ?_
   refine X.op0W (H' := [.rows 1 (List.map V.i l40), .rows 1 (List.map V.i l41), .rows 1 (List.map V.i (put l42 0 i)), .rows 1 (List.map V.i (put l39 x34 4294967296)), .rows 1 (List.map V.i l9), .rows 1 (List.map V.b l10)]) rfl (X.yt (b := 4294967296) h_52 rfl rfl rfl rfl rfl rfl rfl) rfl (GS.zA ?_)
   refine GS.endB (GS.region ?_)
   refine X.opR rfl (X.addE rfl rfl) rfl (X.q rfl (GS.zA ?_))
   have hE := Option.some.inj hM
   exact X.gc [some 0, some 1, some 2, some 3, some 4, some 5] (hc_18 (w64 (x34 + 1), (put l39 x34 4294967296)) hE.symm) rfl rfl rfl (zO rfl ⟨9, rfl⟩ (zO rfl ⟨9, rfl⟩ (zO rfl ⟨9, rfl⟩ (zO rfl ⟨9, rfl⟩ (zO rfl ⟨9, rfl⟩ (zO rfl ⟨9, rfl⟩ (zO rfl ⟨9, rfl⟩ (zO rfl (QO X.jv ⟨9, rfl⟩) (ga rfl rfl))))))))) (zQ 9 rfl rfl (fun _ => rfl) (zQ 9 rfl rfl (fun _ => rfl) (zQ 9 rfl rfl (fun _ => rfl) (zQ 9 rfl rfl (fun _ => rfl) (zQ 9 rfl rfl (fun _ => rfl) (zQ 9 rfl rfl (fun _ => rfl) zM))))))
  replace hM := zb h_51 hM
  refine GS.exit rfl ?_
  obtain ⟨y_2, hM, hy⟩ := ZV hM
  rw [hr_2 _ hy.symm] at hM
  exact X.gc [some 0, some 1, some 2, some 3, some 4, some 5] (hj_6 l39 hM) rfl rfl rfl (ga rfl rfl) (zQ 9 rfl rfl (fun _ => rfl) (zQ 9 rfl rfl (fun _ => rfl) (zQ 9 rfl rfl (fun _ => rfl) (zQ 9 rfl rfl (fun _ => rfl) (zQ 9 rfl rfl (fun _ => rfl) (zQ 9 rfl rfl (fun _ => rfl) zM))))))
 replace hM := zb h_13 hM
 refine GS.exit rfl ?_
 obtain ⟨y_1, hM, hy⟩ := ZV hM
 rw [hr_1 _ hy.symm] at hM
 exact X.gc [some 2] (hj_1 l42 hM) rfl rfl rfl (ga rfl rfl) (zQ 9 rfl rfl (fun _ => rfl) zM)
set_option maxHeartbeats 4000000 in
theorem yJ {b : zK} {fixed : (List Int)} {r : (List Int) × Int} (hM : Zn b fixed = some r) : Ct Tryz.prog 65 [(V.fptr [(zT b)] 0 0), (V.sl (List.map V.i fixed))] (V.tup [(V.sl (List.map V.i r.1)), (V.i r.2)]) := by
 refine zg ZR rfl ?_
 unfold Zn at hM
 refine X.sq (X.q rfl (X.q rfl ?_))
 refine X.nq (X.q rfl (GS.zA (GS.seq (X.sq ?_))))
 iterate 4 refine X.q rfl ?_
 refine X.opR rfl (X.lenF rfl rfl rfl) rfl (X.q rfl (GS.zA ?_))
 refine X.join (τ := (List (List Int))) (fun v => jo b v = some r) (fun v => ⟨[(0, (V.fptr [(zT b)] 0 0)), (6, (ovl 0 v))], [obl 1 (fun v => V.sl (List.map V.i v)) v], 0, none, 71⟩) ?_ ?_
 ·intro l hM
  replace hM : jo b l = some r := hM
  unfold jo at hM
  refine GS.seq ?_
  refine X.zCl (z := true) (f := (fun l => V.sl (List.map V.i l))) (l := l) (es := 1) 6 rfl rfl rfl rfl (fun _ => rfl) ?_
  obtain ⟨y, h_1, hM⟩ := zI hM
  refine X.drawc (by kernel_rfl) rfl ?_
  iterate 5 refine X.cop rfl rfl rfl rfl ?_
  refine X.cop rfl (X.lenF rfl rfl rfl) rfl rfl ?_
  iterate 4 refine X.cop rfl rfl rfl rfl ?_
  refine X.cop rfl (X.lenF rfl rfl rfl) rfl rfl ?_
  refine X.cop rfl (X.addE rfl rfl) rfl rfl ?_
  refine X.ccall (zFg h_1) rfl rfl rfl rfl (.cons (.shut (n := 9) rfl) (.cons (.shut (n := 9) rfl) .nil)) ?_
  iterate 4 refine X.cop rfl rfl rfl rfl ?_
  refine X.cnil ?_
  refine X.norm [(4, (V.sl (List.map V.i y.1))), (5, (V.i y.2))] ?_ rfl (sr rfl)
  cases hM
  exact GS.ret ⟨_, rfl, ⟨30, rfl⟩⟩
 intro hj_1
 refine GS.block ?_
 refine X.gc [none] (X.loop (σ := (Int × (List (List Int)))) (fun v => ⟨[(0, (V.fptr [(zT b)] 0 0)), (1, (V.sl (List.map V.i fixed))), (6, (ovl 0 v.2)), (15, (V.i (b.calls.length : Int))), (16, (V.i v.1))], [obl 1 (fun l => V.sl (List.map V.i l)) v.2], 0, none, 71⟩) hM ?_ rfl) rfl rfl rfl (ga rfl rfl) (gb_pad' rfl zM)
 rintro ⟨x3, l5⟩ b_1 hM hc_2 hr_1
 rw [Ja] at hM
 refine X.sq (X.q rfl (GS.zA (GS.seq ?_)))
 refine X.cond rfl (fun h_2 => ?_) (fun h_2 => ?_)
 ·replace hM := za h_2 hM
  refine GS.skip (GS.seq (GS.block (X.sq (X.q rfl (X.q rfl ?_)))))
  refine GS.zA (GS.seq ?_)
  obtain ⟨y1, h_3, hM⟩ := zI hM
  refine GS.region (X.q rfl (X.q rfl ?_))
  refine X.own (zCH h_3) (fun z_6 => (ovlz z_6 1 y1)) rfl rfl rfl (.cons (.shut (n := 9) rfl) (.cons (.shut (n := 9) rfl) .nil)) rfl (fun _ => ⟨_, (X.zl rfl)⟩) (fun _ => ⟨_, X.zH9 9 (fun _ => rfl)⟩) (fun z_6 => (X.q rfl (GS.zA (GS.seq (X.sq (X.q rfl (X.q rfl ?_)))))))
  refine X.opR rfl (X.lenF rfl rfl rfl) rfl (X.q rfl (GS.zA ?_))
  refine X.join (τ := (List Int)) (fun v => jA x3 l5 v = some b_1) (fun v => ⟨[(0, (V.fptr [(zT b)] 0 0)), (1, (V.sl (List.map V.i fixed))), (6, (ovl 0 l5)), (8, (ovlz z_6 1 v)), (15, (V.i (b.calls.length : Int))), (16, (V.i x3))], [obl 1 (fun l => V.sl (List.map V.i l)) l5, oblz z_6 1 V.i v], 0, none, 71⟩) ?_ ?_
  ·intro l1 hM
   replace hM : jA x3 l5 l1 = some b_1 := hM
   unfold jA at hM
   refine X.zCl (z := z_6) (f := V.i) (l := l1) (es := 1) 8 rfl rfl rfl rfl (fun _ => rfl) ?_
   obtain ⟨l2, h_4, hM⟩ := zI hM
   refine GS.region (X.q rfl (X.q rfl ?_))
   refine X.opW rfl rfl rfl rfl ?_
   refine X.appN (f := (fun l => V.sl (List.map V.i l))) h_4 (fun _ => rfl) (by rfl) (by rfl) (by rfl) (by rfl) (by rfl) (by rfl) (by rfl) (by rfl) (by rfl) (by rfl) (by rfl) (by exact rfl) (by rfl) (by rfl) (X.q rfl (GS.zA ?_))
   refine GS.endB (GS.region ?_)
   refine X.opR rfl (X.addE rfl rfl) rfl (X.q rfl (GS.zA ?_))
   have hE := Option.some.inj hM
   exact X.gc [some 3] (hc_2 (w64 (x3 + 1), l2) hE.symm) rfl rfl rfl (zO rfl ⟨9, rfl⟩ (zO rfl ⟨9, rfl⟩ (zO rfl (zAW (jR h_4) rfl) (ga rfl rfl)))) (gb_obl' 9 (jR h_4) rfl rfl (fun _ => rfl) zM)
  intro hj_3
  refine X.cond rfl (fun h_5 => ?_) (fun h_5 => ?_)
  ·replace hM := za h_5 hM
   refine GS.seq ?_
   obtain ⟨x, h_6, hM⟩ := zI hM
   refine GS.region (X.q rfl (X.q rfl ?_))
   refine X.opR rfl (X.ZJ (f := V.i) h_6 (fun _ => rfl) rfl rfl rfl rfl) rfl ?_
   refine X.opR rfl (X.Za h_6 rfl rfl rfl) rfl (X.q rfl (GS.zA (GS.seq (X.sq (X.q rfl (X.q rfl ?_))))))
   refine GS.zA ?_
   refine X.join (τ := Int) (fun v => jN x3 l5 y1 v = some b_1) (fun v => ⟨[(0, (V.fptr [(zT b)] 0 0)), (1, (V.sl (List.map V.i fixed))), (6, (ovl 0 l5)), (8, (ovlz z_6 1 y1)), (9, (V.i v)), (15, (V.i (b.calls.length : Int))), (16, (V.i x3))], [obl 1 (fun l => V.sl (List.map V.i l)) l5, oblz z_6 1 V.i y1], 0, none, 71⟩) ?_ ?_
   ·intro k hM
    replace hM : jN x3 l5 y1 k = some b_1 := hM
    unfold jN at hM
    refine X.sq (X.q rfl ?_)
    refine X.opR rfl (X.lenN (l := y1) rfl rfl rfl) rfl (X.q rfl (GS.zA (GS.block ?_)))
    refine X.gc [some 0, some 1] (X.loop (σ := (Int × (List Int))) (fun v => ⟨[(0, (V.fptr [(zT b)] 0 0)), (1, (V.sl (List.map V.i fixed))), (6, (ovl 0 l5)), (8, (ovlz z_6 1 v.2)), (9, (V.i k)), (15, (V.i (b.calls.length : Int))), (16, (V.i x3)), (40, (V.i (y1.length : Int))), (41, (V.i v.1))], [obl 1 (fun l => V.sl (List.map V.i l)) l5, oblz z_6 1 V.i v.2], 0, none, 71⟩) hM ?_ rfl) rfl rfl rfl (zO rfl ⟨9, rfl⟩ (zO rfl ⟨9, rfl⟩ (zO rfl (zl rfl) (zO rfl (zl rfl) (ga rfl rfl))))) (zn 9 rfl rfl (fun _ => rfl) (zn 9 rfl rfl (fun _ => rfl) zM))
    rintro ⟨x2, l4⟩ b_2 hM hc_5 hr_2
    rw [JZ] at hM
    refine X.sq (X.q rfl (GS.zA (GS.seq ?_)))
    refine X.cond rfl (fun h_7 => ?_) (fun h_7 => ?_)
    ·replace hM := za h_7 hM
     refine GS.skip (GS.seq ?_)
     refine X.join (τ := (List Int)) (fun v => jM x2 v = some b_2) (fun v => ⟨[(0, (V.fptr [(zT b)] 0 0)), (1, (V.sl (List.map V.i fixed))), (6, (ovl 0 l5)), (8, (ovlz z_6 1 v)), (9, (V.i k)), (15, (V.i (b.calls.length : Int))), (16, (V.i x3)), (40, (V.i (y1.length : Int))), (41, (V.i x2))], [obl 1 (fun l => V.sl (List.map V.i l)) l5, oblz z_6 1 V.i v], 0, none, 71⟩) ?_ ?_
     ·intro l3 hM
      replace hM : jM x2 l3 = some b_2 := hM
      unfold jM at hM
      refine GS.region ?_
      refine X.opR rfl (X.addE rfl rfl) rfl (X.q rfl (GS.zA ?_))
      have hE := Option.some.inj hM
      exact X.gc [some 0, some 1] (hc_5 (w64 (x2 + 1), l3) hE.symm) rfl rfl rfl (zO rfl ⟨9, rfl⟩ (zO rfl ⟨9, rfl⟩ (zO rfl (zl rfl) (zO rfl (zl rfl) (ga rfl rfl))))) (zn 9 rfl rfl (fun _ => rfl) (zn 9 rfl rfl (fun _ => rfl) zM))
     intro hj_6
     refine GS.block (X.sq (X.q rfl (X.q rfl ?_)))
     refine X.nq (X.q rfl (X.q rfl (X.q rfl ?_)))
     refine GS.zA ?_
     refine X.cond rfl (fun h_8 => ?_) (fun h_8 => ?_)
     ·replace hM := za h_8 hM
      obtain ⟨x1, h_9, hM⟩ := zI hM
      refine GS.region (X.q rfl (X.q rfl ?_))
      refine X.opR rfl (X.zBx h_9 rfl rfl rfl rfl rfl) rfl ?_
      refine X.op0W rfl (X.zBH (b := 1073741824) h_9 rfl rfl rfl rfl rfl rfl rfl) rfl (GS.zA ?_)
      refine GS.endB ?_
      exact X.gc [some 0, some 1] (hj_6 (put l4 x2 1073741824) hM) rfl rfl rfl (zO rfl ⟨9, rfl⟩ (zO rfl ⟨9, rfl⟩ (zO rfl (zl rfl) (zO rfl (QO X.zD2 (zl rfl)) (ga rfl rfl))))) (zn 9 rfl rfl (fun _ => rfl) (zn 9 rfl rfl (fun _ => rfl) zM))
     replace hM := zb h_8 hM
     refine GS.skip ?_
     refine GS.endB ?_
     exact X.gc [some 0, some 1] (hj_6 l4 hM) rfl rfl rfl (zO rfl ⟨9, rfl⟩ (zO rfl ⟨9, rfl⟩ (zO rfl (zl rfl) (zO rfl (zl rfl) (ga rfl rfl))))) (zn 9 rfl rfl (fun _ => rfl) (zn 9 rfl rfl (fun _ => rfl) zM))
    replace hM := zb h_7 hM
    refine GS.exit rfl ?_
    obtain ⟨y_2, hM, hy⟩ := ZV hM
    rw [hr_2 _ hy.symm] at hM
    exact X.gc [some 0, some 1] (hj_3 l4 hM) rfl rfl rfl (zO rfl ⟨9, rfl⟩ (zO rfl ⟨9, rfl⟩ (zO rfl (zl rfl) (zO rfl (zl rfl) (ga rfl rfl))))) (zn 9 rfl rfl (fun _ => rfl) (zn 9 rfl rfl (fun _ => rfl) zM))
   intro hj_4
   refine X.cond rfl (fun h_10 => ?_) (fun h_10 => ?_)
   ·replace hM := za h_10 hM
    refine GS.region ?_
    iterate 4 refine X.q rfl ?_
    refine X.opR rfl (X.lenF rfl rfl rfl) rfl (X.q rfl ?_)
    refine X.opR rfl (X.addE rfl rfl) rfl (X.q rfl (GS.zA ?_))
    exact X.gc [some 0, some 1] (hj_4 (w64 ((b.slots.length : Int) + x3)) hM) rfl rfl rfl (zO rfl ⟨9, rfl⟩ (zO rfl ⟨9, rfl⟩ (zO rfl (zl rfl) (zO rfl (zl rfl) (ga rfl rfl))))) (zn 9 rfl rfl (fun _ => rfl) (zn 9 rfl rfl (fun _ => rfl) zM))
   replace hM := zb h_10 hM
   refine GS.skip ?_
   exact X.gc [some 0, some 1] (hj_4 x hM) rfl rfl rfl (zO rfl ⟨9, rfl⟩ (zO rfl ⟨9, rfl⟩ (zO rfl (zl rfl) (zO rfl (zl rfl) (ga rfl rfl))))) (zn 9 rfl rfl (fun _ => rfl) (zn 9 rfl rfl (fun _ => rfl) zM))
  replace hM := zb h_5 hM
  refine GS.skip ?_
  exact X.gc [some 0, some 1] (hj_3 y1 hM) rfl rfl rfl (zO rfl ⟨9, rfl⟩ (zO rfl ⟨9, rfl⟩ (zO rfl (zl rfl) (zO rfl (zl rfl) (ga rfl rfl))))) (zn 9 rfl rfl (fun _ => rfl) (zn 9 rfl rfl (fun _ => rfl) zM))
 replace hM := zb h_2 hM
 refine GS.exit rfl ?_
 obtain ⟨y_1, hM, hy⟩ := ZV hM
 rw [hr_1 _ hy.symm] at hM
 exact X.gc [some 0] (hj_1 l5 hM) rfl rfl rfl (zO rfl ⟨9, rfl⟩ (zO rfl (zl rfl) yD)) (zn 9 rfl rfl (fun _ => rfl) zM)
theorem zJh {l r : List Int} (hM : slices_Clone_int l = some r) : Ct Tryz.prog 110 [V.sl (List.map V.i l)] (V.sl (List.map V.i r)) := by
 unfold slices_Clone_int at hM
 have hr : r = l := by obtain ⟨_, e⟩ := zDl hM; simpa using e
 refine zg ZR rfl ?_
 refine GS.seq ?_
 refine GS.region ?_
 refine X.opR rfl rfl rfl ?_
 refine GS.zA ?_
 iterate 2 refine GS.seq ?_
 refine GS.region ?_
 refine X.opR rfl rfl rfl ?_
 refine X.zI2 rfl rfl rfl rfl rfl rfl (fun h => ?_) ?_
 ·have hl : r = [] := by rw [hr]; simpa using h
  subst hl
  refine GS.zA ?_
  refine GS.zEU rfl ?_
  refine GS.seq ?_
  refine GS.region ?_
  refine X.opR rfl rfl rfl ?_
  refine GS.zA ?_
  exact GS.ret ⟨_, rfl, ⟨30, rfl⟩⟩
 ·refine GS.zA ?_
  refine GS.zAa rfl ?_
  refine GS.skip ?_
  refine GS.seq ?_
  refine GS.region ?_
  refine X.opW rfl rfl rfl rfl ?_
  refine X.opR rfl rfl rfl ?_
  refine X.opW rfl (X.appO (f := V.i) (l := []) (xs := l) hM (fun _ => rfl) rfl rfl rfl rfl rfl rfl rfl rfl rfl rfl) rfl rfl ?_
  refine X.opR rfl rfl rfl ?_
  refine GS.zA ?_
  exact GS.ret ⟨_, rfl, FR.osl (f := V.i) (l := r) 9 rfl rfl (fun _ => rfl)⟩
theorem clone_int {all os : List Oper} {k : List It} {K : List (Nat × V)} {H : List Blk} {lo n d N : Nat} {rnd : Option Nat} {Q : Ex → St → Prop} {p : Op} {ty : TypeId} {pos : String} {after : Array Edge} {g : Option (Nat × Bool)} {l r : List Int} (hM : app [] l = some r) (hw : wants all K g = some true) (hc : callee K p = some (.fn 110 [.sl (l.map V.i)])) (hd : Nat.blt d n = true) (hlo : Nat.ble lo H.length = true) {i : Nat} (hi : H.length + 1 = i)
  (h : ∀ z : Bool, GS CC N (.ops all os :: k) ⟨(d, ovlz z i r) :: K, H ++ [.dead, oblz z 1 V.i r], lo, rnd, n⟩ Q) : GS CC N (.ops all (⟨some d, p, ty, pos, after, g⟩ :: os) :: k) ⟨K, H, lo, rnd, n⟩ Q := by
 subst hi
 have hr : r = l := by obtain ⟨_, e⟩ := zDl hM; simpa using e
 refine GS.im (s := ⟨K, H, lo, rnd, n⟩) (fun v H1 => ∃ z : Bool, v = ovlz z (H.length + 1) r ∧ H1 = H ++ [.dead, oblz z 1 V.i r]) hw hc rfl ?_ (fun v H1 hT => ?_)
 ·refine GS.seq ?_
  refine GS.region ?_
  refine X.opR rfl rfl rfl ?_
  refine GS.zA ?_
  iterate 2 refine GS.seq ?_
  refine GS.region ?_
  refine X.opR rfl rfl rfl ?_
  refine X.zI2 rfl rfl rfl rfl rfl rfl (fun h => ?_) ?_
  ·have hl : r = [] := by rw [hr]; simpa using h
   subst hl
   refine GS.zA ?_
   refine GS.zEU rfl ?_
   refine GS.seq ?_
   refine GS.region ?_
   refine X.opR rfl rfl rfl ?_
   refine GS.zA ?_
   refine GS.pad ?_
   refine GS.pad ?_
   exact GS.ret ⟨_, rfl, true, rfl, by simp [oblz]⟩
  ·refine GS.zA ?_
   refine GS.zAa rfl ?_
   refine GS.skip ?_
   refine GS.seq ?_
   refine GS.region ?_
   refine X.opW rfl (v := .osl H.length 0 0) (wr := [(H.length, .rows 1 [])]) rfl X.zIs rfl ?_
   refine X.opR rfl rfl rfl ?_
   refine X.opW (H' := H ++ [.dead, .rows 1 (r.map V.i)]) rfl (X.appO (f := V.i) (l := []) (xs := l) (es := 1) hM (fun _ => rfl) rfl rfl rfl rfl rfl rfl X.zJC hlo rfl rfl) ?_ rfl ?_
   ·show hput (hput (H ++ [Blk.rows 1 []]) H.length Blk.dead) (H ++ [Blk.rows 1 []]).length (Blk.rows 1 (r.map V.i)) = _
    have e1 : hput (H ++ [Blk.rows 1 []]) H.length Blk.dead = H ++ [Blk.dead] := X.puts_end' (B := .rows 1 []) (B' := .dead)
    rw [e1, show (H ++ [Blk.rows 1 []]).length = (H ++ [Blk.dead]).length by simp, zBj]
    simp
   refine X.opR rfl rfl rfl ?_
   refine GS.zA ?_
   exact GS.ret ⟨_, rfl, false, by simp [ovlz], rfl⟩
 ·obtain ⟨z, rfl, rfl⟩ := hT
  exact X.front rfl hd (h z) rfl
theorem zCV {l r : List Int} (hM : app [] l = some r) : zEe Tryz.prog 110 [V.sl (List.map V.i l)] (fun z => ovlz z 0 r) (fun z => oblz z 1 V.i r) := by
 have hr : r = l := by obtain ⟨_, e⟩ := zDl hM; simpa using e
 refine zHP ZR rfl ?_
 refine GS.seq ?_
 refine GS.region ?_
 refine X.opR rfl rfl rfl ?_
 refine GS.zA ?_
 iterate 2 refine GS.seq ?_
 refine GS.region ?_
 refine X.opR rfl rfl rfl ?_
 refine X.zI2 rfl rfl rfl rfl rfl rfl (fun h => ?_) ?_
 ·have hl : r = [] := by rw [hr]; simpa using h
  subst hl
  refine GS.zA ?_
  refine GS.zEU rfl ?_
  refine GS.seq ?_
  refine GS.region ?_
  refine X.opR rfl rfl rfl ?_
  refine GS.zA ?_
  refine GS.pad ?_
  exact GS.ret ⟨true, rfl, rfl⟩
 ·refine GS.zA ?_
  refine GS.zAa rfl ?_
  refine GS.skip ?_
  refine GS.seq ?_
  refine GS.region ?_
  refine X.opW rfl rfl rfl rfl ?_
  refine X.opR rfl rfl rfl ?_
  refine X.opW rfl (X.appO (f := V.i) (l := []) (xs := l) hM (fun _ => rfl) rfl rfl rfl rfl rfl rfl rfl rfl rfl rfl) rfl rfl ?_
  refine X.opR rfl rfl rfl ?_
  refine GS.zA ?_
  refine X.gc [some 1] (H' := [.rows 1 (List.map V.i r)]) (K' := [(2, (V.osl 0 0 (List.length r)))]) ?_ rfl rfl rfl (ga rfl rfl) (zQ 9 rfl rfl (fun _ => rfl) zM)
  exact GS.ret ⟨false, rfl, rfl⟩
set_option maxHeartbeats 4000000 in
theorem zAX {b : zK} {r : (List zP)} (hM : jG b = some r) : Ct Tryz.prog 79 [(V.fptr [(zT b)] 0 0)] (V.sl (List.map zS r)) := by
 refine zg ZR rfl ?_
 unfold jG at hM
 refine X.sq (X.q rfl (GS.zA ?_))
 refine GS.scope (GS.seq ?_)
 obtain ⟨y, h_1, hM⟩ := zI hM
 refine GS.region (X.q rfl ?_)
 refine X.zCF (v := (V.tup [V.uns, (V.i y.2)])) (Ct.mask (yJ h_1)) rfl rfl rfl (m := 9) rfl (.cons (.shut (n := 9) rfl) (.cons (.nil (n := 9) rfl) .nil)) ?_
 iterate 5 refine X.q rfl ?_
 refine X.nq (X.q rfl (X.nq (X.q rfl (GS.zA (GS.seq ?_)))))
 refine GS.label (GS.seq (X.sq ?_))
 iterate 4 refine X.q rfl ?_
 refine X.opR rfl (X.lenF rfl rfl rfl) rfl (X.q rfl (GS.zA ?_))
 refine X.join (τ := (List zP)) (fun v => JW v = some r) (fun v => ⟨[(6, (ovl 0 v))], [obl 5 zS v], 0, none, 85⟩) ?_ ?_
 ·intro l hM
  replace hM : JW l = some r := hM
  unfold JW at hM
  refine X.sq (X.q rfl (X.q rfl ?_))
  refine GS.zA ?_
  have hE := Option.some.inj hM
  subst hE
  exact GS.ret ⟨_, rfl, FR.ovl (f := zS) (l := l) 9 rfl rfl (fun _ => rfl)⟩
 intro hj_1
 refine GS.block ?_
 refine X.gc [none, none] (X.loop (σ := (Int × (List Int) × (List zP))) (fun v => ⟨[(0, (V.fptr [(zT b)] 0 0)), (4, (V.i y.2)), (5, (ovl 0 v.2.1)), (6, (ovl 1 v.2.2)), (23, (V.sl (List.map zG b.calls))), (24, (V.i (b.calls.length : Int))), (25, (V.i v.1))], [obl 1 V.i v.2.1, obl 5 zS v.2.2], 0, none, 85⟩) hM ?_ rfl) rfl rfl rfl (ga rfl rfl) (gb_pad' rfl (gb_pad' rfl zM))
 rintro ⟨x4, l8, l9⟩ b_1 hM hc_2 hr_1
 rw [JX] at hM
 refine X.sq (X.q rfl (GS.zA (GS.seq ?_)))
 refine X.cond rfl (fun h_2 => ?_) (fun h_2 => ?_)
 ·replace hM := za h_2 hM
  refine GS.skip (GS.seq ?_)
  refine X.join (τ := (List Int) × (List zP)) (fun v => jK x4 v.1 v.2 = some b_1) (fun v => ⟨[(0, (V.fptr [(zT b)] 0 0)), (4, (V.i y.2)), (5, (ovl 0 v.1)), (6, (ovl 1 v.2)), (23, (V.sl (List.map zG b.calls))), (24, (V.i (b.calls.length : Int))), (25, (V.i x4))], [obl 1 V.i v.1, obl 5 zS v.2], 0, none, 85⟩) ?_ ?_
  ·rintro ⟨l1, l2⟩ hM
   replace hM : jK x4 l1 l2 = some b_1 := hM
   unfold jK at hM
   refine GS.region ?_
   refine X.opR rfl (X.addE rfl rfl) rfl (X.q rfl (GS.zA ?_))
   have hE := Option.some.inj hM
   exact X.gc [some 0, some 1] (hc_2 (w64 (x4 + 1), l1, l2) hE.symm) rfl rfl rfl (zO rfl ⟨9, rfl⟩ (zO rfl ⟨9, rfl⟩ (zO rfl (zl rfl) (zO rfl (zl rfl) (ga rfl rfl))))) (zn 9 rfl rfl (fun _ => rfl) (zn 9 rfl rfl (fun _ => rfl) zM))
  intro hj_3
  refine GS.block (GS.seq ?_)
  obtain ⟨x, h_3, hM⟩ := zI hM
  refine GS.region (X.q rfl ?_)
  refine X.opR rfl (X.ZJ (f := zG) h_3 (fun _ => rfl) rfl rfl rfl rfl) rfl ?_
  refine X.opR rfl (X.Za h_3 rfl rfl rfl) rfl ?_
  refine X.opW rfl rfl rfl rfl (X.q rfl ?_)
  refine X.op0W rfl rfl rfl (GS.zA (GS.seq (X.sq ?_)))
  iterate 4 refine X.q rfl ?_
  refine X.opR rfl (X.lenF rfl rfl rfl) rfl (X.q rfl (GS.zA ?_))
  refine X.join (τ := Unit) (fun v => JV x4 l8 l9 = some b_1) (fun v => ⟨[(0, (V.fptr [(zT b)] 0 0)), (4, (V.i y.2)), (5, (ovl 0 l8)), (6, (ovl 1 l9)), (23, (V.sl (List.map zG b.calls))), (24, (V.i (b.calls.length : Int))), (25, (V.i x4))], [obl 1 V.i l8, obl 5 zS l9], 0, none, 85⟩) ?_ ?_
  ·intro _ hM
   replace hM : JV x4 l8 l9 = some b_1 := hM
   unfold JV at hM
   obtain ⟨l3, h_4, hM⟩ := zI hM
   refine GS.region (X.q rfl ?_)
   refine X.opW rfl rfl rfl rfl ?_
   refine X.appN (f := V.i) h_4 (fun _ => rfl) (by rfl) (by rfl) (by rfl) (by rfl) (by rfl) (by rfl) (by rfl) (by rfl) (by rfl) (by rfl) (by rfl) (by exact rfl) (by rfl) (by rfl) (X.q rfl (GS.zA ?_))
   refine GS.endB ?_
   exact X.gc [some 3, some 1] (hj_3 (l3, l9) hM) rfl rfl rfl (zO rfl ⟨9, rfl⟩ (zO rfl ⟨9, rfl⟩ (zO rfl (zAW (jR h_4) rfl) (zO rfl (zl rfl) (ga rfl rfl))))) (gb_obl' 9 (jR h_4) rfl rfl (fun _ => rfl) (zn 9 rfl rfl (fun _ => rfl) zM))
  intro hj_4
  refine GS.block ?_
  refine X.gc [some 0, some 1, some 2] (X.loop (σ := Int) (fun v => ⟨[(0, (V.fptr [(zT b)] 0 0)), (4, (V.i y.2)), (5, (ovl 0 l8)), (6, (ovl 1 l9)), (7, (V.i x4)), (8, (V.ptr 2 0 0)), (23, (V.sl (List.map zG b.calls))), (24, (V.i (b.calls.length : Int))), (25, (V.i x4)), (33, (V.sl (List.map zC b.slots))), (34, (V.i (b.slots.length : Int))), (35, (V.i v))], [obl 1 V.i l8, obl 5 zS l9, .rows 5 [(zG x)]], 0, none, 85⟩) hM ?_ rfl) rfl rfl rfl (zO rfl ⟨9, rfl⟩ (zO rfl ⟨9, rfl⟩ (zO rfl (zl rfl) (zO rfl (zl rfl) (ga rfl rfl))))) (zn 9 rfl rfl (fun _ => rfl) (zn 9 rfl rfl (fun _ => rfl) (gb9 rfl rfl rfl zM)))
  intro x3 b_2 hM hc_5 hr_2
  rw [yL] at hM
  refine X.sq (X.q rfl (GS.zA (GS.seq ?_)))
  refine X.cond rfl (fun h_5 => ?_) (fun h_5 => ?_)
  ·replace hM := za h_5 hM
   refine GS.skip (GS.seq ?_)
   refine X.join (τ := Unit) (fun v => jJ x3 = some b_2) (fun v => ⟨[(0, (V.fptr [(zT b)] 0 0)), (4, (V.i y.2)), (5, (ovl 0 l8)), (6, (ovl 1 l9)), (7, (V.i x4)), (8, (V.ptr 2 0 0)), (23, (V.sl (List.map zG b.calls))), (24, (V.i (b.calls.length : Int))), (25, (V.i x4)), (33, (V.sl (List.map zC b.slots))), (34, (V.i (b.slots.length : Int))), (35, (V.i x3))], [obl 1 V.i l8, obl 5 zS l9, .rows 5 [(zG x)]], 0, none, 85⟩) ?_ ?_
   ·intro _ hM
    replace hM : jJ x3 = some b_2 := hM
    unfold jJ at hM
    refine GS.region ?_
    refine X.opR rfl (X.addE rfl rfl) rfl (X.q rfl (GS.zA ?_))
    have hE := Option.some.inj hM
    exact X.gc [some 0, some 1, some 2] (hc_5 (w64 (x3 + 1)) hE.symm) rfl rfl rfl (zO rfl ⟨9, rfl⟩ (zO rfl ⟨9, rfl⟩ (zO rfl (zl rfl) (zO rfl (zl rfl) (ga rfl rfl))))) (zn 9 rfl rfl (fun _ => rfl) (zn 9 rfl rfl (fun _ => rfl) (gb9 rfl rfl rfl zM)))
   intro hj_6
   refine GS.block (GS.seq ?_)
   obtain ⟨x1, h_6, hM⟩ := zI hM
   refine GS.region (X.q rfl ?_)
   refine X.opR rfl (X.ZJ (f := zC) h_6 (fun _ => rfl) rfl rfl rfl rfl) rfl ?_
   refine X.opR rfl (X.Za h_6 rfl rfl rfl) rfl ?_
   refine X.opW (H' := [obl 1 V.i l8, obl 5 zS l9, .rows 5 [(zG x)], .rows 2 [(V.agg [(V.i 0), (V.i 0)])]]) rfl rfl rfl rfl (X.q rfl ?_)
   refine X.op0W (H' := [obl 1 V.i l8, obl 5 zS l9, .rows 5 [(zG x)], .rows 2 [(zC x1)]]) rfl rfl rfl (GS.zA (GS.seq ?_))
   obtain ⟨x2, h_7, hM⟩ := zI hM
   refine X.draw (by kernel_rfl) ?_
   iterate 5 refine X.dop rfl rfl rfl rfl (by kernel_rfl) rfl rfl ?_
   refine X.dop rfl (X.ZJ (f := (fun l => V.fmap (List.map (fun p => zC p.1) l) (List.map (fun p => zJ p.2) l))) h_7 (fun _ => rfl) rfl rfl rfl rfl) rfl rfl (by kernel_rfl) rfl rfl ?_
   refine X.dop rfl (X.Za h_7 rfl rfl rfl) rfl rfl (by kernel_rfl) rfl rfl ?_
   refine X.dop rfl rfl rfl rfl (by kernel_rfl) rfl rfl ?_
   refine X.dop rfl (X.zGT (f := zC) (g := zJ) (k := x1) (l := x2) (z := (⟨0, 0⟩ : zD)) (ok := true) J5 rfl rfl rfl rfl rfl) rfl rfl (by kernel_rfl) rfl rfl ?_
   iterate 4 refine X.dop rfl rfl rfl rfl (by kernel_rfl) rfl rfl ?_
   refine X.dop0 rfl rfl rfl rfl (by kernel_rfl) rfl ?_
   refine X.dop rfl rfl rfl rfl (by kernel_rfl) rfl rfl ?_
   refine X.dnil ?_
   refine X.norm [(0, (V.fptr [(zT b)] 0 0)), (4, (V.i y.2)), (5, (ovl 0 l8)), (6, (ovl 1 l9)), (7, (V.i x4)), (8, (V.ptr 2 0 0)), (9, (V.i x3)), (10, (V.ptr 3 0 0)), (11, (V.ptr 4 0 0)), (12, (V.b ((ZH x1 x2).isSome))), (23, (V.sl (List.map zG b.calls))), (24, (V.i (b.calls.length : Int))), (25, (V.i x4)), (33, (V.sl (List.map zC b.slots))), (34, (V.i (b.slots.length : Int))), (35, (V.i x3))] ?_ rfl (sr rfl)
   refine GS.seq (X.sq (X.q rfl (X.q rfl ?_)))
   refine GS.zA ?_
   refine X.cond rfl (fun h_8 => ?_) (fun h_8 => ?_)
   ·replace hM := za h_8 hM
    refine GS.exit rfl ?_
    exact X.gc [some 0, some 1, some 2] (hj_6 () hM) rfl rfl rfl (zO rfl ⟨9, rfl⟩ (zO rfl ⟨9, rfl⟩ (zO rfl (zl rfl) (zO rfl (zl rfl) (ga rfl rfl))))) (zn 9 rfl rfl (fun _ => rfl) (zn 9 rfl rfl (fun _ => rfl) (gb9 rfl rfl rfl zM)))
   replace hM := zb h_8 hM
   refine GS.skip (GS.seq ?_)
   obtain ⟨l4, h_9, hM⟩ := zI hM
   obtain ⟨l5, h_10, hM⟩ := zI hM
   obtain ⟨y1, h_11, hM⟩ := zI hM
   refine GS.region (X.q rfl (X.q rfl ?_))
   refine X.ownF (zCV h_9) (nn := 9) (fun _ => rfl) rfl rfl rfl (.cons (FR.arg (FR.ovl (f := V.i) (l := l8) 9 rfl rfl (fun _ => rfl))) .nil) rfl (fun z_144 => (X.q rfl ?_))
   refine X.opW (H' := [obl 1 V.i l8, obl 5 zS l9, .rows 5 [(zG x)], .rows 2 [(zC x1)], .rows 2 [(zJ ((ZH x1 x2).getD (⟨0, 0⟩ : zD)))], oblz z_144 1 V.i l4, .rows 1 (List.map V.i ([x3]))]) rfl rfl rfl rfl ?_
   refine X.appN (f := V.i) h_10 (fun _ => rfl) (by rfl) (by rfl) (by rfl) (by rfl) (by rfl) (by rfl) (by rfl) (by rfl) (by rfl) (by rfl) (by rfl) (by exact rfl) (by rfl) (by rfl) ?_
   refine X.zCF (v := (V.tup [V.uns, (V.i y1.2)])) (Ct.mask (yJ h_11)) rfl rfl rfl (m := 9) rfl (.cons (.shut (n := 9) rfl) (.cons (FR.arg (FR.osl (f := V.i) (l := l5) 9 rfl rfl (fun _ => rfl))) .nil)) ?_
   iterate 5 refine X.q rfl ?_
   refine X.nq (X.q rfl (X.q rfl (X.q rfl ?_)))
   refine GS.zA ?_
   refine X.cond rfl (fun h_12 => ?_) (fun h_12 => ?_)
   ·replace hM := za h_12 hM
    refine GS.seq ?_
    obtain ⟨l6, h_13, hM⟩ := zI hM
    refine GS.region (X.q rfl (X.q rfl ?_))
    refine X.opW (H' := [obl 1 V.i l8, obl 5 zS l9, .rows 5 [(zG x)], .rows 2 [(zC x1)], .rows 2 [(zJ ((ZH x1 x2).getD (⟨0, 0⟩ : zD)))], .dead, .rows 1 (List.map V.i ([x3])), .rows 1 (List.map V.i l5), .rows 1 (List.map V.i ([x3]))]) rfl rfl rfl rfl ?_
    refine X.appN (f := V.i) h_13 (fun _ => rfl) (by rfl) (by rfl) (by rfl) (by rfl) (by rfl) (by rfl) (by rfl) (by rfl) (by rfl) (by rfl) (by rfl) (by exact rfl) (by rfl) (by rfl) (X.q rfl (GS.zA (GS.seq ?_)))
    obtain ⟨l7, h_14, hM⟩ := zI hM
    refine GS.region ?_
    iterate 6 refine X.q rfl ?_
    refine X.opW (H' := [.dead, obl 5 zS l9, .rows 5 [(zG x)], .rows 2 [(zC x1)], .rows 2 [(zJ ((ZH x1 x2).getD (⟨0, 0⟩ : zD)))], .dead, .rows 1 (List.map V.i ([x3])), .rows 1 (List.map V.i l5), .rows 1 (List.map V.i ([x3])), .rows 1 (List.map V.i l6), .rows 5 (List.map zS ([(⟨x.ID, x1, ((ZH x1 x2).getD (⟨0, 0⟩ : zD))⟩ : zP)]))]) rfl rfl rfl rfl ?_
    refine X.appN (f := zS) h_14 (fun _ => rfl) (by rfl) (by rfl) (by rfl) (by rfl) (by rfl) (by rfl) (by rfl) (by rfl) (by rfl) (by rfl) (by rfl) (by exact rfl) (by rfl) (by rfl) (X.q rfl (GS.zA ?_))
    refine GS.exit rfl ?_
    obtain ⟨y_2, hM, hy⟩ := ZV hM
    rw [hr_2 _ hy.symm] at hM
    exact X.gc [some 9, some 11] (hj_3 (l6, l7) hM) rfl rfl rfl (zO rfl ⟨9, rfl⟩ (zO rfl ⟨9, rfl⟩ (zO rfl (zAW (jR h_13) rfl) (zO rfl (zAW (jR h_14) rfl) (ga rfl rfl))))) (gb_obl' 9 (jR h_13) rfl rfl (fun _ => rfl) (gb_obl' 9 (jR h_14) rfl rfl (fun _ => rfl) zM))
   replace hM := zb h_12 hM
   refine GS.skip ?_
   refine GS.endB ?_
   exact X.gc [some 0, some 1, some 2] (hj_6 () hM) rfl rfl rfl (zO rfl ⟨9, rfl⟩ (zO rfl ⟨9, rfl⟩ (zO rfl (zl rfl) (zO rfl (zl rfl) (ga rfl rfl))))) (zn 9 rfl rfl (fun _ => rfl) (zn 9 rfl rfl (fun _ => rfl) (gb9 rfl rfl rfl zM)))
  replace hM := zb h_5 hM
  refine GS.exit rfl ?_
  obtain ⟨y_2, hM, hy⟩ := ZV hM
  rw [hr_2 _ hy.symm] at hM
  exact X.gc [some 0, some 1] (hj_4 () hM) rfl rfl rfl (zO rfl ⟨9, rfl⟩ (zO rfl ⟨9, rfl⟩ (zO rfl (zl rfl) (zO rfl (zl rfl) (ga rfl rfl))))) (zn 9 rfl rfl (fun _ => rfl) (zn 9 rfl rfl (fun _ => rfl) zM))
 replace hM := zb h_2 hM
 refine GS.exit rfl ?_
 obtain ⟨y_1, hM, hy⟩ := ZV hM
 rw [hr_1 _ hy.symm] at hM
 exact X.gc [some 1] (hj_1 l9 hM) rfl rfl rfl (zO rfl (zl rfl) yD) (zn 9 rfl rfl (fun _ => rfl) zM)
theorem zDG {h : zL} {l : (List zN)} {r : (List zP) × Int} (hM : YE h l = some r) : Ct Tryz.prog 33 [(zH h), (V.sl (List.map zG l))] (V.tup [(V.sl (List.map zS r.1)), (V.i r.2)]) := by
 refine zg ZR rfl ?_
 unfold YE at hM
 refine X.sq ?_
 refine X.opW rfl rfl rfl rfl (X.q rfl (X.q rfl ?_))
 refine GS.zA ?_
 iterate 2 refine GS.seq ?_
 obtain ⟨y, h_1, hM⟩ := zI hM
 refine GS.region (X.q rfl (X.q rfl ?_))
 refine X.call (jk h_1) rfl rfl rfl (.cons (.shut (n := 9) rfl) (.cons (.shut (n := 9) rfl) .nil)) (X.q rfl (X.nq (X.q rfl (X.q rfl ?_))))
 refine GS.zA ?_
 refine X.cond rfl (fun h_2 => ?_) (fun h_2 => ?_)
 ·replace hM := za h_2 hM
  refine X.sq (X.q rfl (X.q rfl (X.q rfl ?_)))
  refine GS.zA ?_
  cases hM
  exact GS.ret ⟨_, rfl, ⟨30, rfl⟩⟩
 replace hM := zb h_2 hM
 refine GS.skip (GS.seq ?_)
 obtain ⟨y1, h_3, hM⟩ := zI hM
 obtain ⟨y2, h_4, hM⟩ := zI hM
 refine GS.region (X.q rfl (X.q rfl ?_))
 refine X.call (qp h_3) rfl rfl rfl (.cons (.shut (n := 9) rfl) (.cons (.shut (n := 9) rfl) .nil)) ?_
 refine X.call (zAX h_4) rfl rfl rfl (.cons (.shut (n := 9) rfl) .nil) (X.q rfl (X.q rfl ?_))
 refine GS.zA ?_
 cases hM
 exact GS.ret ⟨_, rfl, ⟨30, rfl⟩⟩
abbrev J6 (x : ZL) : V := .agg [(V.sl (List.map V.i x.Calls)), (V.sl (List.map zC x.Slots))]
theorem zBr {c : zN} {c1 : zK} {c2 : zF} {c3 : (List (Int × Bool))} {r : Bool} (hM : QR c c1 c2 c3 = some r) : Ct Tryz.prog 103 [(zG c), (V.fptr [(V.fptr [(zT c1)] 0 0)] 0 0), (V.fptr [(zC c2)] 0 0), (V.fptr [(V.fmap (List.map (fun p : Int × Bool => V.i p.1) c3) (List.map (fun p : Int × Bool => V.b p.2) c3))] 0 0)] (V.b r) := by
 refine zg ZR rfl ?_
 unfold QR at hM
 refine X.sq ?_
 refine X.opW rfl rfl rfl rfl (X.q rfl (GS.zA (GS.seq ?_)))
 obtain ⟨y, h_1, hM⟩ := zI hM
 refine X.drawc (by kernel_rfl) rfl ?_
 iterate 6 refine X.cop rfl rfl rfl rfl ?_
 refine X.ccall (Zv h_1) rfl rfl rfl rfl (.cons (.shut (n := 9) rfl) (.cons (.shut (n := 9) rfl) (.cons (.shut (n := 9) rfl) .nil))) ?_
 refine X.cop rfl rfl rfl rfl ?_
 refine X.cnil ?_
 refine X.norm [(1, (V.fptr [(V.fptr [(zT c1)] 0 0)] 0 0)), (2, (V.fptr [(zC c2)] 0 0)), (3, (V.fptr [(V.fmap (List.map (fun p : Int × Bool => V.i p.1) c3) (List.map (fun p : Int × Bool => V.b p.2) c3))] 0 0)), (6, (V.i y))] ?_ rfl (sr rfl)
 refine GS.seq ?_
 obtain ⟨x, h_2, hM⟩ := zI hM
 refine X.draw (by kernel_rfl) ?_
 iterate 5 refine X.dop rfl rfl rfl rfl (by kernel_rfl) rfl rfl ?_
 refine X.dop rfl (X.ZJ (f := (fun l => V.fmap (List.map (fun p => zC p.1) l) (List.map (fun p => zJ p.2) l))) h_2 (fun _ => rfl) rfl rfl rfl rfl) rfl rfl (by kernel_rfl) rfl rfl ?_
 refine X.dop rfl (X.Za h_2 rfl rfl rfl) rfl rfl (by kernel_rfl) rfl rfl ?_
 refine X.dop rfl rfl rfl rfl (by kernel_rfl) rfl rfl ?_
 refine X.dop rfl (X.zGT (f := zC) (g := zJ) (k := c2) (l := x) (z := (⟨0, 0⟩ : zD)) (ok := true) J5 rfl rfl rfl rfl rfl) rfl rfl (by kernel_rfl) rfl rfl ?_
 iterate 4 refine X.dop rfl rfl rfl rfl (by kernel_rfl) rfl rfl ?_
 refine X.dop0 rfl rfl rfl rfl (by kernel_rfl) rfl ?_
 refine X.dop rfl rfl rfl rfl (by kernel_rfl) rfl rfl ?_
 refine X.dnil ?_
 refine X.norm [(3, (V.fptr [(V.fmap (List.map (fun p : Int × Bool => V.i p.1) c3) (List.map (fun p : Int × Bool => V.b p.2) c3))] 0 0)), (6, (V.i y)), (8, (V.b ((ZH c2 x).isSome)))] ?_ rfl (sr rfl)
 refine X.sq ?_
 refine X.mid [(5, (V.b (((ZH c2 x).isSome) && ((ZH y c3).getD false))))] ?_ ?_
 ·intro hg
  refine X.split ((ZH c2 x).isSome) (fun h_3 => ?_) (fun h_3 => ?_)
  ·iterate 2 refine X.q rfl ?_
   iterate 2 refine X.opR (X.on_t rfl rfl rfl h_3) rfl rfl ?_
   refine X.opR (X.on_t rfl rfl rfl h_3) (X.zGT (f := V.i) (g := V.b) (k := y) (l := c3) (z := false) (ok := false) X.zAi rfl rfl rfl rfl rfl) rfl ?_
   refine X.opR rfl (X.zX (y := ((ZH y c3).getD false)) rfl h_3 rfl) rfl (X.q rfl (GS.zA ?_))
   exact X.norm _ hg rfl (sr rfl)
  refine X.q rfl (X.q rfl ?_)
  iterate 3 refine X.off (X.zt rfl rfl rfl h_3) rfl ?_
  refine X.opR rfl (X.zR (y := ((ZH y c3).getD false)) rfl h_3 rfl) rfl (X.q rfl (GS.zA ?_))
  exact X.norm _ hg rfl (sr rfl)
 cases hM
 exact GS.ret ⟨_, rfl, ⟨30, rfl⟩⟩
theorem Jt {s : (List zN)} {c : zK} {c1 : zF} {c2 : (List (Int × Bool))} {r : Int} (hM : Zt s c c1 c2 = some r) : Ct Tryz.prog 96 [(V.sl (List.map zG s)), (V.fn 103 [(V.fptr [(V.fptr [(zT c)] 0 0)] 0 0), (V.fptr [(zC c1)] 0 0), (V.fptr [(V.fmap (List.map (fun p : Int × Bool => V.i p.1) c2) (List.map (fun p : Int × Bool => V.b p.2) c2))] 0 0)])] (V.i r) := by
 refine zg ZR rfl ?_
 unfold Zt at hM
 refine X.sq (X.q rfl (GS.zA (GS.seq (X.sq (X.q rfl ?_)))))
 refine X.opR rfl (X.lenF rfl rfl rfl) rfl (X.q rfl (GS.zA ?_))
 refine X.join (τ := Unit) (fun v => ZW = some r) (fun v => ⟨[], [], 0, none, 19⟩) ?_ ?_
 ·intro _ hM
  replace hM : ZW = some r := hM
  unfold ZW at hM
  refine X.sq (X.q rfl (GS.zA ?_))
  cases hM
  exact GS.ret ⟨_, rfl, ⟨30, rfl⟩⟩
 intro hj_1
 refine GS.block ?_
 refine X.gc [] (X.loop (σ := Int) (fun v => ⟨[(0, (V.sl (List.map zG s))), (1, (V.fn 103 [(V.fptr [(V.fptr [(zT c)] 0 0)] 0 0), (V.fptr [(zC c1)] 0 0), (V.fptr [(V.fmap (List.map (fun p : Int × Bool => V.i p.1) c2) (List.map (fun p : Int × Bool => V.b p.2) c2))] 0 0)])), (7, (V.i (s.length : Int))), (8, (V.i v))], [], 0, none, 19⟩) hM ?_ rfl) rfl rfl rfl (ga rfl rfl) (zM)
 intro x1 b_1 hM hc_2 hr_1
 rw [jE] at hM
 refine X.sq (X.q rfl (GS.zA (GS.seq ?_)))
 refine X.cond rfl (fun h_1 => ?_) (fun h_1 => ?_)
 ·replace hM := za h_1 hM
  refine GS.skip (GS.seq (GS.block (X.sq (X.q rfl (X.q rfl ?_)))))
  refine GS.zA (GS.seq ?_)
  obtain ⟨x, h_2, hM⟩ := zI hM
  obtain ⟨y, h_3, hM⟩ := zI hM
  refine GS.region (X.q rfl (X.q rfl (X.q rfl ?_)))
  refine X.opR rfl (X.ZJ (f := zG) h_2 (fun _ => rfl) rfl rfl rfl rfl) rfl ?_
  refine X.opR rfl (X.Za h_2 rfl rfl rfl) rfl ?_
  refine X.call (zBr h_3) rfl rfl rfl (.cons (.shut (n := 9) rfl) (.cons (.shut (n := 9) rfl) (.cons (.shut (n := 9) rfl) (.cons (.shut (n := 9) rfl) .nil)))) (GS.zA ?_)
  refine X.cond rfl (fun h_4 => ?_) (fun h_4 => ?_)
  ·replace hM := za h_4 hM
   refine X.sq (X.q rfl (X.q rfl ?_))
   refine GS.zA ?_
   have hE := Option.some.inj hM
   replace hE := hr_1 _ hE.symm
   subst hE
   exact GS.ret ⟨_, rfl, ⟨30, rfl⟩⟩
  replace hM := zb h_4 hM
  refine GS.skip ?_
  refine GS.endB (GS.region ?_)
  refine X.opR rfl (X.addE rfl rfl) rfl (X.q rfl (GS.zA ?_))
  have hE := Option.some.inj hM
  exact X.gc [] (hc_2 (w64 (x1 + 1)) hE.symm) rfl rfl rfl (ga rfl rfl) (zM)
 replace hM := zb h_1 hM
 refine GS.exit rfl ?_
 obtain ⟨y_1, hM, hy⟩ := ZV hM
 rw [hr_1 _ hy.symm] at hM
 exact X.gc [] (hj_1 () hM) rfl rfl rfl (yD) (zM)
theorem Jb {s : (List zN)} {c : zK} {c1 : zF} {c2 : (List (Int × Bool))} {r : Bool} (hM : Zl s c c1 c2 = some r) : Ct Tryz.prog 102 [(V.sl (List.map zG s)), (V.fn 103 [(V.fptr [(V.fptr [(zT c)] 0 0)] 0 0), (V.fptr [(zC c1)] 0 0), (V.fptr [(V.fmap (List.map (fun p : Int × Bool => V.i p.1) c2) (List.map (fun p : Int × Bool => V.b p.2) c2))] 0 0)])] (V.b r) := by
 refine zg ZR rfl ?_
 unfold Zl at hM
 refine X.sq (X.q rfl (GS.zA (GS.seq ?_)))
 obtain ⟨y, h_1, hM⟩ := zI hM
 refine GS.region (X.q rfl (X.q rfl ?_))
 refine X.call (Jt h_1) rfl rfl rfl (.cons (.shut (n := 9) rfl) (.cons (.shut (n := 9) rfl) .nil)) (X.q rfl (X.q rfl ?_))
 refine GS.zA ?_
 cases hM
 exact GS.ret ⟨_, rfl, ⟨30, rfl⟩⟩
set_option maxHeartbeats 4000000 in
theorem zAI {b : zK} {ships : (List (Int × Bool))} {r : ZL} (hM : JM b ships = some r) : Ct Tryz.prog 66 [(V.fptr [(zT b)] 0 0), (V.fmap (List.map (fun p : Int × Bool => V.i p.1) ships) (List.map (fun p : Int × Bool => V.b p.2) ships))] (J6 r) := by
 refine zg ZR rfl ?_
 unfold JM at hM
 refine X.sq ?_
 iterate 3 refine X.opW rfl rfl rfl rfl ?_
 refine X.nq ?_
 refine X.opW (H' := [.rows 1 [(V.fptr [(zT b)] 0 0)], .rows 1 [(V.fmap (List.map (fun p : Int × Bool => V.i p.1) ships) (List.map (fun p : Int × Bool => V.b p.2) ships))], .rows 2 [(V.agg [V.nil, V.nil])], .rows 2 [(V.agg [V.nil, V.nil])]]) rfl rfl rfl rfl (GS.zA (GS.seq (X.sq ?_)))
 iterate 4 refine X.q rfl ?_
 refine X.opR rfl (X.lenF rfl rfl rfl) rfl (X.q rfl (GS.zA ?_))
 refine X.join (τ := (List Int)) (fun v => jX b ships v = some r) (fun v => ⟨[(2, (V.ptr 0 0 0)), (3, (V.ptr 1 0 0)), (4, (V.ptr 2 0 0)), (5, (V.ptr 3 0 0))], [.rows 1 [(V.fptr [(zT b)] 0 0)], .rows 1 [(V.fmap (List.map (fun p : Int × Bool => V.i p.1) ships) (List.map (fun p : Int × Bool => V.b p.2) ships))], .rows 2 [(V.agg [V.nil, V.nil])], .rows 2 [(V.agg [(ovl 4 v), V.nil])], obl 1 V.i v], 0, none, 57⟩) ?_ ?_
 ·intro l hM
  replace hM : jX b ships l = some r := hM
  unfold jX at hM
  refine GS.seq ?_
  obtain ⟨l1, h_1, hM⟩ := zI hM
  refine GS.region (X.q rfl (X.q rfl ?_))
  refine X.norm [(2, (V.ptr 0 0 0)), (3, (V.ptr 1 0 0)), (4, (V.ptr 2 0 0)), (5, (V.ptr 3 0 0)), (31, (V.ptr 3 0 0)), (32, (ovl 4 l))] ?_ rfl (sr rfl)
  refine X.sortInt (z := true) h_1 zLa zIm (fun _ _ _ h => h) (K' := [(2, (V.ptr 0 0 0)), (3, (V.ptr 1 0 0)), (4, (V.ptr 2 0 0)), (5, (V.ptr 3 0 0)), (31, (V.ptr 3 0 0)), (32, (ovl 4 l1))]) (H' := [.rows 1 [(V.fptr [(zT b)] 0 0)], .rows 1 [(V.fmap (List.map (fun p : Int × Bool => V.i p.1) ships) (List.map (fun p : Int × Bool => V.b p.2) ships))], .rows 2 [(V.agg [V.nil, V.nil])], .rows 2 [(V.agg [(ovl 4 l1), V.nil])], obl 1 V.i l1]) rfl rfl rfl rfl rfl rfl ?_ ?_ ?_
  ·first | rfl | rw [X.zBc (zAE h_1)] | simp only [ovl, X.zBc (zAE h_1)] | simp only [zAE h_1]
  ·first | rfl | (simp only [hput]; rfl) | (simp only [ovl, obl]; rw [X.zBc (zAE h_1)] <;> rfl)
  refine GS.zA (GS.seq (X.sq ?_))
  iterate 4 refine X.q rfl ?_
  refine X.opR rfl (X.lenF rfl rfl rfl) rfl (X.q rfl (GS.zA ?_))
  refine X.join (τ := (List zF)) (fun v => J7 l1 v = some r) (fun v => ⟨[(4, (V.ptr 0 0 0)), (5, (V.ptr 1 0 0))], [.rows 2 [(V.agg [V.nil, V.nil])], .rows 2 [(V.agg [(ovl 2 l1), (ovl 3 v)])], obl 1 V.i l1, obl 2 zC v], 0, none, 57⟩) ?_ ?_
  ·intro l2 hM
   replace hM : J7 l1 l2 = some r := hM
   unfold J7 at hM
   refine X.sq (X.q rfl ?_)
   refine X.op0W (H' := [.rows 2 [(V.agg [(ovl 2 l1), (ovl 3 l2)])], .rows 2 [(V.agg [(ovl 2 l1), (ovl 3 l2)])], obl 1 V.i l1, obl 2 zC l2]) rfl (v := jS) (wr := [(0, .rows 2 [(V.agg [(ovl 2 l1), (ovl 3 l2)])])]) (by rcases X.Yo (z := true) 2 l1 with h0 | ⟨n0, h0⟩ <;> rcases X.Yo (z := true) 3 l2 with h1 | ⟨n1, h1⟩ <;> simp only [h0, h1] <;> rfl) rfl (GS.zA ?_)
   have hE := Option.some.inj hM
   subst hE
   exact GS.ret ⟨_, rfl, FR.agg (.cons (FR.ovl (f := V.i) (l := l1) 9 rfl rfl (fun _ => rfl)) (.cons (FR.ovl (f := zC) (l := l2) 9 rfl rfl (fun _ => rfl)) .nil))⟩
  intro hj_2
  refine GS.block ?_
  refine X.gc [some 0, some 1, some 2, some 3, some 4, none] (X.loop (σ := (Int × (List zF))) (fun v => ⟨[(2, (V.ptr 0 0 0)), (3, (V.ptr 1 0 0)), (4, (V.ptr 2 0 0)), (5, (V.ptr 3 0 0)), (37, (V.sl (List.map zC b.slots))), (38, (V.i (b.slots.length : Int))), (39, (V.i v.1))], [.rows 1 [(V.fptr [(zT b)] 0 0)], .rows 1 [(V.fmap (List.map (fun p : Int × Bool => V.i p.1) ships) (List.map (fun p : Int × Bool => V.b p.2) ships))], .rows 2 [(V.agg [V.nil, V.nil])], .rows 2 [(V.agg [(ovl 4 l1), (ovl 5 v.2)])], obl 1 V.i l1, obl 2 zC v.2], 0, none, 57⟩) hM ?_ rfl) rfl rfl rfl (ga rfl rfl) (gb9 rfl rfl rfl (gb9 rfl rfl rfl (gb9 rfl rfl rfl (Z0 rfl rfl (je (.cons (zl rfl) (.cons ⟨9, rfl⟩ .nil))) (zn 9 rfl rfl (fun _ => rfl) (gb_pad' rfl zM))))))
  rintro ⟨x1, l5⟩ b_1 hM hc_3 hr_1
  rw [Yx] at hM
  refine X.sq (X.q rfl (GS.zA (GS.seq ?_)))
  refine X.cond rfl (fun h_2 => ?_) (fun h_2 => ?_)
  ·replace hM := za h_2 hM
   refine GS.skip (GS.seq ?_)
   refine X.join (τ := (List zF)) (fun v => JK x1 v = some b_1) (fun v => ⟨[(2, (V.ptr 0 0 0)), (3, (V.ptr 1 0 0)), (4, (V.ptr 2 0 0)), (5, (V.ptr 3 0 0)), (37, (V.sl (List.map zC b.slots))), (38, (V.i (b.slots.length : Int))), (39, (V.i x1))], [.rows 1 [(V.fptr [(zT b)] 0 0)], .rows 1 [(V.fmap (List.map (fun p : Int × Bool => V.i p.1) ships) (List.map (fun p : Int × Bool => V.b p.2) ships))], .rows 2 [(V.agg [V.nil, V.nil])], .rows 2 [(V.agg [(ovl 4 l1), (ovl 5 v)])], obl 1 V.i l1, obl 2 zC v], 0, none, 57⟩) ?_ ?_
   ·intro l3 hM
    replace hM : JK x1 l3 = some b_1 := hM
    unfold JK at hM
    refine GS.region ?_
    refine X.opR rfl (X.addE rfl rfl) rfl (X.q rfl (GS.zA ?_))
    have hE := Option.some.inj hM
    exact X.gc [some 0, some 1, some 2, some 3, some 4, some 5] (hc_3 (w64 (x1 + 1), l3) hE.symm) rfl rfl rfl (ga rfl rfl) (gb9 rfl rfl rfl (gb9 rfl rfl rfl (gb9 rfl rfl rfl (Z0 rfl rfl (je (.cons (zl rfl) (.cons (zl rfl) .nil))) (zn 9 rfl rfl (fun _ => rfl) (zn 9 rfl rfl (fun _ => rfl) zM))))))
   intro hj_4
   refine GS.block (GS.seq ?_)
   obtain ⟨x, h_3, hM⟩ := zI hM
   refine GS.region ?_
   refine X.opR rfl (X.ZJ (f := zC) h_3 (fun _ => rfl) rfl rfl rfl rfl) rfl ?_
   refine X.opR rfl (X.Za h_3 rfl rfl rfl) rfl ?_
   refine X.opW (H' := [.rows 1 [(V.fptr [(zT b)] 0 0)], .rows 1 [(V.fmap (List.map (fun p : Int × Bool => V.i p.1) ships) (List.map (fun p : Int × Bool => V.b p.2) ships))], .rows 2 [(V.agg [V.nil, V.nil])], .rows 2 [(V.agg [(ovl 4 l1), (ovl 5 l5)])], obl 1 V.i l1, obl 2 zC l5, .rows 2 [(V.agg [(V.i 0), (V.i 0)])]]) rfl rfl rfl rfl ?_
   refine X.op0W (H' := [.rows 1 [(V.fptr [(zT b)] 0 0)], .rows 1 [(V.fmap (List.map (fun p : Int × Bool => V.i p.1) ships) (List.map (fun p : Int × Bool => V.b p.2) ships))], .rows 2 [(V.agg [V.nil, V.nil])], .rows 2 [(V.agg [(ovl 4 l1), (ovl 5 l5)])], obl 1 V.i l1, obl 2 zC l5, .rows 2 [(zC x)]]) rfl rfl rfl (GS.zA (GS.seq ?_))
   obtain ⟨y, h_4, hM⟩ := zI hM
   refine GS.region ?_
   iterate 5 refine X.q rfl ?_
   refine X.zCF (Jb h_4) rfl rfl rfl (m := 9) rfl (.cons (.shut (n := 9) rfl) (.cons (FR.arg ⟨30, rfl⟩) .nil)) (GS.zA ?_)
   refine X.cond rfl (fun h_5 => ?_) (fun h_5 => ?_)
   ·replace hM := za h_5 hM
    obtain ⟨l4, h_6, hM⟩ := zI hM
    refine GS.region (X.q rfl (X.q rfl (X.q rfl ?_)))
    refine X.opW (H' := [.rows 1 [(V.fptr [(zT b)] 0 0)], .rows 1 [(V.fmap (List.map (fun p : Int × Bool => V.i p.1) ships) (List.map (fun p : Int × Bool => V.b p.2) ships))], .rows 2 [(V.agg [V.nil, V.nil])], .rows 2 [(V.agg [(ovl 4 l1), (ovl 5 l5)])], obl 1 V.i l1, obl 2 zC l5, .rows 2 [(zC x)], .rows 2 (List.map zC ([x]))]) rfl rfl rfl rfl ?_
    refine X.appN (f := zC) h_6 (fun _ => rfl) (by rfl) (by rfl) (by rfl) (by rfl) (by rfl) (by rfl) (by rfl) (by rfl) (by rfl) (by rfl) (by rfl) (by exact rfl) (by rfl) (by rfl) (X.q rfl ?_)
    refine X.op0W (H' := [.rows 1 [(V.fptr [(zT b)] 0 0)], .rows 1 [(V.fmap (List.map (fun p : Int × Bool => V.i p.1) ships) (List.map (fun p : Int × Bool => V.b p.2) ships))], .rows 2 [(V.agg [V.nil, V.nil])], .rows 2 [(V.agg [(ovl 4 l1), (V.osl 8 0 (List.length l4))])], obl 1 V.i l1, .dead, .rows 2 [(zC x)], .rows 2 (List.map zC ([x])), .rows 2 (List.map zC l4)]) rfl rfl rfl (GS.zA ?_)
    refine GS.endB ?_
    exact X.gc [some 0, some 1, some 2, some 3, some 4, some 8] (hj_4 l4 hM) rfl rfl rfl (ga rfl rfl) (gb9 rfl rfl rfl (gb9 rfl rfl rfl (gb9 rfl rfl rfl (Z0 rfl rfl (je (.cons (zl rfl) (.cons (zAW (jR h_6) rfl) .nil))) (zn 9 rfl rfl (fun _ => rfl) (gb_obl' 9 (jR h_6) rfl rfl (fun _ => rfl) zM))))))
   replace hM := zb h_5 hM
   refine GS.skip ?_
   refine GS.endB ?_
   exact X.gc [some 0, some 1, some 2, some 3, some 4, some 5] (hj_4 l5 hM) rfl rfl rfl (ga rfl rfl) (gb9 rfl rfl rfl (gb9 rfl rfl rfl (gb9 rfl rfl rfl (Z0 rfl rfl (je (.cons (zl rfl) (.cons (zl rfl) .nil))) (zn 9 rfl rfl (fun _ => rfl) (zn 9 rfl rfl (fun _ => rfl) zM))))))
  replace hM := zb h_2 hM
  refine GS.exit rfl ?_
  obtain ⟨y_1, hM, hy⟩ := ZV hM
  rw [hr_1 _ hy.symm] at hM
  exact X.gc [some 2, some 3, some 4, some 5] (hj_2 l5 hM) rfl rfl rfl (ga rfl rfl) (gb9 rfl rfl rfl (Z0 rfl rfl (je (.cons (zl rfl) (.cons (zl rfl) .nil))) (zn 9 rfl rfl (fun _ => rfl) (zn 9 rfl rfl (fun _ => rfl) zM))))
 intro hj_1
 refine GS.block ?_
 refine X.gc [some 0, some 1, some 2, some 3, none] (X.loop (σ := (Int × (List Int))) (fun v => ⟨[(2, (V.ptr 0 0 0)), (3, (V.ptr 1 0 0)), (4, (V.ptr 2 0 0)), (5, (V.ptr 3 0 0)), (13, (V.sl (List.map zG b.calls))), (14, (V.i (b.calls.length : Int))), (15, (V.i v.1))], [.rows 1 [(V.fptr [(zT b)] 0 0)], .rows 1 [(V.fmap (List.map (fun p : Int × Bool => V.i p.1) ships) (List.map (fun p : Int × Bool => V.b p.2) ships))], .rows 2 [(V.agg [V.nil, V.nil])], .rows 2 [(V.agg [(ovl 4 v.2), V.nil])], obl 1 V.i v.2], 0, none, 57⟩) hM ?_ rfl) rfl rfl rfl (ga rfl rfl) (gb9 rfl rfl rfl (gb9 rfl rfl rfl (gb9 rfl rfl rfl (gb9 rfl rfl rfl (gb_pad' rfl zM)))))
 rintro ⟨x3, l8⟩ b_1 hM hc_5 hr_1
 rw [J8] at hM
 refine X.sq (X.q rfl (GS.zA (GS.seq ?_)))
 refine X.cond rfl (fun h_7 => ?_) (fun h_7 => ?_)
 ·replace hM := za h_7 hM
  refine GS.skip (GS.seq ?_)
  refine X.join (τ := (List Int)) (fun v => jC x3 v = some b_1) (fun v => ⟨[(2, (V.ptr 0 0 0)), (3, (V.ptr 1 0 0)), (4, (V.ptr 2 0 0)), (5, (V.ptr 3 0 0)), (13, (V.sl (List.map zG b.calls))), (14, (V.i (b.calls.length : Int))), (15, (V.i x3))], [.rows 1 [(V.fptr [(zT b)] 0 0)], .rows 1 [(V.fmap (List.map (fun p : Int × Bool => V.i p.1) ships) (List.map (fun p : Int × Bool => V.b p.2) ships))], .rows 2 [(V.agg [V.nil, V.nil])], .rows 2 [(V.agg [(ovl 4 v), V.nil])], obl 1 V.i v], 0, none, 57⟩) ?_ ?_
  ·intro l6 hM
   replace hM : jC x3 l6 = some b_1 := hM
   unfold jC at hM
   refine GS.region ?_
   refine X.opR rfl (X.addE rfl rfl) rfl (X.q rfl (GS.zA ?_))
   have hE := Option.some.inj hM
   exact X.gc [some 0, some 1, some 2, some 3, some 4] (hc_5 (w64 (x3 + 1), l6) hE.symm) rfl rfl rfl (ga rfl rfl) (gb9 rfl rfl rfl (gb9 rfl rfl rfl (gb9 rfl rfl rfl (Z0 rfl rfl (je (.cons (zl rfl) (.cons ⟨9, rfl⟩ .nil))) (zn 9 rfl rfl (fun _ => rfl) zM)))))
  intro hj_6
  refine GS.block (GS.seq ?_)
  obtain ⟨x2, h_8, hM⟩ := zI hM
  refine GS.region (X.q rfl ?_)
  refine X.opR rfl (X.ZJ (f := zG) h_8 (fun _ => rfl) rfl rfl rfl rfl) rfl ?_
  refine X.opR rfl (X.Za h_8 rfl rfl rfl) rfl ?_
  refine X.opW (H' := [.rows 1 [(V.fptr [(zT b)] 0 0)], .rows 1 [(V.fmap (List.map (fun p : Int × Bool => V.i p.1) ships) (List.map (fun p : Int × Bool => V.b p.2) ships))], .rows 2 [(V.agg [V.nil, V.nil])], .rows 2 [(V.agg [(ovl 4 l8), V.nil])], obl 1 V.i l8, .rows 5 [(V.agg [(V.i 0), (V.i 0), (V.i 0), (V.i 0), (V.i 0)])]]) rfl rfl rfl rfl (X.q rfl ?_)
  refine X.op0W (H' := [.rows 1 [(V.fptr [(zT b)] 0 0)], .rows 1 [(V.fmap (List.map (fun p : Int × Bool => V.i p.1) ships) (List.map (fun p : Int × Bool => V.b p.2) ships))], .rows 2 [(V.agg [V.nil, V.nil])], .rows 2 [(V.agg [(ovl 4 l8), V.nil])], obl 1 V.i l8, .rows 5 [(zG x2)]]) rfl rfl rfl (X.nq (X.q rfl (X.q rfl ?_)))
  refine X.opR rfl (X.zGT (f := V.i) (g := V.b) (k := x3) (l := ships) (z := false) (ok := false) X.zAi rfl rfl rfl rfl rfl) rfl (GS.zA ?_)
  refine X.cond rfl (fun h_9 => ?_) (fun h_9 => ?_)
  ·replace hM := za h_9 hM
   obtain ⟨l7, h_10, hM⟩ := zI hM
   refine GS.region ?_
   iterate 4 refine X.q rfl ?_
   refine X.opW (H' := [.rows 1 [(V.fptr [(zT b)] 0 0)], .rows 1 [(V.fmap (List.map (fun p : Int × Bool => V.i p.1) ships) (List.map (fun p : Int × Bool => V.b p.2) ships))], .rows 2 [(V.agg [V.nil, V.nil])], .rows 2 [(V.agg [(ovl 4 l8), V.nil])], obl 1 V.i l8, .rows 5 [(zG x2)], .rows 1 (List.map V.i ([x2.ID]))]) rfl rfl rfl rfl ?_
   refine X.appN (f := V.i) h_10 (fun _ => rfl) (by rfl) (by rfl) (by rfl) (by rfl) (by rfl) (by rfl) (by rfl) (by rfl) (by rfl) (by rfl) (by rfl) (by exact rfl) (by rfl) (by rfl) (X.q rfl ?_)
   refine X.op0W (H' := [.rows 1 [(V.fptr [(zT b)] 0 0)], .rows 1 [(V.fmap (List.map (fun p : Int × Bool => V.i p.1) ships) (List.map (fun p : Int × Bool => V.b p.2) ships))], .rows 2 [(V.agg [V.nil, V.nil])], .rows 2 [(V.agg [(V.osl 7 0 (List.length l7)), V.nil])], .dead, .rows 5 [(zG x2)], .rows 1 (List.map V.i ([x2.ID])), .rows 1 (List.map V.i l7)]) rfl rfl rfl (GS.zA ?_)
   refine GS.endB ?_
   exact X.gc [some 0, some 1, some 2, some 3, some 7] (hj_6 l7 hM) rfl rfl rfl (ga rfl rfl) (gb9 rfl rfl rfl (gb9 rfl rfl rfl (gb9 rfl rfl rfl (Z0 rfl rfl (je (.cons (zAW (jR h_10) rfl) (.cons ⟨9, rfl⟩ .nil))) (gb_obl' 9 (jR h_10) rfl rfl (fun _ => rfl) zM)))))
  replace hM := zb h_9 hM
  refine GS.skip ?_
  refine GS.endB ?_
  exact X.gc [some 0, some 1, some 2, some 3, some 4] (hj_6 l8 hM) rfl rfl rfl (ga rfl rfl) (gb9 rfl rfl rfl (gb9 rfl rfl rfl (gb9 rfl rfl rfl (Z0 rfl rfl (je (.cons (zl rfl) (.cons ⟨9, rfl⟩ .nil))) (zn 9 rfl rfl (fun _ => rfl) zM)))))
 replace hM := zb h_7 hM
 refine GS.exit rfl ?_
 obtain ⟨y_1, hM, hy⟩ := ZV hM
 rw [hr_1 _ hy.symm] at hM
 exact X.gc [some 0, some 1, some 2, some 3, some 4] (hj_1 l8 hM) rfl rfl rfl (ga rfl rfl) (gb9 rfl rfl rfl (gb9 rfl rfl rfl (gb9 rfl rfl rfl (Z0 rfl rfl (je (.cons (zl rfl) (.cons ⟨9, rfl⟩ .nil))) (zn 9 rfl rfl (fun _ => rfl) zM)))))
set_option maxHeartbeats 4000000 in
theorem zG9 {h : zL} {l : (List zN)} {r : ZL × Bool × Int} (hM : zA9 h l = some r) : Ct Tryz.prog 25 [(zH h), (V.sl (List.map zG l))] (V.tup [(J6 r.1), (V.b r.2.1), (V.i r.2.2)]) := by
 refine zg ZR rfl ?_
 unfold zA9 at hM
 refine X.sq ?_
 iterate 2 refine X.opW rfl rfl rfl rfl ?_
 refine X.q rfl (X.q rfl ?_)
 refine GS.zA ?_
 iterate 2 refine GS.seq ?_
 obtain ⟨y, h_1, hM⟩ := zI hM
 refine GS.region (X.q rfl (X.q rfl ?_))
 refine X.call (jk h_1) rfl rfl rfl (.cons (.shut (n := 9) rfl) (.cons (.shut (n := 9) rfl) .nil)) (X.q rfl (X.nq (X.q rfl (X.q rfl ?_))))
 refine GS.zA ?_
 refine X.cond rfl (fun h_2 => ?_) (fun h_2 => ?_)
 ·replace hM := za h_2 hM
  refine X.sq (X.q rfl (X.q rfl ?_))
  refine X.op0W rfl rfl rfl (X.q rfl (X.q rfl ?_))
  refine GS.zA ?_
  cases hM
  exact GS.ret ⟨_, rfl, ⟨30, rfl⟩⟩
 replace hM := zb h_2 hM
 refine GS.skip (GS.seq ?_)
 obtain ⟨y1, h_3, hM⟩ := zI hM
 refine GS.region (X.q rfl (X.q rfl ?_))
 refine X.call (qp h_3) rfl rfl rfl (.cons (.shut (n := 9) rfl) (.cons (.shut (n := 9) rfl) .nil)) (X.q rfl (GS.zA (GS.seq ?_)))
 obtain ⟨y2, h_4, hM⟩ := zI hM
 refine GS.region (X.q rfl ?_)
 refine X.call (yJ h_4) rfl rfl rfl (.cons (.shut (n := 9) rfl) (.cons (.nil (n := 9) rfl) .nil)) ?_
 iterate 5 refine X.q rfl ?_
 refine X.nq ?_
 refine X.opW rfl rfl rfl rfl (X.q rfl (X.nq ?_))
 refine X.opW (H' := [.rows 6 [(zH h)], .rows 2 [(V.agg [V.nil, V.nil])], .map (List.map (fun p : Int × Bool => V.i p.1) []) (List.map (fun p : Int × Bool => V.b p.2) []), .map (List.map (fun p : Int × Int => V.i p.1) []) (List.map (fun p : Int × Int => V.i p.2) [])]) rfl rfl rfl rfl (X.q rfl (GS.zA (GS.seq (X.sq (X.q rfl ?_)))))
 refine X.opR rfl (X.lenF rfl rfl rfl) rfl (X.q rfl (GS.zA ?_))
 refine X.join (τ := (List (Int × Bool)) × (List (Int × Int))) (fun v => Yd l y1 v.1 v.2 = some r) (fun v => ⟨[(1, (V.sl (List.map zG l))), (4, (V.ptr 0 0 0)), (8, (V.fptr [(zT y1)] 0 0)), (11, (V.map 1)), (12, (V.map 2))], [.rows 2 [(V.agg [V.nil, V.nil])], .map (List.map (fun p : Int × Bool => V.i p.1) v.1) (List.map (fun p : Int × Bool => V.b p.2) v.1), .map (List.map (fun p : Int × Int => V.i p.1) v.2) (List.map (fun p : Int × Int => V.i p.2) v.2)], 0, none, 118⟩) ?_ ?_
 ·rintro ⟨m, m1⟩ hM
  replace hM : Yd l y1 m m1 = some r := hM
  unfold Yd at hM
  refine GS.seq (X.sq (X.q rfl ?_))
  refine X.opR rfl (X.lenMo (l := m) rfl rfl rfl rfl) rfl (X.q rfl (GS.zA ?_))
  refine X.cond rfl (fun h_5 => ?_) (fun h_5 => ?_)
  ·replace hM := za h_5 hM
   refine X.sq (X.q rfl ?_)
   refine X.op0W rfl rfl rfl (X.q rfl (X.q rfl ?_))
   refine GS.zA ?_
   cases hM
   exact GS.ret ⟨_, rfl, ⟨30, rfl⟩⟩
  replace hM := zb h_5 hM
  refine GS.skip (GS.seq (X.sq (X.q rfl (GS.zA ?_))))
  refine X.join (τ := (List (Int × Bool))) (fun v => Yc y1 v = some r) (fun v => ⟨[(4, (V.ptr 0 0 0)), (8, (V.fptr [(zT y1)] 0 0)), (11, (V.map 1))], [.rows 2 [(V.agg [V.nil, V.nil])], .map (List.map (fun p : Int × Bool => V.i p.1) v) (List.map (fun p : Int × Bool => V.b p.2) v)], 0, none, 118⟩) ?_ ?_
  ·intro m2 hM
   replace hM : Yc y1 m2 = some r := hM
   unfold Yc at hM
   refine GS.seq ?_
   obtain ⟨y3, h_6, hM⟩ := zI hM
   refine GS.region (X.q rfl (X.q rfl ?_))
   refine X.zFn (f := V.i) (g := V.b) (pa := fun p => p.1) (pb := fun p => p.2) (l := m2) 116 rfl rfl rfl (fun _ => rfl) (fun _ => rfl) ?_
   refine X.call (zAI h_6) rfl rfl rfl (.cons (.shut (n := 9) rfl) (.cons (.shut (n := 9) rfl) .nil)) ?_
   refine X.op0W rfl rfl rfl (X.q rfl (X.q rfl ?_))
   refine GS.zA ?_
   cases hM
   exact GS.ret ⟨_, rfl, ⟨30, rfl⟩⟩
  intro hj_2
  refine GS.block ?_
  refine X.gc [some 0, some 1, some 2] (X.loop (σ := (Bool × (List (Int × Bool)))) (fun v => ⟨[(1, (V.sl (List.map zG l))), (4, (V.ptr 0 0 0)), (8, (V.fptr [(zT y1)] 0 0)), (11, (V.map 1)), (12, (V.map 2)), (15, (V.b v.1))], [.rows 2 [(V.agg [V.nil, V.nil])], .map (List.map (fun p : Int × Bool => V.i p.1) v.2) (List.map (fun p : Int × Bool => V.b p.2) v.2), .map (List.map (fun p : Int × Int => V.i p.1) m1) (List.map (fun p : Int × Int => V.i p.2) m1)], 0, none, 118⟩) hM ?_ rfl) rfl rfl rfl (ga rfl rfl) (gb9 rfl rfl rfl (X.ZY 9 rfl rfl (fun _ => rfl) (fun _ => rfl) (X.ZY 9 rfl rfl (fun _ => rfl) (fun _ => rfl) zM)))
  rintro ⟨more4, m7⟩ b_1 hM hc_3 hr_1
  rw [zAA] at hM
  refine GS.seq (X.sq (X.q rfl (GS.zA ?_)))
  refine X.cond rfl (fun h_7 => ?_) (fun h_7 => ?_)
  ·replace hM := za h_7 hM
   refine GS.skip (GS.block (X.sq (X.q rfl (X.nq ?_))))
   iterate 4 refine X.q rfl ?_
   refine X.opR rfl (X.lenF rfl rfl rfl) rfl (X.q rfl (GS.zA (GS.block ?_)))
   refine X.gc [some 0, some 1, some 2] (X.loop (σ := (Bool × Int × (List (Int × Bool)))) (fun v => ⟨[(1, (V.sl (List.map zG l))), (4, (V.ptr 0 0 0)), (8, (V.fptr [(zT y1)] 0 0)), (11, (V.map 1)), (12, (V.map 2)), (15, (V.b v.1)), (68, (V.sl (List.map zC y1.slots))), (69, (V.i (y1.slots.length : Int))), (70, (V.i v.2.1))], [.rows 2 [(V.agg [V.nil, V.nil])], .map (List.map (fun p : Int × Bool => V.i p.1) v.2.2) (List.map (fun p : Int × Bool => V.b p.2) v.2.2), .map (List.map (fun p : Int × Int => V.i p.1) m1) (List.map (fun p : Int × Int => V.i p.2) m1)], 0, none, 118⟩) hM ?_ rfl) rfl rfl rfl (ga rfl rfl) (gb9 rfl rfl rfl (X.ZY 9 rfl rfl (fun _ => rfl) (fun _ => rfl) (X.ZY 9 rfl rfl (fun _ => rfl) (fun _ => rfl) zM)))
   rintro ⟨more3, x3, m6⟩ b_2 hM hc_4 hr_2
   rw [zBX] at hM
   refine X.sq (X.q rfl (GS.zA (GS.seq ?_)))
   refine X.cond rfl (fun h_8 => ?_) (fun h_8 => ?_)
   ·replace hM := za h_8 hM
    refine GS.skip (GS.seq ?_)
    refine X.join (τ := Bool × (List (Int × Bool))) (fun v => Qg x3 v.1 v.2 = some b_2) (fun v => ⟨[(1, (V.sl (List.map zG l))), (4, (V.ptr 0 0 0)), (8, (V.fptr [(zT y1)] 0 0)), (11, (V.map 1)), (12, (V.map 2)), (15, (V.b v.1)), (68, (V.sl (List.map zC y1.slots))), (69, (V.i (y1.slots.length : Int))), (70, (V.i x3))], [.rows 2 [(V.agg [V.nil, V.nil])], .map (List.map (fun p : Int × Bool => V.i p.1) v.2) (List.map (fun p : Int × Bool => V.b p.2) v.2), .map (List.map (fun p : Int × Int => V.i p.1) m1) (List.map (fun p : Int × Int => V.i p.2) m1)], 0, none, 118⟩) ?_ ?_
    ·rintro ⟨more, m3⟩ hM
     replace hM : Qg x3 more m3 = some b_2 := hM
     unfold Qg at hM
     refine GS.region ?_
     refine X.opR rfl (X.addE rfl rfl) rfl (X.q rfl (GS.zA ?_))
     have hE := Option.some.inj hM
     exact X.gc [some 0, some 1, some 2] (hc_4 (more, w64 (x3 + 1), m3) hE.symm) rfl rfl rfl (ga rfl rfl) (gb9 rfl rfl rfl (X.ZY 9 rfl rfl (fun _ => rfl) (fun _ => rfl) (X.ZY 9 rfl rfl (fun _ => rfl) (fun _ => rfl) zM)))
    intro hj_5
    refine GS.block (GS.seq ?_)
    obtain ⟨x, h_9, hM⟩ := zI hM
    refine GS.region (X.q rfl ?_)
    refine X.opR rfl (X.ZJ (f := zC) h_9 (fun _ => rfl) rfl rfl rfl rfl) rfl ?_
    refine X.opR rfl (X.Za h_9 rfl rfl rfl) rfl ?_
    refine X.opW (H' := [.rows 2 [(V.agg [V.nil, V.nil])], .map (List.map (fun p : Int × Bool => V.i p.1) m6) (List.map (fun p : Int × Bool => V.b p.2) m6), .map (List.map (fun p : Int × Int => V.i p.1) m1) (List.map (fun p : Int × Int => V.i p.2) m1), .rows 2 [(V.agg [(V.i 0), (V.i 0)])]]) rfl rfl rfl rfl (X.q rfl ?_)
    refine X.op0W (H' := [.rows 2 [(V.agg [V.nil, V.nil])], .map (List.map (fun p : Int × Bool => V.i p.1) m6) (List.map (fun p : Int × Bool => V.b p.2) m6), .map (List.map (fun p : Int × Int => V.i p.1) m1) (List.map (fun p : Int × Int => V.i p.2) m1), .rows 2 [(zC x)]]) rfl rfl rfl (X.nq (X.q rfl (X.q rfl ?_)))
    refine X.opR rfl (X.lookW (f := V.i) (g := V.i) (k := x3) (l := m1) (z := 0) (ok := true) X.zAi rfl rfl rfl rfl rfl rfl) rfl ?_
    iterate 5 refine X.q rfl ?_
    refine GS.zA (GS.seq (X.sq ?_))
    refine X.mid [(1, (V.sl (List.map zG l))), (4, (V.ptr 0 0 0)), (8, (V.fptr [(zT y1)] 0 0)), (11, (V.map 1)), (12, (V.map 2)), (15, (V.b more3)), (17, (V.ptr 3 0 0)), (18, (V.i ((ZH x3 m1).getD 0))), (68, (V.sl (List.map zC y1.slots))), (69, (V.i (y1.slots.length : Int))), (70, (V.i x3)), (87, (V.b ((!(ZH x3 m1).isSome) || ((ZH ((ZH x3 m1).getD 0) m6).getD false))))] ?_ ?_
    ·intro hg
     refine X.split (!(ZH x3 m1).isSome) (fun h_10 => ?_) (fun h_10 => ?_)
     ·iterate 3 refine X.q rfl ?_
      iterate 3 refine X.off (X.ZT rfl rfl rfl h_10) rfl ?_
      refine X.opR rfl (X.zf (y := ((ZH ((ZH x3 m1).getD 0) m6).getD false)) rfl h_10 rfl) rfl (GS.zA ?_)
      exact X.norm _ hg rfl (sr rfl)
     iterate 3 refine X.q rfl ?_
     iterate 2 refine X.opR (X.on_f rfl rfl rfl h_10) rfl rfl ?_
     refine X.opR (X.on_f rfl rfl rfl h_10) (X.lookW (f := V.i) (g := V.b) (k := ((ZH x3 m1).getD 0)) (l := m6) (z := false) (ok := false) X.zAi rfl rfl rfl rfl rfl rfl) rfl ?_
     refine X.opR rfl (X.ze (y := ((ZH ((ZH x3 m1).getD 0) m6).getD false)) rfl h_10 rfl) rfl (GS.zA ?_)
     exact X.norm _ hg rfl (sr rfl)
    refine X.cond rfl (fun h_11 => ?_) (fun h_11 => ?_)
    ·replace hM := za h_11 hM
     refine GS.exit rfl ?_
     exact X.gc [some 0, some 1, some 2] (hj_5 (more3, m6) hM) rfl rfl rfl (ga rfl rfl) (gb9 rfl rfl rfl (X.ZY 9 rfl rfl (fun _ => rfl) (fun _ => rfl) (X.ZY 9 rfl rfl (fun _ => rfl) (fun _ => rfl) zM)))
    replace hM := zb h_11 hM
    refine GS.skip (X.sq (X.q rfl ?_))
    refine X.opR rfl (X.lenF rfl rfl rfl) rfl (X.q rfl (GS.zA (GS.block ?_)))
    refine X.gc [some 0, some 1, some 2, some 3] (X.loop (σ := (Bool × Int × (List (Int × Bool)))) (fun v => ⟨[(1, (V.sl (List.map zG l))), (4, (V.ptr 0 0 0)), (8, (V.fptr [(zT y1)] 0 0)), (11, (V.map 1)), (12, (V.map 2)), (15, (V.b v.1)), (17, (V.ptr 3 0 0)), (18, (V.i ((ZH x3 m1).getD 0))), (68, (V.sl (List.map zC y1.slots))), (69, (V.i (y1.slots.length : Int))), (70, (V.i x3)), (89, (V.i (l.length : Int))), (90, (V.i v.2.1))], [.rows 2 [(V.agg [V.nil, V.nil])], .map (List.map (fun p : Int × Bool => V.i p.1) v.2.2) (List.map (fun p : Int × Bool => V.b p.2) v.2.2), .map (List.map (fun p : Int × Int => V.i p.1) m1) (List.map (fun p : Int × Int => V.i p.2) m1), .rows 2 [(zC x)]], 0, none, 118⟩) hM ?_ rfl) rfl rfl rfl (ga rfl rfl) (gb9 rfl rfl rfl (X.ZY 9 rfl rfl (fun _ => rfl) (fun _ => rfl) (X.ZY 9 rfl rfl (fun _ => rfl) (fun _ => rfl) (gb9 rfl rfl rfl zM))))
    rintro ⟨more2, x2, m5⟩ b_3 hM hc_6 hr_3
    rw [zDN] at hM
    refine X.sq (X.q rfl (GS.zA (GS.seq ?_)))
    refine X.cond rfl (fun h_12 => ?_) (fun h_12 => ?_)
    ·replace hM := za h_12 hM
     refine GS.skip (GS.seq ?_)
     refine X.join (τ := Bool × (List (Int × Bool))) (fun v => Qf x2 v.1 v.2 = some b_3) (fun v => ⟨[(1, (V.sl (List.map zG l))), (4, (V.ptr 0 0 0)), (8, (V.fptr [(zT y1)] 0 0)), (11, (V.map 1)), (12, (V.map 2)), (15, (V.b v.1)), (17, (V.ptr 3 0 0)), (18, (V.i ((ZH x3 m1).getD 0))), (68, (V.sl (List.map zC y1.slots))), (69, (V.i (y1.slots.length : Int))), (70, (V.i x3)), (89, (V.i (l.length : Int))), (90, (V.i x2))], [.rows 2 [(V.agg [V.nil, V.nil])], .map (List.map (fun p : Int × Bool => V.i p.1) v.2) (List.map (fun p : Int × Bool => V.b p.2) v.2), .map (List.map (fun p : Int × Int => V.i p.1) m1) (List.map (fun p : Int × Int => V.i p.2) m1), .rows 2 [(zC x)]], 0, none, 118⟩) ?_ ?_
     ·rintro ⟨more1, m4⟩ hM
      replace hM : Qf x2 more1 m4 = some b_3 := hM
      unfold Qf at hM
      refine GS.region ?_
      refine X.opR rfl (X.addE rfl rfl) rfl (X.q rfl (GS.zA ?_))
      have hE := Option.some.inj hM
      exact X.gc [some 0, some 1, some 2, some 3] (hc_6 (more1, w64 (x2 + 1), m4) hE.symm) rfl rfl rfl (ga rfl rfl) (gb9 rfl rfl rfl (X.ZY 9 rfl rfl (fun _ => rfl) (fun _ => rfl) (X.ZY 9 rfl rfl (fun _ => rfl) (fun _ => rfl) (gb9 rfl rfl rfl zM))))
     intro hj_7
     refine GS.block (X.sq (X.q rfl (X.q rfl ?_)))
     refine GS.zA (GS.seq ?_)
     obtain ⟨x1, h_13, hM⟩ := zI hM
     refine X.draw (by kernel_rfl) ?_
     iterate 5 refine X.dop rfl rfl rfl rfl (by kernel_rfl) rfl rfl ?_
     refine X.dop rfl (X.ZJ (f := (fun l => V.fmap (List.map (fun p => zC p.1) l) (List.map (fun p => zJ p.2) l))) h_13 (fun _ => rfl) rfl rfl rfl rfl) rfl rfl (by kernel_rfl) rfl rfl ?_
     refine X.dop rfl (X.Za h_13 rfl rfl rfl) rfl rfl (by kernel_rfl) rfl rfl ?_
     refine X.dop rfl rfl rfl rfl (by kernel_rfl) rfl rfl ?_
     refine X.dop rfl (X.zGT (f := zC) (g := zJ) (k := x) (l := x1) (z := (⟨0, 0⟩ : zD)) (ok := true) J5 rfl rfl rfl rfl rfl) rfl rfl (by kernel_rfl) rfl rfl ?_
     iterate 4 refine X.dop rfl rfl rfl rfl (by kernel_rfl) rfl rfl ?_
     refine X.dop0 rfl rfl rfl rfl (by kernel_rfl) rfl ?_
     refine X.dop rfl rfl rfl rfl (by kernel_rfl) rfl rfl ?_
     refine X.dnil ?_
     refine X.norm [(1, (V.sl (List.map zG l))), (4, (V.ptr 0 0 0)), (8, (V.fptr [(zT y1)] 0 0)), (11, (V.map 1)), (12, (V.map 2)), (15, (V.b more2)), (17, (V.ptr 3 0 0)), (18, (V.i ((ZH x3 m1).getD 0))), (20, (V.i x2)), (22, (V.b ((ZH x x1).isSome))), (68, (V.sl (List.map zC y1.slots))), (69, (V.i (y1.slots.length : Int))), (70, (V.i x3)), (89, (V.i (l.length : Int))), (90, (V.i x2))] ?_ rfl (sr rfl)
     refine X.sq ?_
     refine X.mid [(1, (V.sl (List.map zG l))), (4, (V.ptr 0 0 0)), (8, (V.fptr [(zT y1)] 0 0)), (11, (V.map 1)), (12, (V.map 2)), (15, (V.b more2)), (17, (V.ptr 3 0 0)), (18, (V.i ((ZH x3 m1).getD 0))), (68, (V.sl (List.map zC y1.slots))), (69, (V.i (y1.slots.length : Int))), (70, (V.i x3)), (89, (V.i (l.length : Int))), (90, (V.i x2)), (110, (V.b (((ZH x x1).isSome) && ((ZH x2 m5).getD false))))] ?_ ?_
     ·intro hg
      refine X.split ((ZH x x1).isSome) (fun h_14 => ?_) (fun h_14 => ?_)
      ·iterate 2 refine X.q rfl ?_
       iterate 2 refine X.opR (X.on_t rfl rfl rfl h_14) rfl rfl ?_
       refine X.opR (X.on_t rfl rfl rfl h_14) (X.lookW (f := V.i) (g := V.b) (k := x2) (l := m5) (z := false) (ok := false) X.zAi rfl rfl rfl rfl rfl rfl) rfl ?_
       refine X.opR rfl (X.zX (y := ((ZH x2 m5).getD false)) rfl h_14 rfl) rfl (GS.zA ?_)
       exact X.norm _ hg rfl (sr rfl)
      refine X.q rfl (X.q rfl ?_)
      iterate 3 refine X.off (X.zt rfl rfl rfl h_14) rfl ?_
      refine X.opR rfl (X.zR (y := ((ZH x2 m5).getD false)) rfl h_14 rfl) rfl (GS.zA ?_)
      exact X.norm _ hg rfl (sr rfl)
     refine X.cond rfl (fun h_15 => ?_) (fun h_15 => ?_)
     ·replace hM := za h_15 hM
      refine GS.region (X.q rfl (X.q rfl ?_))
      refine X.op0W (H' := [.rows 2 [(V.agg [V.nil, V.nil])], .map (List.map (fun p : Int × Bool => V.i p.1) (putM posI m5 ((ZH x3 m1).getD 0) true)) (List.map (fun p : Int × Bool => V.b p.2) (putM posI m5 ((ZH x3 m1).getD 0) true)), .map (List.map (fun p : Int × Int => V.i p.1) m1) (List.map (fun p : Int × Int => V.i p.2) m1), .rows 2 [(zC x)], .rows 2 [(zJ ((ZH x x1).getD (⟨0, 0⟩ : zD)))]]) rfl (X.putW (f := V.i) (g := V.b) (pos := posI) (k := ((ZH x3 m1).getD 0)) (v := true) (l := m5) X.zAi (X.zDz _) rfl rfl rfl rfl rfl rfl rfl) rfl ?_
      refine X.q rfl (GS.zA ?_)
      refine GS.endB ?_
      exact X.gc [some 0, some 1, some 2, some 3] (hj_7 (true, (putM posI m5 ((ZH x3 m1).getD 0) true)) hM) rfl rfl rfl (ga rfl rfl) (gb9 rfl rfl rfl (X.ZY 9 rfl rfl (fun _ => rfl) (fun _ => rfl) (X.ZY 9 rfl rfl (fun _ => rfl) (fun _ => rfl) (gb9 rfl rfl rfl zM))))
     replace hM := zb h_15 hM
     refine GS.skip ?_
     refine GS.endB ?_
     exact X.gc [some 0, some 1, some 2, some 3] (hj_7 (more2, m5) hM) rfl rfl rfl (ga rfl rfl) (gb9 rfl rfl rfl (X.ZY 9 rfl rfl (fun _ => rfl) (fun _ => rfl) (X.ZY 9 rfl rfl (fun _ => rfl) (fun _ => rfl) (gb9 rfl rfl rfl zM))))
    replace hM := zb h_12 hM
    refine GS.exit rfl ?_
    refine GS.endB ?_
    obtain ⟨y_3, hM, hy⟩ := ZV hM
    rw [hr_3 _ hy.symm] at hM
    exact X.gc [some 0, some 1, some 2] (hj_5 (more2, m5) hM) rfl rfl rfl (ga rfl rfl) (gb9 rfl rfl rfl (X.ZY 9 rfl rfl (fun _ => rfl) (fun _ => rfl) (X.ZY 9 rfl rfl (fun _ => rfl) (fun _ => rfl) zM)))
   replace hM := zb h_8 hM
   refine GS.exit rfl ?_
   refine GS.endB ?_
   have hE := Option.some.inj hM
   replace hE := hr_2 _ hE.symm
   exact X.gc [some 0, some 1, some 2] (hc_3 (more3, m6) hE.symm) rfl rfl rfl (ga rfl rfl) (gb9 rfl rfl rfl (X.ZY 9 rfl rfl (fun _ => rfl) (fun _ => rfl) (X.ZY 9 rfl rfl (fun _ => rfl) (fun _ => rfl) zM)))
  replace hM := zb h_7 hM
  refine GS.exit rfl ?_
  obtain ⟨y_1, hM, hy⟩ := ZV hM
  rw [hr_1 _ hy.symm] at hM
  exact X.gc [some 0, some 1] (hj_2 m7 hM) rfl rfl rfl (ga rfl rfl) (gb9 rfl rfl rfl (X.ZY 9 rfl rfl (fun _ => rfl) (fun _ => rfl) zM))
 intro hj_1
 refine GS.block ?_
 refine X.gc [some 1, some 2, some 3] (X.loop (σ := (Int × (List (Int × Bool)) × (List (Int × Int)))) (fun v => ⟨[(1, (V.sl (List.map zG l))), (4, (V.ptr 0 0 0)), (8, (V.fptr [(zT y1)] 0 0)), (11, (V.map 1)), (12, (V.map 2)), (40, (V.sl (List.map V.i y2.1))), (41, (V.i (y2.1.length : Int))), (42, (V.i v.1))], [.rows 2 [(V.agg [V.nil, V.nil])], .map (List.map (fun p : Int × Bool => V.i p.1) v.2.1) (List.map (fun p : Int × Bool => V.b p.2) v.2.1), .map (List.map (fun p : Int × Int => V.i p.1) v.2.2) (List.map (fun p : Int × Int => V.i p.2) v.2.2)], 0, none, 118⟩) hM ?_ rfl) rfl rfl rfl (ga rfl rfl) (gb9 rfl rfl rfl (X.ZY 9 rfl rfl (fun _ => rfl) (fun _ => rfl) (X.ZY 9 rfl rfl (fun _ => rfl) (fun _ => rfl) zM)))
 rintro ⟨x5, m10, m11⟩ b_1 hM hc_8 hr_1
 rw [qz] at hM
 refine X.sq (X.q rfl (GS.zA (GS.seq ?_)))
 refine X.cond rfl (fun h_16 => ?_) (fun h_16 => ?_)
 ·replace hM := za h_16 hM
  refine GS.skip (GS.seq ?_)
  refine X.join (τ := (List (Int × Bool)) × (List (Int × Int))) (fun v => yG x5 v.1 v.2 = some b_1) (fun v => ⟨[(1, (V.sl (List.map zG l))), (4, (V.ptr 0 0 0)), (8, (V.fptr [(zT y1)] 0 0)), (11, (V.map 1)), (12, (V.map 2)), (40, (V.sl (List.map V.i y2.1))), (41, (V.i (y2.1.length : Int))), (42, (V.i x5))], [.rows 2 [(V.agg [V.nil, V.nil])], .map (List.map (fun p : Int × Bool => V.i p.1) v.1) (List.map (fun p : Int × Bool => V.b p.2) v.1), .map (List.map (fun p : Int × Int => V.i p.1) v.2) (List.map (fun p : Int × Int => V.i p.2) v.2)], 0, none, 118⟩) ?_ ?_
  ·rintro ⟨m8, m9⟩ hM
   replace hM : yG x5 m8 m9 = some b_1 := hM
   unfold yG at hM
   refine GS.region ?_
   refine X.opR rfl (X.addE rfl rfl) rfl (X.q rfl (GS.zA ?_))
   have hE := Option.some.inj hM
   exact X.gc [some 0, some 1, some 2] (hc_8 (w64 (x5 + 1), m8, m9) hE.symm) rfl rfl rfl (ga rfl rfl) (gb9 rfl rfl rfl (X.ZY 9 rfl rfl (fun _ => rfl) (fun _ => rfl) (X.ZY 9 rfl rfl (fun _ => rfl) (fun _ => rfl) zM)))
  intro hj_9
  refine GS.block (GS.seq ?_)
  obtain ⟨x4, h_17, hM⟩ := zI hM
  refine GS.region (X.q rfl ?_)
  refine X.opR rfl (X.ZJ (f := V.i) h_17 (fun _ => rfl) rfl rfl rfl rfl) rfl ?_
  refine X.opR rfl (X.Za h_17 rfl rfl rfl) rfl (X.q rfl (X.q rfl ?_))
  refine X.nq ?_
  iterate 5 refine X.q rfl ?_
  refine X.opR rfl (X.lenF rfl rfl rfl) rfl (X.q rfl (GS.zA ?_))
  refine X.cond rfl (fun h_18 => ?_) (fun h_18 => ?_)
  ·replace hM := za h_18 hM
   refine GS.region (X.q rfl (X.q rfl ?_))
   refine X.op0W rfl (X.putW (f := V.i) (g := V.b) (pos := posI) (k := x5) (v := true) (l := m10) X.zAi (X.zDz _) rfl rfl rfl rfl rfl rfl rfl) rfl (GS.zA ?_)
   refine GS.endB ?_
   exact X.gc [some 0, some 1, some 2] (hj_9 ((putM posI m10 x5 true), m11) hM) rfl rfl rfl (ga rfl rfl) (gb9 rfl rfl rfl (X.ZY 9 rfl rfl (fun _ => rfl) (fun _ => rfl) (X.ZY 9 rfl rfl (fun _ => rfl) (fun _ => rfl) zM)))
  replace hM := zb h_18 hM
  refine GS.region (X.q rfl (X.q rfl (X.q rfl ?_)))
  refine X.op0W rfl (X.putW (f := V.i) (g := V.i) (pos := posI) (k := x4) (v := x5) (l := m11) X.zAi (X.zDz _) rfl rfl rfl rfl rfl rfl rfl) rfl (GS.zA ?_)
  refine GS.endB ?_
  exact X.gc [some 0, some 1, some 2] (hj_9 (m10, (putM posI m11 x4 x5)) hM) rfl rfl rfl (ga rfl rfl) (gb9 rfl rfl rfl (X.ZY 9 rfl rfl (fun _ => rfl) (fun _ => rfl) (X.ZY 9 rfl rfl (fun _ => rfl) (fun _ => rfl) zM)))
 replace hM := zb h_16 hM
 refine GS.exit rfl ?_
 obtain ⟨y_1, hM, hy⟩ := ZV hM
 rw [hr_1 _ hy.symm] at hM
 exact X.gc [some 0, some 1, some 2] (hj_1 (m10, m11) hM) rfl rfl rfl (ga rfl rfl) (gb9 rfl rfl rfl (X.ZY 9 rfl rfl (fun _ => rfl) (fun _ => rfl) (X.ZY 9 rfl rfl (fun _ => rfl) (fun _ => rfl) zM)))
theorem QP {s1 : (List Int)} {s2 : (List Int)} {r : Bool} (hM : slices_Equal_int s1 s2 = some r) : Ct Tryz.prog 71 [(V.sl (List.map V.i s1)), (V.sl (List.map V.i s2))] (V.b r) := by
 refine zg ZR rfl ?_
 unfold slices_Equal_int at hM
 refine X.sq (X.q rfl (GS.zA (GS.seq (X.sq (X.q rfl ?_)))))
 refine X.opR rfl (X.lenF rfl rfl rfl) rfl (X.q rfl ?_)
 refine X.opR rfl (X.lenF rfl rfl rfl) rfl (X.q rfl (GS.zA ?_))
 refine X.cond rfl (fun h_1 => ?_) (fun h_1 => ?_)
 ·replace hM := za h_1 hM
  refine X.sq (X.q rfl (GS.zA ?_))
  cases hM
  exact GS.ret ⟨_, rfl, ⟨30, rfl⟩⟩
 replace hM := zb h_1 hM
 refine GS.skip (GS.seq (X.sq (X.q rfl ?_)))
 refine X.opR rfl (X.lenF rfl rfl rfl) rfl (X.q rfl (GS.zA ?_))
 refine X.join (τ := Unit) (fun v => yI = some r) (fun v => ⟨[], [], 0, none, 26⟩) ?_ ?_
 ·intro _ hM
  replace hM : yI = some r := hM
  unfold yI at hM
  refine X.sq (X.q rfl (GS.zA ?_))
  cases hM
  exact GS.ret ⟨_, rfl, ⟨30, rfl⟩⟩
 intro hj_1
 refine GS.block ?_
 refine X.gc [] (X.loop (σ := Int) (fun v => ⟨[(0, (V.sl (List.map V.i s1))), (1, (V.sl (List.map V.i s2))), (12, (V.i (s1.length : Int))), (13, (V.i v))], [], 0, none, 26⟩) hM ?_ rfl) rfl rfl rfl (ga rfl rfl) (zM)
 intro x2 b_1 hM hc_2 hr_1
 rw [zAV] at hM
 refine X.sq (X.q rfl (GS.zA (GS.seq ?_)))
 refine X.cond rfl (fun h_2 => ?_) (fun h_2 => ?_)
 ·replace hM := za h_2 hM
  refine GS.skip (GS.seq (GS.block (X.sq (X.q rfl (X.q rfl ?_)))))
  refine GS.zA (GS.seq ?_)
  obtain ⟨x, h_3, hM⟩ := zI hM
  obtain ⟨x1, h_4, hM⟩ := zI hM
  refine X.drawc (by kernel_rfl) rfl ?_
  iterate 2 refine X.cop rfl rfl rfl rfl ?_
  refine X.cop rfl (X.ZJ (f := V.i) h_3 (fun _ => rfl) rfl rfl rfl rfl) rfl rfl ?_
  refine X.cop rfl (X.Za h_3 rfl rfl rfl) rfl rfl ?_
  iterate 2 refine X.cop rfl rfl rfl rfl ?_
  refine X.cop rfl (X.ZJ (f := V.i) h_4 (fun _ => rfl) rfl rfl rfl rfl) rfl rfl ?_
  refine X.cop rfl (X.Za h_4 rfl rfl rfl) rfl rfl ?_
  refine X.cop rfl rfl rfl rfl ?_
  refine X.cnil ?_
  refine X.norm [(0, (V.sl (List.map V.i s1))), (1, (V.sl (List.map V.i s2))), (12, (V.i (s1.length : Int))), (13, (V.i x2)), (24, (V.b (!decide (x = x1))))] ?_ rfl (sr rfl)
  refine X.cond rfl (fun h_5 => ?_) (fun h_5 => ?_)
  ·replace hM := za h_5 hM
   refine X.sq (X.q rfl (GS.zA ?_))
   have hE := Option.some.inj hM
   replace hE := hr_1 _ hE.symm
   subst hE
   exact GS.ret ⟨_, rfl, ⟨30, rfl⟩⟩
  replace hM := zb h_5 hM
  refine GS.skip ?_
  refine GS.endB (GS.region ?_)
  refine X.opR rfl (X.addE rfl rfl) rfl (X.q rfl (GS.zA ?_))
  have hE := Option.some.inj hM
  exact X.gc [] (hc_2 (w64 (x2 + 1)) hE.symm) rfl rfl rfl (ga rfl rfl) (zM)
 replace hM := zb h_2 hM
 refine GS.exit rfl ?_
 obtain ⟨y_1, hM, hy⟩ := ZV hM
 rw [hr_1 _ hy.symm] at hM
 exact X.gc [] (hj_1 () hM) rfl rfl rfl (yD) (zM)
theorem zCr (a b : zF) : eqA CC.ty 46 (zC a) (zC b) = some (decide (a = b)) := by
 refine (X.eqa rfl rfl (X.eqp rfl rfl rfl (X.eqp rfl rfl rfl X.eqn'))).trans ?_
 congr 1
 rw [Bool.eq_iff_iff]
 simp only [Bool.and_eq_true, decide_eq_true_eq, beq_iff_eq, and_true]
 constructor
 ·intro h
  obtain ⟨a1, a2⟩ := a
  obtain ⟨b3, b4⟩ := b
  simp at h
  simp [h]
 ·rintro rfl
  simp
theorem QX {s1 : (List zF)} {s2 : (List zF)} {r : Bool} (hM : Js s1 s2 = some r) : Ct Tryz.prog 72 [(V.sl (List.map zC s1)), (V.sl (List.map zC s2))] (V.b r) := by
 refine zg ZR rfl ?_
 unfold Js at hM
 refine X.sq (X.q rfl (GS.zA (GS.seq (X.sq (X.q rfl ?_)))))
 refine X.opR rfl (X.lenF rfl rfl rfl) rfl (X.q rfl ?_)
 refine X.opR rfl (X.lenF rfl rfl rfl) rfl (X.q rfl (GS.zA ?_))
 refine X.cond rfl (fun h_1 => ?_) (fun h_1 => ?_)
 ·replace hM := za h_1 hM
  refine X.sq (X.q rfl (GS.zA ?_))
  cases hM
  exact GS.ret ⟨_, rfl, ⟨30, rfl⟩⟩
 replace hM := zb h_1 hM
 refine GS.skip (GS.seq (X.sq (X.q rfl ?_)))
 refine X.opR rfl (X.lenF rfl rfl rfl) rfl (X.q rfl (GS.zA ?_))
 refine X.join (τ := Unit) (fun v => JD = some r) (fun v => ⟨[], [], 0, none, 26⟩) ?_ ?_
 ·intro _ hM
  replace hM : JD = some r := hM
  unfold JD at hM
  refine X.sq (X.q rfl (GS.zA ?_))
  cases hM
  exact GS.ret ⟨_, rfl, ⟨30, rfl⟩⟩
 intro hj_1
 refine GS.block ?_
 refine X.gc [] (X.loop (σ := Int) (fun v => ⟨[(0, (V.sl (List.map zC s1))), (1, (V.sl (List.map zC s2))), (12, (V.i (s1.length : Int))), (13, (V.i v))], [], 0, none, 26⟩) hM ?_ rfl) rfl rfl rfl (ga rfl rfl) (zM)
 intro x2 b_1 hM hc_2 hr_1
 rw [QV] at hM
 refine X.sq (X.q rfl (GS.zA (GS.seq ?_)))
 refine X.cond rfl (fun h_2 => ?_) (fun h_2 => ?_)
 ·replace hM := za h_2 hM
  refine GS.skip (GS.seq (GS.block (X.sq (X.q rfl (X.q rfl ?_)))))
  refine GS.zA (GS.seq ?_)
  obtain ⟨x, h_3, hM⟩ := zI hM
  obtain ⟨x1, h_4, hM⟩ := zI hM
  refine X.drawc (by kernel_rfl) rfl ?_
  iterate 2 refine X.cop rfl rfl rfl rfl ?_
  refine X.cop rfl (X.ZJ (f := zC) h_3 (fun _ => rfl) rfl rfl rfl rfl) rfl rfl ?_
  refine X.cop rfl (X.Za h_3 rfl rfl rfl) rfl rfl ?_
  iterate 2 refine X.cop rfl rfl rfl rfl ?_
  refine X.cop rfl (X.ZJ (f := zC) h_4 (fun _ => rfl) rfl rfl rfl rfl) rfl rfl ?_
  refine X.cop rfl (X.Za h_4 rfl rfl rfl) rfl rfl ?_
  refine X.cop rfl (X.neqE (zCr x x1) rfl rfl) rfl rfl ?_
  refine X.cnil ?_
  refine X.norm [(0, (V.sl (List.map zC s1))), (1, (V.sl (List.map zC s2))), (12, (V.i (s1.length : Int))), (13, (V.i x2)), (24, (V.b (!decide (x = x1))))] ?_ rfl (sr rfl)
  refine X.cond rfl (fun h_5 => ?_) (fun h_5 => ?_)
  ·replace hM := za h_5 hM
   refine X.sq (X.q rfl (GS.zA ?_))
   have hE := Option.some.inj hM
   replace hE := hr_1 _ hE.symm
   subst hE
   exact GS.ret ⟨_, rfl, ⟨30, rfl⟩⟩
  replace hM := zb h_5 hM
  refine GS.skip ?_
  refine GS.endB (GS.region ?_)
  refine X.opR rfl (X.addE rfl rfl) rfl (X.q rfl (GS.zA ?_))
  have hE := Option.some.inj hM
  exact X.gc [] (hc_2 (w64 (x2 + 1)) hE.symm) rfl rfl rfl (ga rfl rfl) (zM)
 replace hM := zb h_2 hM
 refine GS.exit rfl ?_
 obtain ⟨y_1, hM, hy⟩ := ZV hM
 rw [hr_1 _ hy.symm] at hM
 exact X.gc [] (hj_1 () hM) rfl rfl rfl (yD) (zM)
set_option maxHeartbeats 4000000 in
theorem zDa {h : zL} {l : (List zN)} {x : ZL} {r : Int × Int} (hM : YR h l x = some r) : Ct Tryz.prog 28 [(zH h), (V.sl (List.map zG l)), (J6 x)] (V.tup [(V.i r.1), (V.i r.2)]) := by
 refine zg ZR rfl ?_
 unfold YR at hM
 refine X.sq ?_
 iterate 2 refine X.opW rfl rfl rfl rfl ?_
 refine X.q rfl (X.q rfl ?_)
 refine GS.zA ?_
 iterate 2 refine GS.seq ?_
 obtain ⟨y, h_1, hM⟩ := zI hM
 refine GS.region (X.q rfl (X.q rfl ?_))
 refine X.call (jk h_1) rfl rfl rfl (.cons (.shut (n := 9) rfl) (.cons (.shut (n := 9) rfl) .nil)) (X.q rfl (X.nq (X.q rfl (X.q rfl ?_))))
 refine GS.zA ?_
 refine X.cond rfl (fun h_2 => ?_) (fun h_2 => ?_)
 ·replace hM := za h_2 hM
  refine X.sq (X.q rfl (X.q rfl (X.q rfl ?_)))
  refine GS.zA ?_
  cases hM
  exact GS.ret ⟨_, rfl, ⟨30, rfl⟩⟩
 replace hM := zb h_2 hM
 refine GS.skip (X.sq ?_)
 refine X.opW rfl rfl rfl rfl (X.q rfl (GS.zA (GS.seq (X.sq (X.q rfl (X.q rfl ?_))))))
 refine X.opR rfl (X.lenF rfl rfl rfl) rfl (X.q rfl (GS.zA ?_))
 refine X.join (τ := (List (Int × Bool))) (fun v => JA h l x v = some r) (fun v => ⟨[(1, (V.sl (List.map zG l))), (3, (V.ptr 0 0 0)), (5, (V.ptr 1 0 0)), (9, (V.map 2))], [.rows 6 [(zH h)], .rows 2 [(J6 x)], .map (List.map (fun p : Int × Bool => V.i p.1) v) (List.map (fun p : Int × Bool => V.b p.2) v)], 0, none, 77⟩) ?_ ?_
 ·intro m hM
  replace hM : JA h l x m = some r := hM
  unfold JA at hM
  refine GS.seq ?_
  obtain ⟨y1, h_3, hM⟩ := zI hM
  obtain ⟨y2, h_4, hM⟩ := zI hM
  refine GS.region (X.q rfl (X.q rfl ?_))
  refine X.call (qp h_3) rfl rfl rfl (.cons (.shut (n := 9) rfl) (.cons (.shut (n := 9) rfl) .nil)) (X.q rfl ?_)
  refine X.zFn (f := V.i) (g := V.b) (pa := fun p => p.1) (pb := fun p => p.2) (l := m) 39 rfl rfl rfl (fun _ => rfl) (fun _ => rfl) ?_
  refine X.call (zAI h_4) rfl rfl rfl (.cons (.shut (n := 9) rfl) (.cons (.shut (n := 9) rfl) .nil)) ?_
  refine X.opW (H' := [.rows 6 [(zH h)], .rows 2 [(J6 x)], .dead, .rows 2 [(V.agg [V.nil, V.nil])]]) rfl rfl rfl rfl ?_
  refine X.op0W (H' := [.rows 6 [(zH h)], .rows 2 [(J6 x)], .dead, .rows 2 [(J6 y2)]]) rfl rfl rfl (GS.zA ?_)
  iterate 2 refine GS.seq ?_
  obtain ⟨y3, h_5, hM⟩ := zCk hM
  obtain ⟨y4, h_6, hM⟩ := zCk hM
  refine GS.region ?_
  refine X.mid [(5, (V.ptr 1 0 0)), (69, (V.b ((((decide ((x.Calls.length : Int) = 0)) || (!y3)) || (!y4)) || (decide ((x.Calls.length : Int) ≤ (x.Slots.length : Int))))))] ?_ ?_
  ·intro hg
   refine X.split (decide ((x.Calls.length : Int) = 0)) (fun h_7 => ?_) (fun h_7 => ?_)
   ·iterate 2 refine X.q rfl ?_
    refine X.opR rfl (X.lenF rfl rfl rfl) rfl (X.q rfl (X.q rfl ?_))
    iterate 6 refine X.off (X.ZT rfl rfl rfl h_7) rfl ?_
    refine X.opR rfl (X.zf (y := !y3) rfl h_7 rfl) rfl (X.q rfl ?_)
    iterate 6 refine X.off (X.ZT rfl rfl rfl (X.zV h_7)) rfl ?_
    refine X.opR rfl (X.zf (y := !y4) rfl (X.zV h_7) rfl) rfl (X.q rfl ?_)
    iterate 7 refine X.off (X.ZT rfl rfl rfl (X.zV (X.zV h_7))) rfl ?_
    refine X.opR rfl (X.zf (y := decide ((x.Calls.length : Int) ≤ (x.Slots.length : Int))) rfl (X.zV (X.zV h_7)) rfl) rfl (GS.zA ?_)
    exact X.norm _ hg rfl (sr rfl)
   refine X.split (((decide ((x.Calls.length : Int) = 0)) || (!y3))) (fun h_8 => ?_) (fun h_8 => ?_)
   ·iterate 2 refine X.q rfl ?_
    refine X.opR rfl (X.lenF rfl rfl rfl) rfl (X.q rfl (X.q rfl ?_))
    iterate 4 refine X.opR (X.on_f rfl rfl rfl h_7) rfl rfl ?_
    refine X.call (QP (h_5 (X.nt h_7))) (X.on_f rfl rfl rfl h_7) rfl rfl (.cons (.shut (n := 9) rfl) (.cons (.shut (n := 9) rfl) .nil)) ?_
    refine X.opR (X.on_f rfl rfl rfl h_7) rfl rfl ?_
    refine X.opR rfl (X.ze (y := !y3) rfl h_7 rfl) rfl (X.q rfl ?_)
    iterate 6 refine X.off (X.ZT rfl rfl rfl h_8) rfl ?_
    refine X.opR rfl (X.zf (y := !y4) rfl h_8 rfl) rfl (X.q rfl ?_)
    iterate 7 refine X.off (X.ZT rfl rfl rfl (X.zV h_8)) rfl ?_
    refine X.opR rfl (X.zf (y := decide ((x.Calls.length : Int) ≤ (x.Slots.length : Int))) rfl (X.zV h_8) rfl) rfl (GS.zA ?_)
    exact X.norm _ hg rfl (sr rfl)
   refine X.split ((((decide ((x.Calls.length : Int) = 0)) || (!y3)) || (!y4))) (fun h_9 => ?_) (fun h_9 => ?_)
   ·iterate 2 refine X.q rfl ?_
    refine X.opR rfl (X.lenF rfl rfl rfl) rfl (X.q rfl (X.q rfl ?_))
    iterate 4 refine X.opR (X.on_f rfl rfl rfl h_7) rfl rfl ?_
    refine X.call (QP (h_5 (X.nt h_7))) (X.on_f rfl rfl rfl h_7) rfl rfl (.cons (.shut (n := 9) rfl) (.cons (.shut (n := 9) rfl) .nil)) ?_
    refine X.opR (X.on_f rfl rfl rfl h_7) rfl rfl ?_
    refine X.opR rfl (X.ze (y := !y3) rfl h_7 rfl) rfl (X.q rfl ?_)
    iterate 4 refine X.opR (X.on_f rfl rfl rfl h_8) rfl rfl ?_
    refine X.call (QX (h_6 (X.nt h_8))) (X.on_f rfl rfl rfl h_8) rfl rfl (.cons (.shut (n := 9) rfl) (.cons (.shut (n := 9) rfl) .nil)) ?_
    refine X.opR (X.on_f rfl rfl rfl h_8) rfl rfl ?_
    refine X.opR rfl (X.ze (y := !y4) rfl h_8 rfl) rfl (X.q rfl ?_)
    iterate 7 refine X.off (X.ZT rfl rfl rfl h_9) rfl ?_
    refine X.opR rfl (X.zf (y := decide ((x.Calls.length : Int) ≤ (x.Slots.length : Int))) rfl h_9 rfl) rfl (GS.zA ?_)
    exact X.norm _ hg rfl (sr rfl)
   refine X.q rfl (X.q rfl ?_)
   refine X.opR rfl (X.lenF rfl rfl rfl) rfl (X.q rfl (X.q rfl ?_))
   iterate 4 refine X.opR (X.on_f rfl rfl rfl h_7) rfl rfl ?_
   refine X.call (QP (h_5 (X.nt h_7))) (X.on_f rfl rfl rfl h_7) rfl rfl (.cons (.shut (n := 9) rfl) (.cons (.shut (n := 9) rfl) .nil)) ?_
   refine X.opR (X.on_f rfl rfl rfl h_7) rfl rfl ?_
   refine X.opR rfl (X.ze (y := !y3) rfl h_7 rfl) rfl (X.q rfl ?_)
   iterate 4 refine X.opR (X.on_f rfl rfl rfl h_8) rfl rfl ?_
   refine X.call (QX (h_6 (X.nt h_8))) (X.on_f rfl rfl rfl h_8) rfl rfl (.cons (.shut (n := 9) rfl) (.cons (.shut (n := 9) rfl) .nil)) ?_
   refine X.opR (X.on_f rfl rfl rfl h_8) rfl rfl ?_
   refine X.opR rfl (X.ze (y := !y4) rfl h_8 rfl) rfl (X.q rfl ?_)
   iterate 2 refine X.opR (X.on_f rfl rfl rfl h_9) rfl rfl ?_
   refine X.opR (X.on_f rfl rfl rfl h_9) (X.lenF rfl rfl rfl) rfl ?_
   iterate 2 refine X.opR (X.on_f rfl rfl rfl h_9) rfl rfl ?_
   refine X.opR (X.on_f rfl rfl rfl h_9) (X.lenF rfl rfl rfl) rfl ?_
   refine X.opR (X.on_f rfl rfl rfl h_9) rfl rfl ?_
   refine X.opR rfl (X.ze (y := decide ((x.Calls.length : Int) ≤ (x.Slots.length : Int))) rfl h_9 rfl) rfl (GS.zA ?_)
   exact X.norm _ hg rfl (sr rfl)
  refine X.cond rfl (fun h_10 => ?_) (fun h_10 => ?_)
  ·replace hM := za h_10 hM
   refine X.sq (X.q rfl (X.q rfl ?_))
   refine GS.zA ?_
   cases hM
   exact GS.ret ⟨_, rfl, ⟨30, rfl⟩⟩
  replace hM := zb h_10 hM
  refine GS.skip (X.sq (X.q rfl (X.q rfl ?_)))
  refine X.opR rfl (X.lenF rfl rfl rfl) rfl (X.q rfl (X.q rfl ?_))
  refine X.opR rfl (X.lenF rfl rfl rfl) rfl ?_
  refine X.opR rfl (X.subE rfl rfl) rfl (X.q rfl (X.q rfl ?_))
  refine GS.zA ?_
  cases hM
  exact GS.ret ⟨_, rfl, ⟨30, rfl⟩⟩
 intro hj_1
 refine GS.block ?_
 refine X.gc [some 0, some 1, some 2] (X.loop (σ := (Int × (List (Int × Bool)))) (fun v => ⟨[(1, (V.sl (List.map zG l))), (3, (V.ptr 0 0 0)), (5, (V.ptr 1 0 0)), (9, (V.map 2)), (22, (V.sl (List.map V.i x.Calls))), (23, (V.i (x.Calls.length : Int))), (24, (V.i v.1))], [.rows 6 [(zH h)], .rows 2 [(J6 x)], .map (List.map (fun p : Int × Bool => V.i p.1) v.2) (List.map (fun p : Int × Bool => V.b p.2) v.2)], 0, none, 77⟩) hM ?_ rfl) rfl rfl rfl (ga rfl rfl) (gb9 rfl rfl rfl (gb9 rfl rfl rfl (X.ZY 9 rfl rfl (fun _ => rfl) (fun _ => rfl) zM)))
 rintro ⟨x2, m2⟩ b_1 hM hc_2 hr_1
 rw [YF] at hM
 refine X.sq (X.q rfl (GS.zA (GS.seq ?_)))
 refine X.cond rfl (fun h_11 => ?_) (fun h_11 => ?_)
 ·replace hM := za h_11 hM
  refine GS.skip (GS.seq ?_)
  refine X.join (τ := (List (Int × Bool))) (fun v => jV x2 v = some b_1) (fun v => ⟨[(1, (V.sl (List.map zG l))), (3, (V.ptr 0 0 0)), (5, (V.ptr 1 0 0)), (9, (V.map 2)), (22, (V.sl (List.map V.i x.Calls))), (23, (V.i (x.Calls.length : Int))), (24, (V.i x2))], [.rows 6 [(zH h)], .rows 2 [(J6 x)], .map (List.map (fun p : Int × Bool => V.i p.1) v) (List.map (fun p : Int × Bool => V.b p.2) v)], 0, none, 77⟩) ?_ ?_
  ·intro m1 hM
   replace hM : jV x2 m1 = some b_1 := hM
   unfold jV at hM
   refine GS.region ?_
   refine X.opR rfl (X.addE rfl rfl) rfl (X.q rfl (GS.zA ?_))
   have hE := Option.some.inj hM
   exact X.gc [some 0, some 1, some 2] (hc_2 (w64 (x2 + 1), m1) hE.symm) rfl rfl rfl (ga rfl rfl) (gb9 rfl rfl rfl (gb9 rfl rfl rfl (X.ZY 9 rfl rfl (fun _ => rfl) (fun _ => rfl) zM)))
  intro hj_3
  refine GS.block (GS.seq ?_)
  obtain ⟨x1, h_12, hM⟩ := zI hM
  refine GS.region ?_
  refine X.opR rfl (X.ZJ (f := V.i) h_12 (fun _ => rfl) rfl rfl rfl rfl) rfl ?_
  refine X.opR rfl (X.Za h_12 rfl rfl rfl) rfl (X.q rfl (GS.zA (GS.seq ?_)))
  obtain ⟨y5, h_13, hM⟩ := zI hM
  refine GS.region (X.q rfl (X.q rfl ?_))
  refine X.call (Zv h_13) rfl rfl rfl (.cons (.shut (n := 9) rfl) (.cons (.shut (n := 9) rfl) (.cons (.shut (n := 9) rfl) .nil))) (X.q rfl (X.nq (X.q rfl (X.q rfl ?_))))
  refine GS.zA ?_
  refine X.cond rfl (fun h_14 => ?_) (fun h_14 => ?_)
  ·replace hM := za h_14 hM
   refine GS.region (X.q rfl (X.q rfl ?_))
   refine X.op0W rfl (X.putW (f := V.i) (g := V.b) (pos := posI) (k := y5) (v := true) (l := m2) X.zAi (X.zDz _) rfl rfl rfl rfl rfl rfl rfl) rfl (GS.zA ?_)
   refine GS.endB ?_
   exact X.gc [some 0, some 1, some 2] (hj_3 (putM posI m2 y5 true) hM) rfl rfl rfl (ga rfl rfl) (gb9 rfl rfl rfl (gb9 rfl rfl rfl (X.ZY 9 rfl rfl (fun _ => rfl) (fun _ => rfl) zM)))
  replace hM := zb h_14 hM
  refine GS.skip ?_
  refine GS.endB ?_
  exact X.gc [some 0, some 1, some 2] (hj_3 m2 hM) rfl rfl rfl (ga rfl rfl) (gb9 rfl rfl rfl (gb9 rfl rfl rfl (X.ZY 9 rfl rfl (fun _ => rfl) (fun _ => rfl) zM)))
 replace hM := zb h_11 hM
 refine GS.exit rfl ?_
 obtain ⟨y_1, hM, hy⟩ := ZV hM
 rw [hr_1 _ hy.symm] at hM
 exact X.gc [some 0, some 1, some 2] (hj_1 m2 hM) rfl rfl rfl (ga rfl rfl) (gb9 rfl rfl rfl (gb9 rfl rfl rfl (X.ZY 9 rfl rfl (fun _ => rfl) (fun _ => rfl) zM)))
theorem zCq (a b : zD) : eqA CC.ty 32 (zJ a) (zJ b) = some (decide (a = b)) := by
 refine (X.eqa rfl rfl (X.eqp rfl rfl rfl (X.eqp rfl rfl rfl X.eqn'))).trans ?_
 congr 1
 rw [Bool.eq_iff_iff]
 simp only [Bool.and_eq_true, decide_eq_true_eq, beq_iff_eq, and_true]
 constructor
 ·intro h
  obtain ⟨a1, a2⟩ := a
  obtain ⟨b3, b4⟩ := b
  simp at h
  simp [h]
 ·rintro rfl
  simp
theorem Q3 (a b : zP) : eqA CC.ty 87 (zS a) (zS b) = some (decide (a = b)) := by
 refine (X.eqa rfl rfl (X.eqp rfl rfl rfl (X.eqp rfl rfl (X.eqs rfl rfl (X.eqp rfl rfl rfl (X.eqp rfl rfl rfl X.eqn'))) (X.eqp rfl rfl (X.eqs rfl rfl (X.eqp rfl rfl rfl (X.eqp rfl rfl rfl X.eqn'))) X.eqn')))).trans ?_
 congr 1
 rw [Bool.eq_iff_iff]
 simp only [Bool.and_eq_true, decide_eq_true_eq, beq_iff_eq, and_true]
 constructor
 ·intro h
  obtain ⟨a1, ⟨a2, a3⟩, ⟨a4, a5⟩⟩ := a
  obtain ⟨b6, ⟨b7, b8⟩, ⟨b9, b10⟩⟩ := b
  simp at h
  simp [h]
 ·rintro rfl
  simp
set_option maxHeartbeats 4000000 in
theorem Qk {r : Bool} (hM : J4 = some r) : Ct Tryz.prog 8 [] (V.b r) := by
 refine zg ZR rfl ?_
 unfold J4 at hM
 refine X.sq (X.q rfl (X.nq ?_))
 refine X.call zEr rfl rfl rfl .nil ?_
 refine X.opW rfl rfl rfl rfl ?_
 refine X.op0W rfl rfl rfl (GS.zA (GS.seq ?_))
 replace hM := zI hM
 obtain ⟨y, h_1, hM⟩ := hM
 refine GS.region (X.q rfl ?_)
 refine X.call (zGD h_1) rfl rfl rfl (.cons (.shut (n := 9) rfl) (.cons (.shut (n := 9) rfl) (.cons (.shut (n := 9) rfl) .nil))) ?_
 iterate 5 refine X.q rfl ?_
 refine GS.zA (GS.seq ?_)
 replace hM := zI hM
 obtain ⟨y1, h_2, hM⟩ := hM
 refine GS.region (X.q rfl (X.q rfl ?_))
 refine X.call (zCY h_2) rfl rfl rfl (.cons (.shut (n := 9) rfl) (.cons (.shut (n := 9) rfl) (.cons (.shut (n := 9) rfl) (.cons (.shut (n := 9) rfl) .nil)))) ?_
 iterate 7 refine X.q rfl ?_
 refine GS.zA (GS.seq ?_)
 replace hM := zI hM
 obtain ⟨y2, h_3, hM⟩ := hM
 refine GS.region (X.q rfl (X.q rfl ?_))
 refine X.call (zCY h_3) rfl rfl rfl (.cons (.shut (n := 9) rfl) (.cons (.shut (n := 9) rfl) (.cons (.shut (n := 9) rfl) (.cons (.shut (n := 9) rfl) .nil)))) ?_
 iterate 7 refine X.q rfl ?_
 refine GS.zA (GS.seq ?_)
 replace hM := zI hM
 obtain ⟨y3, h_4, hM⟩ := hM
 replace hM := zI hM
 obtain ⟨x, h_5, hM⟩ := hM
 replace hM := zI hM
 obtain ⟨y4, h_6, hM⟩ := hM
 refine X.draw (by kernel_rfl) ?_
 refine X.dop rfl rfl rfl rfl (by kernel_rfl) rfl rfl ?_
 refine X.dcall (Y6 h_4) rfl rfl rfl (by kernel_rfl) rfl (.cons (.shut (n := 9) rfl) .nil) ?_
 refine X.dop rfl (X.ZJ (f := zG) h_5 (fun _ => rfl) rfl rfl rfl rfl) rfl rfl (by kernel_rfl) rfl rfl ?_
 refine X.dop rfl (X.Za h_5 rfl rfl rfl) rfl rfl (by kernel_rfl) rfl rfl ?_
 refine X.dop rfl rfl rfl rfl (by kernel_rfl) rfl rfl ?_
 refine X.dcall (zG7 h_6) rfl rfl rfl (by kernel_rfl) rfl (.cons (.shut (n := 9) rfl) (.cons (.shut (n := 9) rfl) (.cons (.shut (n := 9) rfl) .nil))) ?_
 iterate 5 refine X.dop rfl rfl rfl rfl (by kernel_rfl) rfl rfl ?_
 refine X.dop0 rfl rfl rfl rfl (by kernel_rfl) rfl ?_
 iterate 2 refine X.dop rfl rfl rfl rfl (by kernel_rfl) rfl rfl ?_
 refine X.dnil ?_
 refine X.norm [(1, (V.ptr 0 0 0)), (2, (V.i y.1)), (3, (V.i y.2)), (4, (V.i y1.1)), (5, (V.b y1.2.1)), (6, (V.i y1.2.2)), (8, (V.b y2.2.1)), (9, (V.i y2.2.2)), (10, (V.ptr 1 0 0)), (11, (V.b y4.2.1)), (12, (V.i y4.2.2))] ?_ rfl (sr rfl)
 refine GS.seq ?_
 replace hM := zI hM
 obtain ⟨y5, h_7, hM⟩ := hM
 refine GS.region (X.q rfl (X.q rfl ?_))
 refine X.call (zGE h_7) rfl rfl rfl (.cons (.shut (n := 9) rfl) (.cons (.shut (n := 9) rfl) (.cons (.shut (n := 9) rfl) .nil))) ?_
 iterate 5 refine X.q rfl ?_
 refine GS.zA (GS.seq ?_)
 replace hM := zI hM
 obtain ⟨y6, h_8, hM⟩ := hM
 replace hM := zI hM
 obtain ⟨y7, h_9, hM⟩ := hM
 refine X.drawc (by kernel_rfl) rfl ?_
 refine X.cop rfl rfl rfl rfl ?_
 refine X.ccall (Y6 h_8) rfl rfl rfl rfl (.cons (.shut (n := 9) rfl) .nil) ?_
 refine X.ccall (zDG h_9) rfl rfl rfl rfl (.cons (.shut (n := 9) rfl) (.cons (.shut (n := 9) rfl) .nil)) ?_
 iterate 5 refine X.cop rfl rfl rfl rfl ?_
 refine X.cnil ?_
 refine X.norm [(1, (V.ptr 0 0 0)), (2, (V.i y.1)), (3, (V.i y.2)), (4, (V.i y1.1)), (5, (V.b y1.2.1)), (6, (V.i y1.2.2)), (8, (V.b y2.2.1)), (9, (V.i y2.2.2)), (10, (V.ptr 1 0 0)), (11, (V.b y4.2.1)), (12, (V.i y4.2.2)), (13, (V.i y5.1)), (14, (V.i y5.2)), (15, (V.sl (List.map zS y7.1))), (16, (V.i y7.2))] ?_ rfl (sr rfl)
 refine GS.seq ?_
 replace hM := zI hM
 obtain ⟨y8, h_10, hM⟩ := hM
 replace hM := zI hM
 obtain ⟨y9, h_11, hM⟩ := hM
 refine X.draw (by kernel_rfl) ?_
 refine X.dop rfl rfl rfl rfl (by kernel_rfl) rfl rfl ?_
 refine X.dcall (Y6 h_10) rfl rfl rfl (by kernel_rfl) rfl (.cons (.shut (n := 9) rfl) .nil) ?_
 refine X.dcall (zG9 h_11) rfl rfl rfl (by kernel_rfl) rfl (.cons (.shut (n := 9) rfl) (.cons (.shut (n := 9) rfl) .nil)) ?_
 iterate 5 refine X.dop rfl rfl rfl rfl (by kernel_rfl) rfl rfl ?_
 refine X.dop0 rfl rfl rfl rfl (by kernel_rfl) rfl ?_
 iterate 2 refine X.dop rfl rfl rfl rfl (by kernel_rfl) rfl rfl ?_
 refine X.dnil ?_
 refine X.norm [(1, (V.ptr 0 0 0)), (2, (V.i y.1)), (3, (V.i y.2)), (4, (V.i y1.1)), (5, (V.b y1.2.1)), (6, (V.i y1.2.2)), (8, (V.b y2.2.1)), (9, (V.i y2.2.2)), (10, (V.ptr 1 0 0)), (11, (V.b y4.2.1)), (12, (V.i y4.2.2)), (13, (V.i y5.1)), (14, (V.i y5.2)), (15, (V.sl (List.map zS y7.1))), (16, (V.i y7.2)), (17, (V.ptr 2 0 0)), (18, (V.b y9.2.1)), (19, (V.i y9.2.2))] ?_ rfl (sr rfl)
 refine GS.seq ?_
 replace hM := zI hM
 obtain ⟨y10, h_12, hM⟩ := hM
 replace hM := zI hM
 obtain ⟨y11, h_13, hM⟩ := hM
 refine X.drawc (by kernel_rfl) rfl ?_
 refine X.cop rfl rfl rfl rfl ?_
 refine X.ccall (Y6 h_12) rfl rfl rfl rfl (.cons (.shut (n := 9) rfl) .nil) ?_
 refine X.cop rfl rfl rfl rfl ?_
 refine X.ccall (zDa h_13) rfl rfl rfl rfl (.cons (.shut (n := 9) rfl) (.cons (.shut (n := 9) rfl) (.cons (.shut (n := 9) rfl) .nil))) ?_
 iterate 5 refine X.cop rfl rfl rfl rfl ?_
 refine X.cnil ?_
 refine X.norm [(2, (V.i y.1)), (3, (V.i y.2)), (4, (V.i y1.1)), (5, (V.b y1.2.1)), (6, (V.i y1.2.2)), (8, (V.b y2.2.1)), (9, (V.i y2.2.2)), (10, (V.ptr 1 0 0)), (11, (V.b y4.2.1)), (12, (V.i y4.2.2)), (13, (V.i y5.1)), (14, (V.i y5.2)), (15, (V.sl (List.map zS y7.1))), (16, (V.i y7.2)), (17, (V.ptr 2 0 0)), (18, (V.b y9.2.1)), (19, (V.i y9.2.2)), (20, (V.i y11.1)), (21, (V.i y11.2))] ?_ rfl (sr rfl)
 refine GS.seq (X.sq ?_)
 refine X.mid [(2, (V.i y.1)), (4, (V.i y1.1)), (5, (V.b y1.2.1)), (8, (V.b y2.2.1)), (10, (V.ptr 1 0 0)), (11, (V.b y4.2.1)), (13, (V.i y5.1)), (15, (V.sl (List.map zS y7.1))), (17, (V.ptr 2 0 0)), (18, (V.b y9.2.1)), (20, (V.i y11.1)), (113, (V.b (((((((((!decide (y.2 = 0)) || (!decide (y1.2.2 = 0))) || (!decide (y2.2.2 = 0))) || (!decide (y4.2.2 = 0))) || (!decide (y5.2 = 0))) || (!decide (y7.2 = 0))) || (!decide (y9.2.2 = 0))) || (!decide (y11.2 = 0))) || (!decide ((y7.1.length : Int) = 3)))))] ?_ ?_
 ·intro hg
  refine X.split (!decide (y.2 = 0)) (fun h_14 => ?_) (fun h_14 => ?_)
  ·iterate 3 refine X.q rfl ?_
   iterate 2 refine X.off (X.ZT rfl rfl rfl h_14) rfl ?_
   refine X.opR rfl (X.zf (y := !decide (y1.2.2 = 0)) rfl h_14 rfl) rfl (X.q rfl ?_)
   iterate 2 refine X.off (X.ZT rfl rfl rfl (X.zV h_14)) rfl ?_
   refine X.opR rfl (X.zf (y := !decide (y2.2.2 = 0)) rfl (X.zV h_14) rfl) rfl (X.q rfl ?_)
   iterate 2 refine X.off (X.ZT rfl rfl rfl (X.zV (X.zV h_14))) rfl ?_
   refine X.opR rfl (X.zf (y := !decide (y4.2.2 = 0)) rfl (X.zV (X.zV h_14)) rfl) rfl (X.q rfl ?_)
   iterate 2 refine X.off (X.ZT rfl rfl rfl (X.zV (X.zV (X.zV h_14)))) rfl ?_
   refine X.opR rfl (X.zf (y := !decide (y5.2 = 0)) rfl (X.zV (X.zV (X.zV h_14))) rfl) rfl (X.q rfl ?_)
   iterate 2 refine X.off (X.ZT rfl rfl rfl (X.zV (X.zV (X.zV (X.zV h_14))))) rfl ?_
   refine X.opR rfl (X.zf (y := !decide (y7.2 = 0)) rfl (X.zV (X.zV (X.zV (X.zV h_14)))) rfl) rfl (X.q rfl ?_)
   iterate 2 refine X.off (X.ZT rfl rfl rfl (X.zV (X.zV (X.zV (X.zV (X.zV h_14)))))) rfl ?_
   refine X.opR rfl (X.zf (y := !decide (y9.2.2 = 0)) rfl (X.zV (X.zV (X.zV (X.zV (X.zV h_14))))) rfl) rfl (X.q rfl ?_)
   iterate 2 refine X.off (X.ZT rfl rfl rfl (X.zV (X.zV (X.zV (X.zV (X.zV (X.zV h_14))))))) rfl ?_
   refine X.opR rfl (X.zf (y := !decide (y11.2 = 0)) rfl (X.zV (X.zV (X.zV (X.zV (X.zV (X.zV h_14)))))) rfl) rfl (X.q rfl ?_)
   iterate 3 refine X.off (X.ZT rfl rfl rfl (X.zV (X.zV (X.zV (X.zV (X.zV (X.zV (X.zV h_14)))))))) rfl ?_
   refine X.opR rfl (X.zf (y := !decide ((y7.1.length : Int) = 3)) rfl (X.zV (X.zV (X.zV (X.zV (X.zV (X.zV (X.zV h_14))))))) rfl) rfl (GS.zA ?_)
   exact X.norm _ hg rfl (sr rfl)
  refine X.split (((!decide (y.2 = 0)) || (!decide (y1.2.2 = 0)))) (fun h_15 => ?_) (fun h_15 => ?_)
  ·iterate 3 refine X.q rfl ?_
   iterate 2 refine X.opR (X.on_f rfl rfl rfl h_14) rfl rfl ?_
   refine X.opR rfl (X.ze (y := !decide (y1.2.2 = 0)) rfl h_14 rfl) rfl (X.q rfl ?_)
   iterate 2 refine X.off (X.ZT rfl rfl rfl h_15) rfl ?_
   refine X.opR rfl (X.zf (y := !decide (y2.2.2 = 0)) rfl h_15 rfl) rfl (X.q rfl ?_)
   iterate 2 refine X.off (X.ZT rfl rfl rfl (X.zV h_15)) rfl ?_
   refine X.opR rfl (X.zf (y := !decide (y4.2.2 = 0)) rfl (X.zV h_15) rfl) rfl (X.q rfl ?_)
   iterate 2 refine X.off (X.ZT rfl rfl rfl (X.zV (X.zV h_15))) rfl ?_
   refine X.opR rfl (X.zf (y := !decide (y5.2 = 0)) rfl (X.zV (X.zV h_15)) rfl) rfl (X.q rfl ?_)
   iterate 2 refine X.off (X.ZT rfl rfl rfl (X.zV (X.zV (X.zV h_15)))) rfl ?_
   refine X.opR rfl (X.zf (y := !decide (y7.2 = 0)) rfl (X.zV (X.zV (X.zV h_15))) rfl) rfl (X.q rfl ?_)
   iterate 2 refine X.off (X.ZT rfl rfl rfl (X.zV (X.zV (X.zV (X.zV h_15))))) rfl ?_
   refine X.opR rfl (X.zf (y := !decide (y9.2.2 = 0)) rfl (X.zV (X.zV (X.zV (X.zV h_15)))) rfl) rfl (X.q rfl ?_)
   iterate 2 refine X.off (X.ZT rfl rfl rfl (X.zV (X.zV (X.zV (X.zV (X.zV h_15)))))) rfl ?_
   refine X.opR rfl (X.zf (y := !decide (y11.2 = 0)) rfl (X.zV (X.zV (X.zV (X.zV (X.zV h_15))))) rfl) rfl (X.q rfl ?_)
   iterate 3 refine X.off (X.ZT rfl rfl rfl (X.zV (X.zV (X.zV (X.zV (X.zV (X.zV h_15))))))) rfl ?_
   refine X.opR rfl (X.zf (y := !decide ((y7.1.length : Int) = 3)) rfl (X.zV (X.zV (X.zV (X.zV (X.zV (X.zV h_15)))))) rfl) rfl (GS.zA ?_)
   exact X.norm _ hg rfl (sr rfl)
  refine X.split ((((!decide (y.2 = 0)) || (!decide (y1.2.2 = 0))) || (!decide (y2.2.2 = 0)))) (fun h_16 => ?_) (fun h_16 => ?_)
  ·iterate 3 refine X.q rfl ?_
   iterate 2 refine X.opR (X.on_f rfl rfl rfl h_14) rfl rfl ?_
   refine X.opR rfl (X.ze (y := !decide (y1.2.2 = 0)) rfl h_14 rfl) rfl (X.q rfl ?_)
   iterate 2 refine X.opR (X.on_f rfl rfl rfl h_15) rfl rfl ?_
   refine X.opR rfl (X.ze (y := !decide (y2.2.2 = 0)) rfl h_15 rfl) rfl (X.q rfl ?_)
   iterate 2 refine X.off (X.ZT rfl rfl rfl h_16) rfl ?_
   refine X.opR rfl (X.zf (y := !decide (y4.2.2 = 0)) rfl h_16 rfl) rfl (X.q rfl ?_)
   iterate 2 refine X.off (X.ZT rfl rfl rfl (X.zV h_16)) rfl ?_
   refine X.opR rfl (X.zf (y := !decide (y5.2 = 0)) rfl (X.zV h_16) rfl) rfl (X.q rfl ?_)
   iterate 2 refine X.off (X.ZT rfl rfl rfl (X.zV (X.zV h_16))) rfl ?_
   refine X.opR rfl (X.zf (y := !decide (y7.2 = 0)) rfl (X.zV (X.zV h_16)) rfl) rfl (X.q rfl ?_)
   iterate 2 refine X.off (X.ZT rfl rfl rfl (X.zV (X.zV (X.zV h_16)))) rfl ?_
   refine X.opR rfl (X.zf (y := !decide (y9.2.2 = 0)) rfl (X.zV (X.zV (X.zV h_16))) rfl) rfl (X.q rfl ?_)
   iterate 2 refine X.off (X.ZT rfl rfl rfl (X.zV (X.zV (X.zV (X.zV h_16))))) rfl ?_
   refine X.opR rfl (X.zf (y := !decide (y11.2 = 0)) rfl (X.zV (X.zV (X.zV (X.zV h_16)))) rfl) rfl (X.q rfl ?_)
   iterate 3 refine X.off (X.ZT rfl rfl rfl (X.zV (X.zV (X.zV (X.zV (X.zV h_16)))))) rfl ?_
   refine X.opR rfl (X.zf (y := !decide ((y7.1.length : Int) = 3)) rfl (X.zV (X.zV (X.zV (X.zV (X.zV h_16))))) rfl) rfl (GS.zA ?_)
   exact X.norm _ hg rfl (sr rfl)
  refine X.split (((((!decide (y.2 = 0)) || (!decide (y1.2.2 = 0))) || (!decide (y2.2.2 = 0))) || (!decide (y4.2.2 = 0)))) (fun h_17 => ?_) (fun h_17 => ?_)
  ·iterate 3 refine X.q rfl ?_
   iterate 2 refine X.opR (X.on_f rfl rfl rfl h_14) rfl rfl ?_
   refine X.opR rfl (X.ze (y := !decide (y1.2.2 = 0)) rfl h_14 rfl) rfl (X.q rfl ?_)
   iterate 2 refine X.opR (X.on_f rfl rfl rfl h_15) rfl rfl ?_
   refine X.opR rfl (X.ze (y := !decide (y2.2.2 = 0)) rfl h_15 rfl) rfl (X.q rfl ?_)
   iterate 2 refine X.opR (X.on_f rfl rfl rfl h_16) rfl rfl ?_
   refine X.opR rfl (X.ze (y := !decide (y4.2.2 = 0)) rfl h_16 rfl) rfl (X.q rfl ?_)
   iterate 2 refine X.off (X.ZT rfl rfl rfl h_17) rfl ?_
   refine X.opR rfl (X.zf (y := !decide (y5.2 = 0)) rfl h_17 rfl) rfl (X.q rfl ?_)
   iterate 2 refine X.off (X.ZT rfl rfl rfl (X.zV h_17)) rfl ?_
   refine X.opR rfl (X.zf (y := !decide (y7.2 = 0)) rfl (X.zV h_17) rfl) rfl (X.q rfl ?_)
   iterate 2 refine X.off (X.ZT rfl rfl rfl (X.zV (X.zV h_17))) rfl ?_
   refine X.opR rfl (X.zf (y := !decide (y9.2.2 = 0)) rfl (X.zV (X.zV h_17)) rfl) rfl (X.q rfl ?_)
   iterate 2 refine X.off (X.ZT rfl rfl rfl (X.zV (X.zV (X.zV h_17)))) rfl ?_
   refine X.opR rfl (X.zf (y := !decide (y11.2 = 0)) rfl (X.zV (X.zV (X.zV h_17))) rfl) rfl (X.q rfl ?_)
   iterate 3 refine X.off (X.ZT rfl rfl rfl (X.zV (X.zV (X.zV (X.zV h_17))))) rfl ?_
   refine X.opR rfl (X.zf (y := !decide ((y7.1.length : Int) = 3)) rfl (X.zV (X.zV (X.zV (X.zV h_17)))) rfl) rfl (GS.zA ?_)
   exact X.norm _ hg rfl (sr rfl)
  refine X.split ((((((!decide (y.2 = 0)) || (!decide (y1.2.2 = 0))) || (!decide (y2.2.2 = 0))) || (!decide (y4.2.2 = 0))) || (!decide (y5.2 = 0)))) (fun h_18 => ?_) (fun h_18 => ?_)
  ·iterate 3 refine X.q rfl ?_
   iterate 2 refine X.opR (X.on_f rfl rfl rfl h_14) rfl rfl ?_
   refine X.opR rfl (X.ze (y := !decide (y1.2.2 = 0)) rfl h_14 rfl) rfl (X.q rfl ?_)
   iterate 2 refine X.opR (X.on_f rfl rfl rfl h_15) rfl rfl ?_
   refine X.opR rfl (X.ze (y := !decide (y2.2.2 = 0)) rfl h_15 rfl) rfl (X.q rfl ?_)
   iterate 2 refine X.opR (X.on_f rfl rfl rfl h_16) rfl rfl ?_
   refine X.opR rfl (X.ze (y := !decide (y4.2.2 = 0)) rfl h_16 rfl) rfl (X.q rfl ?_)
   iterate 2 refine X.opR (X.on_f rfl rfl rfl h_17) rfl rfl ?_
   refine X.opR rfl (X.ze (y := !decide (y5.2 = 0)) rfl h_17 rfl) rfl (X.q rfl ?_)
   iterate 2 refine X.off (X.ZT rfl rfl rfl h_18) rfl ?_
   refine X.opR rfl (X.zf (y := !decide (y7.2 = 0)) rfl h_18 rfl) rfl (X.q rfl ?_)
   iterate 2 refine X.off (X.ZT rfl rfl rfl (X.zV h_18)) rfl ?_
   refine X.opR rfl (X.zf (y := !decide (y9.2.2 = 0)) rfl (X.zV h_18) rfl) rfl (X.q rfl ?_)
   iterate 2 refine X.off (X.ZT rfl rfl rfl (X.zV (X.zV h_18))) rfl ?_
   refine X.opR rfl (X.zf (y := !decide (y11.2 = 0)) rfl (X.zV (X.zV h_18)) rfl) rfl (X.q rfl ?_)
   iterate 3 refine X.off (X.ZT rfl rfl rfl (X.zV (X.zV (X.zV h_18)))) rfl ?_
   refine X.opR rfl (X.zf (y := !decide ((y7.1.length : Int) = 3)) rfl (X.zV (X.zV (X.zV h_18))) rfl) rfl (GS.zA ?_)
   exact X.norm _ hg rfl (sr rfl)
  refine X.split (((((((!decide (y.2 = 0)) || (!decide (y1.2.2 = 0))) || (!decide (y2.2.2 = 0))) || (!decide (y4.2.2 = 0))) || (!decide (y5.2 = 0))) || (!decide (y7.2 = 0)))) (fun h_19 => ?_) (fun h_19 => ?_)
  ·iterate 3 refine X.q rfl ?_
   iterate 2 refine X.opR (X.on_f rfl rfl rfl h_14) rfl rfl ?_
   refine X.opR rfl (X.ze (y := !decide (y1.2.2 = 0)) rfl h_14 rfl) rfl (X.q rfl ?_)
   iterate 2 refine X.opR (X.on_f rfl rfl rfl h_15) rfl rfl ?_
   refine X.opR rfl (X.ze (y := !decide (y2.2.2 = 0)) rfl h_15 rfl) rfl (X.q rfl ?_)
   iterate 2 refine X.opR (X.on_f rfl rfl rfl h_16) rfl rfl ?_
   refine X.opR rfl (X.ze (y := !decide (y4.2.2 = 0)) rfl h_16 rfl) rfl (X.q rfl ?_)
   iterate 2 refine X.opR (X.on_f rfl rfl rfl h_17) rfl rfl ?_
   refine X.opR rfl (X.ze (y := !decide (y5.2 = 0)) rfl h_17 rfl) rfl (X.q rfl ?_)
   iterate 2 refine X.opR (X.on_f rfl rfl rfl h_18) rfl rfl ?_
   refine X.opR rfl (X.ze (y := !decide (y7.2 = 0)) rfl h_18 rfl) rfl (X.q rfl ?_)
   iterate 2 refine X.off (X.ZT rfl rfl rfl h_19) rfl ?_
   refine X.opR rfl (X.zf (y := !decide (y9.2.2 = 0)) rfl h_19 rfl) rfl (X.q rfl ?_)
   iterate 2 refine X.off (X.ZT rfl rfl rfl (X.zV h_19)) rfl ?_
   refine X.opR rfl (X.zf (y := !decide (y11.2 = 0)) rfl (X.zV h_19) rfl) rfl (X.q rfl ?_)
   iterate 3 refine X.off (X.ZT rfl rfl rfl (X.zV (X.zV h_19))) rfl ?_
   refine X.opR rfl (X.zf (y := !decide ((y7.1.length : Int) = 3)) rfl (X.zV (X.zV h_19)) rfl) rfl (GS.zA ?_)
   exact X.norm _ hg rfl (sr rfl)
  refine X.split ((((((((!decide (y.2 = 0)) || (!decide (y1.2.2 = 0))) || (!decide (y2.2.2 = 0))) || (!decide (y4.2.2 = 0))) || (!decide (y5.2 = 0))) || (!decide (y7.2 = 0))) || (!decide (y9.2.2 = 0)))) (fun h_20 => ?_) (fun h_20 => ?_)
  ·iterate 3 refine X.q rfl ?_
   iterate 2 refine X.opR (X.on_f rfl rfl rfl h_14) rfl rfl ?_
   refine X.opR rfl (X.ze (y := !decide (y1.2.2 = 0)) rfl h_14 rfl) rfl (X.q rfl ?_)
   iterate 2 refine X.opR (X.on_f rfl rfl rfl h_15) rfl rfl ?_
   refine X.opR rfl (X.ze (y := !decide (y2.2.2 = 0)) rfl h_15 rfl) rfl (X.q rfl ?_)
   iterate 2 refine X.opR (X.on_f rfl rfl rfl h_16) rfl rfl ?_
   refine X.opR rfl (X.ze (y := !decide (y4.2.2 = 0)) rfl h_16 rfl) rfl (X.q rfl ?_)
   iterate 2 refine X.opR (X.on_f rfl rfl rfl h_17) rfl rfl ?_
   refine X.opR rfl (X.ze (y := !decide (y5.2 = 0)) rfl h_17 rfl) rfl (X.q rfl ?_)
   iterate 2 refine X.opR (X.on_f rfl rfl rfl h_18) rfl rfl ?_
   refine X.opR rfl (X.ze (y := !decide (y7.2 = 0)) rfl h_18 rfl) rfl (X.q rfl ?_)
   iterate 2 refine X.opR (X.on_f rfl rfl rfl h_19) rfl rfl ?_
   refine X.opR rfl (X.ze (y := !decide (y9.2.2 = 0)) rfl h_19 rfl) rfl (X.q rfl ?_)
   iterate 2 refine X.off (X.ZT rfl rfl rfl h_20) rfl ?_
   refine X.opR rfl (X.zf (y := !decide (y11.2 = 0)) rfl h_20 rfl) rfl (X.q rfl ?_)
   iterate 3 refine X.off (X.ZT rfl rfl rfl (X.zV h_20)) rfl ?_
   refine X.opR rfl (X.zf (y := !decide ((y7.1.length : Int) = 3)) rfl (X.zV h_20) rfl) rfl (GS.zA ?_)
   exact X.norm _ hg rfl (sr rfl)
  refine X.split (((((((((!decide (y.2 = 0)) || (!decide (y1.2.2 = 0))) || (!decide (y2.2.2 = 0))) || (!decide (y4.2.2 = 0))) || (!decide (y5.2 = 0))) || (!decide (y7.2 = 0))) || (!decide (y9.2.2 = 0))) || (!decide (y11.2 = 0)))) (fun h_21 => ?_) (fun h_21 => ?_)
  ·iterate 3 refine X.q rfl ?_
   iterate 2 refine X.opR (X.on_f rfl rfl rfl h_14) rfl rfl ?_
   refine X.opR rfl (X.ze (y := !decide (y1.2.2 = 0)) rfl h_14 rfl) rfl (X.q rfl ?_)
   iterate 2 refine X.opR (X.on_f rfl rfl rfl h_15) rfl rfl ?_
   refine X.opR rfl (X.ze (y := !decide (y2.2.2 = 0)) rfl h_15 rfl) rfl (X.q rfl ?_)
   iterate 2 refine X.opR (X.on_f rfl rfl rfl h_16) rfl rfl ?_
   refine X.opR rfl (X.ze (y := !decide (y4.2.2 = 0)) rfl h_16 rfl) rfl (X.q rfl ?_)
   iterate 2 refine X.opR (X.on_f rfl rfl rfl h_17) rfl rfl ?_
   refine X.opR rfl (X.ze (y := !decide (y5.2 = 0)) rfl h_17 rfl) rfl (X.q rfl ?_)
   iterate 2 refine X.opR (X.on_f rfl rfl rfl h_18) rfl rfl ?_
   refine X.opR rfl (X.ze (y := !decide (y7.2 = 0)) rfl h_18 rfl) rfl (X.q rfl ?_)
   iterate 2 refine X.opR (X.on_f rfl rfl rfl h_19) rfl rfl ?_
   refine X.opR rfl (X.ze (y := !decide (y9.2.2 = 0)) rfl h_19 rfl) rfl (X.q rfl ?_)
   iterate 2 refine X.opR (X.on_f rfl rfl rfl h_20) rfl rfl ?_
   refine X.opR rfl (X.ze (y := !decide (y11.2 = 0)) rfl h_20 rfl) rfl (X.q rfl ?_)
   iterate 3 refine X.off (X.ZT rfl rfl rfl h_21) rfl ?_
   refine X.opR rfl (X.zf (y := !decide ((y7.1.length : Int) = 3)) rfl h_21 rfl) rfl (GS.zA ?_)
   exact X.norm _ hg rfl (sr rfl)
  iterate 3 refine X.q rfl ?_
  iterate 2 refine X.opR (X.on_f rfl rfl rfl h_14) rfl rfl ?_
  refine X.opR rfl (X.ze (y := !decide (y1.2.2 = 0)) rfl h_14 rfl) rfl (X.q rfl ?_)
  iterate 2 refine X.opR (X.on_f rfl rfl rfl h_15) rfl rfl ?_
  refine X.opR rfl (X.ze (y := !decide (y2.2.2 = 0)) rfl h_15 rfl) rfl (X.q rfl ?_)
  iterate 2 refine X.opR (X.on_f rfl rfl rfl h_16) rfl rfl ?_
  refine X.opR rfl (X.ze (y := !decide (y4.2.2 = 0)) rfl h_16 rfl) rfl (X.q rfl ?_)
  iterate 2 refine X.opR (X.on_f rfl rfl rfl h_17) rfl rfl ?_
  refine X.opR rfl (X.ze (y := !decide (y5.2 = 0)) rfl h_17 rfl) rfl (X.q rfl ?_)
  iterate 2 refine X.opR (X.on_f rfl rfl rfl h_18) rfl rfl ?_
  refine X.opR rfl (X.ze (y := !decide (y7.2 = 0)) rfl h_18 rfl) rfl (X.q rfl ?_)
  iterate 2 refine X.opR (X.on_f rfl rfl rfl h_19) rfl rfl ?_
  refine X.opR rfl (X.ze (y := !decide (y9.2.2 = 0)) rfl h_19 rfl) rfl (X.q rfl ?_)
  iterate 2 refine X.opR (X.on_f rfl rfl rfl h_20) rfl rfl ?_
  refine X.opR rfl (X.ze (y := !decide (y11.2 = 0)) rfl h_20 rfl) rfl (X.q rfl ?_)
  refine X.opR (X.on_f rfl rfl rfl h_21) rfl rfl ?_
  refine X.opR (X.on_f rfl rfl rfl h_21) (X.lenF rfl rfl rfl) rfl ?_
  refine X.opR (X.on_f rfl rfl rfl h_21) rfl rfl ?_
  refine X.opR rfl (X.ze (y := !decide ((y7.1.length : Int) = 3)) rfl h_21 rfl) rfl (GS.zA ?_)
  exact X.norm _ hg rfl (sr rfl)
 refine X.cond rfl (fun h_22 => ?_) (fun h_22 => ?_)
 ·replace hM := za h_22 hM
  refine X.sq (X.q rfl (GS.zA ?_))
  cases hM
  exact GS.ret ⟨_, rfl, ⟨30, rfl⟩⟩
 replace hM := zb h_22 hM
 refine GS.skip (X.sq ?_)
 refine X.mid [(15, (V.sl (List.map zS y7.1))), (17, (V.ptr 2 0 0)), (18, (V.b y9.2.1)), (20, (V.i y11.1)), (22, (V.b (((((((decide (y.1 = 1000)) && y1.2.1) && (decide (y1.1 = 60))) && (!y2.2.1)) && y4.2.1) && (decide (y4.1 = (⟨120, 179⟩ : zD)))) && (decide (y5.1 = 650)))))] ?_ ?_
 ·intro hg
  refine X.split (decide (y.1 = 1000)) (fun h_23 => ?_) (fun h_23 => ?_)
  ·refine X.split (((decide (y.1 = 1000)) && y1.2.1)) (fun h_24 => ?_) (fun h_24 => ?_)
   ·refine X.split ((((decide (y.1 = 1000)) && y1.2.1) && (decide (y1.1 = 60)))) (fun h_25 => ?_) (fun h_25 => ?_)
    ·refine X.split (((((decide (y.1 = 1000)) && y1.2.1) && (decide (y1.1 = 60))) && (!y2.2.1))) (fun h_26 => ?_) (fun h_26 => ?_)
     ·refine X.split ((((((decide (y.1 = 1000)) && y1.2.1) && (decide (y1.1 = 60))) && (!y2.2.1)) && y4.2.1)) (fun h_27 => ?_) (fun h_27 => ?_)
      ·refine X.split (((((((decide (y.1 = 1000)) && y1.2.1) && (decide (y1.1 = 60))) && (!y2.2.1)) && y4.2.1) && (decide (y4.1 = (⟨120, 179⟩ : zD))))) (fun h_28 => ?_) (fun h_28 => ?_)
       ·iterate 3 refine X.q rfl ?_
        refine X.opR (X.on_t rfl rfl rfl h_23) rfl rfl ?_
        refine X.opR rfl (X.zX (y := y1.2.1) rfl h_23 rfl) rfl (X.q rfl ?_)
        iterate 2 refine X.opR (X.on_t rfl rfl rfl h_24) rfl rfl ?_
        refine X.opR rfl (X.zX (y := decide (y1.1 = 60)) rfl h_24 rfl) rfl (X.q rfl ?_)
        iterate 2 refine X.opR (X.on_t rfl rfl rfl h_25) rfl rfl ?_
        refine X.opR rfl (X.zX (y := !y2.2.1) rfl h_25 rfl) rfl (X.q rfl ?_)
        refine X.opR (X.on_t rfl rfl rfl h_26) rfl rfl ?_
        refine X.opR rfl (X.zX (y := y4.2.1) rfl h_26 rfl) rfl (X.q rfl ?_)
        iterate 2 refine X.opR (X.on_t rfl rfl rfl h_27) rfl rfl ?_
        refine X.opR (X.on_t rfl rfl rfl h_27) (X.eqlE (zCq y4.1 (⟨120, 179⟩ : zD)) rfl rfl) rfl ?_
        refine X.opR rfl (X.zX (y := decide (y4.1 = (⟨120, 179⟩ : zD))) rfl h_27 rfl) rfl (X.q rfl ?_)
        iterate 2 refine X.opR (X.on_t rfl rfl rfl h_28) rfl rfl ?_
        refine X.opR rfl (X.zX (y := decide (y5.1 = 650)) rfl h_28 rfl) rfl (X.q rfl (GS.zA ?_))
        exact X.norm _ hg rfl (sr rfl)
       iterate 3 refine X.q rfl ?_
       refine X.opR (X.on_t rfl rfl rfl h_23) rfl rfl ?_
       refine X.opR rfl (X.zX (y := y1.2.1) rfl h_23 rfl) rfl (X.q rfl ?_)
       iterate 2 refine X.opR (X.on_t rfl rfl rfl h_24) rfl rfl ?_
       refine X.opR rfl (X.zX (y := decide (y1.1 = 60)) rfl h_24 rfl) rfl (X.q rfl ?_)
       iterate 2 refine X.opR (X.on_t rfl rfl rfl h_25) rfl rfl ?_
       refine X.opR rfl (X.zX (y := !y2.2.1) rfl h_25 rfl) rfl (X.q rfl ?_)
       refine X.opR (X.on_t rfl rfl rfl h_26) rfl rfl ?_
       refine X.opR rfl (X.zX (y := y4.2.1) rfl h_26 rfl) rfl (X.q rfl ?_)
       iterate 2 refine X.opR (X.on_t rfl rfl rfl h_27) rfl rfl ?_
       refine X.opR (X.on_t rfl rfl rfl h_27) (X.eqlE (zCq y4.1 (⟨120, 179⟩ : zD)) rfl rfl) rfl ?_
       refine X.opR rfl (X.zX (y := decide (y4.1 = (⟨120, 179⟩ : zD))) rfl h_27 rfl) rfl (X.q rfl ?_)
       iterate 2 refine X.off (X.zt rfl rfl rfl h_28) rfl ?_
       refine X.opR rfl (X.zR (y := decide (y5.1 = 650)) rfl h_28 rfl) rfl (X.q rfl (GS.zA ?_))
       exact X.norm _ hg rfl (sr rfl)
      iterate 3 refine X.q rfl ?_
      refine X.opR (X.on_t rfl rfl rfl h_23) rfl rfl ?_
      refine X.opR rfl (X.zX (y := y1.2.1) rfl h_23 rfl) rfl (X.q rfl ?_)
      iterate 2 refine X.opR (X.on_t rfl rfl rfl h_24) rfl rfl ?_
      refine X.opR rfl (X.zX (y := decide (y1.1 = 60)) rfl h_24 rfl) rfl (X.q rfl ?_)
      iterate 2 refine X.opR (X.on_t rfl rfl rfl h_25) rfl rfl ?_
      refine X.opR rfl (X.zX (y := !y2.2.1) rfl h_25 rfl) rfl (X.q rfl ?_)
      refine X.opR (X.on_t rfl rfl rfl h_26) rfl rfl ?_
      refine X.opR rfl (X.zX (y := y4.2.1) rfl h_26 rfl) rfl (X.q rfl ?_)
      iterate 3 refine X.off (X.zt rfl rfl rfl h_27) rfl ?_
      refine X.opR rfl (X.zR (y := decide (y4.1 = (⟨120, 179⟩ : zD))) rfl h_27 rfl) rfl (X.q rfl ?_)
      iterate 2 refine X.off (X.zt rfl rfl rfl (X.zB h_27)) rfl ?_
      refine X.opR rfl (X.zR (y := decide (y5.1 = 650)) rfl (X.zB h_27) rfl) rfl (X.q rfl (GS.zA ?_))
      exact X.norm _ hg rfl (sr rfl)
     iterate 3 refine X.q rfl ?_
     refine X.opR (X.on_t rfl rfl rfl h_23) rfl rfl ?_
     refine X.opR rfl (X.zX (y := y1.2.1) rfl h_23 rfl) rfl (X.q rfl ?_)
     iterate 2 refine X.opR (X.on_t rfl rfl rfl h_24) rfl rfl ?_
     refine X.opR rfl (X.zX (y := decide (y1.1 = 60)) rfl h_24 rfl) rfl (X.q rfl ?_)
     iterate 2 refine X.opR (X.on_t rfl rfl rfl h_25) rfl rfl ?_
     refine X.opR rfl (X.zX (y := !y2.2.1) rfl h_25 rfl) rfl (X.q rfl ?_)
     refine X.off (X.zt rfl rfl rfl h_26) rfl ?_
     refine X.opR rfl (X.zR (y := y4.2.1) rfl h_26 rfl) rfl (X.q rfl ?_)
     iterate 3 refine X.off (X.zt rfl rfl rfl (X.zB h_26)) rfl ?_
     refine X.opR rfl (X.zR (y := decide (y4.1 = (⟨120, 179⟩ : zD))) rfl (X.zB h_26) rfl) rfl (X.q rfl ?_)
     iterate 2 refine X.off (X.zt rfl rfl rfl (X.zB (X.zB h_26))) rfl ?_
     refine X.opR rfl (X.zR (y := decide (y5.1 = 650)) rfl (X.zB (X.zB h_26)) rfl) rfl (X.q rfl (GS.zA ?_))
     exact X.norm _ hg rfl (sr rfl)
    iterate 3 refine X.q rfl ?_
    refine X.opR (X.on_t rfl rfl rfl h_23) rfl rfl ?_
    refine X.opR rfl (X.zX (y := y1.2.1) rfl h_23 rfl) rfl (X.q rfl ?_)
    iterate 2 refine X.opR (X.on_t rfl rfl rfl h_24) rfl rfl ?_
    refine X.opR rfl (X.zX (y := decide (y1.1 = 60)) rfl h_24 rfl) rfl (X.q rfl ?_)
    iterate 2 refine X.off (X.zt rfl rfl rfl h_25) rfl ?_
    refine X.opR rfl (X.zR (y := !y2.2.1) rfl h_25 rfl) rfl (X.q rfl ?_)
    refine X.off (X.zt rfl rfl rfl (X.zB h_25)) rfl ?_
    refine X.opR rfl (X.zR (y := y4.2.1) rfl (X.zB h_25) rfl) rfl (X.q rfl ?_)
    iterate 3 refine X.off (X.zt rfl rfl rfl (X.zB (X.zB h_25))) rfl ?_
    refine X.opR rfl (X.zR (y := decide (y4.1 = (⟨120, 179⟩ : zD))) rfl (X.zB (X.zB h_25)) rfl) rfl (X.q rfl ?_)
    iterate 2 refine X.off (X.zt rfl rfl rfl (X.zB (X.zB (X.zB h_25)))) rfl ?_
    refine X.opR rfl (X.zR (y := decide (y5.1 = 650)) rfl (X.zB (X.zB (X.zB h_25))) rfl) rfl (X.q rfl (GS.zA ?_))
    exact X.norm _ hg rfl (sr rfl)
   iterate 3 refine X.q rfl ?_
   refine X.opR (X.on_t rfl rfl rfl h_23) rfl rfl ?_
   refine X.opR rfl (X.zX (y := y1.2.1) rfl h_23 rfl) rfl (X.q rfl ?_)
   iterate 2 refine X.off (X.zt rfl rfl rfl h_24) rfl ?_
   refine X.opR rfl (X.zR (y := decide (y1.1 = 60)) rfl h_24 rfl) rfl (X.q rfl ?_)
   iterate 2 refine X.off (X.zt rfl rfl rfl (X.zB h_24)) rfl ?_
   refine X.opR rfl (X.zR (y := !y2.2.1) rfl (X.zB h_24) rfl) rfl (X.q rfl ?_)
   refine X.off (X.zt rfl rfl rfl (X.zB (X.zB h_24))) rfl ?_
   refine X.opR rfl (X.zR (y := y4.2.1) rfl (X.zB (X.zB h_24)) rfl) rfl (X.q rfl ?_)
   iterate 3 refine X.off (X.zt rfl rfl rfl (X.zB (X.zB (X.zB h_24)))) rfl ?_
   refine X.opR rfl (X.zR (y := decide (y4.1 = (⟨120, 179⟩ : zD))) rfl (X.zB (X.zB (X.zB h_24))) rfl) rfl (X.q rfl ?_)
   iterate 2 refine X.off (X.zt rfl rfl rfl (X.zB (X.zB (X.zB (X.zB h_24))))) rfl ?_
   refine X.opR rfl (X.zR (y := decide (y5.1 = 650)) rfl (X.zB (X.zB (X.zB (X.zB h_24)))) rfl) rfl (X.q rfl (GS.zA ?_))
   exact X.norm _ hg rfl (sr rfl)
  iterate 3 refine X.q rfl ?_
  refine X.off (X.zt rfl rfl rfl h_23) rfl ?_
  refine X.opR rfl (X.zR (y := y1.2.1) rfl h_23 rfl) rfl (X.q rfl ?_)
  iterate 2 refine X.off (X.zt rfl rfl rfl (X.zB h_23)) rfl ?_
  refine X.opR rfl (X.zR (y := decide (y1.1 = 60)) rfl (X.zB h_23) rfl) rfl (X.q rfl ?_)
  iterate 2 refine X.off (X.zt rfl rfl rfl (X.zB (X.zB h_23))) rfl ?_
  refine X.opR rfl (X.zR (y := !y2.2.1) rfl (X.zB (X.zB h_23)) rfl) rfl (X.q rfl ?_)
  refine X.off (X.zt rfl rfl rfl (X.zB (X.zB (X.zB h_23)))) rfl ?_
  refine X.opR rfl (X.zR (y := y4.2.1) rfl (X.zB (X.zB (X.zB h_23))) rfl) rfl (X.q rfl ?_)
  iterate 3 refine X.off (X.zt rfl rfl rfl (X.zB (X.zB (X.zB (X.zB h_23))))) rfl ?_
  refine X.opR rfl (X.zR (y := decide (y4.1 = (⟨120, 179⟩ : zD))) rfl (X.zB (X.zB (X.zB (X.zB h_23)))) rfl) rfl (X.q rfl ?_)
  iterate 2 refine X.off (X.zt rfl rfl rfl (X.zB (X.zB (X.zB (X.zB (X.zB h_23)))))) rfl ?_
  refine X.opR rfl (X.zR (y := decide (y5.1 = 650)) rfl (X.zB (X.zB (X.zB (X.zB (X.zB h_23))))) rfl) rfl (X.q rfl (GS.zA ?_))
  exact X.norm _ hg rfl (sr rfl)
 refine GS.seq ?_
 replace hM := zCk hM
 obtain ⟨x1, h_29, hM⟩ := hM
 refine GS.region ?_
 refine X.mid [(0, (V.b ((((((((((((decide (y.1 = 1000)) && y1.2.1) && (decide (y1.1 = 60))) && (!y2.2.1)) && y4.2.1) && (decide (y4.1 = (⟨120, 179⟩ : zD)))) && (decide (y5.1 = 650))) && (decide (x1 = (⟨13, (⟨1, 1⟩ : zF), (⟨240, 299⟩ : zD)⟩ : zP)))) && y9.2.1) && (decide ((y9.1.Calls.length : Int) = 5))) && (decide ((y9.1.Slots.length : Int) = 4))) && (decide (y11.1 = 1)))))] ?_ ?_
 ·intro hg
  refine X.split (decide (y.1 = 1000)) (fun h_30 => ?_) (fun h_30 => ?_)
  ·refine X.split (((decide (y.1 = 1000)) && y1.2.1)) (fun h_31 => ?_) (fun h_31 => ?_)
   ·refine X.split ((((decide (y.1 = 1000)) && y1.2.1) && (decide (y1.1 = 60)))) (fun h_32 => ?_) (fun h_32 => ?_)
    ·refine X.split (((((decide (y.1 = 1000)) && y1.2.1) && (decide (y1.1 = 60))) && (!y2.2.1))) (fun h_33 => ?_) (fun h_33 => ?_)
     ·refine X.split ((((((decide (y.1 = 1000)) && y1.2.1) && (decide (y1.1 = 60))) && (!y2.2.1)) && y4.2.1)) (fun h_34 => ?_) (fun h_34 => ?_)
      ·refine X.split (((((((decide (y.1 = 1000)) && y1.2.1) && (decide (y1.1 = 60))) && (!y2.2.1)) && y4.2.1) && (decide (y4.1 = (⟨120, 179⟩ : zD))))) (fun h_35 => ?_) (fun h_35 => ?_)
       ·refine X.split ((((((((decide (y.1 = 1000)) && y1.2.1) && (decide (y1.1 = 60))) && (!y2.2.1)) && y4.2.1) && (decide (y4.1 = (⟨120, 179⟩ : zD)))) && (decide (y5.1 = 650)))) (fun h_36 => ?_) (fun h_36 => ?_)
        ·refine X.split (((((((((decide (y.1 = 1000)) && y1.2.1) && (decide (y1.1 = 60))) && (!y2.2.1)) && y4.2.1) && (decide (y4.1 = (⟨120, 179⟩ : zD)))) && (decide (y5.1 = 650))) && (decide (x1 = (⟨13, (⟨1, 1⟩ : zF), (⟨240, 299⟩ : zD)⟩ : zP))))) (fun h_37 => ?_) (fun h_37 => ?_)
         ·refine X.split ((((((((((decide (y.1 = 1000)) && y1.2.1) && (decide (y1.1 = 60))) && (!y2.2.1)) && y4.2.1) && (decide (y4.1 = (⟨120, 179⟩ : zD)))) && (decide (y5.1 = 650))) && (decide (x1 = (⟨13, (⟨1, 1⟩ : zF), (⟨240, 299⟩ : zD)⟩ : zP)))) && y9.2.1)) (fun h_38 => ?_) (fun h_38 => ?_)
          ·refine X.split (((((((((((decide (y.1 = 1000)) && y1.2.1) && (decide (y1.1 = 60))) && (!y2.2.1)) && y4.2.1) && (decide (y4.1 = (⟨120, 179⟩ : zD)))) && (decide (y5.1 = 650))) && (decide (x1 = (⟨13, (⟨1, 1⟩ : zF), (⟨240, 299⟩ : zD)⟩ : zP)))) && y9.2.1) && (decide ((y9.1.Calls.length : Int) = 5)))) (fun h_39 => ?_) (fun h_39 => ?_)
           ·refine X.split ((((((((((((decide (y.1 = 1000)) && y1.2.1) && (decide (y1.1 = 60))) && (!y2.2.1)) && y4.2.1) && (decide (y4.1 = (⟨120, 179⟩ : zD)))) && (decide (y5.1 = 650))) && (decide (x1 = (⟨13, (⟨1, 1⟩ : zF), (⟨240, 299⟩ : zD)⟩ : zP)))) && y9.2.1) && (decide ((y9.1.Calls.length : Int) = 5))) && (decide ((y9.1.Slots.length : Int) = 4)))) (fun h_40 => ?_) (fun h_40 => ?_)
            ·iterate 2 refine X.q rfl ?_
             refine X.opR (X.on_t rfl rfl rfl h_36) rfl rfl ?_
             refine X.opR (X.on_t rfl rfl rfl h_36) (X.ZJ (f := zS) (h_29 h_36) (fun _ => rfl) rfl rfl rfl rfl) rfl ?_
             refine X.opR (X.on_t rfl rfl rfl h_36) (X.Za (h_29 h_36) rfl rfl rfl) rfl ?_
             iterate 3 refine X.opR (X.on_t rfl rfl rfl h_36) rfl rfl ?_
             refine X.opR (X.on_t rfl rfl rfl h_36) (X.eqlE (Q3 x1 (⟨13, (⟨1, 1⟩ : zF), (⟨240, 299⟩ : zD)⟩ : zP)) rfl rfl) rfl ?_
             refine X.opR rfl (X.zX (y := decide (x1 = (⟨13, (⟨1, 1⟩ : zF), (⟨240, 299⟩ : zD)⟩ : zP))) rfl h_36 rfl) rfl (X.q rfl ?_)
             refine X.opR (X.on_t rfl rfl rfl h_37) rfl rfl ?_
             refine X.opR rfl (X.zX (y := y9.2.1) rfl h_37 rfl) rfl (X.q rfl ?_)
             iterate 2 refine X.opR (X.on_t rfl rfl rfl h_38) rfl rfl ?_
             refine X.opR (X.on_t rfl rfl rfl h_38) (X.lenF rfl rfl rfl) rfl ?_
             refine X.opR (X.on_t rfl rfl rfl h_38) rfl rfl ?_
             refine X.opR rfl (X.zX (y := decide ((y9.1.Calls.length : Int) = 5)) rfl h_38 rfl) rfl (X.q rfl ?_)
             iterate 2 refine X.opR (X.on_t rfl rfl rfl h_39) rfl rfl ?_
             refine X.opR (X.on_t rfl rfl rfl h_39) (X.lenF rfl rfl rfl) rfl ?_
             refine X.opR (X.on_t rfl rfl rfl h_39) rfl rfl ?_
             refine X.opR rfl (X.zX (y := decide ((y9.1.Slots.length : Int) = 4)) rfl h_39 rfl) rfl (X.q rfl ?_)
             iterate 2 refine X.opR (X.on_t rfl rfl rfl h_40) rfl rfl ?_
             refine X.opR rfl (X.zX (y := decide (y11.1 = 1)) rfl h_40 rfl) rfl (X.q rfl (GS.zA ?_))
             exact X.norm _ hg rfl (sr rfl)
            refine X.q rfl (X.q rfl ?_)
            refine X.opR (X.on_t rfl rfl rfl h_36) rfl rfl ?_
            refine X.opR (X.on_t rfl rfl rfl h_36) (X.ZJ (f := zS) (h_29 h_36) (fun _ => rfl) rfl rfl rfl rfl) rfl ?_
            refine X.opR (X.on_t rfl rfl rfl h_36) (X.Za (h_29 h_36) rfl rfl rfl) rfl ?_
            iterate 3 refine X.opR (X.on_t rfl rfl rfl h_36) rfl rfl ?_
            refine X.opR (X.on_t rfl rfl rfl h_36) (X.eqlE (Q3 x1 (⟨13, (⟨1, 1⟩ : zF), (⟨240, 299⟩ : zD)⟩ : zP)) rfl rfl) rfl ?_
            refine X.opR rfl (X.zX (y := decide (x1 = (⟨13, (⟨1, 1⟩ : zF), (⟨240, 299⟩ : zD)⟩ : zP))) rfl h_36 rfl) rfl (X.q rfl ?_)
            refine X.opR (X.on_t rfl rfl rfl h_37) rfl rfl ?_
            refine X.opR rfl (X.zX (y := y9.2.1) rfl h_37 rfl) rfl (X.q rfl ?_)
            iterate 2 refine X.opR (X.on_t rfl rfl rfl h_38) rfl rfl ?_
            refine X.opR (X.on_t rfl rfl rfl h_38) (X.lenF rfl rfl rfl) rfl ?_
            refine X.opR (X.on_t rfl rfl rfl h_38) rfl rfl ?_
            refine X.opR rfl (X.zX (y := decide ((y9.1.Calls.length : Int) = 5)) rfl h_38 rfl) rfl (X.q rfl ?_)
            iterate 2 refine X.opR (X.on_t rfl rfl rfl h_39) rfl rfl ?_
            refine X.opR (X.on_t rfl rfl rfl h_39) (X.lenF rfl rfl rfl) rfl ?_
            refine X.opR (X.on_t rfl rfl rfl h_39) rfl rfl ?_
            refine X.opR rfl (X.zX (y := decide ((y9.1.Slots.length : Int) = 4)) rfl h_39 rfl) rfl (X.q rfl ?_)
            iterate 2 refine X.off (X.zt rfl rfl rfl h_40) rfl ?_
            refine X.opR rfl (X.zR (y := decide (y11.1 = 1)) rfl h_40 rfl) rfl (X.q rfl (GS.zA ?_))
            exact X.norm _ hg rfl (sr rfl)
           refine X.q rfl (X.q rfl ?_)
           refine X.opR (X.on_t rfl rfl rfl h_36) rfl rfl ?_
           refine X.opR (X.on_t rfl rfl rfl h_36) (X.ZJ (f := zS) (h_29 h_36) (fun _ => rfl) rfl rfl rfl rfl) rfl ?_
           refine X.opR (X.on_t rfl rfl rfl h_36) (X.Za (h_29 h_36) rfl rfl rfl) rfl ?_
           iterate 3 refine X.opR (X.on_t rfl rfl rfl h_36) rfl rfl ?_
           refine X.opR (X.on_t rfl rfl rfl h_36) (X.eqlE (Q3 x1 (⟨13, (⟨1, 1⟩ : zF), (⟨240, 299⟩ : zD)⟩ : zP)) rfl rfl) rfl ?_
           refine X.opR rfl (X.zX (y := decide (x1 = (⟨13, (⟨1, 1⟩ : zF), (⟨240, 299⟩ : zD)⟩ : zP))) rfl h_36 rfl) rfl (X.q rfl ?_)
           refine X.opR (X.on_t rfl rfl rfl h_37) rfl rfl ?_
           refine X.opR rfl (X.zX (y := y9.2.1) rfl h_37 rfl) rfl (X.q rfl ?_)
           iterate 2 refine X.opR (X.on_t rfl rfl rfl h_38) rfl rfl ?_
           refine X.opR (X.on_t rfl rfl rfl h_38) (X.lenF rfl rfl rfl) rfl ?_
           refine X.opR (X.on_t rfl rfl rfl h_38) rfl rfl ?_
           refine X.opR rfl (X.zX (y := decide ((y9.1.Calls.length : Int) = 5)) rfl h_38 rfl) rfl (X.q rfl ?_)
           iterate 4 refine X.off (X.zt rfl rfl rfl h_39) rfl ?_
           refine X.opR rfl (X.zR (y := decide ((y9.1.Slots.length : Int) = 4)) rfl h_39 rfl) rfl (X.q rfl ?_)
           iterate 2 refine X.off (X.zt rfl rfl rfl (X.zB h_39)) rfl ?_
           refine X.opR rfl (X.zR (y := decide (y11.1 = 1)) rfl (X.zB h_39) rfl) rfl (X.q rfl (GS.zA ?_))
           exact X.norm _ hg rfl (sr rfl)
          refine X.q rfl (X.q rfl ?_)
          refine X.opR (X.on_t rfl rfl rfl h_36) rfl rfl ?_
          refine X.opR (X.on_t rfl rfl rfl h_36) (X.ZJ (f := zS) (h_29 h_36) (fun _ => rfl) rfl rfl rfl rfl) rfl ?_
          refine X.opR (X.on_t rfl rfl rfl h_36) (X.Za (h_29 h_36) rfl rfl rfl) rfl ?_
          iterate 3 refine X.opR (X.on_t rfl rfl rfl h_36) rfl rfl ?_
          refine X.opR (X.on_t rfl rfl rfl h_36) (X.eqlE (Q3 x1 (⟨13, (⟨1, 1⟩ : zF), (⟨240, 299⟩ : zD)⟩ : zP)) rfl rfl) rfl ?_
          refine X.opR rfl (X.zX (y := decide (x1 = (⟨13, (⟨1, 1⟩ : zF), (⟨240, 299⟩ : zD)⟩ : zP))) rfl h_36 rfl) rfl (X.q rfl ?_)
          refine X.opR (X.on_t rfl rfl rfl h_37) rfl rfl ?_
          refine X.opR rfl (X.zX (y := y9.2.1) rfl h_37 rfl) rfl (X.q rfl ?_)
          iterate 4 refine X.off (X.zt rfl rfl rfl h_38) rfl ?_
          refine X.opR rfl (X.zR (y := decide ((y9.1.Calls.length : Int) = 5)) rfl h_38 rfl) rfl (X.q rfl ?_)
          iterate 4 refine X.off (X.zt rfl rfl rfl (X.zB h_38)) rfl ?_
          refine X.opR rfl (X.zR (y := decide ((y9.1.Slots.length : Int) = 4)) rfl (X.zB h_38) rfl) rfl (X.q rfl ?_)
          iterate 2 refine X.off (X.zt rfl rfl rfl (X.zB (X.zB h_38))) rfl ?_
          refine X.opR rfl (X.zR (y := decide (y11.1 = 1)) rfl (X.zB (X.zB h_38)) rfl) rfl (X.q rfl (GS.zA ?_))
          exact X.norm _ hg rfl (sr rfl)
         refine X.q rfl (X.q rfl ?_)
         refine X.opR (X.on_t rfl rfl rfl h_36) rfl rfl ?_
         refine X.opR (X.on_t rfl rfl rfl h_36) (X.ZJ (f := zS) (h_29 h_36) (fun _ => rfl) rfl rfl rfl rfl) rfl ?_
         refine X.opR (X.on_t rfl rfl rfl h_36) (X.Za (h_29 h_36) rfl rfl rfl) rfl ?_
         iterate 3 refine X.opR (X.on_t rfl rfl rfl h_36) rfl rfl ?_
         refine X.opR (X.on_t rfl rfl rfl h_36) (X.eqlE (Q3 x1 (⟨13, (⟨1, 1⟩ : zF), (⟨240, 299⟩ : zD)⟩ : zP)) rfl rfl) rfl ?_
         refine X.opR rfl (X.zX (y := decide (x1 = (⟨13, (⟨1, 1⟩ : zF), (⟨240, 299⟩ : zD)⟩ : zP))) rfl h_36 rfl) rfl (X.q rfl ?_)
         refine X.off (X.zt rfl rfl rfl h_37) rfl ?_
         refine X.opR rfl (X.zR (y := y9.2.1) rfl h_37 rfl) rfl (X.q rfl ?_)
         iterate 4 refine X.off (X.zt rfl rfl rfl (X.zB h_37)) rfl ?_
         refine X.opR rfl (X.zR (y := decide ((y9.1.Calls.length : Int) = 5)) rfl (X.zB h_37) rfl) rfl (X.q rfl ?_)
         iterate 4 refine X.off (X.zt rfl rfl rfl (X.zB (X.zB h_37))) rfl ?_
         refine X.opR rfl (X.zR (y := decide ((y9.1.Slots.length : Int) = 4)) rfl (X.zB (X.zB h_37)) rfl) rfl (X.q rfl ?_)
         iterate 2 refine X.off (X.zt rfl rfl rfl (X.zB (X.zB (X.zB h_37)))) rfl ?_
         refine X.opR rfl (X.zR (y := decide (y11.1 = 1)) rfl (X.zB (X.zB (X.zB h_37))) rfl) rfl (X.q rfl (GS.zA ?_))
         exact X.norm _ hg rfl (sr rfl)
        refine X.q rfl (X.q rfl ?_)
        iterate 7 refine X.off (X.zt rfl rfl rfl h_36) rfl ?_
        refine X.opR rfl (X.zR (y := decide (x1 = (⟨13, (⟨1, 1⟩ : zF), (⟨240, 299⟩ : zD)⟩ : zP))) rfl h_36 rfl) rfl (X.q rfl ?_)
        refine X.off (X.zt rfl rfl rfl (X.zB h_36)) rfl ?_
        refine X.opR rfl (X.zR (y := y9.2.1) rfl (X.zB h_36) rfl) rfl (X.q rfl ?_)
        iterate 4 refine X.off (X.zt rfl rfl rfl (X.zB (X.zB h_36))) rfl ?_
        refine X.opR rfl (X.zR (y := decide ((y9.1.Calls.length : Int) = 5)) rfl (X.zB (X.zB h_36)) rfl) rfl (X.q rfl ?_)
        iterate 4 refine X.off (X.zt rfl rfl rfl (X.zB (X.zB (X.zB h_36)))) rfl ?_
        refine X.opR rfl (X.zR (y := decide ((y9.1.Slots.length : Int) = 4)) rfl (X.zB (X.zB (X.zB h_36))) rfl) rfl (X.q rfl ?_)
        iterate 2 refine X.off (X.zt rfl rfl rfl (X.zB (X.zB (X.zB (X.zB h_36))))) rfl ?_
        refine X.opR rfl (X.zR (y := decide (y11.1 = 1)) rfl (X.zB (X.zB (X.zB (X.zB h_36)))) rfl) rfl (X.q rfl (GS.zA ?_))
        exact X.norm _ hg rfl (sr rfl)
       refine X.q rfl (X.q rfl ?_)
       iterate 7 refine X.off (X.zt rfl rfl rfl (X.zB h_35)) rfl ?_
       refine X.opR rfl (X.zR (y := decide (x1 = (⟨13, (⟨1, 1⟩ : zF), (⟨240, 299⟩ : zD)⟩ : zP))) rfl (X.zB h_35) rfl) rfl (X.q rfl ?_)
       refine X.off (X.zt rfl rfl rfl (X.zB (X.zB h_35))) rfl ?_
       refine X.opR rfl (X.zR (y := y9.2.1) rfl (X.zB (X.zB h_35)) rfl) rfl (X.q rfl ?_)
       iterate 4 refine X.off (X.zt rfl rfl rfl (X.zB (X.zB (X.zB h_35)))) rfl ?_
       refine X.opR rfl (X.zR (y := decide ((y9.1.Calls.length : Int) = 5)) rfl (X.zB (X.zB (X.zB h_35))) rfl) rfl (X.q rfl ?_)
       iterate 4 refine X.off (X.zt rfl rfl rfl (X.zB (X.zB (X.zB (X.zB h_35))))) rfl ?_
       refine X.opR rfl (X.zR (y := decide ((y9.1.Slots.length : Int) = 4)) rfl (X.zB (X.zB (X.zB (X.zB h_35)))) rfl) rfl (X.q rfl ?_)
       iterate 2 refine X.off (X.zt rfl rfl rfl (X.zB (X.zB (X.zB (X.zB (X.zB h_35)))))) rfl ?_
       refine X.opR rfl (X.zR (y := decide (y11.1 = 1)) rfl (X.zB (X.zB (X.zB (X.zB (X.zB h_35))))) rfl) rfl (X.q rfl (GS.zA ?_))
       exact X.norm _ hg rfl (sr rfl)
      refine X.q rfl (X.q rfl ?_)
      iterate 7 refine X.off (X.zt rfl rfl rfl (X.zB (X.zB h_34))) rfl ?_
      refine X.opR rfl (X.zR (y := decide (x1 = (⟨13, (⟨1, 1⟩ : zF), (⟨240, 299⟩ : zD)⟩ : zP))) rfl (X.zB (X.zB h_34)) rfl) rfl (X.q rfl ?_)
      refine X.off (X.zt rfl rfl rfl (X.zB (X.zB (X.zB h_34)))) rfl ?_
      refine X.opR rfl (X.zR (y := y9.2.1) rfl (X.zB (X.zB (X.zB h_34))) rfl) rfl (X.q rfl ?_)
      iterate 4 refine X.off (X.zt rfl rfl rfl (X.zB (X.zB (X.zB (X.zB h_34))))) rfl ?_
      refine X.opR rfl (X.zR (y := decide ((y9.1.Calls.length : Int) = 5)) rfl (X.zB (X.zB (X.zB (X.zB h_34)))) rfl) rfl (X.q rfl ?_)
      iterate 4 refine X.off (X.zt rfl rfl rfl (X.zB (X.zB (X.zB (X.zB (X.zB h_34)))))) rfl ?_
      refine X.opR rfl (X.zR (y := decide ((y9.1.Slots.length : Int) = 4)) rfl (X.zB (X.zB (X.zB (X.zB (X.zB h_34))))) rfl) rfl (X.q rfl ?_)
      iterate 2 refine X.off (X.zt rfl rfl rfl (X.zB (X.zB (X.zB (X.zB (X.zB (X.zB h_34))))))) rfl ?_
      refine X.opR rfl (X.zR (y := decide (y11.1 = 1)) rfl (X.zB (X.zB (X.zB (X.zB (X.zB (X.zB h_34)))))) rfl) rfl (X.q rfl (GS.zA ?_))
      exact X.norm _ hg rfl (sr rfl)
     refine X.q rfl (X.q rfl ?_)
     iterate 7 refine X.off (X.zt rfl rfl rfl (X.zB (X.zB (X.zB h_33)))) rfl ?_
     refine X.opR rfl (X.zR (y := decide (x1 = (⟨13, (⟨1, 1⟩ : zF), (⟨240, 299⟩ : zD)⟩ : zP))) rfl (X.zB (X.zB (X.zB h_33))) rfl) rfl (X.q rfl ?_)
     refine X.off (X.zt rfl rfl rfl (X.zB (X.zB (X.zB (X.zB h_33))))) rfl ?_
     refine X.opR rfl (X.zR (y := y9.2.1) rfl (X.zB (X.zB (X.zB (X.zB h_33)))) rfl) rfl (X.q rfl ?_)
     iterate 4 refine X.off (X.zt rfl rfl rfl (X.zB (X.zB (X.zB (X.zB (X.zB h_33)))))) rfl ?_
     refine X.opR rfl (X.zR (y := decide ((y9.1.Calls.length : Int) = 5)) rfl (X.zB (X.zB (X.zB (X.zB (X.zB h_33))))) rfl) rfl (X.q rfl ?_)
     iterate 4 refine X.off (X.zt rfl rfl rfl (X.zB (X.zB (X.zB (X.zB (X.zB (X.zB h_33))))))) rfl ?_
     refine X.opR rfl (X.zR (y := decide ((y9.1.Slots.length : Int) = 4)) rfl (X.zB (X.zB (X.zB (X.zB (X.zB (X.zB h_33)))))) rfl) rfl (X.q rfl ?_)
     iterate 2 refine X.off (X.zt rfl rfl rfl (X.zB (X.zB (X.zB (X.zB (X.zB (X.zB (X.zB h_33)))))))) rfl ?_
     refine X.opR rfl (X.zR (y := decide (y11.1 = 1)) rfl (X.zB (X.zB (X.zB (X.zB (X.zB (X.zB (X.zB h_33))))))) rfl) rfl (X.q rfl (GS.zA ?_))
     exact X.norm _ hg rfl (sr rfl)
    refine X.q rfl (X.q rfl ?_)
    iterate 7 refine X.off (X.zt rfl rfl rfl (X.zB (X.zB (X.zB (X.zB h_32))))) rfl ?_
    refine X.opR rfl (X.zR (y := decide (x1 = (⟨13, (⟨1, 1⟩ : zF), (⟨240, 299⟩ : zD)⟩ : zP))) rfl (X.zB (X.zB (X.zB (X.zB h_32)))) rfl) rfl (X.q rfl ?_)
    refine X.off (X.zt rfl rfl rfl (X.zB (X.zB (X.zB (X.zB (X.zB h_32)))))) rfl ?_
    refine X.opR rfl (X.zR (y := y9.2.1) rfl (X.zB (X.zB (X.zB (X.zB (X.zB h_32))))) rfl) rfl (X.q rfl ?_)
    iterate 4 refine X.off (X.zt rfl rfl rfl (X.zB (X.zB (X.zB (X.zB (X.zB (X.zB h_32))))))) rfl ?_
    refine X.opR rfl (X.zR (y := decide ((y9.1.Calls.length : Int) = 5)) rfl (X.zB (X.zB (X.zB (X.zB (X.zB (X.zB h_32)))))) rfl) rfl (X.q rfl ?_)
    iterate 4 refine X.off (X.zt rfl rfl rfl (X.zB (X.zB (X.zB (X.zB (X.zB (X.zB (X.zB h_32)))))))) rfl ?_
    refine X.opR rfl (X.zR (y := decide ((y9.1.Slots.length : Int) = 4)) rfl (X.zB (X.zB (X.zB (X.zB (X.zB (X.zB (X.zB h_32))))))) rfl) rfl (X.q rfl ?_)
    iterate 2 refine X.off (X.zt rfl rfl rfl (X.zB (X.zB (X.zB (X.zB (X.zB (X.zB (X.zB (X.zB h_32))))))))) rfl ?_
    refine X.opR rfl (X.zR (y := decide (y11.1 = 1)) rfl (X.zB (X.zB (X.zB (X.zB (X.zB (X.zB (X.zB (X.zB h_32)))))))) rfl) rfl (X.q rfl (GS.zA ?_))
    exact X.norm _ hg rfl (sr rfl)
   refine X.q rfl (X.q rfl ?_)
   iterate 7 refine X.off (X.zt rfl rfl rfl (X.zB (X.zB (X.zB (X.zB (X.zB h_31)))))) rfl ?_
   refine X.opR rfl (X.zR (y := decide (x1 = (⟨13, (⟨1, 1⟩ : zF), (⟨240, 299⟩ : zD)⟩ : zP))) rfl (X.zB (X.zB (X.zB (X.zB (X.zB h_31))))) rfl) rfl (X.q rfl ?_)
   refine X.off (X.zt rfl rfl rfl (X.zB (X.zB (X.zB (X.zB (X.zB (X.zB h_31))))))) rfl ?_
   refine X.opR rfl (X.zR (y := y9.2.1) rfl (X.zB (X.zB (X.zB (X.zB (X.zB (X.zB h_31)))))) rfl) rfl (X.q rfl ?_)
   iterate 4 refine X.off (X.zt rfl rfl rfl (X.zB (X.zB (X.zB (X.zB (X.zB (X.zB (X.zB h_31)))))))) rfl ?_
   refine X.opR rfl (X.zR (y := decide ((y9.1.Calls.length : Int) = 5)) rfl (X.zB (X.zB (X.zB (X.zB (X.zB (X.zB (X.zB h_31))))))) rfl) rfl (X.q rfl ?_)
   iterate 4 refine X.off (X.zt rfl rfl rfl (X.zB (X.zB (X.zB (X.zB (X.zB (X.zB (X.zB (X.zB h_31))))))))) rfl ?_
   refine X.opR rfl (X.zR (y := decide ((y9.1.Slots.length : Int) = 4)) rfl (X.zB (X.zB (X.zB (X.zB (X.zB (X.zB (X.zB (X.zB h_31)))))))) rfl) rfl (X.q rfl ?_)
   iterate 2 refine X.off (X.zt rfl rfl rfl (X.zB (X.zB (X.zB (X.zB (X.zB (X.zB (X.zB (X.zB (X.zB h_31)))))))))) rfl ?_
   refine X.opR rfl (X.zR (y := decide (y11.1 = 1)) rfl (X.zB (X.zB (X.zB (X.zB (X.zB (X.zB (X.zB (X.zB (X.zB h_31))))))))) rfl) rfl (X.q rfl (GS.zA ?_))
   exact X.norm _ hg rfl (sr rfl)
  refine X.q rfl (X.q rfl ?_)
  iterate 7 refine X.off (X.zt rfl rfl rfl (X.zB (X.zB (X.zB (X.zB (X.zB (X.zB h_30))))))) rfl ?_
  refine X.opR rfl (X.zR (y := decide (x1 = (⟨13, (⟨1, 1⟩ : zF), (⟨240, 299⟩ : zD)⟩ : zP))) rfl (X.zB (X.zB (X.zB (X.zB (X.zB (X.zB h_30)))))) rfl) rfl (X.q rfl ?_)
  refine X.off (X.zt rfl rfl rfl (X.zB (X.zB (X.zB (X.zB (X.zB (X.zB (X.zB h_30)))))))) rfl ?_
  refine X.opR rfl (X.zR (y := y9.2.1) rfl (X.zB (X.zB (X.zB (X.zB (X.zB (X.zB (X.zB h_30))))))) rfl) rfl (X.q rfl ?_)
  iterate 4 refine X.off (X.zt rfl rfl rfl (X.zB (X.zB (X.zB (X.zB (X.zB (X.zB (X.zB (X.zB h_30))))))))) rfl ?_
  refine X.opR rfl (X.zR (y := decide ((y9.1.Calls.length : Int) = 5)) rfl (X.zB (X.zB (X.zB (X.zB (X.zB (X.zB (X.zB (X.zB h_30)))))))) rfl) rfl (X.q rfl ?_)
  iterate 4 refine X.off (X.zt rfl rfl rfl (X.zB (X.zB (X.zB (X.zB (X.zB (X.zB (X.zB (X.zB (X.zB h_30)))))))))) rfl ?_
  refine X.opR rfl (X.zR (y := decide ((y9.1.Slots.length : Int) = 4)) rfl (X.zB (X.zB (X.zB (X.zB (X.zB (X.zB (X.zB (X.zB (X.zB h_30))))))))) rfl) rfl (X.q rfl ?_)
  iterate 2 refine X.off (X.zt rfl rfl rfl (X.zB (X.zB (X.zB (X.zB (X.zB (X.zB (X.zB (X.zB (X.zB (X.zB h_30))))))))))) rfl ?_
  refine X.opR rfl (X.zR (y := decide (y11.1 = 1)) rfl (X.zB (X.zB (X.zB (X.zB (X.zB (X.zB (X.zB (X.zB (X.zB (X.zB h_30)))))))))) rfl) rfl (X.q rfl (GS.zA ?_))
  exact X.norm _ hg rfl (sr rfl)
 cases hM
 exact GS.ret ⟨_, rfl, ⟨30, rfl⟩⟩
theorem zFe (s : zP) : Ct Tryz.prog 109 [(zS s)] (V.i (qM s)) := by
 refine zg ZR rfl ?_
 generalize hM : qM s = r
 unfold qM at hM
 refine X.sq ?_
 refine X.opW rfl rfl rfl rfl (X.q rfl (X.nq (X.q rfl (X.q rfl (X.q rfl ?_)))))
 refine GS.zA ?_
 subst hM
 exact GS.ret ⟨_, rfl, ⟨30, rfl⟩⟩
theorem Yk (x : zP) (c : Int) : Ct Tryz.prog 134 [(zS x), (V.fptr [(V.fn 109 [])] 0 0), (V.fptr [(V.i c)] 0 0)] (V.b (Zx x c)) := by
 refine zg ZR rfl ?_
 generalize hM : Zx x c = r
 unfold Zx at hM
 refine X.sq ?_
 refine X.opW rfl rfl rfl rfl (X.q rfl (GS.zA (GS.seq ?_)))
 refine X.drawc (by kernel_rfl) rfl ?_
 iterate 2 refine X.cop rfl rfl rfl rfl ?_
 refine X.ccall (zFe x) rfl rfl rfl rfl (.cons (.shut (n := 9) rfl) .nil) ?_
 iterate 3 refine X.cop rfl rfl rfl rfl ?_
 refine X.cnil ?_
 refine X.norm [(4, (V.b (decide ((qM x) = c))))] ?_ rfl (sr rfl)
 subst hM
 exact GS.ret ⟨_, rfl, ⟨30, rfl⟩⟩
theorem jT {s : (List zP)} {c : Int} {r : Int} (hM : ZE s c = some r) : Ct Tryz.prog 133 [(V.sl (List.map zS s)), (V.fn 134 [(V.fptr [(V.fn 109 [])] 0 0), (V.fptr [(V.i c)] 0 0)])] (V.i r) := by
 refine zg ZR rfl ?_
 unfold ZE at hM
 refine X.sq (X.q rfl (GS.zA (GS.seq (X.sq (X.q rfl ?_)))))
 refine X.opR rfl (X.lenF rfl rfl rfl) rfl (X.q rfl (GS.zA ?_))
 refine X.join (τ := Unit) (fun v => zy = some r) (fun v => ⟨[], [], 0, none, 19⟩) ?_ ?_
 ·intro _ hM
  replace hM : zy = some r := hM
  unfold zy at hM
  refine X.sq (X.q rfl (GS.zA ?_))
  cases hM
  exact GS.ret ⟨_, rfl, ⟨30, rfl⟩⟩
 intro hj_1
 refine GS.block ?_
 refine X.gc [] (X.loop (σ := Int) (fun v => ⟨[(0, (V.sl (List.map zS s))), (1, (V.fn 134 [(V.fptr [(V.fn 109 [])] 0 0), (V.fptr [(V.i c)] 0 0)])), (7, (V.i (s.length : Int))), (8, (V.i v))], [], 0, none, 19⟩) hM ?_ rfl) rfl rfl rfl (ga rfl rfl) (zM)
 intro x1 b_1 hM hc_2 hr_1
 rw [zo] at hM
 refine X.sq (X.q rfl (GS.zA (GS.seq ?_)))
 refine X.cond rfl (fun h_1 => ?_) (fun h_1 => ?_)
 ·replace hM := za h_1 hM
  refine GS.skip (GS.seq (GS.block (X.sq (X.q rfl (X.q rfl ?_)))))
  refine GS.zA (GS.seq ?_)
  obtain ⟨x, h_2, hM⟩ := zI hM
  refine GS.region (X.q rfl (X.q rfl (X.q rfl ?_)))
  refine X.opR rfl (X.ZJ (f := zS) h_2 (fun _ => rfl) rfl rfl rfl rfl) rfl ?_
  refine X.opR rfl (X.Za h_2 rfl rfl rfl) rfl ?_
  refine X.call (Yk x c) rfl rfl rfl (.cons (.shut (n := 9) rfl) (.cons (.shut (n := 9) rfl) (.cons (.shut (n := 9) rfl) .nil))) (GS.zA ?_)
  refine X.cond rfl (fun h_3 => ?_) (fun h_3 => ?_)
  ·replace hM := za h_3 hM
   refine X.sq (X.q rfl (X.q rfl ?_))
   refine GS.zA ?_
   have hE := Option.some.inj hM
   replace hE := hr_1 _ hE.symm
   subst hE
   exact GS.ret ⟨_, rfl, ⟨30, rfl⟩⟩
  replace hM := zb h_3 hM
  refine GS.skip ?_
  refine GS.endB (GS.region ?_)
  refine X.opR rfl (X.addE rfl rfl) rfl (X.q rfl (GS.zA ?_))
  have hE := Option.some.inj hM
  exact X.gc [] (hc_2 (w64 (x1 + 1)) hE.symm) rfl rfl rfl (ga rfl rfl) (zM)
 replace hM := zb h_1 hM
 refine GS.exit rfl ?_
 obtain ⟨y_1, hM, hy⟩ := ZV hM
 rw [hr_1 _ hy.symm] at hM
 exact X.gc [] (hj_1 () hM) rfl rfl rfl (yD) (zM)
theorem Y7 {l : (List zP)} {id : Int} {r : Int} (hM : Zj l id = some r) : Ct Tryz.prog 108 [(V.sl (List.map zS l)), (V.i id), (V.fn 109 [])] (V.i r) := by
 refine zg ZR rfl ?_
 unfold Zj at hM
 refine X.sq ?_
 iterate 2 refine X.opW rfl rfl rfl rfl ?_
 refine X.q rfl (GS.zA (GS.seq ?_))
 obtain ⟨y, h_1, hM⟩ := zI hM
 refine GS.region (X.q rfl (X.q rfl ?_))
 refine X.zCF (jT h_1) rfl rfl rfl (m := 9) rfl (.cons (.shut (n := 9) rfl) (.cons (FR.arg ⟨30, rfl⟩) .nil)) (X.q rfl (GS.zA ?_))
 cases hM
 exact GS.ret ⟨_, rfl, ⟨30, rfl⟩⟩
theorem zBL {l : (List zP)} {id : Int} {r : zP × Bool} (hM : Qs l id = some r) : Ct Tryz.prog 77 [(V.sl (List.map zS l)), (V.i id)] (V.tup [(zS r.1), (V.b r.2)]) := by
 refine zg ZR rfl ?_
 unfold Qs at hM
 refine X.sq ?_
 refine X.opW rfl rfl rfl rfl (X.q rfl (GS.zA (GS.seq ?_)))
 obtain ⟨y, h_1, hM⟩ := zI hM
 refine GS.region (X.q rfl (X.q rfl ?_))
 refine X.call (Y7 h_1) rfl rfl rfl (.cons (.shut (n := 9) rfl) (.cons (.shut (n := 9) rfl) (.cons (.shut (n := 9) rfl) .nil))) (X.q rfl (GS.zA (GS.seq (X.sq (X.q rfl (X.q rfl ?_))))))
 refine GS.zA ?_
 refine X.cond rfl (fun h_2 => ?_) (fun h_2 => ?_)
 ·replace hM := za h_2 hM
  refine X.sq (X.q rfl ?_)
  refine X.op0W rfl rfl rfl (X.q rfl (GS.zA ?_))
  cases hM
  exact GS.ret ⟨_, rfl, ⟨30, rfl⟩⟩
 replace hM := zb h_2 hM
 refine GS.skip (GS.seq ?_)
 obtain ⟨x, h_3, hM⟩ := zI hM
 refine GS.region (X.q rfl (X.q rfl ?_))
 refine X.opR rfl (X.ZJ (f := zS) h_3 (fun _ => rfl) rfl rfl rfl rfl) rfl ?_
 refine X.opR rfl (X.Za h_3 rfl rfl rfl) rfl ?_
 refine X.op0W rfl rfl rfl (X.q rfl (GS.zA ?_))
 cases hM
 exact GS.ret ⟨_, rfl, ⟨30, rfl⟩⟩
theorem zBK {s : (List zF)} {v_ : zF} {r : Int} (hM : jw s v_ = some r) : Ct Tryz.prog 78 [(V.sl (List.map zC s)), (zC v_)] (V.i r) := by
 refine zg ZR rfl ?_
 unfold jw at hM
 refine X.sq ?_
 refine X.opW rfl rfl rfl rfl (X.q rfl (GS.zA (GS.seq (X.sq (X.q rfl ?_)))))
 refine X.opR rfl (X.lenF rfl rfl rfl) rfl (X.q rfl (GS.zA ?_))
 refine X.join (τ := Unit) (fun v => JC = some r) (fun v => ⟨[], [], 0, none, 19⟩) ?_ ?_
 ·intro _ hM
  replace hM : JC = some r := hM
  unfold JC at hM
  refine X.sq (X.q rfl (GS.zA ?_))
  cases hM
  exact GS.ret ⟨_, rfl, ⟨30, rfl⟩⟩
 intro hj_1
 refine GS.block ?_
 refine X.gc [some 0] (X.loop (σ := Int) (fun v => ⟨[(0, (V.sl (List.map zC s))), (3, (V.ptr 0 0 0)), (7, (V.i (s.length : Int))), (8, (V.i v))], [.rows 2 [(zC v_)]], 0, none, 19⟩) hM ?_ rfl) rfl rfl rfl (ga rfl rfl) (gb9 rfl rfl rfl zM)
 intro x1 b_1 hM hc_2 hr_1
 rw [jQ] at hM
 refine X.sq (X.q rfl (GS.zA (GS.seq ?_)))
 refine X.cond rfl (fun h_1 => ?_) (fun h_1 => ?_)
 ·replace hM := za h_1 hM
  refine GS.skip (GS.seq (GS.block (X.sq (X.q rfl (X.q rfl ?_)))))
  refine GS.zA (GS.seq ?_)
  obtain ⟨x, h_2, hM⟩ := zI hM
  refine X.drawc (by kernel_rfl) rfl ?_
  iterate 3 refine X.cop rfl rfl rfl rfl ?_
  refine X.cop rfl (X.ZJ (f := zC) h_2 (fun _ => rfl) rfl rfl rfl rfl) rfl rfl ?_
  refine X.cop rfl (X.Za h_2 rfl rfl rfl) rfl rfl ?_
  refine X.cop rfl (X.eqlE (zCr v_ x) rfl rfl) rfl rfl ?_
  refine X.cnil ?_
  refine X.norm [(0, (V.sl (List.map zC s))), (3, (V.ptr 0 0 0)), (5, (V.i x1)), (7, (V.i (s.length : Int))), (8, (V.i x1)), (16, (V.b (decide (v_ = x))))] ?_ rfl (sr rfl)
  refine X.cond rfl (fun h_3 => ?_) (fun h_3 => ?_)
  ·replace hM := za h_3 hM
   refine X.sq (X.q rfl (X.q rfl ?_))
   refine GS.zA ?_
   have hE := Option.some.inj hM
   replace hE := hr_1 _ hE.symm
   subst hE
   exact GS.ret ⟨_, rfl, ⟨30, rfl⟩⟩
  replace hM := zb h_3 hM
  refine GS.skip ?_
  refine GS.endB (GS.region ?_)
  refine X.opR rfl (X.addE rfl rfl) rfl (X.q rfl (GS.zA ?_))
  have hE := Option.some.inj hM
  exact X.gc [some 0] (hc_2 (w64 (x1 + 1)) hE.symm) rfl rfl rfl (ga rfl rfl) (gb9 rfl rfl rfl zM)
 replace hM := zb h_1 hM
 refine GS.exit rfl ?_
 obtain ⟨y_1, hM, hy⟩ := ZV hM
 rw [hr_1 _ hy.symm] at hM
 exact X.gc [] (hj_1 () hM) rfl rfl rfl (yD) (zM)
end Go.Proofs.YtnkngglimidldaaGreat
