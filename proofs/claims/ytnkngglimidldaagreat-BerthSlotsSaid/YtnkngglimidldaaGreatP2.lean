/- The program's functions compute the plain ones. Conditions: none. Printed by a program (wip/tools/xg.py). -/
import Derived.Test.YtnkngglimidldaaGreatP1
set_option linter.unusedVariables false
set_option linter.unusedSimpArgs false
namespace Go.Proofs.YtnkngglimidldaaGreat
open Go Go.Am Go.Proofs Go.Mx
set_option maxHeartbeats 4000000 in
theorem ok_berth_assign {cost : (List (List Int))} {places : Int} {r : (List Int) × Int} (hM : berth_assign cost places = some r) : Ct Tryz.prog 101 [(V.sl (List.map (fun l => V.sl (List.map V.i l)) cost)), (V.i places)] (V.tup [(V.sl (List.map V.i r.1)), (V.i r.2)]) := by
 refine ct_of_gs CC_ok rfl ?_
 unfold berth_assign at hM
 refine X.sq (X.q rfl (X.q rfl ?_))
 refine GS.opsNil (GS.seq ?_)
 obtain ⟨l, h_1, hM⟩ := bind_of hM
 refine GS.region (X.q rfl ?_)
 refine X.opR rfl (X.lenF rfl rfl rfl) rfl ?_
 refine X.opR rfl (X.addE rfl rfl) rfl ?_
 refine X.opW rfl (X.makeS (f := V.i) h_1 rfl rfl rfl rfl rfl rfl rfl rfl) rfl rfl (X.q rfl (GS.opsNil (GS.seq ?_)))
 obtain ⟨l1, h_2, hM⟩ := bind_of hM
 refine GS.region (X.q rfl ?_)
 refine X.opR rfl (X.addE rfl rfl) rfl ?_
 refine X.opW rfl (X.makeS (f := V.i) h_2 rfl rfl rfl rfl rfl rfl rfl rfl) rfl rfl (X.q rfl (GS.opsNil (GS.seq ?_)))
 obtain ⟨l2, h_3, hM⟩ := bind_of hM
 refine GS.region (X.q rfl ?_)
 refine X.opR rfl (X.addE rfl rfl) rfl ?_
 refine X.opW rfl (X.makeS (f := V.i) h_3 rfl rfl rfl rfl rfl rfl rfl rfl) rfl rfl (X.q rfl (GS.opsNil (GS.seq (X.sq (X.q rfl (GS.opsNil ?_))))))
 refine X.join (τ := (List Int)) (fun v => berth_assign_j1 cost places v = some r) (fun v => ⟨[(0, (V.sl (List.map (fun l => V.sl (List.map V.i l)) cost))), (1, (V.i places)), (8, (V.osl 0 0 (List.length v)))], [.rows 1 (List.map V.i v)], 0, none, 215⟩) ?_ ?_
 ·intro l3 hM
  replace hM : berth_assign_j1 cost places l3 = some r := hM
  unfold berth_assign_j1 at hM
  refine GS.seq ?_
  obtain ⟨l4, h_4, hM⟩ := bind_of hM
  refine GS.region (X.q rfl ?_)
  refine X.opR rfl (X.lenF rfl rfl rfl) rfl ?_
  refine X.opW rfl (X.makeS (f := V.i) h_4 rfl rfl rfl rfl rfl rfl rfl rfl) rfl rfl (X.q rfl (X.nq (X.q rfl (GS.opsNil (GS.seq (X.sq (X.q rfl (GS.opsNil ?_))))))))
  refine X.join (τ := Int × (List Int)) (fun v => berth_assign_j2 v.1 v.2 = some r) (fun v => ⟨[(21, (V.osl 0 0 (List.length v.2))), (22, (V.i v.1))], [.rows 1 (List.map V.i v.2)], 0, none, 215⟩) ?_ ?_
  ·rintro ⟨sum, l5⟩ hM
   replace hM : berth_assign_j2 sum l5 = some r := hM
   unfold berth_assign_j2 at hM
   refine X.sq ?_
   iterate 4 refine X.q rfl ?_
   refine GS.opsNil ?_
   have hE := Option.some.inj hM
   subst hE
   exact GS.ret ⟨_, rfl, FR.tup (.cons (FR.osl (f := V.i) (l := l5) 9 rfl rfl (fun _ => rfl)) (.cons ⟨30, rfl⟩ .nil))⟩
  intro hj_2
  refine GS.block ?_
  refine X.gc [some 0, some 1] (X.loop (σ := (Int × Int × (List Int))) (fun v => ⟨[(0, (V.sl (List.map (fun l => V.sl (List.map V.i l)) cost))), (1, (V.i places)), (8, (V.osl 0 0 (List.length l3))), (21, (V.osl 1 0 (List.length v.2.2))), (22, (V.i v.1)), (23, (V.i v.2.1))], [.rows 1 (List.map V.i l3), .rows 1 (List.map V.i v.2.2)], 0, none, 215⟩) hM ?_ rfl) rfl rfl rfl (ga rfl rfl) (gb_rows 9 rfl rfl (fun _ => rfl) (gb_rows 9 rfl rfl (fun _ => rfl) gb_nil))
  rintro ⟨sum2, k, l7⟩ b_1 hM hc_3 hr_1
  rw [berth_assign_b3] at hM
  refine GS.seq (X.sq (X.q rfl (X.q rfl (X.q rfl ?_))))
  refine GS.opsNil ?_
  refine X.cond rfl (fun h_5 => ?_) (fun h_5 => ?_)
  ·replace hM := ite_t h_5 hM
   refine GS.skip (GS.seq ?_)
   refine X.join (τ := Int × (List Int)) (fun v => berth_assign_j4 k v.1 v.2 = some b_1) (fun v => ⟨[(0, (V.sl (List.map (fun l => V.sl (List.map V.i l)) cost))), (1, (V.i places)), (8, (V.osl 0 0 (List.length l3))), (21, (V.osl 1 0 (List.length v.2))), (22, (V.i v.1)), (23, (V.i k))], [.rows 1 (List.map V.i l3), .rows 1 (List.map V.i v.2)], 0, none, 215⟩) ?_ ?_
   ·rintro ⟨sum1, l6⟩ hM
    replace hM : berth_assign_j4 k sum1 l6 = some b_1 := hM
    unfold berth_assign_j4 at hM
    refine GS.region (X.q rfl ?_)
    refine X.opR rfl (X.addE rfl rfl) rfl (X.q rfl (GS.opsNil ?_))
    have hE := Option.some.inj hM
    exact X.gc [some 0, some 1] (hc_3 (sum1, w64 (k + 1), l6) hE.symm) rfl rfl rfl (ga rfl rfl) (gb_rows 9 rfl rfl (fun _ => rfl) (gb_rows 9 rfl rfl (fun _ => rfl) gb_nil))
   intro hj_4
   refine GS.block (GS.seq ?_)
   obtain ⟨x, h_6, hM⟩ := bind_of hM
   refine GS.region (X.q rfl (X.q rfl ?_))
   refine X.opR rfl (X.indexO h_6 rfl rfl rfl rfl rfl) rfl ?_
   refine X.opR rfl (X.loadO h_6 rfl rfl rfl rfl) rfl (X.q rfl (GS.opsNil ?_))
   refine X.cond rfl (fun h_7 => ?_) (fun h_7 => ?_)
   ·replace hM := ite_t h_7 hM
    refine GS.seq ?_
    obtain ⟨x1, h_8, hM⟩ := bind_of hM
    obtain ⟨x2, h_9, hM⟩ := bind_of hM
    refine GS.region (X.q rfl (X.q rfl (X.q rfl ?_)))
    refine X.opR rfl (X.indexO h_8 rfl rfl rfl rfl rfl) rfl ?_
    refine X.opR rfl (X.loadO h_8 rfl rfl rfl rfl) rfl ?_
    refine X.opR rfl (X.subE rfl rfl) rfl (X.q rfl ?_)
    refine X.opR rfl (X.subE rfl rfl) rfl ?_
    refine X.opR rfl (X.indexO h_9 rfl rfl rfl rfl rfl) rfl ?_
    refine X.op0W rfl (X.storeO (b := w64 (k - 1)) h_9 rfl rfl rfl rfl rfl rfl rfl) rfl (GS.opsNil ?_)
    obtain ⟨x3, h_10, hM⟩ := bind_of hM
    obtain ⟨x4, h_11, hM⟩ := bind_of hM
    obtain ⟨x5, h_12, hM⟩ := bind_of hM
    refine GS.region ?_
    iterate 4 refine X.q rfl ?_
    refine X.opR rfl (X.indexO h_10 rfl rfl rfl rfl rfl) rfl ?_
    refine X.opR rfl (X.loadO h_10 rfl rfl rfl rfl) rfl ?_
    refine X.opR rfl (X.subE rfl rfl) rfl ?_
    refine X.opR rfl (X.indexF (f := (fun l => V.sl (List.map V.i l))) h_11 (fun _ => rfl) rfl rfl rfl rfl) rfl ?_
    refine X.opR rfl (X.loadF h_11 rfl rfl rfl) rfl (X.q rfl ?_)
    refine X.opR rfl (X.subE rfl rfl) rfl ?_
    refine X.opR rfl (X.indexF (f := V.i) h_12 (fun _ => rfl) rfl rfl rfl rfl) rfl ?_
    refine X.opR rfl (X.loadF h_12 rfl rfl rfl) rfl ?_
    refine X.opR rfl (X.addE rfl rfl) rfl (X.q rfl (GS.opsNil ?_))
    refine GS.endB ?_
    exact X.gc [some 0, some 1] (hj_4 (w64 (sum2 + x5), (put l7 (w64 (x1 - 1)) (w64 (k - 1)))) hM) rfl rfl rfl (gk_cons rfl ⟨9, rfl⟩ (gk_cons rfl ⟨9, rfl⟩ (gk_cons rfl ⟨9, rfl⟩ (gk_cons rfl (rv_eq X.osl_put ⟨9, rfl⟩) (ga rfl rfl))))) (gb_rows 9 rfl rfl (fun _ => rfl) (gb_rows 9 rfl rfl (fun _ => rfl) gb_nil))
   replace hM := ite_f h_7 hM
   refine GS.skip ?_
   refine GS.endB ?_
   exact X.gc [some 0, some 1] (hj_4 (sum2, l7) hM) rfl rfl rfl (ga rfl rfl) (gb_rows 9 rfl rfl (fun _ => rfl) (gb_rows 9 rfl rfl (fun _ => rfl) gb_nil))
  replace hM := ite_f h_5 hM
  refine GS.exit rfl ?_
  obtain ⟨y_1, hM, hy⟩ := map_of hM
  rw [hr_1 _ hy.symm] at hM
  exact X.gc [some 1] (hj_2 (sum2, l7) hM) rfl rfl rfl (ga rfl rfl) (gb_rows 9 rfl rfl (fun _ => rfl) gb_nil)
 intro hj_1
 refine GS.block ?_
 refine X.gc [some 0, some 1, some 2] (X.loop (σ := (Int × (List Int) × (List Int) × (List Int))) (fun v => ⟨[(0, (V.sl (List.map (fun l => V.sl (List.map V.i l)) cost))), (1, (V.i places)), (6, (V.osl 0 0 (List.length v.2.1))), (7, (V.osl 1 0 (List.length v.2.2.1))), (8, (V.osl 2 0 (List.length v.2.2.2))), (9, (V.i v.1))], [.rows 1 (List.map V.i v.2.1), .rows 1 (List.map V.i v.2.2.1), .rows 1 (List.map V.i v.2.2.2)], 0, none, 215⟩) hM ?_ rfl) rfl rfl rfl (ga rfl rfl) (gb_rows 9 rfl rfl (fun _ => rfl) (gb_rows 9 rfl rfl (fun _ => rfl) (gb_rows 9 rfl rfl (fun _ => rfl) gb_nil)))
 rintro ⟨i, l40, l41, l42⟩ b_1 hM hc_5 hr_1
 rw [berth_assign_b5] at hM
 refine GS.seq (X.sq (X.q rfl (X.q rfl ?_)))
 refine X.opR rfl (X.lenF rfl rfl rfl) rfl (X.q rfl (GS.opsNil ?_))
 refine X.cond rfl (fun h_13 => ?_) (fun h_13 => ?_)
 ·replace hM := ite_t h_13 hM
  refine GS.skip (GS.seq (GS.block ?_))
  refine GS.scope (GS.seq ?_)
  obtain ⟨x6, h_14, hM⟩ := bind_of hM
  refine GS.region (X.q rfl (X.q rfl ?_))
  refine X.opR rfl (X.indexO h_14 rfl rfl rfl rfl rfl) rfl ?_
  refine X.op0W rfl (X.storeO (b := i) h_14 rfl rfl rfl rfl rfl rfl rfl) rfl (X.nq (X.q rfl (GS.opsNil (GS.seq ?_))))
  obtain ⟨l8, h_15, hM⟩ := bind_of hM
  refine GS.region (X.q rfl ?_)
  refine X.opR rfl (X.addE rfl rfl) rfl ?_
  refine X.opW (H' := [.rows 1 (List.map V.i l40), .rows 1 (List.map V.i l41), .rows 1 (List.map V.i (put l42 0 i)), .rows 1 (List.map V.i l8)]) rfl (X.makeS (f := V.i) h_15 rfl rfl rfl rfl rfl rfl rfl rfl) rfl rfl (X.q rfl (GS.opsNil (GS.seq ?_)))
  obtain ⟨l9, h_16, hM⟩ := bind_of hM
  refine GS.region (X.q rfl ?_)
  refine X.opR rfl (X.addE rfl rfl) rfl ?_
  refine X.opW (H' := [.rows 1 (List.map V.i l40), .rows 1 (List.map V.i l41), .rows 1 (List.map V.i (put l42 0 i)), .rows 1 (List.map V.i l8), .rows 1 (List.map V.i l9)]) rfl (X.makeS (f := V.i) h_16 rfl rfl rfl rfl rfl rfl rfl rfl) rfl rfl (X.q rfl (GS.opsNil (GS.seq ?_)))
  obtain ⟨l10, h_17, hM⟩ := bind_of hM
  refine GS.region (X.q rfl ?_)
  refine X.opR rfl (X.addE rfl rfl) rfl ?_
  refine X.opW (H' := [.rows 1 (List.map V.i l40), .rows 1 (List.map V.i l41), .rows 1 (List.map V.i (put l42 0 i)), .rows 1 (List.map V.i l8), .rows 1 (List.map V.i l9), .rows 1 (List.map V.b l10)]) rfl (X.makeS (f := V.b) h_17 rfl rfl rfl rfl rfl rfl rfl rfl) rfl rfl (X.q rfl (GS.opsNil (GS.seq (X.sq (X.q rfl ?_)))))
  refine X.opR rfl (X.lenO (l := l8) rfl rfl rfl) rfl (X.q rfl (GS.opsNil ?_))
  refine X.join (τ := (List Int)) (fun v => berth_assign_j6 cost places i l40 l41 l42 l9 l10 v = some b_1) (fun v => ⟨[(0, (V.sl (List.map (fun l => V.sl (List.map V.i l)) cost))), (1, (V.i places)), (6, (V.osl 0 0 (List.length l40))), (7, (V.osl 1 0 (List.length l41))), (8, (V.osl 2 0 (List.length (put l42 0 i)))), (9, (V.i i)), (10, (V.i 0)), (11, (V.osl 3 0 (List.length v))), (12, (V.osl 4 0 (List.length l9))), (13, (V.osl 5 0 (List.length l10)))], [.rows 1 (List.map V.i l40), .rows 1 (List.map V.i l41), .rows 1 (List.map V.i (put l42 0 i)), .rows 1 (List.map V.i v), .rows 1 (List.map V.i l9), .rows 1 (List.map V.b l10)], 0, none, 215⟩) ?_ ?_
  ·intro l11 hM
   replace hM : berth_assign_j6 cost places i l40 l41 l42 l9 l10 l11 = some b_1 := hM
   unfold berth_assign_j6 at hM
   refine GS.seq ?_
   refine GS.label (GS.seq ?_)
   refine X.join (τ := Int × (List Int) × (List Int) × (List Int)) (fun v => berth_assign_j7 i l42 v.1 v.2.1 v.2.2.1 v.2.2.2 = some b_1) (fun v => ⟨[(0, (V.sl (List.map (fun l => V.sl (List.map V.i l)) cost))), (1, (V.i places)), (6, (V.osl 0 0 (List.length v.2.1))), (7, (V.osl 1 0 (List.length v.2.2.1))), (8, (V.osl 2 0 (List.length (put l42 0 i)))), (9, (V.i i)), (10, (V.i v.1)), (12, (V.osl 3 0 (List.length v.2.2.2)))], [.rows 1 (List.map V.i v.2.1), .rows 1 (List.map V.i v.2.2.1), .rows 1 (List.map V.i (put l42 0 i)), .rows 1 (List.map V.i v.2.2.2)], 0, none, 215⟩) ?_ ?_
   ·rintro ⟨at_, l12, l13, l14⟩ hM
    replace hM : berth_assign_j7 i l42 at_ l12 l13 l14 = some b_1 := hM
    unfold berth_assign_j7 at hM
    refine X.join (τ := (List Int)) (fun v => berth_assign_j8 i l12 l13 v = some b_1) (fun v => ⟨[(0, (V.sl (List.map (fun l => V.sl (List.map V.i l)) cost))), (1, (V.i places)), (6, (V.osl 0 0 (List.length l12))), (7, (V.osl 1 0 (List.length l13))), (8, (V.osl 2 0 (List.length v))), (9, (V.i i))], [.rows 1 (List.map V.i l12), .rows 1 (List.map V.i l13), .rows 1 (List.map V.i v)], 0, none, 215⟩) ?_ ?_
    ·intro l15 hM
     replace hM : berth_assign_j8 i l12 l13 l15 = some b_1 := hM
     unfold berth_assign_j8 at hM
     refine GS.endB (GS.region (X.q rfl ?_))
     refine X.opR rfl (X.addE rfl rfl) rfl (X.q rfl (GS.opsNil ?_))
     have hE := Option.some.inj hM
     exact X.gc [some 0, some 1, some 2] (hc_5 (w64 (i + 1), l12, l13, l15) hE.symm) rfl rfl rfl (ga rfl rfl) (gb_rows 9 rfl rfl (fun _ => rfl) (gb_rows 9 rfl rfl (fun _ => rfl) (gb_rows 9 rfl rfl (fun _ => rfl) gb_nil)))
    intro hj_8
    refine GS.block ?_
    refine X.gc [some 0, some 1, some 2, some 3] (X.loop (σ := (Int × (List Int))) (fun v => ⟨[(0, (V.sl (List.map (fun l => V.sl (List.map V.i l)) cost))), (1, (V.i places)), (6, (V.osl 0 0 (List.length l12))), (7, (V.osl 1 0 (List.length l13))), (8, (V.osl 2 0 (List.length v.2))), (9, (V.i i)), (10, (V.i v.1)), (12, (V.osl 3 0 (List.length l14)))], [.rows 1 (List.map V.i l12), .rows 1 (List.map V.i l13), .rows 1 (List.map V.i v.2), .rows 1 (List.map V.i l14)], 0, none, 215⟩) hM ?_ rfl) rfl rfl rfl (ga rfl rfl) (gb_rows 9 rfl rfl (fun _ => rfl) (gb_rows 9 rfl rfl (fun _ => rfl) (gb_rows 9 rfl rfl (fun _ => rfl) (gb_rows 9 rfl rfl (fun _ => rfl) gb_nil))))
    rintro ⟨at_1, l16⟩ b_2 hM hc_9 hr_2
    rw [berth_assign_b9] at hM
    refine GS.seq (X.sq (X.q rfl (X.q rfl ?_)))
    refine GS.opsNil ?_
    refine X.cond rfl (fun h_18 => ?_) (fun h_18 => ?_)
    ·replace hM := ite_t h_18 hM
     refine GS.skip (GS.block (GS.seq ?_))
     obtain ⟨x7, h_19, hM⟩ := bind_of hM
     obtain ⟨x8, h_20, hM⟩ := bind_of hM
     obtain ⟨x9, h_21, hM⟩ := bind_of hM
     refine GS.region ?_
     iterate 5 refine X.q rfl ?_
     refine X.opR rfl (X.indexO h_19 rfl rfl rfl rfl rfl) rfl ?_
     refine X.opR rfl (X.loadO h_19 rfl rfl rfl rfl) rfl ?_
     refine X.opR rfl (X.indexO h_20 rfl rfl rfl rfl rfl) rfl ?_
     refine X.opR rfl (X.loadO h_20 rfl rfl rfl rfl) rfl ?_
     refine X.opR rfl (X.indexO h_21 rfl rfl rfl rfl rfl) rfl ?_
     refine X.op0W (H' := [.rows 1 (List.map V.i l12), .rows 1 (List.map V.i l13), .rows 1 (List.map V.i (put l16 at_1 x8)), .rows 1 (List.map V.i l14)]) rfl (X.storeO (b := x8) h_21 rfl rfl rfl rfl rfl rfl rfl) rfl (GS.opsNil ?_)
     obtain ⟨x10, h_22, hM⟩ := bind_of hM
     refine GS.region (X.q rfl (X.q rfl ?_))
     refine X.opR rfl (X.indexO h_22 rfl rfl rfl rfl rfl) rfl ?_
     refine X.opR rfl (X.loadO h_22 rfl rfl rfl rfl) rfl (X.q rfl (GS.opsNil ?_))
     refine GS.endB ?_
     have hE := Option.some.inj hM
     exact X.gc [some 0, some 1, some 2, some 3] (hc_9 (x10, (put l16 at_1 x8)) hE.symm) rfl rfl rfl (gk_cons rfl ⟨9, rfl⟩ (gk_cons rfl ⟨9, rfl⟩ (gk_cons rfl ⟨9, rfl⟩ (gk_cons rfl ⟨9, rfl⟩ (gk_cons rfl (rv_eq X.osl_put ⟨9, rfl⟩) (ga rfl rfl)))))) (gb_rows 9 rfl rfl (fun _ => rfl) (gb_rows 9 rfl rfl (fun _ => rfl) (gb_rows 9 rfl rfl (fun _ => rfl) (gb_rows 9 rfl rfl (fun _ => rfl) gb_nil))))
    replace hM := ite_f h_18 hM
    refine GS.exit rfl ?_
    obtain ⟨y_2, hM, hy⟩ := map_of hM
    rw [hr_2 _ hy.symm] at hM
    exact X.gc [some 0, some 1, some 2] (hj_8 l16 hM) rfl rfl rfl (ga rfl rfl) (gb_rows 9 rfl rfl (fun _ => rfl) (gb_rows 9 rfl rfl (fun _ => rfl) (gb_rows 9 rfl rfl (fun _ => rfl) gb_nil)))
   intro hj_7
   refine GS.block ?_
   refine X.gc [some 0, some 1, some 2, some 3, some 4, some 5] (X.loop (σ := (Int × (List Int) × (List Int) × (List Int) × (List Int) × (List Bool))) (fun v => ⟨[(0, (V.sl (List.map (fun l => V.sl (List.map V.i l)) cost))), (1, (V.i places)), (6, (V.osl 0 0 (List.length v.2.1))), (7, (V.osl 1 0 (List.length v.2.2.1))), (8, (V.osl 2 0 (List.length (put l42 0 i)))), (9, (V.i i)), (10, (V.i v.1)), (11, (V.osl 3 0 (List.length v.2.2.2.1))), (12, (V.osl 4 0 (List.length v.2.2.2.2.1))), (13, (V.osl 5 0 (List.length v.2.2.2.2.2)))], [.rows 1 (List.map V.i v.2.1), .rows 1 (List.map V.i v.2.2.1), .rows 1 (List.map V.i (put l42 0 i)), .rows 1 (List.map V.i v.2.2.2.1), .rows 1 (List.map V.i v.2.2.2.2.1), .rows 1 (List.map V.b v.2.2.2.2.2)], 0, none, 215⟩) hM ?_ rfl) rfl rfl rfl (ga rfl rfl) (gb_rows 9 rfl rfl (fun _ => rfl) (gb_rows 9 rfl rfl (fun _ => rfl) (gb_rows 9 rfl rfl (fun _ => rfl) (gb_rows 9 rfl rfl (fun _ => rfl) (gb_rows 9 rfl rfl (fun _ => rfl) (gb_rows 9 rfl rfl (fun _ => rfl) gb_nil))))))
   rintro ⟨at_2, l34, l35, l36, l37, l38⟩ b_2 hM hc_10 hr_2
   rw [berth_assign_b10] at hM
   refine GS.block (GS.seq ?_)
   obtain ⟨x11, h_23, hM⟩ := bind_of hM
   refine GS.region (X.q rfl (X.q rfl ?_))
   refine X.opR rfl (X.indexO h_23 rfl rfl rfl rfl rfl) rfl ?_
   refine X.op0W (H' := [.rows 1 (List.map V.i l34), .rows 1 (List.map V.i l35), .rows 1 (List.map V.i (put l42 0 i)), .rows 1 (List.map V.i l36), .rows 1 (List.map V.i l37), .rows 1 (List.map V.b (put l38 at_2 true))]) rfl (X.storeO (b := true) h_23 rfl rfl rfl rfl rfl rfl rfl) rfl (GS.opsNil (GS.seq ?_))
   obtain ⟨x12, h_24, hM⟩ := bind_of hM
   refine GS.region (X.q rfl (X.q rfl ?_))
   refine X.opR rfl (X.indexO h_24 rfl rfl rfl rfl rfl) rfl ?_
   refine X.opR rfl (X.loadO h_24 rfl rfl rfl rfl) rfl (X.q rfl (X.q rfl (X.q rfl ?_)))
   refine GS.opsNil (GS.seq (X.sq (X.q rfl (GS.opsNil ?_))))
   refine X.join (τ := Int × Int × (List Int) × (List Int)) (fun v => berth_assign_j11 i l42 at_2 l34 l35 l38 v.1 v.2.1 v.2.2.1 v.2.2.2 = some b_2) (fun v => ⟨[(0, (V.sl (List.map (fun l => V.sl (List.map V.i l)) cost))), (1, (V.i places)), (6, (V.osl 0 0 (List.length l34))), (7, (V.osl 1 0 (List.length l35))), (8, (V.osl 2 0 (List.length (put l42 0 i)))), (9, (V.i i)), (11, (V.osl 3 0 (List.length v.2.2.1))), (12, (V.osl 4 0 (List.length v.2.2.2))), (13, (V.osl 5 0 (List.length (put l38 at_2 true)))), (16, (V.i v.1)), (17, (V.i v.2.1))], [.rows 1 (List.map V.i l34), .rows 1 (List.map V.i l35), .rows 1 (List.map V.i (put l42 0 i)), .rows 1 (List.map V.i v.2.2.1), .rows 1 (List.map V.i v.2.2.2), .rows 1 (List.map V.b (put l38 at_2 true))], 0, none, 215⟩) ?_ ?_
   ·rintro ⟨next, step, l17, l18⟩ hM
    replace hM : berth_assign_j11 i l42 at_2 l34 l35 l38 next step l17 l18 = some b_2 := hM
    unfold berth_assign_j11 at hM
    refine GS.seq (X.sq (X.q rfl ?_))
    refine X.opR rfl (X.lenO (l := (put l38 at_2 true)) rfl rfl rfl) rfl (X.q rfl (GS.opsNil ?_))
    refine X.join (τ := (List Int) × (List Int) × (List Int)) (fun v => berth_assign_j12 i l42 at_2 l38 next l18 v.1 v.2.1 v.2.2 = some b_2) (fun v => ⟨[(0, (V.sl (List.map (fun l => V.sl (List.map V.i l)) cost))), (1, (V.i places)), (6, (V.osl 0 0 (List.length v.1))), (7, (V.osl 1 0 (List.length v.2.1))), (8, (V.osl 2 0 (List.length (put l42 0 i)))), (9, (V.i i)), (11, (V.osl 3 0 (List.length v.2.2))), (12, (V.osl 4 0 (List.length l18))), (13, (V.osl 5 0 (List.length (put l38 at_2 true)))), (16, (V.i next))], [.rows 1 (List.map V.i v.1), .rows 1 (List.map V.i v.2.1), .rows 1 (List.map V.i (put l42 0 i)), .rows 1 (List.map V.i v.2.2), .rows 1 (List.map V.i l18), .rows 1 (List.map V.b (put l38 at_2 true))], 0, none, 215⟩) ?_ ?_
    ·rintro ⟨l19, l20, l21⟩ hM
     replace hM : berth_assign_j12 i l42 at_2 l38 next l18 l19 l20 l21 = some b_2 := hM
     unfold berth_assign_j12 at hM
     refine X.sq (X.q rfl (X.q rfl ?_))
     refine GS.opsNil (GS.seq ?_)
     obtain ⟨x13, h_25, hM⟩ := bind_of hM
     refine GS.region (X.q rfl (X.q rfl ?_))
     refine X.opR rfl (X.indexO h_25 rfl rfl rfl rfl rfl) rfl ?_
     refine X.opR rfl (X.loadO h_25 rfl rfl rfl rfl) rfl (X.q rfl (GS.opsNil ?_))
     refine X.cond rfl (fun h_26 => ?_) (fun h_26 => ?_)
     ·replace hM := ite_t h_26 hM
      refine GS.exit rfl ?_
      obtain ⟨y_2, hM, hy⟩ := map_of hM
      rw [hr_2 _ hy.symm] at hM
      exact X.gc [some 0, some 1, some 2, some 4] (hj_7 (next, l19, l20, l18) hM) rfl rfl rfl (ga rfl rfl) (gb_rows 9 rfl rfl (fun _ => rfl) (gb_rows 9 rfl rfl (fun _ => rfl) (gb_rows 9 rfl rfl (fun _ => rfl) (gb_rows 9 rfl rfl (fun _ => rfl) gb_nil))))
     replace hM := ite_f h_26 hM
     refine GS.skip ?_
     refine GS.endB ?_
     have hE := Option.some.inj hM
     exact X.gc [some 0, some 1, some 2, some 3, some 4, some 5] (hc_10 (next, l19, l20, l21, l18, (put l38 at_2 true)) hE.symm) rfl rfl rfl (ga rfl rfl) (gb_rows 9 rfl rfl (fun _ => rfl) (gb_rows 9 rfl rfl (fun _ => rfl) (gb_rows 9 rfl rfl (fun _ => rfl) (gb_rows 9 rfl rfl (fun _ => rfl) (gb_rows 9 rfl rfl (fun _ => rfl) (gb_rows 9 rfl rfl (fun _ => rfl) gb_nil))))))
    intro hj_12
    refine GS.block ?_
    refine X.gc [some 0, some 1, some 2, some 3, some 4, some 5] (X.loop (σ := (Int × (List Int) × (List Int) × (List Int))) (fun v => ⟨[(0, (V.sl (List.map (fun l => V.sl (List.map V.i l)) cost))), (1, (V.i places)), (6, (V.osl 0 0 (List.length v.2.1))), (7, (V.osl 1 0 (List.length v.2.2.1))), (8, (V.osl 2 0 (List.length (put l42 0 i)))), (9, (V.i i)), (11, (V.osl 3 0 (List.length v.2.2.2))), (12, (V.osl 4 0 (List.length l18))), (13, (V.osl 5 0 (List.length (put l38 at_2 true)))), (16, (V.i next)), (17, (V.i step)), (122, (V.i ((put l38 at_2 true).length : Int))), (123, (V.i v.1))], [.rows 1 (List.map V.i v.2.1), .rows 1 (List.map V.i v.2.2.1), .rows 1 (List.map V.i (put l42 0 i)), .rows 1 (List.map V.i v.2.2.2), .rows 1 (List.map V.i l18), .rows 1 (List.map V.b (put l38 at_2 true))], 0, none, 215⟩) hM ?_ rfl) rfl rfl rfl (ga rfl rfl) (gb_rows 9 rfl rfl (fun _ => rfl) (gb_rows 9 rfl rfl (fun _ => rfl) (gb_rows 9 rfl rfl (fun _ => rfl) (gb_rows 9 rfl rfl (fun _ => rfl) (gb_rows 9 rfl rfl (fun _ => rfl) (gb_rows 9 rfl rfl (fun _ => rfl) gb_nil))))))
    rintro ⟨x22, l25, l26, l27⟩ b_3 hM hc_13 hr_3
    rw [berth_assign_b13] at hM
    refine X.sq (X.q rfl (GS.opsNil (GS.seq ?_)))
    refine X.cond rfl (fun h_27 => ?_) (fun h_27 => ?_)
    ·replace hM := ite_t h_27 hM
     refine GS.skip (GS.seq ?_)
     refine X.join (τ := (List Int) × (List Int) × (List Int)) (fun v => berth_assign_j14 x22 v.1 v.2.1 v.2.2 = some b_3) (fun v => ⟨[(0, (V.sl (List.map (fun l => V.sl (List.map V.i l)) cost))), (1, (V.i places)), (6, (V.osl 0 0 (List.length v.1))), (7, (V.osl 1 0 (List.length v.2.1))), (8, (V.osl 2 0 (List.length (put l42 0 i)))), (9, (V.i i)), (11, (V.osl 3 0 (List.length v.2.2))), (12, (V.osl 4 0 (List.length l18))), (13, (V.osl 5 0 (List.length (put l38 at_2 true)))), (16, (V.i next)), (17, (V.i step)), (122, (V.i ((put l38 at_2 true).length : Int))), (123, (V.i x22))], [.rows 1 (List.map V.i v.1), .rows 1 (List.map V.i v.2.1), .rows 1 (List.map V.i (put l42 0 i)), .rows 1 (List.map V.i v.2.2), .rows 1 (List.map V.i l18), .rows 1 (List.map V.b (put l38 at_2 true))], 0, none, 215⟩) ?_ ?_
     ·rintro ⟨l22, l23, l24⟩ hM
      replace hM : berth_assign_j14 x22 l22 l23 l24 = some b_3 := hM
      unfold berth_assign_j14 at hM
      refine GS.region ?_
      refine X.opR rfl (X.addE rfl rfl) rfl (X.q rfl (GS.opsNil ?_))
      have hE := Option.some.inj hM
      exact X.gc [some 0, some 1, some 2, some 3, some 4, some 5] (hc_13 (w64 (x22 + 1), l22, l23, l24) hE.symm) rfl rfl rfl (ga rfl rfl) (gb_rows 9 rfl rfl (fun _ => rfl) (gb_rows 9 rfl rfl (fun _ => rfl) (gb_rows 9 rfl rfl (fun _ => rfl) (gb_rows 9 rfl rfl (fun _ => rfl) (gb_rows 9 rfl rfl (fun _ => rfl) (gb_rows 9 rfl rfl (fun _ => rfl) gb_nil))))))
     intro hj_14
     refine GS.block (X.sq (X.q rfl (X.q rfl ?_)))
     refine GS.opsNil (GS.seq ?_)
     obtain ⟨x14, h_28, hM⟩ := bind_of hM
     refine GS.region (X.q rfl (X.q rfl ?_))
     refine X.opR rfl (X.indexO h_28 rfl rfl rfl rfl rfl) rfl ?_
     refine X.opR rfl (X.loadO h_28 rfl rfl rfl rfl) rfl (GS.opsNil ?_)
     refine X.cond rfl (fun h_29 => ?_) (fun h_29 => ?_)
     ·replace hM := ite_t h_29 hM
      refine GS.seq ?_
      obtain ⟨x15, h_30, hM⟩ := bind_of hM
      obtain ⟨x16, h_31, hM⟩ := bind_of hM
      obtain ⟨x17, h_32, hM⟩ := bind_of hM
      refine GS.region (X.q rfl (X.q rfl (X.q rfl ?_)))
      refine X.opR rfl (X.indexO h_30 rfl rfl rfl rfl rfl) rfl ?_
      refine X.opR rfl (X.loadO h_30 rfl rfl rfl rfl) rfl ?_
      refine X.opR rfl (X.indexO h_31 rfl rfl rfl rfl rfl) rfl ?_
      refine X.opR rfl (X.loadO h_31 rfl rfl rfl rfl) rfl (X.q rfl ?_)
      refine X.opR rfl (X.addE rfl rfl) rfl ?_
      refine X.opR rfl (X.indexO h_32 rfl rfl rfl rfl rfl) rfl ?_
      refine X.op0W (H' := [.rows 1 (List.map V.i (put l25 x15 (w64 (x16 + step)))), .rows 1 (List.map V.i l26), .rows 1 (List.map V.i (put l42 0 i)), .rows 1 (List.map V.i l27), .rows 1 (List.map V.i l18), .rows 1 (List.map V.b (put l38 at_2 true))]) rfl (X.storeO (b := w64 (x16 + step)) h_32 rfl rfl rfl rfl rfl rfl rfl) rfl (GS.opsNil ?_)
      obtain ⟨x18, h_33, hM⟩ := bind_of hM
      obtain ⟨x19, h_34, hM⟩ := bind_of hM
      refine GS.region (X.q rfl (X.q rfl ?_))
      refine X.opR rfl (X.indexO h_33 rfl rfl rfl rfl rfl) rfl ?_
      refine X.opR rfl (X.loadO h_33 rfl rfl rfl rfl) rfl (X.q rfl ?_)
      refine X.opR rfl (X.subE rfl rfl) rfl ?_
      refine X.opR rfl (X.indexO h_34 rfl rfl rfl rfl rfl) rfl ?_
      refine X.op0W (H' := [.rows 1 (List.map V.i (put l25 x15 (w64 (x16 + step)))), .rows 1 (List.map V.i (put l26 x22 (w64 (x18 - step)))), .rows 1 (List.map V.i (put l42 0 i)), .rows 1 (List.map V.i l27), .rows 1 (List.map V.i l18), .rows 1 (List.map V.b (put l38 at_2 true))]) rfl (X.storeO (b := w64 (x18 - step)) h_34 rfl rfl rfl rfl rfl rfl rfl) rfl (GS.opsNil ?_)
      refine GS.endB ?_
      exact X.gc [some 0, some 1, some 2, some 3, some 4, some 5] (hj_14 ((put l25 x15 (w64 (x16 + step))), (put l26 x22 (w64 (x18 - step))), l27) hM) rfl rfl rfl (gk_cons rfl ⟨9, rfl⟩ (gk_cons rfl ⟨9, rfl⟩ (gk_cons rfl (rv_eq X.osl_put ⟨9, rfl⟩) (gk_cons rfl (rv_eq X.osl_put ⟨9, rfl⟩) (ga rfl rfl))))) (gb_rows 9 rfl rfl (fun _ => rfl) (gb_rows 9 rfl rfl (fun _ => rfl) (gb_rows 9 rfl rfl (fun _ => rfl) (gb_rows 9 rfl rfl (fun _ => rfl) (gb_rows 9 rfl rfl (fun _ => rfl) (gb_rows 9 rfl rfl (fun _ => rfl) gb_nil))))))
     replace hM := ite_f h_29 hM
     obtain ⟨x20, h_35, hM⟩ := bind_of hM
     obtain ⟨x21, h_36, hM⟩ := bind_of hM
     refine GS.region (X.q rfl (X.q rfl ?_))
     refine X.opR rfl (X.indexO h_35 rfl rfl rfl rfl rfl) rfl ?_
     refine X.opR rfl (X.loadO h_35 rfl rfl rfl rfl) rfl (X.q rfl ?_)
     refine X.opR rfl (X.subE rfl rfl) rfl ?_
     refine X.opR rfl (X.indexO h_36 rfl rfl rfl rfl rfl) rfl ?_
     refine X.op0W (H' := [.rows 1 (List.map V.i l25), .rows 1 (List.map V.i l26), .rows 1 (List.map V.i (put l42 0 i)), .rows 1 (List.map V.i (put l27 x22 (w64 (x20 - step)))), .rows 1 (List.map V.i l18), .rows 1 (List.map V.b (put l38 at_2 true))]) rfl (X.storeO (b := w64 (x20 - step)) h_36 rfl rfl rfl rfl rfl rfl rfl) rfl (GS.opsNil ?_)
     refine GS.endB ?_
     exact X.gc [some 0, some 1, some 2, some 3, some 4, some 5] (hj_14 (l25, l26, (put l27 x22 (w64 (x20 - step)))) hM) rfl rfl rfl (gk_cons rfl ⟨9, rfl⟩ (gk_cons rfl ⟨9, rfl⟩ (gk_cons rfl ⟨9, rfl⟩ (gk_cons rfl ⟨9, rfl⟩ (gk_cons rfl ⟨9, rfl⟩ (gk_cons rfl ⟨9, rfl⟩ (gk_cons rfl (rv_eq X.osl_put ⟨9, rfl⟩) (ga rfl rfl)))))))) (gb_rows 9 rfl rfl (fun _ => rfl) (gb_rows 9 rfl rfl (fun _ => rfl) (gb_rows 9 rfl rfl (fun _ => rfl) (gb_rows 9 rfl rfl (fun _ => rfl) (gb_rows 9 rfl rfl (fun _ => rfl) (gb_rows 9 rfl rfl (fun _ => rfl) gb_nil))))))
    replace hM := ite_f h_27 hM
    refine GS.exit rfl ?_
    obtain ⟨y_3, hM, hy⟩ := map_of hM
    rw [hr_3 _ hy.symm] at hM
    exact X.gc [some 0, some 1, some 2, some 3, some 4, some 5] (hj_12 (l25, l26, l27) hM) rfl rfl rfl (ga rfl rfl) (gb_rows 9 rfl rfl (fun _ => rfl) (gb_rows 9 rfl rfl (fun _ => rfl) (gb_rows 9 rfl rfl (fun _ => rfl) (gb_rows 9 rfl rfl (fun _ => rfl) (gb_rows 9 rfl rfl (fun _ => rfl) (gb_rows 9 rfl rfl (fun _ => rfl) gb_nil))))))
   intro hj_11
   refine GS.block ?_
   refine X.gc [some 0, some 1, some 2, some 3, some 4, some 5] (X.loop (σ := (Int × Int × Int × (List Int) × (List Int))) (fun v => ⟨[(0, (V.sl (List.map (fun l => V.sl (List.map V.i l)) cost))), (1, (V.i places)), (6, (V.osl 0 0 (List.length l34))), (7, (V.osl 1 0 (List.length l35))), (8, (V.osl 2 0 (List.length (put l42 0 i)))), (9, (V.i i)), (10, (V.i at_2)), (11, (V.osl 3 0 (List.length v.2.2.2.1))), (12, (V.osl 4 0 (List.length v.2.2.2.2))), (13, (V.osl 5 0 (List.length (put l38 at_2 true)))), (15, (V.i x12)), (16, (V.i v.1)), (17, (V.i v.2.1)), (18, (V.i v.2.2.1))], [.rows 1 (List.map V.i l34), .rows 1 (List.map V.i l35), .rows 1 (List.map V.i (put l42 0 i)), .rows 1 (List.map V.i v.2.2.2.1), .rows 1 (List.map V.i v.2.2.2.2), .rows 1 (List.map V.b (put l38 at_2 true))], 0, none, 215⟩) hM ?_ rfl) rfl rfl rfl (gk_cons rfl ⟨9, rfl⟩ (gk_cons rfl ⟨9, rfl⟩ (gk_cons rfl ⟨9, rfl⟩ (gk_cons rfl ⟨9, rfl⟩ (gk_cons rfl ⟨9, rfl⟩ (gk_cons rfl ⟨9, rfl⟩ (gk_cons rfl ⟨9, rfl⟩ (gk_cons rfl ⟨9, rfl⟩ (gk_cons rfl ⟨9, rfl⟩ (gk_cons rfl (rv_eq X.osl_put ⟨9, rfl⟩) (ga rfl rfl))))))))))) (gb_rows 9 rfl rfl (fun _ => rfl) (gb_rows 9 rfl rfl (fun _ => rfl) (gb_rows 9 rfl rfl (fun _ => rfl) (gb_rows 9 rfl rfl (fun _ => rfl) (gb_rows 9 rfl rfl (fun _ => rfl) (gb_rows 9 rfl rfl (fun _ => rfl) gb_nil))))))
   rintro ⟨next2, step2, k1, l32, l33⟩ b_3 hM hc_15 hr_3
   rw [berth_assign_b15] at hM
   refine GS.seq (X.sq (X.q rfl (X.q rfl (X.q rfl ?_))))
   refine GS.opsNil ?_
   refine X.cond rfl (fun h_37 => ?_) (fun h_37 => ?_)
   ·replace hM := ite_t h_37 hM
    refine GS.skip (GS.seq ?_)
    refine X.join (τ := Int × Int × (List Int) × (List Int)) (fun v => berth_assign_j16 k1 v.1 v.2.1 v.2.2.1 v.2.2.2 = some b_3) (fun v => ⟨[(0, (V.sl (List.map (fun l => V.sl (List.map V.i l)) cost))), (1, (V.i places)), (6, (V.osl 0 0 (List.length l34))), (7, (V.osl 1 0 (List.length l35))), (8, (V.osl 2 0 (List.length (put l42 0 i)))), (9, (V.i i)), (10, (V.i at_2)), (11, (V.osl 3 0 (List.length v.2.2.1))), (12, (V.osl 4 0 (List.length v.2.2.2))), (13, (V.osl 5 0 (List.length (put l38 at_2 true)))), (15, (V.i x12)), (16, (V.i v.1)), (17, (V.i v.2.1)), (18, (V.i k1))], [.rows 1 (List.map V.i l34), .rows 1 (List.map V.i l35), .rows 1 (List.map V.i (put l42 0 i)), .rows 1 (List.map V.i v.2.2.1), .rows 1 (List.map V.i v.2.2.2), .rows 1 (List.map V.b (put l38 at_2 true))], 0, none, 215⟩) ?_ ?_
    ·rintro ⟨next1, step1, l28, l29⟩ hM
     replace hM : berth_assign_j16 k1 next1 step1 l28 l29 = some b_3 := hM
     unfold berth_assign_j16 at hM
     refine GS.region (X.q rfl ?_)
     refine X.opR rfl (X.addE rfl rfl) rfl (X.q rfl (GS.opsNil ?_))
     have hE := Option.some.inj hM
     exact X.gc [some 0, some 1, some 2, some 3, some 4, some 5] (hc_15 (next1, step1, w64 (k1 + 1), l28, l29) hE.symm) rfl rfl rfl (ga rfl rfl) (gb_rows 9 rfl rfl (fun _ => rfl) (gb_rows 9 rfl rfl (fun _ => rfl) (gb_rows 9 rfl rfl (fun _ => rfl) (gb_rows 9 rfl rfl (fun _ => rfl) (gb_rows 9 rfl rfl (fun _ => rfl) (gb_rows 9 rfl rfl (fun _ => rfl) gb_nil))))))
    intro hj_16
    refine GS.block ?_
    iterate 2 refine GS.seq ?_
    obtain ⟨x23, h_38, hM⟩ := bind_of hM
    refine GS.region (X.q rfl (X.q rfl ?_))
    refine X.opR rfl (X.indexO h_38 rfl rfl rfl rfl rfl) rfl ?_
    refine X.opR rfl (X.loadO h_38 rfl rfl rfl rfl) rfl (GS.opsNil ?_)
    refine X.cond rfl (fun h_39 => ?_) (fun h_39 => ?_)
    ·replace hM := ite_t h_39 hM
     refine GS.exit rfl ?_
     exact X.gc [some 0, some 1, some 2, some 3, some 4, some 5] (hj_16 (next2, step2, l32, l33) hM) rfl rfl rfl (ga rfl rfl) (gb_rows 9 rfl rfl (fun _ => rfl) (gb_rows 9 rfl rfl (fun _ => rfl) (gb_rows 9 rfl rfl (fun _ => rfl) (gb_rows 9 rfl rfl (fun _ => rfl) (gb_rows 9 rfl rfl (fun _ => rfl) (gb_rows 9 rfl rfl (fun _ => rfl) gb_nil))))))
    replace hM := ite_f h_39 hM
    refine GS.skip ?_
    iterate 2 refine GS.seq ?_
    obtain ⟨x24, h_40, hM⟩ := bind_of hM
    obtain ⟨x25, h_41, hM⟩ := bind_of hM
    obtain ⟨x26, h_42, hM⟩ := bind_of hM
    obtain ⟨x27, h_43, hM⟩ := bind_of hM
    refine X.drawc (by kernel_rfl) rfl ?_
    iterate 2 refine X.cop rfl rfl rfl rfl ?_
    refine X.cop rfl (X.subE rfl rfl) rfl rfl ?_
    refine X.cop rfl (X.indexF (f := (fun l => V.sl (List.map V.i l))) h_40 (fun _ => rfl) rfl rfl rfl rfl) rfl rfl ?_
    refine X.cop rfl (X.loadF h_40 rfl rfl rfl) rfl rfl ?_
    refine X.cop rfl rfl rfl rfl ?_
    refine X.cop rfl (X.subE rfl rfl) rfl rfl ?_
    refine X.cop rfl (X.indexF (f := V.i) h_41 (fun _ => rfl) rfl rfl rfl rfl) rfl rfl ?_
    refine X.cop rfl (X.loadF h_41 rfl rfl rfl) rfl rfl ?_
    iterate 2 refine X.cop rfl rfl rfl rfl ?_
    refine X.cop rfl (X.indexO h_42 rfl rfl rfl rfl rfl) rfl rfl ?_
    refine X.cop rfl (X.loadO h_42 rfl rfl rfl rfl) rfl rfl ?_
    refine X.cop rfl (X.subE rfl rfl) rfl rfl ?_
    iterate 2 refine X.cop rfl rfl rfl rfl ?_
    refine X.cop rfl (X.indexO h_43 rfl rfl rfl rfl rfl) rfl rfl ?_
    refine X.cop rfl (X.loadO h_43 rfl rfl rfl rfl) rfl rfl ?_
    refine X.cop rfl (X.subE rfl rfl) rfl rfl ?_
    refine X.cop rfl rfl rfl rfl ?_
    refine X.cnil ?_
    refine X.norm [(0, (V.sl (List.map (fun l => V.sl (List.map V.i l)) cost))), (1, (V.i places)), (6, (V.osl 0 0 (List.length l34))), (7, (V.osl 1 0 (List.length l35))), (8, (V.osl 2 0 (List.length (put l42 0 i)))), (9, (V.i i)), (10, (V.i at_2)), (11, (V.osl 3 0 (List.length l32))), (12, (V.osl 4 0 (List.length l33))), (13, (V.osl 5 0 (List.length (put l38 at_2 true)))), (15, (V.i x12)), (16, (V.i next2)), (17, (V.i step2)), (18, (V.i k1)), (19, (V.i (w64 ((w64 (x25 - x26)) - x27))))] ?_ rfl (sr rfl)
    refine GS.seq ?_
    obtain ⟨x28, h_44, hM⟩ := bind_of hM
    refine GS.region (X.q rfl (X.q rfl (X.q rfl ?_)))
    refine X.opR rfl (X.indexO h_44 rfl rfl rfl rfl rfl) rfl ?_
    refine X.opR rfl (X.loadO h_44 rfl rfl rfl rfl) rfl (X.q rfl (GS.opsNil ?_))
    refine X.join (τ := (List Int) × (List Int)) (fun v => berth_assign_j17 next2 step2 k1 v.1 v.2 = some b_3) (fun v => ⟨[(0, (V.sl (List.map (fun l => V.sl (List.map V.i l)) cost))), (1, (V.i places)), (6, (V.osl 0 0 (List.length l34))), (7, (V.osl 1 0 (List.length l35))), (8, (V.osl 2 0 (List.length (put l42 0 i)))), (9, (V.i i)), (10, (V.i at_2)), (11, (V.osl 3 0 (List.length v.1))), (12, (V.osl 4 0 (List.length v.2))), (13, (V.osl 5 0 (List.length (put l38 at_2 true)))), (15, (V.i x12)), (16, (V.i next2)), (17, (V.i step2)), (18, (V.i k1))], [.rows 1 (List.map V.i l34), .rows 1 (List.map V.i l35), .rows 1 (List.map V.i (put l42 0 i)), .rows 1 (List.map V.i v.1), .rows 1 (List.map V.i v.2), .rows 1 (List.map V.b (put l38 at_2 true))], 0, none, 215⟩) ?_ ?_
    ·rintro ⟨l30, l31⟩ hM
     replace hM : berth_assign_j17 next2 step2 k1 l30 l31 = some b_3 := hM
     unfold berth_assign_j17 at hM
     refine GS.seq ?_
     obtain ⟨x29, h_45, hM⟩ := bind_of hM
     refine GS.region (X.q rfl (X.q rfl ?_))
     refine X.opR rfl (X.indexO h_45 rfl rfl rfl rfl rfl) rfl ?_
     refine X.opR rfl (X.loadO h_45 rfl rfl rfl rfl) rfl (X.q rfl (X.q rfl ?_))
     refine GS.opsNil ?_
     refine X.cond rfl (fun h_46 => ?_) (fun h_46 => ?_)
     ·replace hM := ite_t h_46 hM
      obtain ⟨x30, h_47, hM⟩ := bind_of hM
      refine GS.region (X.q rfl (X.q rfl ?_))
      refine X.opR rfl (X.indexO h_47 rfl rfl rfl rfl rfl) rfl ?_
      refine X.opR rfl (X.loadO h_47 rfl rfl rfl rfl) rfl (X.q rfl (X.q rfl (X.q rfl ?_)))
      refine GS.opsNil ?_
      refine GS.endB ?_
      exact X.gc [some 0, some 1, some 2, some 3, some 4, some 5] (hj_16 (k1, x30, l30, l31) hM) rfl rfl rfl (ga rfl rfl) (gb_rows 9 rfl rfl (fun _ => rfl) (gb_rows 9 rfl rfl (fun _ => rfl) (gb_rows 9 rfl rfl (fun _ => rfl) (gb_rows 9 rfl rfl (fun _ => rfl) (gb_rows 9 rfl rfl (fun _ => rfl) (gb_rows 9 rfl rfl (fun _ => rfl) gb_nil))))))
     replace hM := ite_f h_46 hM
     refine GS.skip ?_
     refine GS.endB ?_
     exact X.gc [some 0, some 1, some 2, some 3, some 4, some 5] (hj_16 (next2, step2, l30, l31) hM) rfl rfl rfl (ga rfl rfl) (gb_rows 9 rfl rfl (fun _ => rfl) (gb_rows 9 rfl rfl (fun _ => rfl) (gb_rows 9 rfl rfl (fun _ => rfl) (gb_rows 9 rfl rfl (fun _ => rfl) (gb_rows 9 rfl rfl (fun _ => rfl) (gb_rows 9 rfl rfl (fun _ => rfl) gb_nil))))))
    intro hj_17
    refine X.cond rfl (fun h_48 => ?_) (fun h_48 => ?_)
    ·replace hM := ite_t h_48 hM
     obtain ⟨x31, h_49, hM⟩ := bind_of hM
     obtain ⟨x32, h_50, hM⟩ := bind_of hM
     refine GS.region ?_
     iterate 6 refine X.q rfl ?_
     refine X.opR rfl (X.indexO h_49 rfl rfl rfl rfl rfl) rfl ?_
     refine X.op0W (H' := [.rows 1 (List.map V.i l34), .rows 1 (List.map V.i l35), .rows 1 (List.map V.i (put l42 0 i)), .rows 1 (List.map V.i (put l32 k1 (w64 ((w64 (x25 - x26)) - x27)))), .rows 1 (List.map V.i l33), .rows 1 (List.map V.b (put l38 at_2 true))]) rfl (X.storeO (b := w64 ((w64 (x25 - x26)) - x27)) h_49 rfl rfl rfl rfl rfl rfl rfl) rfl ?_
     refine X.opR rfl (X.indexO h_50 rfl rfl rfl rfl rfl) rfl ?_
     refine X.op0W (H' := [.rows 1 (List.map V.i l34), .rows 1 (List.map V.i l35), .rows 1 (List.map V.i (put l42 0 i)), .rows 1 (List.map V.i (put l32 k1 (w64 ((w64 (x25 - x26)) - x27)))), .rows 1 (List.map V.i (put l33 k1 at_2)), .rows 1 (List.map V.b (put l38 at_2 true))]) rfl (X.storeO (b := at_2) h_50 rfl rfl rfl rfl rfl rfl rfl) rfl (GS.opsNil ?_)
     exact X.gc [some 0, some 1, some 2, some 3, some 4, some 5] (hj_17 ((put l32 k1 (w64 ((w64 (x25 - x26)) - x27))), (put l33 k1 at_2)) hM) rfl rfl rfl (gk_cons rfl ⟨9, rfl⟩ (gk_cons rfl ⟨9, rfl⟩ (gk_cons rfl ⟨9, rfl⟩ (gk_cons rfl ⟨9, rfl⟩ (gk_cons rfl ⟨9, rfl⟩ (gk_cons rfl ⟨9, rfl⟩ (gk_cons rfl ⟨9, rfl⟩ (gk_cons rfl (rv_eq X.osl_put ⟨9, rfl⟩) (gk_cons rfl (rv_eq X.osl_put ⟨9, rfl⟩) (ga rfl rfl)))))))))) (gb_rows 9 rfl rfl (fun _ => rfl) (gb_rows 9 rfl rfl (fun _ => rfl) (gb_rows 9 rfl rfl (fun _ => rfl) (gb_rows 9 rfl rfl (fun _ => rfl) (gb_rows 9 rfl rfl (fun _ => rfl) (gb_rows 9 rfl rfl (fun _ => rfl) gb_nil))))))
    replace hM := ite_f h_48 hM
    refine GS.skip ?_
    exact X.gc [some 0, some 1, some 2, some 3, some 4, some 5] (hj_17 (l32, l33) hM) rfl rfl rfl (ga rfl rfl) (gb_rows 9 rfl rfl (fun _ => rfl) (gb_rows 9 rfl rfl (fun _ => rfl) (gb_rows 9 rfl rfl (fun _ => rfl) (gb_rows 9 rfl rfl (fun _ => rfl) (gb_rows 9 rfl rfl (fun _ => rfl) (gb_rows 9 rfl rfl (fun _ => rfl) gb_nil))))))
   replace hM := ite_f h_37 hM
   refine GS.exit rfl ?_
   obtain ⟨y_3, hM, hy⟩ := map_of hM
   rw [hr_3 _ hy.symm] at hM
   exact X.gc [some 0, some 1, some 2, some 3, some 4, some 5] (hj_11 (next2, step2, l32, l33) hM) rfl rfl rfl (ga rfl rfl) (gb_rows 9 rfl rfl (fun _ => rfl) (gb_rows 9 rfl rfl (fun _ => rfl) (gb_rows 9 rfl rfl (fun _ => rfl) (gb_rows 9 rfl rfl (fun _ => rfl) (gb_rows 9 rfl rfl (fun _ => rfl) (gb_rows 9 rfl rfl (fun _ => rfl) gb_nil))))))
  intro hj_6
  refine GS.block ?_
  refine X.gc [some 0, some 1, some 2, some 3, some 4, some 5] (X.loop (σ := (Int × (List Int))) (fun v => ⟨[(0, (V.sl (List.map (fun l => V.sl (List.map V.i l)) cost))), (1, (V.i places)), (6, (V.osl 0 0 (List.length l40))), (7, (V.osl 1 0 (List.length l41))), (8, (V.osl 2 0 (List.length (put l42 0 i)))), (9, (V.i i)), (10, (V.i 0)), (11, (V.osl 3 0 (List.length v.2))), (12, (V.osl 4 0 (List.length l9))), (13, (V.osl 5 0 (List.length l10))), (53, (V.i (l8.length : Int))), (54, (V.i v.1))], [.rows 1 (List.map V.i l40), .rows 1 (List.map V.i l41), .rows 1 (List.map V.i (put l42 0 i)), .rows 1 (List.map V.i v.2), .rows 1 (List.map V.i l9), .rows 1 (List.map V.b l10)], 0, none, 215⟩) hM ?_ rfl) rfl rfl rfl (gk_cons rfl ⟨9, rfl⟩ (gk_cons rfl ⟨9, rfl⟩ (gk_cons rfl ⟨9, rfl⟩ (gk_cons rfl ⟨9, rfl⟩ (gk_cons rfl (rv_eq X.osl_put ⟨9, rfl⟩) (ga rfl rfl)))))) (gb_rows 9 rfl rfl (fun _ => rfl) (gb_rows 9 rfl rfl (fun _ => rfl) (gb_rows 9 rfl rfl (fun _ => rfl) (gb_rows 9 rfl rfl (fun _ => rfl) (gb_rows 9 rfl rfl (fun _ => rfl) (gb_rows 9 rfl rfl (fun _ => rfl) gb_nil))))))
  rintro ⟨x34, l39⟩ b_2 hM hc_18 hr_2
  rw [berth_assign_b18] at hM
  refine X.sq (X.q rfl (GS.opsNil (GS.seq ?_)))
  refine X.cond rfl (fun h_51 => ?_) (fun h_51 => ?_)
  ·replace hM := ite_t h_51 hM
   refine GS.skip (GS.seq (GS.block (X.sq (X.q rfl (X.q rfl ?_)))))
   refine GS.opsNil ?_
   obtain ⟨x33, h_52, hM⟩ := bind_of hM
   refine GS.region (X.q rfl (X.q rfl ?_))
   refine X.opR rfl (X.indexO h_52 rfl rfl rfl rfl rfl) rfl ?_
   refine X.op0W (H' := [.rows 1 (List.map V.i l40), .rows 1 (List.map V.i l41), .rows 1 (List.map V.i (put l42 0 i)), .rows 1 (List.map V.i (put l39 x34 4294967296)), .rows 1 (List.map V.i l9), .rows 1 (List.map V.b l10)]) rfl (X.storeO (b := 4294967296) h_52 rfl rfl rfl rfl rfl rfl rfl) rfl (GS.opsNil ?_)
   refine GS.endB (GS.region ?_)
   refine X.opR rfl (X.addE rfl rfl) rfl (X.q rfl (GS.opsNil ?_))
   have hE := Option.some.inj hM
   exact X.gc [some 0, some 1, some 2, some 3, some 4, some 5] (hc_18 (w64 (x34 + 1), (put l39 x34 4294967296)) hE.symm) rfl rfl rfl (gk_cons rfl ⟨9, rfl⟩ (gk_cons rfl ⟨9, rfl⟩ (gk_cons rfl ⟨9, rfl⟩ (gk_cons rfl ⟨9, rfl⟩ (gk_cons rfl ⟨9, rfl⟩ (gk_cons rfl ⟨9, rfl⟩ (gk_cons rfl ⟨9, rfl⟩ (gk_cons rfl (rv_eq X.osl_put ⟨9, rfl⟩) (ga rfl rfl))))))))) (gb_rows 9 rfl rfl (fun _ => rfl) (gb_rows 9 rfl rfl (fun _ => rfl) (gb_rows 9 rfl rfl (fun _ => rfl) (gb_rows 9 rfl rfl (fun _ => rfl) (gb_rows 9 rfl rfl (fun _ => rfl) (gb_rows 9 rfl rfl (fun _ => rfl) gb_nil))))))
  replace hM := ite_f h_51 hM
  refine GS.exit rfl ?_
  obtain ⟨y_2, hM, hy⟩ := map_of hM
  rw [hr_2 _ hy.symm] at hM
  exact X.gc [some 0, some 1, some 2, some 3, some 4, some 5] (hj_6 l39 hM) rfl rfl rfl (ga rfl rfl) (gb_rows 9 rfl rfl (fun _ => rfl) (gb_rows 9 rfl rfl (fun _ => rfl) (gb_rows 9 rfl rfl (fun _ => rfl) (gb_rows 9 rfl rfl (fun _ => rfl) (gb_rows 9 rfl rfl (fun _ => rfl) (gb_rows 9 rfl rfl (fun _ => rfl) gb_nil))))))
 replace hM := ite_f h_13 hM
 refine GS.exit rfl ?_
 obtain ⟨y_1, hM, hy⟩ := map_of hM
 rw [hr_1 _ hy.symm] at hM
 exact X.gc [some 2] (hj_1 l42 hM) rfl rfl rfl (ga rfl rfl) (gb_rows 9 rfl rfl (fun _ => rfl) gb_nil)
set_option maxHeartbeats 4000000 in
theorem ok_berth_board_best {b : berth_board} {fixed : (List Int)} {r : (List Int) × Int} (hM : berth_board_best b fixed = some r) : Ct Tryz.prog 65 [(V.fptr [(e_berth_board b)] 0 0), (V.sl (List.map V.i fixed))] (V.tup [(V.sl (List.map V.i r.1)), (V.i r.2)]) := by
 refine ct_of_gs CC_ok rfl ?_
 unfold berth_board_best at hM
 refine X.sq (X.q rfl (X.q rfl ?_))
 refine X.nq (X.q rfl (GS.opsNil (GS.seq (X.sq ?_))))
 iterate 4 refine X.q rfl ?_
 refine X.opR rfl (X.lenF rfl rfl rfl) rfl (X.q rfl (GS.opsNil ?_))
 refine X.join (τ := (List (List Int))) (fun v => berth_board_best_j1 b v = some r) (fun v => ⟨[(0, (V.fptr [(e_berth_board b)] 0 0)), (6, (ovl 0 v))], [obl 1 (fun v => V.sl (List.map V.i v)) v], 0, none, 71⟩) ?_ ?_
 ·intro l hM
  replace hM : berth_board_best_j1 b l = some r := hM
  unfold berth_board_best_j1 at hM
  refine GS.seq ?_
  refine X.freezeAt (z := true) (f := (fun l => V.sl (List.map V.i l))) (l := l) (es := 1) 6 rfl rfl rfl rfl (fun _ => rfl) ?_
  obtain ⟨y, h_1, hM⟩ := bind_of hM
  refine X.drawc (by kernel_rfl) rfl ?_
  iterate 5 refine X.cop rfl rfl rfl rfl ?_
  refine X.cop rfl (X.lenF rfl rfl rfl) rfl rfl ?_
  iterate 4 refine X.cop rfl rfl rfl rfl ?_
  refine X.cop rfl (X.lenF rfl rfl rfl) rfl rfl ?_
  refine X.cop rfl (X.addE rfl rfl) rfl rfl ?_
  refine X.ccall (ok_berth_assign h_1) rfl rfl rfl rfl (.cons (.shut (n := 9) rfl) (.cons (.shut (n := 9) rfl) .nil)) ?_
  iterate 4 refine X.cop rfl rfl rfl rfl ?_
  refine X.cnil ?_
  refine X.norm [(4, (V.sl (List.map V.i y.1))), (5, (V.i y.2))] ?_ rfl (sr rfl)
  cases hM
  exact GS.ret ⟨_, rfl, ⟨30, rfl⟩⟩
 intro hj_1
 refine GS.block ?_
 refine X.gc [none] (X.loop (σ := (Int × (List (List Int)))) (fun v => ⟨[(0, (V.fptr [(e_berth_board b)] 0 0)), (1, (V.sl (List.map V.i fixed))), (6, (ovl 0 v.2)), (15, (V.i (b.calls.length : Int))), (16, (V.i v.1))], [obl 1 (fun l => V.sl (List.map V.i l)) v.2], 0, none, 71⟩) hM ?_ rfl) rfl rfl rfl (ga rfl rfl) (gb_pad' rfl gb_nil)
 rintro ⟨x3, l5⟩ b_1 hM hc_2 hr_1
 rw [berth_board_best_b2] at hM
 refine X.sq (X.q rfl (GS.opsNil (GS.seq ?_)))
 refine X.cond rfl (fun h_2 => ?_) (fun h_2 => ?_)
 ·replace hM := ite_t h_2 hM
  refine GS.skip (GS.seq (GS.block (X.sq (X.q rfl (X.q rfl ?_)))))
  refine GS.opsNil (GS.seq ?_)
  obtain ⟨y1, h_3, hM⟩ := bind_of hM
  refine GS.region (X.q rfl (X.q rfl ?_))
  refine X.own (own_berth_board_costs h_3) (fun z_6 => (ovlz z_6 1 y1)) rfl rfl rfl (.cons (.shut (n := 9) rfl) (.cons (.shut (n := 9) rfl) .nil)) rfl (fun _ => ⟨_, (X.rn_ovl rfl)⟩) (fun _ => ⟨_, X.rnB_obl 9 (fun _ => rfl)⟩) (fun z_6 => (X.q rfl (GS.opsNil (GS.seq (X.sq (X.q rfl (X.q rfl ?_)))))))
  refine X.opR rfl (X.lenF rfl rfl rfl) rfl (X.q rfl (GS.opsNil ?_))
  refine X.join (τ := (List Int)) (fun v => berth_board_best_j3 x3 l5 v = some b_1) (fun v => ⟨[(0, (V.fptr [(e_berth_board b)] 0 0)), (1, (V.sl (List.map V.i fixed))), (6, (ovl 0 l5)), (8, (ovlz z_6 1 v)), (15, (V.i (b.calls.length : Int))), (16, (V.i x3))], [obl 1 (fun l => V.sl (List.map V.i l)) l5, oblz z_6 1 V.i v], 0, none, 71⟩) ?_ ?_
  ·intro l1 hM
   replace hM : berth_board_best_j3 x3 l5 l1 = some b_1 := hM
   unfold berth_board_best_j3 at hM
   refine X.freezeAt (z := z_6) (f := V.i) (l := l1) (es := 1) 8 rfl rfl rfl rfl (fun _ => rfl) ?_
   obtain ⟨l2, h_4, hM⟩ := bind_of hM
   refine GS.region (X.q rfl (X.q rfl ?_))
   refine X.opW rfl rfl rfl rfl ?_
   refine X.appN (f := (fun l => V.sl (List.map V.i l))) h_4 (fun _ => rfl) (by rfl) (by rfl) (by rfl) (by rfl) (by rfl) (by rfl) (by rfl) (by rfl) (by rfl) (by rfl) (by rfl) (by exact rfl) (by rfl) (by rfl) (X.q rfl (GS.opsNil ?_))
   refine GS.endB (GS.region ?_)
   refine X.opR rfl (X.addE rfl rfl) rfl (X.q rfl (GS.opsNil ?_))
   have hE := Option.some.inj hM
   exact X.gc [some 3] (hc_2 (w64 (x3 + 1), l2) hE.symm) rfl rfl rfl (gk_cons rfl ⟨9, rfl⟩ (gk_cons rfl ⟨9, rfl⟩ (gk_cons rfl (rv_ne (app_ne h_4) rfl) (ga rfl rfl)))) (gb_obl' 9 (app_ne h_4) rfl rfl (fun _ => rfl) gb_nil)
  intro hj_3
  refine X.cond rfl (fun h_5 => ?_) (fun h_5 => ?_)
  ·replace hM := ite_t h_5 hM
   refine GS.seq ?_
   obtain ⟨x, h_6, hM⟩ := bind_of hM
   refine GS.region (X.q rfl (X.q rfl ?_))
   refine X.opR rfl (X.indexF (f := V.i) h_6 (fun _ => rfl) rfl rfl rfl rfl) rfl ?_
   refine X.opR rfl (X.loadF h_6 rfl rfl rfl) rfl (X.q rfl (GS.opsNil (GS.seq (X.sq (X.q rfl (X.q rfl ?_))))))
   refine GS.opsNil ?_
   refine X.join (τ := Int) (fun v => berth_board_best_j4 x3 l5 y1 v = some b_1) (fun v => ⟨[(0, (V.fptr [(e_berth_board b)] 0 0)), (1, (V.sl (List.map V.i fixed))), (6, (ovl 0 l5)), (8, (ovlz z_6 1 y1)), (9, (V.i v)), (15, (V.i (b.calls.length : Int))), (16, (V.i x3))], [obl 1 (fun l => V.sl (List.map V.i l)) l5, oblz z_6 1 V.i y1], 0, none, 71⟩) ?_ ?_
   ·intro k hM
    replace hM : berth_board_best_j4 x3 l5 y1 k = some b_1 := hM
    unfold berth_board_best_j4 at hM
    refine X.sq (X.q rfl ?_)
    refine X.opR rfl (X.lenN (l := y1) rfl rfl rfl) rfl (X.q rfl (GS.opsNil (GS.block ?_)))
    refine X.gc [some 0, some 1] (X.loop (σ := (Int × (List Int))) (fun v => ⟨[(0, (V.fptr [(e_berth_board b)] 0 0)), (1, (V.sl (List.map V.i fixed))), (6, (ovl 0 l5)), (8, (ovlz z_6 1 v.2)), (9, (V.i k)), (15, (V.i (b.calls.length : Int))), (16, (V.i x3)), (40, (V.i (y1.length : Int))), (41, (V.i v.1))], [obl 1 (fun l => V.sl (List.map V.i l)) l5, oblz z_6 1 V.i v.2], 0, none, 71⟩) hM ?_ rfl) rfl rfl rfl (gk_cons rfl ⟨9, rfl⟩ (gk_cons rfl ⟨9, rfl⟩ (gk_cons rfl (rn_ovl rfl) (gk_cons rfl (rn_ovl rfl) (ga rfl rfl))))) (gb_obl 9 rfl rfl (fun _ => rfl) (gb_obl 9 rfl rfl (fun _ => rfl) gb_nil))
    rintro ⟨x2, l4⟩ b_2 hM hc_5 hr_2
    rw [berth_board_best_b5] at hM
    refine X.sq (X.q rfl (GS.opsNil (GS.seq ?_)))
    refine X.cond rfl (fun h_7 => ?_) (fun h_7 => ?_)
    ·replace hM := ite_t h_7 hM
     refine GS.skip (GS.seq ?_)
     refine X.join (τ := (List Int)) (fun v => berth_board_best_j6 x2 v = some b_2) (fun v => ⟨[(0, (V.fptr [(e_berth_board b)] 0 0)), (1, (V.sl (List.map V.i fixed))), (6, (ovl 0 l5)), (8, (ovlz z_6 1 v)), (9, (V.i k)), (15, (V.i (b.calls.length : Int))), (16, (V.i x3)), (40, (V.i (y1.length : Int))), (41, (V.i x2))], [obl 1 (fun l => V.sl (List.map V.i l)) l5, oblz z_6 1 V.i v], 0, none, 71⟩) ?_ ?_
     ·intro l3 hM
      replace hM : berth_board_best_j6 x2 l3 = some b_2 := hM
      unfold berth_board_best_j6 at hM
      refine GS.region ?_
      refine X.opR rfl (X.addE rfl rfl) rfl (X.q rfl (GS.opsNil ?_))
      have hE := Option.some.inj hM
      exact X.gc [some 0, some 1] (hc_5 (w64 (x2 + 1), l3) hE.symm) rfl rfl rfl (gk_cons rfl ⟨9, rfl⟩ (gk_cons rfl ⟨9, rfl⟩ (gk_cons rfl (rn_ovl rfl) (gk_cons rfl (rn_ovl rfl) (ga rfl rfl))))) (gb_obl 9 rfl rfl (fun _ => rfl) (gb_obl 9 rfl rfl (fun _ => rfl) gb_nil))
     intro hj_6
     refine GS.block (X.sq (X.q rfl (X.q rfl ?_)))
     refine X.nq (X.q rfl (X.q rfl (X.q rfl ?_)))
     refine GS.opsNil ?_
     refine X.cond rfl (fun h_8 => ?_) (fun h_8 => ?_)
     ·replace hM := ite_t h_8 hM
      obtain ⟨x1, h_9, hM⟩ := bind_of hM
      refine GS.region (X.q rfl (X.q rfl ?_))
      refine X.opR rfl (X.indexN h_9 rfl rfl rfl rfl rfl) rfl ?_
      refine X.op0W rfl (X.storeN (b := 1073741824) h_9 rfl rfl rfl rfl rfl rfl rfl) rfl (GS.opsNil ?_)
      refine GS.endB ?_
      exact X.gc [some 0, some 1] (hj_6 (put l4 x2 1073741824) hM) rfl rfl rfl (gk_cons rfl ⟨9, rfl⟩ (gk_cons rfl ⟨9, rfl⟩ (gk_cons rfl (rn_ovl rfl) (gk_cons rfl (rv_eq X.ovl_put (rn_ovl rfl)) (ga rfl rfl))))) (gb_obl 9 rfl rfl (fun _ => rfl) (gb_obl 9 rfl rfl (fun _ => rfl) gb_nil))
     replace hM := ite_f h_8 hM
     refine GS.skip ?_
     refine GS.endB ?_
     exact X.gc [some 0, some 1] (hj_6 l4 hM) rfl rfl rfl (gk_cons rfl ⟨9, rfl⟩ (gk_cons rfl ⟨9, rfl⟩ (gk_cons rfl (rn_ovl rfl) (gk_cons rfl (rn_ovl rfl) (ga rfl rfl))))) (gb_obl 9 rfl rfl (fun _ => rfl) (gb_obl 9 rfl rfl (fun _ => rfl) gb_nil))
    replace hM := ite_f h_7 hM
    refine GS.exit rfl ?_
    obtain ⟨y_2, hM, hy⟩ := map_of hM
    rw [hr_2 _ hy.symm] at hM
    exact X.gc [some 0, some 1] (hj_3 l4 hM) rfl rfl rfl (gk_cons rfl ⟨9, rfl⟩ (gk_cons rfl ⟨9, rfl⟩ (gk_cons rfl (rn_ovl rfl) (gk_cons rfl (rn_ovl rfl) (ga rfl rfl))))) (gb_obl 9 rfl rfl (fun _ => rfl) (gb_obl 9 rfl rfl (fun _ => rfl) gb_nil))
   intro hj_4
   refine X.cond rfl (fun h_10 => ?_) (fun h_10 => ?_)
   ·replace hM := ite_t h_10 hM
    refine GS.region ?_
    iterate 4 refine X.q rfl ?_
    refine X.opR rfl (X.lenF rfl rfl rfl) rfl (X.q rfl ?_)
    refine X.opR rfl (X.addE rfl rfl) rfl (X.q rfl (GS.opsNil ?_))
    exact X.gc [some 0, some 1] (hj_4 (w64 ((b.slots.length : Int) + x3)) hM) rfl rfl rfl (gk_cons rfl ⟨9, rfl⟩ (gk_cons rfl ⟨9, rfl⟩ (gk_cons rfl (rn_ovl rfl) (gk_cons rfl (rn_ovl rfl) (ga rfl rfl))))) (gb_obl 9 rfl rfl (fun _ => rfl) (gb_obl 9 rfl rfl (fun _ => rfl) gb_nil))
   replace hM := ite_f h_10 hM
   refine GS.skip ?_
   exact X.gc [some 0, some 1] (hj_4 x hM) rfl rfl rfl (gk_cons rfl ⟨9, rfl⟩ (gk_cons rfl ⟨9, rfl⟩ (gk_cons rfl (rn_ovl rfl) (gk_cons rfl (rn_ovl rfl) (ga rfl rfl))))) (gb_obl 9 rfl rfl (fun _ => rfl) (gb_obl 9 rfl rfl (fun _ => rfl) gb_nil))
  replace hM := ite_f h_5 hM
  refine GS.skip ?_
  exact X.gc [some 0, some 1] (hj_3 y1 hM) rfl rfl rfl (gk_cons rfl ⟨9, rfl⟩ (gk_cons rfl ⟨9, rfl⟩ (gk_cons rfl (rn_ovl rfl) (gk_cons rfl (rn_ovl rfl) (ga rfl rfl))))) (gb_obl 9 rfl rfl (fun _ => rfl) (gb_obl 9 rfl rfl (fun _ => rfl) gb_nil))
 replace hM := ite_f h_2 hM
 refine GS.exit rfl ?_
 obtain ⟨y_1, hM, hy⟩ := map_of hM
 rw [hr_1 _ hy.symm] at hM
 exact X.gc [some 0] (hj_1 l5 hM) rfl rfl rfl (gk_cons rfl ⟨9, rfl⟩ (gk_cons rfl (rn_ovl rfl) gk_nil)) (gb_obl 9 rfl rfl (fun _ => rfl) gb_nil)
theorem ok_slices_Clone_int {l r : List Int} (hM : slices_Clone_int l = some r) : Ct Tryz.prog 110 [V.sl (List.map V.i l)] (V.sl (List.map V.i r)) := by
 unfold slices_Clone_int at hM
 have hr : r = l := by obtain ⟨_, e⟩ := app_of hM; simpa using e
 refine ct_of_gs CC_ok rfl ?_
 refine GS.seq ?_
 refine GS.region ?_
 refine X.opR rfl rfl rfl ?_
 refine GS.opsNil ?_
 iterate 2 refine GS.seq ?_
 refine GS.region ?_
 refine X.opR rfl rfl rfl ?_
 refine X.nilEq rfl rfl rfl rfl rfl rfl (fun h => ?_) ?_
 ·have hl : r = [] := by rw [hr]; simpa using h
  subst hl
  refine GS.opsNil ?_
  refine GS.condT rfl ?_
  refine GS.seq ?_
  refine GS.region ?_
  refine X.opR rfl rfl rfl ?_
  refine GS.opsNil ?_
  exact GS.ret ⟨_, rfl, ⟨30, rfl⟩⟩
 ·refine GS.opsNil ?_
  refine GS.condF rfl ?_
  refine GS.skip ?_
  refine GS.seq ?_
  refine GS.region ?_
  refine X.opW rfl rfl rfl rfl ?_
  refine X.opR rfl rfl rfl ?_
  refine X.opW rfl (X.appO (f := V.i) (l := []) (xs := l) hM (fun _ => rfl) rfl rfl rfl rfl rfl rfl rfl rfl rfl rfl) rfl rfl ?_
  refine X.opR rfl rfl rfl ?_
  refine GS.opsNil ?_
  exact GS.ret ⟨_, rfl, FR.osl (f := V.i) (l := r) 9 rfl rfl (fun _ => rfl)⟩
theorem clone_int {all os : List Oper} {k : List It} {K : List (Nat × V)} {H : List Blk} {lo n d N : Nat} {rnd : Option Nat} {Q : Ex → St → Prop} {p : Op} {ty : TypeId} {pos : String} {after : Array Edge} {g : Option (Nat × Bool)} {l r : List Int} (hM : app [] l = some r) (hw : wants all K g = some true) (hc : callee K p = some (.fn 110 [.sl (l.map V.i)])) (hd : Nat.blt d n = true) (hlo : Nat.ble lo H.length = true) {i : Nat} (hi : H.length + 1 = i)
  (h : ∀ z : Bool, GS CC N (.ops all os :: k) ⟨(d, ovlz z i r) :: K, H ++ [.dead, oblz z 1 V.i r], lo, rnd, n⟩ Q) : GS CC N (.ops all (⟨some d, p, ty, pos, after, g⟩ :: os) :: k) ⟨K, H, lo, rnd, n⟩ Q := by
 subst hi
 have hr : r = l := by obtain ⟨_, e⟩ := app_of hM; simpa using e
 refine GS.im (s := ⟨K, H, lo, rnd, n⟩) (fun v H1 => ∃ z : Bool, v = ovlz z (H.length + 1) r ∧ H1 = H ++ [.dead, oblz z 1 V.i r]) hw hc rfl ?_ (fun v H1 hT => ?_)
 ·refine GS.seq ?_
  refine GS.region ?_
  refine X.opR rfl rfl rfl ?_
  refine GS.opsNil ?_
  iterate 2 refine GS.seq ?_
  refine GS.region ?_
  refine X.opR rfl rfl rfl ?_
  refine X.nilEq rfl rfl rfl rfl rfl rfl (fun h => ?_) ?_
  ·have hl : r = [] := by rw [hr]; simpa using h
   subst hl
   refine GS.opsNil ?_
   refine GS.condT rfl ?_
   refine GS.seq ?_
   refine GS.region ?_
   refine X.opR rfl rfl rfl ?_
   refine GS.opsNil ?_
   refine GS.pad ?_
   refine GS.pad ?_
   exact GS.ret ⟨_, rfl, true, rfl, by simp [oblz]⟩
  ·refine GS.opsNil ?_
   refine GS.condF rfl ?_
   refine GS.skip ?_
   refine GS.seq ?_
   refine GS.region ?_
   refine X.opW rfl (v := .osl H.length 0 0) (wr := [(H.length, .rows 1 [])]) rfl X.puts_end rfl ?_
   refine X.opR rfl rfl rfl ?_
   refine X.opW (H' := H ++ [.dead, .rows 1 (r.map V.i)]) rfl (X.appO (f := V.i) (l := []) (xs := l) (es := 1) hM (fun _ => rfl) rfl rfl rfl rfl rfl rfl X.hget_end hlo rfl rfl) ?_ rfl ?_
   ·show hput (hput (H ++ [Blk.rows 1 []]) H.length Blk.dead) (H ++ [Blk.rows 1 []]).length (Blk.rows 1 (r.map V.i)) = _
    have e1 : hput (H ++ [Blk.rows 1 []]) H.length Blk.dead = H ++ [Blk.dead] := X.puts_end' (B := .rows 1 []) (B' := .dead)
    rw [e1, show (H ++ [Blk.rows 1 []]).length = (H ++ [Blk.dead]).length by simp, hput_end]
    simp
   refine X.opR rfl rfl rfl ?_
   refine GS.opsNil ?_
   exact GS.ret ⟨_, rfl, false, by simp [ovlz], rfl⟩
 ·obtain ⟨z, rfl, rfl⟩ := hT
  exact X.front rfl hd (h z) rfl
theorem own_slices_Clone_int {l r : List Int} (hM : app [] l = some r) : OwnCt Tryz.prog 110 [V.sl (List.map V.i l)] (fun z => ovlz z 0 r) (fun z => oblz z 1 V.i r) := by
 have hr : r = l := by obtain ⟨_, e⟩ := app_of hM; simpa using e
 refine own_of_gs CC_ok rfl ?_
 refine GS.seq ?_
 refine GS.region ?_
 refine X.opR rfl rfl rfl ?_
 refine GS.opsNil ?_
 iterate 2 refine GS.seq ?_
 refine GS.region ?_
 refine X.opR rfl rfl rfl ?_
 refine X.nilEq rfl rfl rfl rfl rfl rfl (fun h => ?_) ?_
 ·have hl : r = [] := by rw [hr]; simpa using h
  subst hl
  refine GS.opsNil ?_
  refine GS.condT rfl ?_
  refine GS.seq ?_
  refine GS.region ?_
  refine X.opR rfl rfl rfl ?_
  refine GS.opsNil ?_
  refine GS.pad ?_
  exact GS.ret ⟨true, rfl, rfl⟩
 ·refine GS.opsNil ?_
  refine GS.condF rfl ?_
  refine GS.skip ?_
  refine GS.seq ?_
  refine GS.region ?_
  refine X.opW rfl rfl rfl rfl ?_
  refine X.opR rfl rfl rfl ?_
  refine X.opW rfl (X.appO (f := V.i) (l := []) (xs := l) hM (fun _ => rfl) rfl rfl rfl rfl rfl rfl rfl rfl rfl rfl) rfl rfl ?_
  refine X.opR rfl rfl rfl ?_
  refine GS.opsNil ?_
  refine X.gc [some 1] (H' := [.rows 1 (List.map V.i r)]) (K' := [(2, (V.osl 0 0 (List.length r)))]) ?_ rfl rfl rfl (ga rfl rfl) (gb_rows 9 rfl rfl (fun _ => rfl) gb_nil)
  exact GS.ret ⟨false, rfl, rfl⟩
set_option maxHeartbeats 4000000 in
theorem ok_berth_board_plan {b : berth_board} {r : (List api_Stay)} (hM : berth_board_plan b = some r) : Ct Tryz.prog 79 [(V.fptr [(e_berth_board b)] 0 0)] (V.sl (List.map e_api_Stay r)) := by
 refine ct_of_gs CC_ok rfl ?_
 unfold berth_board_plan at hM
 refine X.sq (X.q rfl (GS.opsNil ?_))
 refine GS.scope (GS.seq ?_)
 obtain ⟨y, h_1, hM⟩ := bind_of hM
 refine GS.region (X.q rfl ?_)
 refine X.callF (v := (V.tup [V.uns, (V.i y.2)])) (Ct.mask (ok_berth_board_best h_1)) rfl rfl rfl (m := 9) rfl (.cons (.shut (n := 9) rfl) (.cons (.nil (n := 9) rfl) .nil)) ?_
 iterate 5 refine X.q rfl ?_
 refine X.nq (X.q rfl (X.nq (X.q rfl (GS.opsNil (GS.seq ?_)))))
 refine GS.label (GS.seq (X.sq ?_))
 iterate 4 refine X.q rfl ?_
 refine X.opR rfl (X.lenF rfl rfl rfl) rfl (X.q rfl (GS.opsNil ?_))
 refine X.join (τ := (List api_Stay)) (fun v => berth_board_plan_j1 v = some r) (fun v => ⟨[(6, (ovl 0 v))], [obl 5 e_api_Stay v], 0, none, 85⟩) ?_ ?_
 ·intro l hM
  replace hM : berth_board_plan_j1 l = some r := hM
  unfold berth_board_plan_j1 at hM
  refine X.sq (X.q rfl (X.q rfl ?_))
  refine GS.opsNil ?_
  have hE := Option.some.inj hM
  subst hE
  exact GS.ret ⟨_, rfl, FR.ovl (f := e_api_Stay) (l := l) 9 rfl rfl (fun _ => rfl)⟩
 intro hj_1
 refine GS.block ?_
 refine X.gc [none, none] (X.loop (σ := (Int × (List Int) × (List api_Stay))) (fun v => ⟨[(0, (V.fptr [(e_berth_board b)] 0 0)), (4, (V.i y.2)), (5, (ovl 0 v.2.1)), (6, (ovl 1 v.2.2)), (23, (V.sl (List.map e_api_Call b.calls))), (24, (V.i (b.calls.length : Int))), (25, (V.i v.1))], [obl 1 V.i v.2.1, obl 5 e_api_Stay v.2.2], 0, none, 85⟩) hM ?_ rfl) rfl rfl rfl (ga rfl rfl) (gb_pad' rfl (gb_pad' rfl gb_nil))
 rintro ⟨x4, l8, l9⟩ b_1 hM hc_2 hr_1
 rw [berth_board_plan_b2] at hM
 refine X.sq (X.q rfl (GS.opsNil (GS.seq ?_)))
 refine X.cond rfl (fun h_2 => ?_) (fun h_2 => ?_)
 ·replace hM := ite_t h_2 hM
  refine GS.skip (GS.seq ?_)
  refine X.join (τ := (List Int) × (List api_Stay)) (fun v => berth_board_plan_j3 x4 v.1 v.2 = some b_1) (fun v => ⟨[(0, (V.fptr [(e_berth_board b)] 0 0)), (4, (V.i y.2)), (5, (ovl 0 v.1)), (6, (ovl 1 v.2)), (23, (V.sl (List.map e_api_Call b.calls))), (24, (V.i (b.calls.length : Int))), (25, (V.i x4))], [obl 1 V.i v.1, obl 5 e_api_Stay v.2], 0, none, 85⟩) ?_ ?_
  ·rintro ⟨l1, l2⟩ hM
   replace hM : berth_board_plan_j3 x4 l1 l2 = some b_1 := hM
   unfold berth_board_plan_j3 at hM
   refine GS.region ?_
   refine X.opR rfl (X.addE rfl rfl) rfl (X.q rfl (GS.opsNil ?_))
   have hE := Option.some.inj hM
   exact X.gc [some 0, some 1] (hc_2 (w64 (x4 + 1), l1, l2) hE.symm) rfl rfl rfl (gk_cons rfl ⟨9, rfl⟩ (gk_cons rfl ⟨9, rfl⟩ (gk_cons rfl (rn_ovl rfl) (gk_cons rfl (rn_ovl rfl) (ga rfl rfl))))) (gb_obl 9 rfl rfl (fun _ => rfl) (gb_obl 9 rfl rfl (fun _ => rfl) gb_nil))
  intro hj_3
  refine GS.block (GS.seq ?_)
  obtain ⟨x, h_3, hM⟩ := bind_of hM
  refine GS.region (X.q rfl ?_)
  refine X.opR rfl (X.indexF (f := e_api_Call) h_3 (fun _ => rfl) rfl rfl rfl rfl) rfl ?_
  refine X.opR rfl (X.loadF h_3 rfl rfl rfl) rfl ?_
  refine X.opW rfl rfl rfl rfl (X.q rfl ?_)
  refine X.op0W rfl rfl rfl (GS.opsNil (GS.seq (X.sq ?_)))
  iterate 4 refine X.q rfl ?_
  refine X.opR rfl (X.lenF rfl rfl rfl) rfl (X.q rfl (GS.opsNil ?_))
  refine X.join (τ := Unit) (fun v => berth_board_plan_j4 x4 l8 l9 = some b_1) (fun v => ⟨[(0, (V.fptr [(e_berth_board b)] 0 0)), (4, (V.i y.2)), (5, (ovl 0 l8)), (6, (ovl 1 l9)), (23, (V.sl (List.map e_api_Call b.calls))), (24, (V.i (b.calls.length : Int))), (25, (V.i x4))], [obl 1 V.i l8, obl 5 e_api_Stay l9], 0, none, 85⟩) ?_ ?_
  ·intro _ hM
   replace hM : berth_board_plan_j4 x4 l8 l9 = some b_1 := hM
   unfold berth_board_plan_j4 at hM
   obtain ⟨l3, h_4, hM⟩ := bind_of hM
   refine GS.region (X.q rfl ?_)
   refine X.opW rfl rfl rfl rfl ?_
   refine X.appN (f := V.i) h_4 (fun _ => rfl) (by rfl) (by rfl) (by rfl) (by rfl) (by rfl) (by rfl) (by rfl) (by rfl) (by rfl) (by rfl) (by rfl) (by exact rfl) (by rfl) (by rfl) (X.q rfl (GS.opsNil ?_))
   refine GS.endB ?_
   exact X.gc [some 3, some 1] (hj_3 (l3, l9) hM) rfl rfl rfl (gk_cons rfl ⟨9, rfl⟩ (gk_cons rfl ⟨9, rfl⟩ (gk_cons rfl (rv_ne (app_ne h_4) rfl) (gk_cons rfl (rn_ovl rfl) (ga rfl rfl))))) (gb_obl' 9 (app_ne h_4) rfl rfl (fun _ => rfl) (gb_obl 9 rfl rfl (fun _ => rfl) gb_nil))
  intro hj_4
  refine GS.block ?_
  refine X.gc [some 0, some 1, some 2] (X.loop (σ := Int) (fun v => ⟨[(0, (V.fptr [(e_berth_board b)] 0 0)), (4, (V.i y.2)), (5, (ovl 0 l8)), (6, (ovl 1 l9)), (7, (V.i x4)), (8, (V.ptr 2 0 0)), (23, (V.sl (List.map e_api_Call b.calls))), (24, (V.i (b.calls.length : Int))), (25, (V.i x4)), (33, (V.sl (List.map e_api_Slot b.slots))), (34, (V.i (b.slots.length : Int))), (35, (V.i v))], [obl 1 V.i l8, obl 5 e_api_Stay l9, .rows 5 [(e_api_Call x)]], 0, none, 85⟩) hM ?_ rfl) rfl rfl rfl (gk_cons rfl ⟨9, rfl⟩ (gk_cons rfl ⟨9, rfl⟩ (gk_cons rfl (rn_ovl rfl) (gk_cons rfl (rn_ovl rfl) (ga rfl rfl))))) (gb_obl 9 rfl rfl (fun _ => rfl) (gb_obl 9 rfl rfl (fun _ => rfl) (gb9 rfl rfl rfl gb_nil)))
  intro x3 b_2 hM hc_5 hr_2
  rw [berth_board_plan_b5] at hM
  refine X.sq (X.q rfl (GS.opsNil (GS.seq ?_)))
  refine X.cond rfl (fun h_5 => ?_) (fun h_5 => ?_)
  ·replace hM := ite_t h_5 hM
   refine GS.skip (GS.seq ?_)
   refine X.join (τ := Unit) (fun v => berth_board_plan_j6 x3 = some b_2) (fun v => ⟨[(0, (V.fptr [(e_berth_board b)] 0 0)), (4, (V.i y.2)), (5, (ovl 0 l8)), (6, (ovl 1 l9)), (7, (V.i x4)), (8, (V.ptr 2 0 0)), (23, (V.sl (List.map e_api_Call b.calls))), (24, (V.i (b.calls.length : Int))), (25, (V.i x4)), (33, (V.sl (List.map e_api_Slot b.slots))), (34, (V.i (b.slots.length : Int))), (35, (V.i x3))], [obl 1 V.i l8, obl 5 e_api_Stay l9, .rows 5 [(e_api_Call x)]], 0, none, 85⟩) ?_ ?_
   ·intro _ hM
    replace hM : berth_board_plan_j6 x3 = some b_2 := hM
    unfold berth_board_plan_j6 at hM
    refine GS.region ?_
    refine X.opR rfl (X.addE rfl rfl) rfl (X.q rfl (GS.opsNil ?_))
    have hE := Option.some.inj hM
    exact X.gc [some 0, some 1, some 2] (hc_5 (w64 (x3 + 1)) hE.symm) rfl rfl rfl (gk_cons rfl ⟨9, rfl⟩ (gk_cons rfl ⟨9, rfl⟩ (gk_cons rfl (rn_ovl rfl) (gk_cons rfl (rn_ovl rfl) (ga rfl rfl))))) (gb_obl 9 rfl rfl (fun _ => rfl) (gb_obl 9 rfl rfl (fun _ => rfl) (gb9 rfl rfl rfl gb_nil)))
   intro hj_6
   refine GS.block (GS.seq ?_)
   obtain ⟨x1, h_6, hM⟩ := bind_of hM
   refine GS.region (X.q rfl ?_)
   refine X.opR rfl (X.indexF (f := e_api_Slot) h_6 (fun _ => rfl) rfl rfl rfl rfl) rfl ?_
   refine X.opR rfl (X.loadF h_6 rfl rfl rfl) rfl ?_
   refine X.opW (H' := [obl 1 V.i l8, obl 5 e_api_Stay l9, .rows 5 [(e_api_Call x)], .rows 2 [(V.agg [(V.i 0), (V.i 0)])]]) rfl rfl rfl rfl (X.q rfl ?_)
   refine X.op0W (H' := [obl 1 V.i l8, obl 5 e_api_Stay l9, .rows 5 [(e_api_Call x)], .rows 2 [(e_api_Slot x1)]]) rfl rfl rfl (GS.opsNil (GS.seq ?_))
   obtain ⟨x2, h_7, hM⟩ := bind_of hM
   refine X.draw (by kernel_rfl) ?_
   iterate 5 refine X.dop rfl rfl rfl rfl (by kernel_rfl) rfl rfl ?_
   refine X.dop rfl (X.indexF (f := (fun l => V.fmap (List.map (fun p => e_api_Slot p.1) l) (List.map (fun p => e_api_Span p.2) l))) h_7 (fun _ => rfl) rfl rfl rfl rfl) rfl rfl (by kernel_rfl) rfl rfl ?_
   refine X.dop rfl (X.loadF h_7 rfl rfl rfl) rfl rfl (by kernel_rfl) rfl rfl ?_
   refine X.dop rfl rfl rfl rfl (by kernel_rfl) rfl rfl ?_
   refine X.dop rfl (X.lookF (f := e_api_Slot) (g := e_api_Span) (k := x1) (l := x2) (z := (⟨0, 0⟩ : api_Span)) (ok := true) key_api_Slot rfl rfl rfl rfl rfl) rfl rfl (by kernel_rfl) rfl rfl ?_
   iterate 4 refine X.dop rfl rfl rfl rfl (by kernel_rfl) rfl rfl ?_
   refine X.dop0 rfl rfl rfl rfl (by kernel_rfl) rfl ?_
   refine X.dop rfl rfl rfl rfl (by kernel_rfl) rfl rfl ?_
   refine X.dnil ?_
   refine X.norm [(0, (V.fptr [(e_berth_board b)] 0 0)), (4, (V.i y.2)), (5, (ovl 0 l8)), (6, (ovl 1 l9)), (7, (V.i x4)), (8, (V.ptr 2 0 0)), (9, (V.i x3)), (10, (V.ptr 3 0 0)), (11, (V.ptr 4 0 0)), (12, (V.b ((lookM x1 x2).isSome))), (23, (V.sl (List.map e_api_Call b.calls))), (24, (V.i (b.calls.length : Int))), (25, (V.i x4)), (33, (V.sl (List.map e_api_Slot b.slots))), (34, (V.i (b.slots.length : Int))), (35, (V.i x3))] ?_ rfl (sr rfl)
   refine GS.seq (X.sq (X.q rfl (X.q rfl ?_)))
   refine GS.opsNil ?_
   refine X.cond rfl (fun h_8 => ?_) (fun h_8 => ?_)
   ·replace hM := ite_t h_8 hM
    refine GS.exit rfl ?_
    exact X.gc [some 0, some 1, some 2] (hj_6 () hM) rfl rfl rfl (gk_cons rfl ⟨9, rfl⟩ (gk_cons rfl ⟨9, rfl⟩ (gk_cons rfl (rn_ovl rfl) (gk_cons rfl (rn_ovl rfl) (ga rfl rfl))))) (gb_obl 9 rfl rfl (fun _ => rfl) (gb_obl 9 rfl rfl (fun _ => rfl) (gb9 rfl rfl rfl gb_nil)))
   replace hM := ite_f h_8 hM
   refine GS.skip (GS.seq ?_)
   obtain ⟨l4, h_9, hM⟩ := bind_of hM
   obtain ⟨l5, h_10, hM⟩ := bind_of hM
   obtain ⟨y1, h_11, hM⟩ := bind_of hM
   refine GS.region (X.q rfl (X.q rfl ?_))
   refine X.ownF (own_slices_Clone_int h_9) (nn := 9) (fun _ => rfl) rfl rfl rfl (.cons (FR.arg (FR.ovl (f := V.i) (l := l8) 9 rfl rfl (fun _ => rfl))) .nil) rfl (fun z_144 => (X.q rfl ?_))
   refine X.opW (H' := [obl 1 V.i l8, obl 5 e_api_Stay l9, .rows 5 [(e_api_Call x)], .rows 2 [(e_api_Slot x1)], .rows 2 [(e_api_Span ((lookM x1 x2).getD (⟨0, 0⟩ : api_Span)))], oblz z_144 1 V.i l4, .rows 1 (List.map V.i ([x3]))]) rfl rfl rfl rfl ?_
   refine X.appN (f := V.i) h_10 (fun _ => rfl) (by rfl) (by rfl) (by rfl) (by rfl) (by rfl) (by rfl) (by rfl) (by rfl) (by rfl) (by rfl) (by rfl) (by exact rfl) (by rfl) (by rfl) ?_
   refine X.callF (v := (V.tup [V.uns, (V.i y1.2)])) (Ct.mask (ok_berth_board_best h_11)) rfl rfl rfl (m := 9) rfl (.cons (.shut (n := 9) rfl) (.cons (FR.arg (FR.osl (f := V.i) (l := l5) 9 rfl rfl (fun _ => rfl))) .nil)) ?_
   iterate 5 refine X.q rfl ?_
   refine X.nq (X.q rfl (X.q rfl (X.q rfl ?_)))
   refine GS.opsNil ?_
   refine X.cond rfl (fun h_12 => ?_) (fun h_12 => ?_)
   ·replace hM := ite_t h_12 hM
    refine GS.seq ?_
    obtain ⟨l6, h_13, hM⟩ := bind_of hM
    refine GS.region (X.q rfl (X.q rfl ?_))
    refine X.opW (H' := [obl 1 V.i l8, obl 5 e_api_Stay l9, .rows 5 [(e_api_Call x)], .rows 2 [(e_api_Slot x1)], .rows 2 [(e_api_Span ((lookM x1 x2).getD (⟨0, 0⟩ : api_Span)))], .dead, .rows 1 (List.map V.i ([x3])), .rows 1 (List.map V.i l5), .rows 1 (List.map V.i ([x3]))]) rfl rfl rfl rfl ?_
    refine X.appN (f := V.i) h_13 (fun _ => rfl) (by rfl) (by rfl) (by rfl) (by rfl) (by rfl) (by rfl) (by rfl) (by rfl) (by rfl) (by rfl) (by rfl) (by exact rfl) (by rfl) (by rfl) (X.q rfl (GS.opsNil (GS.seq ?_)))
    obtain ⟨l7, h_14, hM⟩ := bind_of hM
    refine GS.region ?_
    iterate 6 refine X.q rfl ?_
    refine X.opW (H' := [.dead, obl 5 e_api_Stay l9, .rows 5 [(e_api_Call x)], .rows 2 [(e_api_Slot x1)], .rows 2 [(e_api_Span ((lookM x1 x2).getD (⟨0, 0⟩ : api_Span)))], .dead, .rows 1 (List.map V.i ([x3])), .rows 1 (List.map V.i l5), .rows 1 (List.map V.i ([x3])), .rows 1 (List.map V.i l6), .rows 5 (List.map e_api_Stay ([(⟨x.ID, x1, ((lookM x1 x2).getD (⟨0, 0⟩ : api_Span))⟩ : api_Stay)]))]) rfl rfl rfl rfl ?_
    refine X.appN (f := e_api_Stay) h_14 (fun _ => rfl) (by rfl) (by rfl) (by rfl) (by rfl) (by rfl) (by rfl) (by rfl) (by rfl) (by rfl) (by rfl) (by rfl) (by exact rfl) (by rfl) (by rfl) (X.q rfl (GS.opsNil ?_))
    refine GS.exit rfl ?_
    obtain ⟨y_2, hM, hy⟩ := map_of hM
    rw [hr_2 _ hy.symm] at hM
    exact X.gc [some 9, some 11] (hj_3 (l6, l7) hM) rfl rfl rfl (gk_cons rfl ⟨9, rfl⟩ (gk_cons rfl ⟨9, rfl⟩ (gk_cons rfl (rv_ne (app_ne h_13) rfl) (gk_cons rfl (rv_ne (app_ne h_14) rfl) (ga rfl rfl))))) (gb_obl' 9 (app_ne h_13) rfl rfl (fun _ => rfl) (gb_obl' 9 (app_ne h_14) rfl rfl (fun _ => rfl) gb_nil))
   replace hM := ite_f h_12 hM
   refine GS.skip ?_
   refine GS.endB ?_
   exact X.gc [some 0, some 1, some 2] (hj_6 () hM) rfl rfl rfl (gk_cons rfl ⟨9, rfl⟩ (gk_cons rfl ⟨9, rfl⟩ (gk_cons rfl (rn_ovl rfl) (gk_cons rfl (rn_ovl rfl) (ga rfl rfl))))) (gb_obl 9 rfl rfl (fun _ => rfl) (gb_obl 9 rfl rfl (fun _ => rfl) (gb9 rfl rfl rfl gb_nil)))
  replace hM := ite_f h_5 hM
  refine GS.exit rfl ?_
  obtain ⟨y_2, hM, hy⟩ := map_of hM
  rw [hr_2 _ hy.symm] at hM
  exact X.gc [some 0, some 1] (hj_4 () hM) rfl rfl rfl (gk_cons rfl ⟨9, rfl⟩ (gk_cons rfl ⟨9, rfl⟩ (gk_cons rfl (rn_ovl rfl) (gk_cons rfl (rn_ovl rfl) (ga rfl rfl))))) (gb_obl 9 rfl rfl (fun _ => rfl) (gb_obl 9 rfl rfl (fun _ => rfl) gb_nil))
 replace hM := ite_f h_2 hM
 refine GS.exit rfl ?_
 obtain ⟨y_1, hM, hy⟩ := map_of hM
 rw [hr_1 _ hy.symm] at hM
 exact X.gc [some 1] (hj_1 l9 hM) rfl rfl rfl (gk_cons rfl (rn_ovl rfl) gk_nil) (gb_obl 9 rfl rfl (fun _ => rfl) gb_nil)
theorem ok_berth_Plan {h : api_Harbour} {l : (List api_Call)} {r : (List api_Stay) × Int} (hM : berth_Plan h l = some r) : Ct Tryz.prog 33 [(e_api_Harbour h), (V.sl (List.map e_api_Call l))] (V.tup [(V.sl (List.map e_api_Stay r.1)), (V.i r.2)]) := by
 refine ct_of_gs CC_ok rfl ?_
 unfold berth_Plan at hM
 refine X.sq ?_
 refine X.opW rfl rfl rfl rfl (X.q rfl (X.q rfl ?_))
 refine GS.opsNil ?_
 iterate 2 refine GS.seq ?_
 obtain ⟨y, h_1, hM⟩ := bind_of hM
 refine GS.region (X.q rfl (X.q rfl ?_))
 refine X.call (ok_berth_CheckCalls h_1) rfl rfl rfl (.cons (.shut (n := 9) rfl) (.cons (.shut (n := 9) rfl) .nil)) (X.q rfl (X.nq (X.q rfl (X.q rfl ?_))))
 refine GS.opsNil ?_
 refine X.cond rfl (fun h_2 => ?_) (fun h_2 => ?_)
 ·replace hM := ite_t h_2 hM
  refine X.sq (X.q rfl (X.q rfl (X.q rfl ?_)))
  refine GS.opsNil ?_
  cases hM
  exact GS.ret ⟨_, rfl, ⟨30, rfl⟩⟩
 replace hM := ite_f h_2 hM
 refine GS.skip (GS.seq ?_)
 obtain ⟨y1, h_3, hM⟩ := bind_of hM
 obtain ⟨y2, h_4, hM⟩ := bind_of hM
 refine GS.region (X.q rfl (X.q rfl ?_))
 refine X.call (ok_berth_laid h_3) rfl rfl rfl (.cons (.shut (n := 9) rfl) (.cons (.shut (n := 9) rfl) .nil)) ?_
 refine X.call (ok_berth_board_plan h_4) rfl rfl rfl (.cons (.shut (n := 9) rfl) .nil) (X.q rfl (X.q rfl ?_))
 refine GS.opsNil ?_
 cases hM
 exact GS.ret ⟨_, rfl, ⟨30, rfl⟩⟩
abbrev e_api_Crowd (x : api_Crowd) : V := .agg [(V.sl (List.map V.i x.Calls)), (V.sl (List.map e_api_Slot x.Slots))]
theorem ok_berth_board_crowd_1 {c : api_Call} {c1 : berth_board} {c2 : api_Slot} {c3 : (List (Int × Bool))} {r : Bool} (hM : berth_board_crowd_1 c c1 c2 c3 = some r) : Ct Tryz.prog 103 [(e_api_Call c), (V.fptr [(V.fptr [(e_berth_board c1)] 0 0)] 0 0), (V.fptr [(e_api_Slot c2)] 0 0), (V.fptr [(V.fmap (List.map (fun p : Int × Bool => V.i p.1) c3) (List.map (fun p : Int × Bool => V.b p.2) c3))] 0 0)] (V.b r) := by
 refine ct_of_gs CC_ok rfl ?_
 unfold berth_board_crowd_1 at hM
 refine X.sq ?_
 refine X.opW rfl rfl rfl rfl (X.q rfl (GS.opsNil (GS.seq ?_)))
 obtain ⟨y, h_1, hM⟩ := bind_of hM
 refine X.drawc (by kernel_rfl) rfl ?_
 iterate 6 refine X.cop rfl rfl rfl rfl ?_
 refine X.ccall (ok_berth_first_api_Call__berth_callID h_1) rfl rfl rfl rfl (.cons (.shut (n := 9) rfl) (.cons (.shut (n := 9) rfl) (.cons (.shut (n := 9) rfl) .nil))) ?_
 refine X.cop rfl rfl rfl rfl ?_
 refine X.cnil ?_
 refine X.norm [(1, (V.fptr [(V.fptr [(e_berth_board c1)] 0 0)] 0 0)), (2, (V.fptr [(e_api_Slot c2)] 0 0)), (3, (V.fptr [(V.fmap (List.map (fun p : Int × Bool => V.i p.1) c3) (List.map (fun p : Int × Bool => V.b p.2) c3))] 0 0)), (6, (V.i y))] ?_ rfl (sr rfl)
 refine GS.seq ?_
 obtain ⟨x, h_2, hM⟩ := bind_of hM
 refine X.draw (by kernel_rfl) ?_
 iterate 5 refine X.dop rfl rfl rfl rfl (by kernel_rfl) rfl rfl ?_
 refine X.dop rfl (X.indexF (f := (fun l => V.fmap (List.map (fun p => e_api_Slot p.1) l) (List.map (fun p => e_api_Span p.2) l))) h_2 (fun _ => rfl) rfl rfl rfl rfl) rfl rfl (by kernel_rfl) rfl rfl ?_
 refine X.dop rfl (X.loadF h_2 rfl rfl rfl) rfl rfl (by kernel_rfl) rfl rfl ?_
 refine X.dop rfl rfl rfl rfl (by kernel_rfl) rfl rfl ?_
 refine X.dop rfl (X.lookF (f := e_api_Slot) (g := e_api_Span) (k := c2) (l := x) (z := (⟨0, 0⟩ : api_Span)) (ok := true) key_api_Slot rfl rfl rfl rfl rfl) rfl rfl (by kernel_rfl) rfl rfl ?_
 iterate 4 refine X.dop rfl rfl rfl rfl (by kernel_rfl) rfl rfl ?_
 refine X.dop0 rfl rfl rfl rfl (by kernel_rfl) rfl ?_
 refine X.dop rfl rfl rfl rfl (by kernel_rfl) rfl rfl ?_
 refine X.dnil ?_
 refine X.norm [(3, (V.fptr [(V.fmap (List.map (fun p : Int × Bool => V.i p.1) c3) (List.map (fun p : Int × Bool => V.b p.2) c3))] 0 0)), (6, (V.i y)), (8, (V.b ((lookM c2 x).isSome)))] ?_ rfl (sr rfl)
 refine X.sq ?_
 refine X.mid [(5, (V.b (((lookM c2 x).isSome) && ((lookM y c3).getD false))))] ?_ ?_
 ·intro hg
  refine X.split ((lookM c2 x).isSome) (fun h_3 => ?_) (fun h_3 => ?_)
  ·iterate 2 refine X.q rfl ?_
   iterate 2 refine X.opR (X.on_t rfl rfl rfl h_3) rfl rfl ?_
   refine X.opR (X.on_t rfl rfl rfl h_3) (X.lookF (f := V.i) (g := V.b) (k := y) (l := c3) (z := false) (ok := false) X.keyEq_i rfl rfl rfl rfl rfl) rfl ?_
   refine X.opR rfl (X.pickand_t (y := ((lookM y c3).getD false)) rfl h_3 rfl) rfl (X.q rfl (GS.opsNil ?_))
   exact X.norm _ hg rfl (sr rfl)
  refine X.q rfl (X.q rfl ?_)
  iterate 3 refine X.off (X.off_t rfl rfl rfl h_3) rfl ?_
  refine X.opR rfl (X.pickand_f (y := ((lookM y c3).getD false)) rfl h_3 rfl) rfl (X.q rfl (GS.opsNil ?_))
  exact X.norm _ hg rfl (sr rfl)
 cases hM
 exact GS.ret ⟨_, rfl, ⟨30, rfl⟩⟩
theorem ok_slices_IndexFunc_api_Call__berth_board_crowd_1 {s : (List api_Call)} {c : berth_board} {c1 : api_Slot} {c2 : (List (Int × Bool))} {r : Int} (hM : slices_IndexFunc_api_Call__berth_board_crowd_1 s c c1 c2 = some r) : Ct Tryz.prog 96 [(V.sl (List.map e_api_Call s)), (V.fn 103 [(V.fptr [(V.fptr [(e_berth_board c)] 0 0)] 0 0), (V.fptr [(e_api_Slot c1)] 0 0), (V.fptr [(V.fmap (List.map (fun p : Int × Bool => V.i p.1) c2) (List.map (fun p : Int × Bool => V.b p.2) c2))] 0 0)])] (V.i r) := by
 refine ct_of_gs CC_ok rfl ?_
 unfold slices_IndexFunc_api_Call__berth_board_crowd_1 at hM
 refine X.sq (X.q rfl (GS.opsNil (GS.seq (X.sq (X.q rfl ?_)))))
 refine X.opR rfl (X.lenF rfl rfl rfl) rfl (X.q rfl (GS.opsNil ?_))
 refine X.join (τ := Unit) (fun v => slices_IndexFunc_api_Call__berth_board_crowd_1_j1 = some r) (fun v => ⟨[], [], 0, none, 19⟩) ?_ ?_
 ·intro _ hM
  replace hM : slices_IndexFunc_api_Call__berth_board_crowd_1_j1 = some r := hM
  unfold slices_IndexFunc_api_Call__berth_board_crowd_1_j1 at hM
  refine X.sq (X.q rfl (GS.opsNil ?_))
  cases hM
  exact GS.ret ⟨_, rfl, ⟨30, rfl⟩⟩
 intro hj_1
 refine GS.block ?_
 refine X.gc [] (X.loop (σ := Int) (fun v => ⟨[(0, (V.sl (List.map e_api_Call s))), (1, (V.fn 103 [(V.fptr [(V.fptr [(e_berth_board c)] 0 0)] 0 0), (V.fptr [(e_api_Slot c1)] 0 0), (V.fptr [(V.fmap (List.map (fun p : Int × Bool => V.i p.1) c2) (List.map (fun p : Int × Bool => V.b p.2) c2))] 0 0)])), (7, (V.i (s.length : Int))), (8, (V.i v))], [], 0, none, 19⟩) hM ?_ rfl) rfl rfl rfl (ga rfl rfl) (gb_nil)
 intro x1 b_1 hM hc_2 hr_1
 rw [slices_IndexFunc_api_Call__berth_board_crowd_1_b2] at hM
 refine X.sq (X.q rfl (GS.opsNil (GS.seq ?_)))
 refine X.cond rfl (fun h_1 => ?_) (fun h_1 => ?_)
 ·replace hM := ite_t h_1 hM
  refine GS.skip (GS.seq (GS.block (X.sq (X.q rfl (X.q rfl ?_)))))
  refine GS.opsNil (GS.seq ?_)
  obtain ⟨x, h_2, hM⟩ := bind_of hM
  obtain ⟨y, h_3, hM⟩ := bind_of hM
  refine GS.region (X.q rfl (X.q rfl (X.q rfl ?_)))
  refine X.opR rfl (X.indexF (f := e_api_Call) h_2 (fun _ => rfl) rfl rfl rfl rfl) rfl ?_
  refine X.opR rfl (X.loadF h_2 rfl rfl rfl) rfl ?_
  refine X.call (ok_berth_board_crowd_1 h_3) rfl rfl rfl (.cons (.shut (n := 9) rfl) (.cons (.shut (n := 9) rfl) (.cons (.shut (n := 9) rfl) (.cons (.shut (n := 9) rfl) .nil)))) (GS.opsNil ?_)
  refine X.cond rfl (fun h_4 => ?_) (fun h_4 => ?_)
  ·replace hM := ite_t h_4 hM
   refine X.sq (X.q rfl (X.q rfl ?_))
   refine GS.opsNil ?_
   have hE := Option.some.inj hM
   replace hE := hr_1 _ hE.symm
   subst hE
   exact GS.ret ⟨_, rfl, ⟨30, rfl⟩⟩
  replace hM := ite_f h_4 hM
  refine GS.skip ?_
  refine GS.endB (GS.region ?_)
  refine X.opR rfl (X.addE rfl rfl) rfl (X.q rfl (GS.opsNil ?_))
  have hE := Option.some.inj hM
  exact X.gc [] (hc_2 (w64 (x1 + 1)) hE.symm) rfl rfl rfl (ga rfl rfl) (gb_nil)
 replace hM := ite_f h_1 hM
 refine GS.exit rfl ?_
 obtain ⟨y_1, hM, hy⟩ := map_of hM
 rw [hr_1 _ hy.symm] at hM
 exact X.gc [] (hj_1 () hM) rfl rfl rfl (gk_nil) (gb_nil)
theorem ok_slices_ContainsFunc_api_Call__berth_board_crowd_1 {s : (List api_Call)} {c : berth_board} {c1 : api_Slot} {c2 : (List (Int × Bool))} {r : Bool} (hM : slices_ContainsFunc_api_Call__berth_board_crowd_1 s c c1 c2 = some r) : Ct Tryz.prog 102 [(V.sl (List.map e_api_Call s)), (V.fn 103 [(V.fptr [(V.fptr [(e_berth_board c)] 0 0)] 0 0), (V.fptr [(e_api_Slot c1)] 0 0), (V.fptr [(V.fmap (List.map (fun p : Int × Bool => V.i p.1) c2) (List.map (fun p : Int × Bool => V.b p.2) c2))] 0 0)])] (V.b r) := by
 refine ct_of_gs CC_ok rfl ?_
 unfold slices_ContainsFunc_api_Call__berth_board_crowd_1 at hM
 refine X.sq (X.q rfl (GS.opsNil (GS.seq ?_)))
 obtain ⟨y, h_1, hM⟩ := bind_of hM
 refine GS.region (X.q rfl (X.q rfl ?_))
 refine X.call (ok_slices_IndexFunc_api_Call__berth_board_crowd_1 h_1) rfl rfl rfl (.cons (.shut (n := 9) rfl) (.cons (.shut (n := 9) rfl) .nil)) (X.q rfl (X.q rfl ?_))
 refine GS.opsNil ?_
 cases hM
 exact GS.ret ⟨_, rfl, ⟨30, rfl⟩⟩
set_option maxHeartbeats 4000000 in
theorem ok_berth_board_crowd {b : berth_board} {ships : (List (Int × Bool))} {r : api_Crowd} (hM : berth_board_crowd b ships = some r) : Ct Tryz.prog 66 [(V.fptr [(e_berth_board b)] 0 0), (V.fmap (List.map (fun p : Int × Bool => V.i p.1) ships) (List.map (fun p : Int × Bool => V.b p.2) ships))] (e_api_Crowd r) := by
 refine ct_of_gs CC_ok rfl ?_
 unfold berth_board_crowd at hM
 refine X.sq ?_
 iterate 3 refine X.opW rfl rfl rfl rfl ?_
 refine X.nq ?_
 refine X.opW (H' := [.rows 1 [(V.fptr [(e_berth_board b)] 0 0)], .rows 1 [(V.fmap (List.map (fun p : Int × Bool => V.i p.1) ships) (List.map (fun p : Int × Bool => V.b p.2) ships))], .rows 2 [(V.agg [V.nil, V.nil])], .rows 2 [(V.agg [V.nil, V.nil])]]) rfl rfl rfl rfl (GS.opsNil (GS.seq (X.sq ?_)))
 iterate 4 refine X.q rfl ?_
 refine X.opR rfl (X.lenF rfl rfl rfl) rfl (X.q rfl (GS.opsNil ?_))
 refine X.join (τ := (List Int)) (fun v => berth_board_crowd_j1 b ships v = some r) (fun v => ⟨[(2, (V.ptr 0 0 0)), (3, (V.ptr 1 0 0)), (4, (V.ptr 2 0 0)), (5, (V.ptr 3 0 0))], [.rows 1 [(V.fptr [(e_berth_board b)] 0 0)], .rows 1 [(V.fmap (List.map (fun p : Int × Bool => V.i p.1) ships) (List.map (fun p : Int × Bool => V.b p.2) ships))], .rows 2 [(V.agg [V.nil, V.nil])], .rows 2 [(V.agg [(ovl 4 v), V.nil])], obl 1 V.i v], 0, none, 57⟩) ?_ ?_
 ·intro l hM
  replace hM : berth_board_crowd_j1 b ships l = some r := hM
  unfold berth_board_crowd_j1 at hM
  refine GS.seq ?_
  obtain ⟨l1, h_1, hM⟩ := bind_of hM
  refine GS.region (X.q rfl (X.q rfl ?_))
  refine X.norm [(2, (V.ptr 0 0 0)), (3, (V.ptr 1 0 0)), (4, (V.ptr 2 0 0)), (5, (V.ptr 3 0 0)), (31, (V.ptr 3 0 0)), (32, (ovl 4 l))] ?_ rfl (sr rfl)
  refine X.sortInt (z := true) h_1 sort_C sort_nil (fun _ _ _ h => h) (K' := [(2, (V.ptr 0 0 0)), (3, (V.ptr 1 0 0)), (4, (V.ptr 2 0 0)), (5, (V.ptr 3 0 0)), (31, (V.ptr 3 0 0)), (32, (ovl 4 l1))]) (H' := [.rows 1 [(V.fptr [(e_berth_board b)] 0 0)], .rows 1 [(V.fmap (List.map (fun p : Int × Bool => V.i p.1) ships) (List.map (fun p : Int × Bool => V.b p.2) ships))], .rows 2 [(V.agg [V.nil, V.nil])], .rows 2 [(V.agg [(ovl 4 l1), V.nil])], obl 1 V.i l1]) rfl rfl rfl rfl rfl rfl ?_ ?_ ?_
  ·first | rfl | rw [X.ovlz_len (srtO_len h_1)] | simp only [ovl, X.ovlz_len (srtO_len h_1)] | simp only [srtO_len h_1]
  ·first | rfl | (simp only [hput]; rfl) | (simp only [ovl, obl]; rw [X.ovlz_len (srtO_len h_1)] <;> rfl)
  refine GS.opsNil (GS.seq (X.sq ?_))
  iterate 4 refine X.q rfl ?_
  refine X.opR rfl (X.lenF rfl rfl rfl) rfl (X.q rfl (GS.opsNil ?_))
  refine X.join (τ := (List api_Slot)) (fun v => berth_board_crowd_j2 l1 v = some r) (fun v => ⟨[(4, (V.ptr 0 0 0)), (5, (V.ptr 1 0 0))], [.rows 2 [(V.agg [V.nil, V.nil])], .rows 2 [(V.agg [(ovl 2 l1), (ovl 3 v)])], obl 1 V.i l1, obl 2 e_api_Slot v], 0, none, 57⟩) ?_ ?_
  ·intro l2 hM
   replace hM : berth_board_crowd_j2 l1 l2 = some r := hM
   unfold berth_board_crowd_j2 at hM
   refine X.sq (X.q rfl ?_)
   refine X.op0W (H' := [.rows 2 [(V.agg [(ovl 2 l1), (ovl 3 l2)])], .rows 2 [(V.agg [(ovl 2 l1), (ovl 3 l2)])], obl 1 V.i l1, obl 2 e_api_Slot l2]) rfl (v := undefV) (wr := [(0, .rows 2 [(V.agg [(ovl 2 l1), (ovl 3 l2)])])]) (by rcases X.ovl_or (z := true) 2 l1 with h0 | ⟨n0, h0⟩ <;> rcases X.ovl_or (z := true) 3 l2 with h1 | ⟨n1, h1⟩ <;> simp only [h0, h1] <;> rfl) rfl (GS.opsNil ?_)
   have hE := Option.some.inj hM
   subst hE
   exact GS.ret ⟨_, rfl, FR.agg (.cons (FR.ovl (f := V.i) (l := l1) 9 rfl rfl (fun _ => rfl)) (.cons (FR.ovl (f := e_api_Slot) (l := l2) 9 rfl rfl (fun _ => rfl)) .nil))⟩
  intro hj_2
  refine GS.block ?_
  refine X.gc [some 0, some 1, some 2, some 3, some 4, none] (X.loop (σ := (Int × (List api_Slot))) (fun v => ⟨[(2, (V.ptr 0 0 0)), (3, (V.ptr 1 0 0)), (4, (V.ptr 2 0 0)), (5, (V.ptr 3 0 0)), (37, (V.sl (List.map e_api_Slot b.slots))), (38, (V.i (b.slots.length : Int))), (39, (V.i v.1))], [.rows 1 [(V.fptr [(e_berth_board b)] 0 0)], .rows 1 [(V.fmap (List.map (fun p : Int × Bool => V.i p.1) ships) (List.map (fun p : Int × Bool => V.b p.2) ships))], .rows 2 [(V.agg [V.nil, V.nil])], .rows 2 [(V.agg [(ovl 4 l1), (ovl 5 v.2)])], obl 1 V.i l1, obl 2 e_api_Slot v.2], 0, none, 57⟩) hM ?_ rfl) rfl rfl rfl (ga rfl rfl) (gb9 rfl rfl rfl (gb9 rfl rfl rfl (gb9 rfl rfl rfl (gb_box rfl rfl (rn_agg (.cons (rn_ovl rfl) (.cons ⟨9, rfl⟩ .nil))) (gb_obl 9 rfl rfl (fun _ => rfl) (gb_pad' rfl gb_nil))))))
  rintro ⟨x1, l5⟩ b_1 hM hc_3 hr_1
  rw [berth_board_crowd_b3] at hM
  refine X.sq (X.q rfl (GS.opsNil (GS.seq ?_)))
  refine X.cond rfl (fun h_2 => ?_) (fun h_2 => ?_)
  ·replace hM := ite_t h_2 hM
   refine GS.skip (GS.seq ?_)
   refine X.join (τ := (List api_Slot)) (fun v => berth_board_crowd_j4 x1 v = some b_1) (fun v => ⟨[(2, (V.ptr 0 0 0)), (3, (V.ptr 1 0 0)), (4, (V.ptr 2 0 0)), (5, (V.ptr 3 0 0)), (37, (V.sl (List.map e_api_Slot b.slots))), (38, (V.i (b.slots.length : Int))), (39, (V.i x1))], [.rows 1 [(V.fptr [(e_berth_board b)] 0 0)], .rows 1 [(V.fmap (List.map (fun p : Int × Bool => V.i p.1) ships) (List.map (fun p : Int × Bool => V.b p.2) ships))], .rows 2 [(V.agg [V.nil, V.nil])], .rows 2 [(V.agg [(ovl 4 l1), (ovl 5 v)])], obl 1 V.i l1, obl 2 e_api_Slot v], 0, none, 57⟩) ?_ ?_
   ·intro l3 hM
    replace hM : berth_board_crowd_j4 x1 l3 = some b_1 := hM
    unfold berth_board_crowd_j4 at hM
    refine GS.region ?_
    refine X.opR rfl (X.addE rfl rfl) rfl (X.q rfl (GS.opsNil ?_))
    have hE := Option.some.inj hM
    exact X.gc [some 0, some 1, some 2, some 3, some 4, some 5] (hc_3 (w64 (x1 + 1), l3) hE.symm) rfl rfl rfl (ga rfl rfl) (gb9 rfl rfl rfl (gb9 rfl rfl rfl (gb9 rfl rfl rfl (gb_box rfl rfl (rn_agg (.cons (rn_ovl rfl) (.cons (rn_ovl rfl) .nil))) (gb_obl 9 rfl rfl (fun _ => rfl) (gb_obl 9 rfl rfl (fun _ => rfl) gb_nil))))))
   intro hj_4
   refine GS.block (GS.seq ?_)
   obtain ⟨x, h_3, hM⟩ := bind_of hM
   refine GS.region ?_
   refine X.opR rfl (X.indexF (f := e_api_Slot) h_3 (fun _ => rfl) rfl rfl rfl rfl) rfl ?_
   refine X.opR rfl (X.loadF h_3 rfl rfl rfl) rfl ?_
   refine X.opW (H' := [.rows 1 [(V.fptr [(e_berth_board b)] 0 0)], .rows 1 [(V.fmap (List.map (fun p : Int × Bool => V.i p.1) ships) (List.map (fun p : Int × Bool => V.b p.2) ships))], .rows 2 [(V.agg [V.nil, V.nil])], .rows 2 [(V.agg [(ovl 4 l1), (ovl 5 l5)])], obl 1 V.i l1, obl 2 e_api_Slot l5, .rows 2 [(V.agg [(V.i 0), (V.i 0)])]]) rfl rfl rfl rfl ?_
   refine X.op0W (H' := [.rows 1 [(V.fptr [(e_berth_board b)] 0 0)], .rows 1 [(V.fmap (List.map (fun p : Int × Bool => V.i p.1) ships) (List.map (fun p : Int × Bool => V.b p.2) ships))], .rows 2 [(V.agg [V.nil, V.nil])], .rows 2 [(V.agg [(ovl 4 l1), (ovl 5 l5)])], obl 1 V.i l1, obl 2 e_api_Slot l5, .rows 2 [(e_api_Slot x)]]) rfl rfl rfl (GS.opsNil (GS.seq ?_))
   obtain ⟨y, h_4, hM⟩ := bind_of hM
   refine GS.region ?_
   iterate 5 refine X.q rfl ?_
   refine X.callF (ok_slices_ContainsFunc_api_Call__berth_board_crowd_1 h_4) rfl rfl rfl (m := 9) rfl (.cons (.shut (n := 9) rfl) (.cons (FR.arg ⟨30, rfl⟩) .nil)) (GS.opsNil ?_)
   refine X.cond rfl (fun h_5 => ?_) (fun h_5 => ?_)
   ·replace hM := ite_t h_5 hM
    obtain ⟨l4, h_6, hM⟩ := bind_of hM
    refine GS.region (X.q rfl (X.q rfl (X.q rfl ?_)))
    refine X.opW (H' := [.rows 1 [(V.fptr [(e_berth_board b)] 0 0)], .rows 1 [(V.fmap (List.map (fun p : Int × Bool => V.i p.1) ships) (List.map (fun p : Int × Bool => V.b p.2) ships))], .rows 2 [(V.agg [V.nil, V.nil])], .rows 2 [(V.agg [(ovl 4 l1), (ovl 5 l5)])], obl 1 V.i l1, obl 2 e_api_Slot l5, .rows 2 [(e_api_Slot x)], .rows 2 (List.map e_api_Slot ([x]))]) rfl rfl rfl rfl ?_
    refine X.appN (f := e_api_Slot) h_6 (fun _ => rfl) (by rfl) (by rfl) (by rfl) (by rfl) (by rfl) (by rfl) (by rfl) (by rfl) (by rfl) (by rfl) (by rfl) (by exact rfl) (by rfl) (by rfl) (X.q rfl ?_)
    refine X.op0W (H' := [.rows 1 [(V.fptr [(e_berth_board b)] 0 0)], .rows 1 [(V.fmap (List.map (fun p : Int × Bool => V.i p.1) ships) (List.map (fun p : Int × Bool => V.b p.2) ships))], .rows 2 [(V.agg [V.nil, V.nil])], .rows 2 [(V.agg [(ovl 4 l1), (V.osl 8 0 (List.length l4))])], obl 1 V.i l1, .dead, .rows 2 [(e_api_Slot x)], .rows 2 (List.map e_api_Slot ([x])), .rows 2 (List.map e_api_Slot l4)]) rfl rfl rfl (GS.opsNil ?_)
    refine GS.endB ?_
    exact X.gc [some 0, some 1, some 2, some 3, some 4, some 8] (hj_4 l4 hM) rfl rfl rfl (ga rfl rfl) (gb9 rfl rfl rfl (gb9 rfl rfl rfl (gb9 rfl rfl rfl (gb_box rfl rfl (rn_agg (.cons (rn_ovl rfl) (.cons (rv_ne (app_ne h_6) rfl) .nil))) (gb_obl 9 rfl rfl (fun _ => rfl) (gb_obl' 9 (app_ne h_6) rfl rfl (fun _ => rfl) gb_nil))))))
   replace hM := ite_f h_5 hM
   refine GS.skip ?_
   refine GS.endB ?_
   exact X.gc [some 0, some 1, some 2, some 3, some 4, some 5] (hj_4 l5 hM) rfl rfl rfl (ga rfl rfl) (gb9 rfl rfl rfl (gb9 rfl rfl rfl (gb9 rfl rfl rfl (gb_box rfl rfl (rn_agg (.cons (rn_ovl rfl) (.cons (rn_ovl rfl) .nil))) (gb_obl 9 rfl rfl (fun _ => rfl) (gb_obl 9 rfl rfl (fun _ => rfl) gb_nil))))))
  replace hM := ite_f h_2 hM
  refine GS.exit rfl ?_
  obtain ⟨y_1, hM, hy⟩ := map_of hM
  rw [hr_1 _ hy.symm] at hM
  exact X.gc [some 2, some 3, some 4, some 5] (hj_2 l5 hM) rfl rfl rfl (ga rfl rfl) (gb9 rfl rfl rfl (gb_box rfl rfl (rn_agg (.cons (rn_ovl rfl) (.cons (rn_ovl rfl) .nil))) (gb_obl 9 rfl rfl (fun _ => rfl) (gb_obl 9 rfl rfl (fun _ => rfl) gb_nil))))
 intro hj_1
 refine GS.block ?_
 refine X.gc [some 0, some 1, some 2, some 3, none] (X.loop (σ := (Int × (List Int))) (fun v => ⟨[(2, (V.ptr 0 0 0)), (3, (V.ptr 1 0 0)), (4, (V.ptr 2 0 0)), (5, (V.ptr 3 0 0)), (13, (V.sl (List.map e_api_Call b.calls))), (14, (V.i (b.calls.length : Int))), (15, (V.i v.1))], [.rows 1 [(V.fptr [(e_berth_board b)] 0 0)], .rows 1 [(V.fmap (List.map (fun p : Int × Bool => V.i p.1) ships) (List.map (fun p : Int × Bool => V.b p.2) ships))], .rows 2 [(V.agg [V.nil, V.nil])], .rows 2 [(V.agg [(ovl 4 v.2), V.nil])], obl 1 V.i v.2], 0, none, 57⟩) hM ?_ rfl) rfl rfl rfl (ga rfl rfl) (gb9 rfl rfl rfl (gb9 rfl rfl rfl (gb9 rfl rfl rfl (gb9 rfl rfl rfl (gb_pad' rfl gb_nil)))))
 rintro ⟨x3, l8⟩ b_1 hM hc_5 hr_1
 rw [berth_board_crowd_b5] at hM
 refine X.sq (X.q rfl (GS.opsNil (GS.seq ?_)))
 refine X.cond rfl (fun h_7 => ?_) (fun h_7 => ?_)
 ·replace hM := ite_t h_7 hM
  refine GS.skip (GS.seq ?_)
  refine X.join (τ := (List Int)) (fun v => berth_board_crowd_j6 x3 v = some b_1) (fun v => ⟨[(2, (V.ptr 0 0 0)), (3, (V.ptr 1 0 0)), (4, (V.ptr 2 0 0)), (5, (V.ptr 3 0 0)), (13, (V.sl (List.map e_api_Call b.calls))), (14, (V.i (b.calls.length : Int))), (15, (V.i x3))], [.rows 1 [(V.fptr [(e_berth_board b)] 0 0)], .rows 1 [(V.fmap (List.map (fun p : Int × Bool => V.i p.1) ships) (List.map (fun p : Int × Bool => V.b p.2) ships))], .rows 2 [(V.agg [V.nil, V.nil])], .rows 2 [(V.agg [(ovl 4 v), V.nil])], obl 1 V.i v], 0, none, 57⟩) ?_ ?_
  ·intro l6 hM
   replace hM : berth_board_crowd_j6 x3 l6 = some b_1 := hM
   unfold berth_board_crowd_j6 at hM
   refine GS.region ?_
   refine X.opR rfl (X.addE rfl rfl) rfl (X.q rfl (GS.opsNil ?_))
   have hE := Option.some.inj hM
   exact X.gc [some 0, some 1, some 2, some 3, some 4] (hc_5 (w64 (x3 + 1), l6) hE.symm) rfl rfl rfl (ga rfl rfl) (gb9 rfl rfl rfl (gb9 rfl rfl rfl (gb9 rfl rfl rfl (gb_box rfl rfl (rn_agg (.cons (rn_ovl rfl) (.cons ⟨9, rfl⟩ .nil))) (gb_obl 9 rfl rfl (fun _ => rfl) gb_nil)))))
  intro hj_6
  refine GS.block (GS.seq ?_)
  obtain ⟨x2, h_8, hM⟩ := bind_of hM
  refine GS.region (X.q rfl ?_)
  refine X.opR rfl (X.indexF (f := e_api_Call) h_8 (fun _ => rfl) rfl rfl rfl rfl) rfl ?_
  refine X.opR rfl (X.loadF h_8 rfl rfl rfl) rfl ?_
  refine X.opW (H' := [.rows 1 [(V.fptr [(e_berth_board b)] 0 0)], .rows 1 [(V.fmap (List.map (fun p : Int × Bool => V.i p.1) ships) (List.map (fun p : Int × Bool => V.b p.2) ships))], .rows 2 [(V.agg [V.nil, V.nil])], .rows 2 [(V.agg [(ovl 4 l8), V.nil])], obl 1 V.i l8, .rows 5 [(V.agg [(V.i 0), (V.i 0), (V.i 0), (V.i 0), (V.i 0)])]]) rfl rfl rfl rfl (X.q rfl ?_)
  refine X.op0W (H' := [.rows 1 [(V.fptr [(e_berth_board b)] 0 0)], .rows 1 [(V.fmap (List.map (fun p : Int × Bool => V.i p.1) ships) (List.map (fun p : Int × Bool => V.b p.2) ships))], .rows 2 [(V.agg [V.nil, V.nil])], .rows 2 [(V.agg [(ovl 4 l8), V.nil])], obl 1 V.i l8, .rows 5 [(e_api_Call x2)]]) rfl rfl rfl (X.nq (X.q rfl (X.q rfl ?_)))
  refine X.opR rfl (X.lookF (f := V.i) (g := V.b) (k := x3) (l := ships) (z := false) (ok := false) X.keyEq_i rfl rfl rfl rfl rfl) rfl (GS.opsNil ?_)
  refine X.cond rfl (fun h_9 => ?_) (fun h_9 => ?_)
  ·replace hM := ite_t h_9 hM
   obtain ⟨l7, h_10, hM⟩ := bind_of hM
   refine GS.region ?_
   iterate 4 refine X.q rfl ?_
   refine X.opW (H' := [.rows 1 [(V.fptr [(e_berth_board b)] 0 0)], .rows 1 [(V.fmap (List.map (fun p : Int × Bool => V.i p.1) ships) (List.map (fun p : Int × Bool => V.b p.2) ships))], .rows 2 [(V.agg [V.nil, V.nil])], .rows 2 [(V.agg [(ovl 4 l8), V.nil])], obl 1 V.i l8, .rows 5 [(e_api_Call x2)], .rows 1 (List.map V.i ([x2.ID]))]) rfl rfl rfl rfl ?_
   refine X.appN (f := V.i) h_10 (fun _ => rfl) (by rfl) (by rfl) (by rfl) (by rfl) (by rfl) (by rfl) (by rfl) (by rfl) (by rfl) (by rfl) (by rfl) (by exact rfl) (by rfl) (by rfl) (X.q rfl ?_)
   refine X.op0W (H' := [.rows 1 [(V.fptr [(e_berth_board b)] 0 0)], .rows 1 [(V.fmap (List.map (fun p : Int × Bool => V.i p.1) ships) (List.map (fun p : Int × Bool => V.b p.2) ships))], .rows 2 [(V.agg [V.nil, V.nil])], .rows 2 [(V.agg [(V.osl 7 0 (List.length l7)), V.nil])], .dead, .rows 5 [(e_api_Call x2)], .rows 1 (List.map V.i ([x2.ID])), .rows 1 (List.map V.i l7)]) rfl rfl rfl (GS.opsNil ?_)
   refine GS.endB ?_
   exact X.gc [some 0, some 1, some 2, some 3, some 7] (hj_6 l7 hM) rfl rfl rfl (ga rfl rfl) (gb9 rfl rfl rfl (gb9 rfl rfl rfl (gb9 rfl rfl rfl (gb_box rfl rfl (rn_agg (.cons (rv_ne (app_ne h_10) rfl) (.cons ⟨9, rfl⟩ .nil))) (gb_obl' 9 (app_ne h_10) rfl rfl (fun _ => rfl) gb_nil)))))
  replace hM := ite_f h_9 hM
  refine GS.skip ?_
  refine GS.endB ?_
  exact X.gc [some 0, some 1, some 2, some 3, some 4] (hj_6 l8 hM) rfl rfl rfl (ga rfl rfl) (gb9 rfl rfl rfl (gb9 rfl rfl rfl (gb9 rfl rfl rfl (gb_box rfl rfl (rn_agg (.cons (rn_ovl rfl) (.cons ⟨9, rfl⟩ .nil))) (gb_obl 9 rfl rfl (fun _ => rfl) gb_nil)))))
 replace hM := ite_f h_7 hM
 refine GS.exit rfl ?_
 obtain ⟨y_1, hM, hy⟩ := map_of hM
 rw [hr_1 _ hy.symm] at hM
 exact X.gc [some 0, some 1, some 2, some 3, some 4] (hj_1 l8 hM) rfl rfl rfl (ga rfl rfl) (gb9 rfl rfl rfl (gb9 rfl rfl rfl (gb9 rfl rfl rfl (gb_box rfl rfl (rn_agg (.cons (rn_ovl rfl) (.cons ⟨9, rfl⟩ .nil))) (gb_obl 9 rfl rfl (fun _ => rfl) gb_nil)))))
set_option maxHeartbeats 4000000 in
theorem ok_berth_Full {h : api_Harbour} {l : (List api_Call)} {r : api_Crowd × Bool × Int} (hM : berth_Full h l = some r) : Ct Tryz.prog 25 [(e_api_Harbour h), (V.sl (List.map e_api_Call l))] (V.tup [(e_api_Crowd r.1), (V.b r.2.1), (V.i r.2.2)]) := by
 refine ct_of_gs CC_ok rfl ?_
 unfold berth_Full at hM
 refine X.sq ?_
 iterate 2 refine X.opW rfl rfl rfl rfl ?_
 refine X.q rfl (X.q rfl ?_)
 refine GS.opsNil ?_
 iterate 2 refine GS.seq ?_
 obtain ⟨y, h_1, hM⟩ := bind_of hM
 refine GS.region (X.q rfl (X.q rfl ?_))
 refine X.call (ok_berth_CheckCalls h_1) rfl rfl rfl (.cons (.shut (n := 9) rfl) (.cons (.shut (n := 9) rfl) .nil)) (X.q rfl (X.nq (X.q rfl (X.q rfl ?_))))
 refine GS.opsNil ?_
 refine X.cond rfl (fun h_2 => ?_) (fun h_2 => ?_)
 ·replace hM := ite_t h_2 hM
  refine X.sq (X.q rfl (X.q rfl ?_))
  refine X.op0W rfl rfl rfl (X.q rfl (X.q rfl ?_))
  refine GS.opsNil ?_
  cases hM
  exact GS.ret ⟨_, rfl, ⟨30, rfl⟩⟩
 replace hM := ite_f h_2 hM
 refine GS.skip (GS.seq ?_)
 obtain ⟨y1, h_3, hM⟩ := bind_of hM
 refine GS.region (X.q rfl (X.q rfl ?_))
 refine X.call (ok_berth_laid h_3) rfl rfl rfl (.cons (.shut (n := 9) rfl) (.cons (.shut (n := 9) rfl) .nil)) (X.q rfl (GS.opsNil (GS.seq ?_)))
 obtain ⟨y2, h_4, hM⟩ := bind_of hM
 refine GS.region (X.q rfl ?_)
 refine X.call (ok_berth_board_best h_4) rfl rfl rfl (.cons (.shut (n := 9) rfl) (.cons (.nil (n := 9) rfl) .nil)) ?_
 iterate 5 refine X.q rfl ?_
 refine X.nq ?_
 refine X.opW rfl rfl rfl rfl (X.q rfl (X.nq ?_))
 refine X.opW (H' := [.rows 6 [(e_api_Harbour h)], .rows 2 [(V.agg [V.nil, V.nil])], .map (List.map (fun p : Int × Bool => V.i p.1) []) (List.map (fun p : Int × Bool => V.b p.2) []), .map (List.map (fun p : Int × Int => V.i p.1) []) (List.map (fun p : Int × Int => V.i p.2) [])]) rfl rfl rfl rfl (X.q rfl (GS.opsNil (GS.seq (X.sq (X.q rfl ?_)))))
 refine X.opR rfl (X.lenF rfl rfl rfl) rfl (X.q rfl (GS.opsNil ?_))
 refine X.join (τ := (List (Int × Bool)) × (List (Int × Int))) (fun v => berth_Full_j1 l y1 v.1 v.2 = some r) (fun v => ⟨[(1, (V.sl (List.map e_api_Call l))), (4, (V.ptr 0 0 0)), (8, (V.fptr [(e_berth_board y1)] 0 0)), (11, (V.map 1)), (12, (V.map 2))], [.rows 2 [(V.agg [V.nil, V.nil])], .map (List.map (fun p : Int × Bool => V.i p.1) v.1) (List.map (fun p : Int × Bool => V.b p.2) v.1), .map (List.map (fun p : Int × Int => V.i p.1) v.2) (List.map (fun p : Int × Int => V.i p.2) v.2)], 0, none, 118⟩) ?_ ?_
 ·rintro ⟨m, m1⟩ hM
  replace hM : berth_Full_j1 l y1 m m1 = some r := hM
  unfold berth_Full_j1 at hM
  refine GS.seq (X.sq (X.q rfl ?_))
  refine X.opR rfl (X.lenMo (l := m) rfl rfl rfl rfl) rfl (X.q rfl (GS.opsNil ?_))
  refine X.cond rfl (fun h_5 => ?_) (fun h_5 => ?_)
  ·replace hM := ite_t h_5 hM
   refine X.sq (X.q rfl ?_)
   refine X.op0W rfl rfl rfl (X.q rfl (X.q rfl ?_))
   refine GS.opsNil ?_
   cases hM
   exact GS.ret ⟨_, rfl, ⟨30, rfl⟩⟩
  replace hM := ite_f h_5 hM
  refine GS.skip (GS.seq (X.sq (X.q rfl (GS.opsNil ?_))))
  refine X.join (τ := (List (Int × Bool))) (fun v => berth_Full_j2 y1 v = some r) (fun v => ⟨[(4, (V.ptr 0 0 0)), (8, (V.fptr [(e_berth_board y1)] 0 0)), (11, (V.map 1))], [.rows 2 [(V.agg [V.nil, V.nil])], .map (List.map (fun p : Int × Bool => V.i p.1) v) (List.map (fun p : Int × Bool => V.b p.2) v)], 0, none, 118⟩) ?_ ?_
  ·intro m2 hM
   replace hM : berth_Full_j2 y1 m2 = some r := hM
   unfold berth_Full_j2 at hM
   refine GS.seq ?_
   obtain ⟨y3, h_6, hM⟩ := bind_of hM
   refine GS.region (X.q rfl (X.q rfl ?_))
   refine X.freezeM (f := V.i) (g := V.b) (pa := fun p => p.1) (pb := fun p => p.2) (l := m2) 116 rfl rfl rfl (fun _ => rfl) (fun _ => rfl) ?_
   refine X.call (ok_berth_board_crowd h_6) rfl rfl rfl (.cons (.shut (n := 9) rfl) (.cons (.shut (n := 9) rfl) .nil)) ?_
   refine X.op0W rfl rfl rfl (X.q rfl (X.q rfl ?_))
   refine GS.opsNil ?_
   cases hM
   exact GS.ret ⟨_, rfl, ⟨30, rfl⟩⟩
  intro hj_2
  refine GS.block ?_
  refine X.gc [some 0, some 1, some 2] (X.loop (σ := (Bool × (List (Int × Bool)))) (fun v => ⟨[(1, (V.sl (List.map e_api_Call l))), (4, (V.ptr 0 0 0)), (8, (V.fptr [(e_berth_board y1)] 0 0)), (11, (V.map 1)), (12, (V.map 2)), (15, (V.b v.1))], [.rows 2 [(V.agg [V.nil, V.nil])], .map (List.map (fun p : Int × Bool => V.i p.1) v.2) (List.map (fun p : Int × Bool => V.b p.2) v.2), .map (List.map (fun p : Int × Int => V.i p.1) m1) (List.map (fun p : Int × Int => V.i p.2) m1)], 0, none, 118⟩) hM ?_ rfl) rfl rfl rfl (ga rfl rfl) (gb9 rfl rfl rfl (X.gb_mapK 9 rfl rfl (fun _ => rfl) (fun _ => rfl) (X.gb_mapK 9 rfl rfl (fun _ => rfl) (fun _ => rfl) gb_nil)))
  rintro ⟨more4, m7⟩ b_1 hM hc_3 hr_1
  rw [berth_Full_b3] at hM
  refine GS.seq (X.sq (X.q rfl (GS.opsNil ?_)))
  refine X.cond rfl (fun h_7 => ?_) (fun h_7 => ?_)
  ·replace hM := ite_t h_7 hM
   refine GS.skip (GS.block (X.sq (X.q rfl (X.nq ?_))))
   iterate 4 refine X.q rfl ?_
   refine X.opR rfl (X.lenF rfl rfl rfl) rfl (X.q rfl (GS.opsNil (GS.block ?_)))
   refine X.gc [some 0, some 1, some 2] (X.loop (σ := (Bool × Int × (List (Int × Bool)))) (fun v => ⟨[(1, (V.sl (List.map e_api_Call l))), (4, (V.ptr 0 0 0)), (8, (V.fptr [(e_berth_board y1)] 0 0)), (11, (V.map 1)), (12, (V.map 2)), (15, (V.b v.1)), (68, (V.sl (List.map e_api_Slot y1.slots))), (69, (V.i (y1.slots.length : Int))), (70, (V.i v.2.1))], [.rows 2 [(V.agg [V.nil, V.nil])], .map (List.map (fun p : Int × Bool => V.i p.1) v.2.2) (List.map (fun p : Int × Bool => V.b p.2) v.2.2), .map (List.map (fun p : Int × Int => V.i p.1) m1) (List.map (fun p : Int × Int => V.i p.2) m1)], 0, none, 118⟩) hM ?_ rfl) rfl rfl rfl (ga rfl rfl) (gb9 rfl rfl rfl (X.gb_mapK 9 rfl rfl (fun _ => rfl) (fun _ => rfl) (X.gb_mapK 9 rfl rfl (fun _ => rfl) (fun _ => rfl) gb_nil)))
   rintro ⟨more3, x3, m6⟩ b_2 hM hc_4 hr_2
   rw [berth_Full_b4] at hM
   refine X.sq (X.q rfl (GS.opsNil (GS.seq ?_)))
   refine X.cond rfl (fun h_8 => ?_) (fun h_8 => ?_)
   ·replace hM := ite_t h_8 hM
    refine GS.skip (GS.seq ?_)
    refine X.join (τ := Bool × (List (Int × Bool))) (fun v => berth_Full_j5 x3 v.1 v.2 = some b_2) (fun v => ⟨[(1, (V.sl (List.map e_api_Call l))), (4, (V.ptr 0 0 0)), (8, (V.fptr [(e_berth_board y1)] 0 0)), (11, (V.map 1)), (12, (V.map 2)), (15, (V.b v.1)), (68, (V.sl (List.map e_api_Slot y1.slots))), (69, (V.i (y1.slots.length : Int))), (70, (V.i x3))], [.rows 2 [(V.agg [V.nil, V.nil])], .map (List.map (fun p : Int × Bool => V.i p.1) v.2) (List.map (fun p : Int × Bool => V.b p.2) v.2), .map (List.map (fun p : Int × Int => V.i p.1) m1) (List.map (fun p : Int × Int => V.i p.2) m1)], 0, none, 118⟩) ?_ ?_
    ·rintro ⟨more, m3⟩ hM
     replace hM : berth_Full_j5 x3 more m3 = some b_2 := hM
     unfold berth_Full_j5 at hM
     refine GS.region ?_
     refine X.opR rfl (X.addE rfl rfl) rfl (X.q rfl (GS.opsNil ?_))
     have hE := Option.some.inj hM
     exact X.gc [some 0, some 1, some 2] (hc_4 (more, w64 (x3 + 1), m3) hE.symm) rfl rfl rfl (ga rfl rfl) (gb9 rfl rfl rfl (X.gb_mapK 9 rfl rfl (fun _ => rfl) (fun _ => rfl) (X.gb_mapK 9 rfl rfl (fun _ => rfl) (fun _ => rfl) gb_nil)))
    intro hj_5
    refine GS.block (GS.seq ?_)
    obtain ⟨x, h_9, hM⟩ := bind_of hM
    refine GS.region (X.q rfl ?_)
    refine X.opR rfl (X.indexF (f := e_api_Slot) h_9 (fun _ => rfl) rfl rfl rfl rfl) rfl ?_
    refine X.opR rfl (X.loadF h_9 rfl rfl rfl) rfl ?_
    refine X.opW (H' := [.rows 2 [(V.agg [V.nil, V.nil])], .map (List.map (fun p : Int × Bool => V.i p.1) m6) (List.map (fun p : Int × Bool => V.b p.2) m6), .map (List.map (fun p : Int × Int => V.i p.1) m1) (List.map (fun p : Int × Int => V.i p.2) m1), .rows 2 [(V.agg [(V.i 0), (V.i 0)])]]) rfl rfl rfl rfl (X.q rfl ?_)
    refine X.op0W (H' := [.rows 2 [(V.agg [V.nil, V.nil])], .map (List.map (fun p : Int × Bool => V.i p.1) m6) (List.map (fun p : Int × Bool => V.b p.2) m6), .map (List.map (fun p : Int × Int => V.i p.1) m1) (List.map (fun p : Int × Int => V.i p.2) m1), .rows 2 [(e_api_Slot x)]]) rfl rfl rfl (X.nq (X.q rfl (X.q rfl ?_)))
    refine X.opR rfl (X.lookW (f := V.i) (g := V.i) (k := x3) (l := m1) (z := 0) (ok := true) X.keyEq_i rfl rfl rfl rfl rfl rfl) rfl ?_
    iterate 5 refine X.q rfl ?_
    refine GS.opsNil (GS.seq (X.sq ?_))
    refine X.mid [(1, (V.sl (List.map e_api_Call l))), (4, (V.ptr 0 0 0)), (8, (V.fptr [(e_berth_board y1)] 0 0)), (11, (V.map 1)), (12, (V.map 2)), (15, (V.b more3)), (17, (V.ptr 3 0 0)), (18, (V.i ((lookM x3 m1).getD 0))), (68, (V.sl (List.map e_api_Slot y1.slots))), (69, (V.i (y1.slots.length : Int))), (70, (V.i x3)), (87, (V.b ((!(lookM x3 m1).isSome) || ((lookM ((lookM x3 m1).getD 0) m6).getD false))))] ?_ ?_
    ·intro hg
     refine X.split (!(lookM x3 m1).isSome) (fun h_10 => ?_) (fun h_10 => ?_)
     ·iterate 3 refine X.q rfl ?_
      iterate 3 refine X.off (X.off_f rfl rfl rfl h_10) rfl ?_
      refine X.opR rfl (X.pickor_t (y := ((lookM ((lookM x3 m1).getD 0) m6).getD false)) rfl h_10 rfl) rfl (GS.opsNil ?_)
      exact X.norm _ hg rfl (sr rfl)
     iterate 3 refine X.q rfl ?_
     iterate 2 refine X.opR (X.on_f rfl rfl rfl h_10) rfl rfl ?_
     refine X.opR (X.on_f rfl rfl rfl h_10) (X.lookW (f := V.i) (g := V.b) (k := ((lookM x3 m1).getD 0)) (l := m6) (z := false) (ok := false) X.keyEq_i rfl rfl rfl rfl rfl rfl) rfl ?_
     refine X.opR rfl (X.pickor_f (y := ((lookM ((lookM x3 m1).getD 0) m6).getD false)) rfl h_10 rfl) rfl (GS.opsNil ?_)
     exact X.norm _ hg rfl (sr rfl)
    refine X.cond rfl (fun h_11 => ?_) (fun h_11 => ?_)
    ·replace hM := ite_t h_11 hM
     refine GS.exit rfl ?_
     exact X.gc [some 0, some 1, some 2] (hj_5 (more3, m6) hM) rfl rfl rfl (ga rfl rfl) (gb9 rfl rfl rfl (X.gb_mapK 9 rfl rfl (fun _ => rfl) (fun _ => rfl) (X.gb_mapK 9 rfl rfl (fun _ => rfl) (fun _ => rfl) gb_nil)))
    replace hM := ite_f h_11 hM
    refine GS.skip (X.sq (X.q rfl ?_))
    refine X.opR rfl (X.lenF rfl rfl rfl) rfl (X.q rfl (GS.opsNil (GS.block ?_)))
    refine X.gc [some 0, some 1, some 2, some 3] (X.loop (σ := (Bool × Int × (List (Int × Bool)))) (fun v => ⟨[(1, (V.sl (List.map e_api_Call l))), (4, (V.ptr 0 0 0)), (8, (V.fptr [(e_berth_board y1)] 0 0)), (11, (V.map 1)), (12, (V.map 2)), (15, (V.b v.1)), (17, (V.ptr 3 0 0)), (18, (V.i ((lookM x3 m1).getD 0))), (68, (V.sl (List.map e_api_Slot y1.slots))), (69, (V.i (y1.slots.length : Int))), (70, (V.i x3)), (89, (V.i (l.length : Int))), (90, (V.i v.2.1))], [.rows 2 [(V.agg [V.nil, V.nil])], .map (List.map (fun p : Int × Bool => V.i p.1) v.2.2) (List.map (fun p : Int × Bool => V.b p.2) v.2.2), .map (List.map (fun p : Int × Int => V.i p.1) m1) (List.map (fun p : Int × Int => V.i p.2) m1), .rows 2 [(e_api_Slot x)]], 0, none, 118⟩) hM ?_ rfl) rfl rfl rfl (ga rfl rfl) (gb9 rfl rfl rfl (X.gb_mapK 9 rfl rfl (fun _ => rfl) (fun _ => rfl) (X.gb_mapK 9 rfl rfl (fun _ => rfl) (fun _ => rfl) (gb9 rfl rfl rfl gb_nil))))
    rintro ⟨more2, x2, m5⟩ b_3 hM hc_6 hr_3
    rw [berth_Full_b6] at hM
    refine X.sq (X.q rfl (GS.opsNil (GS.seq ?_)))
    refine X.cond rfl (fun h_12 => ?_) (fun h_12 => ?_)
    ·replace hM := ite_t h_12 hM
     refine GS.skip (GS.seq ?_)
     refine X.join (τ := Bool × (List (Int × Bool))) (fun v => berth_Full_j7 x2 v.1 v.2 = some b_3) (fun v => ⟨[(1, (V.sl (List.map e_api_Call l))), (4, (V.ptr 0 0 0)), (8, (V.fptr [(e_berth_board y1)] 0 0)), (11, (V.map 1)), (12, (V.map 2)), (15, (V.b v.1)), (17, (V.ptr 3 0 0)), (18, (V.i ((lookM x3 m1).getD 0))), (68, (V.sl (List.map e_api_Slot y1.slots))), (69, (V.i (y1.slots.length : Int))), (70, (V.i x3)), (89, (V.i (l.length : Int))), (90, (V.i x2))], [.rows 2 [(V.agg [V.nil, V.nil])], .map (List.map (fun p : Int × Bool => V.i p.1) v.2) (List.map (fun p : Int × Bool => V.b p.2) v.2), .map (List.map (fun p : Int × Int => V.i p.1) m1) (List.map (fun p : Int × Int => V.i p.2) m1), .rows 2 [(e_api_Slot x)]], 0, none, 118⟩) ?_ ?_
     ·rintro ⟨more1, m4⟩ hM
      replace hM : berth_Full_j7 x2 more1 m4 = some b_3 := hM
      unfold berth_Full_j7 at hM
      refine GS.region ?_
      refine X.opR rfl (X.addE rfl rfl) rfl (X.q rfl (GS.opsNil ?_))
      have hE := Option.some.inj hM
      exact X.gc [some 0, some 1, some 2, some 3] (hc_6 (more1, w64 (x2 + 1), m4) hE.symm) rfl rfl rfl (ga rfl rfl) (gb9 rfl rfl rfl (X.gb_mapK 9 rfl rfl (fun _ => rfl) (fun _ => rfl) (X.gb_mapK 9 rfl rfl (fun _ => rfl) (fun _ => rfl) (gb9 rfl rfl rfl gb_nil))))
     intro hj_7
     refine GS.block (X.sq (X.q rfl (X.q rfl ?_)))
     refine GS.opsNil (GS.seq ?_)
     obtain ⟨x1, h_13, hM⟩ := bind_of hM
     refine X.draw (by kernel_rfl) ?_
     iterate 5 refine X.dop rfl rfl rfl rfl (by kernel_rfl) rfl rfl ?_
     refine X.dop rfl (X.indexF (f := (fun l => V.fmap (List.map (fun p => e_api_Slot p.1) l) (List.map (fun p => e_api_Span p.2) l))) h_13 (fun _ => rfl) rfl rfl rfl rfl) rfl rfl (by kernel_rfl) rfl rfl ?_
     refine X.dop rfl (X.loadF h_13 rfl rfl rfl) rfl rfl (by kernel_rfl) rfl rfl ?_
     refine X.dop rfl rfl rfl rfl (by kernel_rfl) rfl rfl ?_
     refine X.dop rfl (X.lookF (f := e_api_Slot) (g := e_api_Span) (k := x) (l := x1) (z := (⟨0, 0⟩ : api_Span)) (ok := true) key_api_Slot rfl rfl rfl rfl rfl) rfl rfl (by kernel_rfl) rfl rfl ?_
     iterate 4 refine X.dop rfl rfl rfl rfl (by kernel_rfl) rfl rfl ?_
     refine X.dop0 rfl rfl rfl rfl (by kernel_rfl) rfl ?_
     refine X.dop rfl rfl rfl rfl (by kernel_rfl) rfl rfl ?_
     refine X.dnil ?_
     refine X.norm [(1, (V.sl (List.map e_api_Call l))), (4, (V.ptr 0 0 0)), (8, (V.fptr [(e_berth_board y1)] 0 0)), (11, (V.map 1)), (12, (V.map 2)), (15, (V.b more2)), (17, (V.ptr 3 0 0)), (18, (V.i ((lookM x3 m1).getD 0))), (20, (V.i x2)), (22, (V.b ((lookM x x1).isSome))), (68, (V.sl (List.map e_api_Slot y1.slots))), (69, (V.i (y1.slots.length : Int))), (70, (V.i x3)), (89, (V.i (l.length : Int))), (90, (V.i x2))] ?_ rfl (sr rfl)
     refine X.sq ?_
     refine X.mid [(1, (V.sl (List.map e_api_Call l))), (4, (V.ptr 0 0 0)), (8, (V.fptr [(e_berth_board y1)] 0 0)), (11, (V.map 1)), (12, (V.map 2)), (15, (V.b more2)), (17, (V.ptr 3 0 0)), (18, (V.i ((lookM x3 m1).getD 0))), (68, (V.sl (List.map e_api_Slot y1.slots))), (69, (V.i (y1.slots.length : Int))), (70, (V.i x3)), (89, (V.i (l.length : Int))), (90, (V.i x2)), (110, (V.b (((lookM x x1).isSome) && ((lookM x2 m5).getD false))))] ?_ ?_
     ·intro hg
      refine X.split ((lookM x x1).isSome) (fun h_14 => ?_) (fun h_14 => ?_)
      ·iterate 2 refine X.q rfl ?_
       iterate 2 refine X.opR (X.on_t rfl rfl rfl h_14) rfl rfl ?_
       refine X.opR (X.on_t rfl rfl rfl h_14) (X.lookW (f := V.i) (g := V.b) (k := x2) (l := m5) (z := false) (ok := false) X.keyEq_i rfl rfl rfl rfl rfl rfl) rfl ?_
       refine X.opR rfl (X.pickand_t (y := ((lookM x2 m5).getD false)) rfl h_14 rfl) rfl (GS.opsNil ?_)
       exact X.norm _ hg rfl (sr rfl)
      refine X.q rfl (X.q rfl ?_)
      iterate 3 refine X.off (X.off_t rfl rfl rfl h_14) rfl ?_
      refine X.opR rfl (X.pickand_f (y := ((lookM x2 m5).getD false)) rfl h_14 rfl) rfl (GS.opsNil ?_)
      exact X.norm _ hg rfl (sr rfl)
     refine X.cond rfl (fun h_15 => ?_) (fun h_15 => ?_)
     ·replace hM := ite_t h_15 hM
      refine GS.region (X.q rfl (X.q rfl ?_))
      refine X.op0W (H' := [.rows 2 [(V.agg [V.nil, V.nil])], .map (List.map (fun p : Int × Bool => V.i p.1) (putM posI m5 ((lookM x3 m1).getD 0) true)) (List.map (fun p : Int × Bool => V.b p.2) (putM posI m5 ((lookM x3 m1).getD 0) true)), .map (List.map (fun p : Int × Int => V.i p.1) m1) (List.map (fun p : Int × Int => V.i p.2) m1), .rows 2 [(e_api_Slot x)], .rows 2 [(e_api_Span ((lookM x x1).getD (⟨0, 0⟩ : api_Span)))]]) rfl (X.putW (f := V.i) (g := V.b) (pos := posI) (k := ((lookM x3 m1).getD 0)) (v := true) (l := m5) X.keyEq_i (X.posI_ok _) rfl rfl rfl rfl rfl rfl rfl) rfl ?_
      refine X.q rfl (GS.opsNil ?_)
      refine GS.endB ?_
      exact X.gc [some 0, some 1, some 2, some 3] (hj_7 (true, (putM posI m5 ((lookM x3 m1).getD 0) true)) hM) rfl rfl rfl (ga rfl rfl) (gb9 rfl rfl rfl (X.gb_mapK 9 rfl rfl (fun _ => rfl) (fun _ => rfl) (X.gb_mapK 9 rfl rfl (fun _ => rfl) (fun _ => rfl) (gb9 rfl rfl rfl gb_nil))))
     replace hM := ite_f h_15 hM
     refine GS.skip ?_
     refine GS.endB ?_
     exact X.gc [some 0, some 1, some 2, some 3] (hj_7 (more2, m5) hM) rfl rfl rfl (ga rfl rfl) (gb9 rfl rfl rfl (X.gb_mapK 9 rfl rfl (fun _ => rfl) (fun _ => rfl) (X.gb_mapK 9 rfl rfl (fun _ => rfl) (fun _ => rfl) (gb9 rfl rfl rfl gb_nil))))
    replace hM := ite_f h_12 hM
    refine GS.exit rfl ?_
    refine GS.endB ?_
    obtain ⟨y_3, hM, hy⟩ := map_of hM
    rw [hr_3 _ hy.symm] at hM
    exact X.gc [some 0, some 1, some 2] (hj_5 (more2, m5) hM) rfl rfl rfl (ga rfl rfl) (gb9 rfl rfl rfl (X.gb_mapK 9 rfl rfl (fun _ => rfl) (fun _ => rfl) (X.gb_mapK 9 rfl rfl (fun _ => rfl) (fun _ => rfl) gb_nil)))
   replace hM := ite_f h_8 hM
   refine GS.exit rfl ?_
   refine GS.endB ?_
   have hE := Option.some.inj hM
   replace hE := hr_2 _ hE.symm
   exact X.gc [some 0, some 1, some 2] (hc_3 (more3, m6) hE.symm) rfl rfl rfl (ga rfl rfl) (gb9 rfl rfl rfl (X.gb_mapK 9 rfl rfl (fun _ => rfl) (fun _ => rfl) (X.gb_mapK 9 rfl rfl (fun _ => rfl) (fun _ => rfl) gb_nil)))
  replace hM := ite_f h_7 hM
  refine GS.exit rfl ?_
  obtain ⟨y_1, hM, hy⟩ := map_of hM
  rw [hr_1 _ hy.symm] at hM
  exact X.gc [some 0, some 1] (hj_2 m7 hM) rfl rfl rfl (ga rfl rfl) (gb9 rfl rfl rfl (X.gb_mapK 9 rfl rfl (fun _ => rfl) (fun _ => rfl) gb_nil))
 intro hj_1
 refine GS.block ?_
 refine X.gc [some 1, some 2, some 3] (X.loop (σ := (Int × (List (Int × Bool)) × (List (Int × Int)))) (fun v => ⟨[(1, (V.sl (List.map e_api_Call l))), (4, (V.ptr 0 0 0)), (8, (V.fptr [(e_berth_board y1)] 0 0)), (11, (V.map 1)), (12, (V.map 2)), (40, (V.sl (List.map V.i y2.1))), (41, (V.i (y2.1.length : Int))), (42, (V.i v.1))], [.rows 2 [(V.agg [V.nil, V.nil])], .map (List.map (fun p : Int × Bool => V.i p.1) v.2.1) (List.map (fun p : Int × Bool => V.b p.2) v.2.1), .map (List.map (fun p : Int × Int => V.i p.1) v.2.2) (List.map (fun p : Int × Int => V.i p.2) v.2.2)], 0, none, 118⟩) hM ?_ rfl) rfl rfl rfl (ga rfl rfl) (gb9 rfl rfl rfl (X.gb_mapK 9 rfl rfl (fun _ => rfl) (fun _ => rfl) (X.gb_mapK 9 rfl rfl (fun _ => rfl) (fun _ => rfl) gb_nil)))
 rintro ⟨x5, m10, m11⟩ b_1 hM hc_8 hr_1
 rw [berth_Full_b8] at hM
 refine X.sq (X.q rfl (GS.opsNil (GS.seq ?_)))
 refine X.cond rfl (fun h_16 => ?_) (fun h_16 => ?_)
 ·replace hM := ite_t h_16 hM
  refine GS.skip (GS.seq ?_)
  refine X.join (τ := (List (Int × Bool)) × (List (Int × Int))) (fun v => berth_Full_j9 x5 v.1 v.2 = some b_1) (fun v => ⟨[(1, (V.sl (List.map e_api_Call l))), (4, (V.ptr 0 0 0)), (8, (V.fptr [(e_berth_board y1)] 0 0)), (11, (V.map 1)), (12, (V.map 2)), (40, (V.sl (List.map V.i y2.1))), (41, (V.i (y2.1.length : Int))), (42, (V.i x5))], [.rows 2 [(V.agg [V.nil, V.nil])], .map (List.map (fun p : Int × Bool => V.i p.1) v.1) (List.map (fun p : Int × Bool => V.b p.2) v.1), .map (List.map (fun p : Int × Int => V.i p.1) v.2) (List.map (fun p : Int × Int => V.i p.2) v.2)], 0, none, 118⟩) ?_ ?_
  ·rintro ⟨m8, m9⟩ hM
   replace hM : berth_Full_j9 x5 m8 m9 = some b_1 := hM
   unfold berth_Full_j9 at hM
   refine GS.region ?_
   refine X.opR rfl (X.addE rfl rfl) rfl (X.q rfl (GS.opsNil ?_))
   have hE := Option.some.inj hM
   exact X.gc [some 0, some 1, some 2] (hc_8 (w64 (x5 + 1), m8, m9) hE.symm) rfl rfl rfl (ga rfl rfl) (gb9 rfl rfl rfl (X.gb_mapK 9 rfl rfl (fun _ => rfl) (fun _ => rfl) (X.gb_mapK 9 rfl rfl (fun _ => rfl) (fun _ => rfl) gb_nil)))
  intro hj_9
  refine GS.block (GS.seq ?_)
  obtain ⟨x4, h_17, hM⟩ := bind_of hM
  refine GS.region (X.q rfl ?_)
  refine X.opR rfl (X.indexF (f := V.i) h_17 (fun _ => rfl) rfl rfl rfl rfl) rfl ?_
  refine X.opR rfl (X.loadF h_17 rfl rfl rfl) rfl (X.q rfl (X.q rfl ?_))
  refine X.nq ?_
  iterate 5 refine X.q rfl ?_
  refine X.opR rfl (X.lenF rfl rfl rfl) rfl (X.q rfl (GS.opsNil ?_))
  refine X.cond rfl (fun h_18 => ?_) (fun h_18 => ?_)
  ·replace hM := ite_t h_18 hM
   refine GS.region (X.q rfl (X.q rfl ?_))
   refine X.op0W rfl (X.putW (f := V.i) (g := V.b) (pos := posI) (k := x5) (v := true) (l := m10) X.keyEq_i (X.posI_ok _) rfl rfl rfl rfl rfl rfl rfl) rfl (GS.opsNil ?_)
   refine GS.endB ?_
   exact X.gc [some 0, some 1, some 2] (hj_9 ((putM posI m10 x5 true), m11) hM) rfl rfl rfl (ga rfl rfl) (gb9 rfl rfl rfl (X.gb_mapK 9 rfl rfl (fun _ => rfl) (fun _ => rfl) (X.gb_mapK 9 rfl rfl (fun _ => rfl) (fun _ => rfl) gb_nil)))
  replace hM := ite_f h_18 hM
  refine GS.region (X.q rfl (X.q rfl (X.q rfl ?_)))
  refine X.op0W rfl (X.putW (f := V.i) (g := V.i) (pos := posI) (k := x4) (v := x5) (l := m11) X.keyEq_i (X.posI_ok _) rfl rfl rfl rfl rfl rfl rfl) rfl (GS.opsNil ?_)
  refine GS.endB ?_
  exact X.gc [some 0, some 1, some 2] (hj_9 (m10, (putM posI m11 x4 x5)) hM) rfl rfl rfl (ga rfl rfl) (gb9 rfl rfl rfl (X.gb_mapK 9 rfl rfl (fun _ => rfl) (fun _ => rfl) (X.gb_mapK 9 rfl rfl (fun _ => rfl) (fun _ => rfl) gb_nil)))
 replace hM := ite_f h_16 hM
 refine GS.exit rfl ?_
 obtain ⟨y_1, hM, hy⟩ := map_of hM
 rw [hr_1 _ hy.symm] at hM
 exact X.gc [some 0, some 1, some 2] (hj_1 (m10, m11) hM) rfl rfl rfl (ga rfl rfl) (gb9 rfl rfl rfl (X.gb_mapK 9 rfl rfl (fun _ => rfl) (fun _ => rfl) (X.gb_mapK 9 rfl rfl (fun _ => rfl) (fun _ => rfl) gb_nil)))
theorem ok_slices_Equal_int {s1 : (List Int)} {s2 : (List Int)} {r : Bool} (hM : slices_Equal_int s1 s2 = some r) : Ct Tryz.prog 71 [(V.sl (List.map V.i s1)), (V.sl (List.map V.i s2))] (V.b r) := by
 refine ct_of_gs CC_ok rfl ?_
 unfold slices_Equal_int at hM
 refine X.sq (X.q rfl (GS.opsNil (GS.seq (X.sq (X.q rfl ?_)))))
 refine X.opR rfl (X.lenF rfl rfl rfl) rfl (X.q rfl ?_)
 refine X.opR rfl (X.lenF rfl rfl rfl) rfl (X.q rfl (GS.opsNil ?_))
 refine X.cond rfl (fun h_1 => ?_) (fun h_1 => ?_)
 ·replace hM := ite_t h_1 hM
  refine X.sq (X.q rfl (GS.opsNil ?_))
  cases hM
  exact GS.ret ⟨_, rfl, ⟨30, rfl⟩⟩
 replace hM := ite_f h_1 hM
 refine GS.skip (GS.seq (X.sq (X.q rfl ?_)))
 refine X.opR rfl (X.lenF rfl rfl rfl) rfl (X.q rfl (GS.opsNil ?_))
 refine X.join (τ := Unit) (fun v => slices_Equal_int_j1 = some r) (fun v => ⟨[], [], 0, none, 26⟩) ?_ ?_
 ·intro _ hM
  replace hM : slices_Equal_int_j1 = some r := hM
  unfold slices_Equal_int_j1 at hM
  refine X.sq (X.q rfl (GS.opsNil ?_))
  cases hM
  exact GS.ret ⟨_, rfl, ⟨30, rfl⟩⟩
 intro hj_1
 refine GS.block ?_
 refine X.gc [] (X.loop (σ := Int) (fun v => ⟨[(0, (V.sl (List.map V.i s1))), (1, (V.sl (List.map V.i s2))), (12, (V.i (s1.length : Int))), (13, (V.i v))], [], 0, none, 26⟩) hM ?_ rfl) rfl rfl rfl (ga rfl rfl) (gb_nil)
 intro x2 b_1 hM hc_2 hr_1
 rw [slices_Equal_int_b2] at hM
 refine X.sq (X.q rfl (GS.opsNil (GS.seq ?_)))
 refine X.cond rfl (fun h_2 => ?_) (fun h_2 => ?_)
 ·replace hM := ite_t h_2 hM
  refine GS.skip (GS.seq (GS.block (X.sq (X.q rfl (X.q rfl ?_)))))
  refine GS.opsNil (GS.seq ?_)
  obtain ⟨x, h_3, hM⟩ := bind_of hM
  obtain ⟨x1, h_4, hM⟩ := bind_of hM
  refine X.drawc (by kernel_rfl) rfl ?_
  iterate 2 refine X.cop rfl rfl rfl rfl ?_
  refine X.cop rfl (X.indexF (f := V.i) h_3 (fun _ => rfl) rfl rfl rfl rfl) rfl rfl ?_
  refine X.cop rfl (X.loadF h_3 rfl rfl rfl) rfl rfl ?_
  iterate 2 refine X.cop rfl rfl rfl rfl ?_
  refine X.cop rfl (X.indexF (f := V.i) h_4 (fun _ => rfl) rfl rfl rfl rfl) rfl rfl ?_
  refine X.cop rfl (X.loadF h_4 rfl rfl rfl) rfl rfl ?_
  refine X.cop rfl rfl rfl rfl ?_
  refine X.cnil ?_
  refine X.norm [(0, (V.sl (List.map V.i s1))), (1, (V.sl (List.map V.i s2))), (12, (V.i (s1.length : Int))), (13, (V.i x2)), (24, (V.b (!decide (x = x1))))] ?_ rfl (sr rfl)
  refine X.cond rfl (fun h_5 => ?_) (fun h_5 => ?_)
  ·replace hM := ite_t h_5 hM
   refine X.sq (X.q rfl (GS.opsNil ?_))
   have hE := Option.some.inj hM
   replace hE := hr_1 _ hE.symm
   subst hE
   exact GS.ret ⟨_, rfl, ⟨30, rfl⟩⟩
  replace hM := ite_f h_5 hM
  refine GS.skip ?_
  refine GS.endB (GS.region ?_)
  refine X.opR rfl (X.addE rfl rfl) rfl (X.q rfl (GS.opsNil ?_))
  have hE := Option.some.inj hM
  exact X.gc [] (hc_2 (w64 (x2 + 1)) hE.symm) rfl rfl rfl (ga rfl rfl) (gb_nil)
 replace hM := ite_f h_2 hM
 refine GS.exit rfl ?_
 obtain ⟨y_1, hM, hy⟩ := map_of hM
 rw [hr_1 _ hy.symm] at hM
 exact X.gc [] (hj_1 () hM) rfl rfl rfl (gk_nil) (gb_nil)
theorem eq_api_Slot (a b : api_Slot) : eqA CC.ty 46 (e_api_Slot a) (e_api_Slot b) = some (decide (a = b)) := by
 refine (X.eqa rfl rfl (X.eqp rfl rfl rfl (X.eqp rfl rfl rfl X.eqn'))).trans ?_
 congr 1
 rw [Bool.eq_iff_iff]
 simp only [Bool.and_eq_true, decide_eq_true_eq, beq_iff_eq, and_true]
 constructor
 ·intro h
  obtain ⟨a1, a2⟩ := a
  obtain ⟨b3, b4⟩ := b
  simp at h
  simp [h]
 ·rintro rfl
  simp
theorem ok_slices_Equal_api_Slot {s1 : (List api_Slot)} {s2 : (List api_Slot)} {r : Bool} (hM : slices_Equal_api_Slot s1 s2 = some r) : Ct Tryz.prog 72 [(V.sl (List.map e_api_Slot s1)), (V.sl (List.map e_api_Slot s2))] (V.b r) := by
 refine ct_of_gs CC_ok rfl ?_
 unfold slices_Equal_api_Slot at hM
 refine X.sq (X.q rfl (GS.opsNil (GS.seq (X.sq (X.q rfl ?_)))))
 refine X.opR rfl (X.lenF rfl rfl rfl) rfl (X.q rfl ?_)
 refine X.opR rfl (X.lenF rfl rfl rfl) rfl (X.q rfl (GS.opsNil ?_))
 refine X.cond rfl (fun h_1 => ?_) (fun h_1 => ?_)
 ·replace hM := ite_t h_1 hM
  refine X.sq (X.q rfl (GS.opsNil ?_))
  cases hM
  exact GS.ret ⟨_, rfl, ⟨30, rfl⟩⟩
 replace hM := ite_f h_1 hM
 refine GS.skip (GS.seq (X.sq (X.q rfl ?_)))
 refine X.opR rfl (X.lenF rfl rfl rfl) rfl (X.q rfl (GS.opsNil ?_))
 refine X.join (τ := Unit) (fun v => slices_Equal_api_Slot_j1 = some r) (fun v => ⟨[], [], 0, none, 26⟩) ?_ ?_
 ·intro _ hM
  replace hM : slices_Equal_api_Slot_j1 = some r := hM
  unfold slices_Equal_api_Slot_j1 at hM
  refine X.sq (X.q rfl (GS.opsNil ?_))
  cases hM
  exact GS.ret ⟨_, rfl, ⟨30, rfl⟩⟩
 intro hj_1
 refine GS.block ?_
 refine X.gc [] (X.loop (σ := Int) (fun v => ⟨[(0, (V.sl (List.map e_api_Slot s1))), (1, (V.sl (List.map e_api_Slot s2))), (12, (V.i (s1.length : Int))), (13, (V.i v))], [], 0, none, 26⟩) hM ?_ rfl) rfl rfl rfl (ga rfl rfl) (gb_nil)
 intro x2 b_1 hM hc_2 hr_1
 rw [slices_Equal_api_Slot_b2] at hM
 refine X.sq (X.q rfl (GS.opsNil (GS.seq ?_)))
 refine X.cond rfl (fun h_2 => ?_) (fun h_2 => ?_)
 ·replace hM := ite_t h_2 hM
  refine GS.skip (GS.seq (GS.block (X.sq (X.q rfl (X.q rfl ?_)))))
  refine GS.opsNil (GS.seq ?_)
  obtain ⟨x, h_3, hM⟩ := bind_of hM
  obtain ⟨x1, h_4, hM⟩ := bind_of hM
  refine X.drawc (by kernel_rfl) rfl ?_
  iterate 2 refine X.cop rfl rfl rfl rfl ?_
  refine X.cop rfl (X.indexF (f := e_api_Slot) h_3 (fun _ => rfl) rfl rfl rfl rfl) rfl rfl ?_
  refine X.cop rfl (X.loadF h_3 rfl rfl rfl) rfl rfl ?_
  iterate 2 refine X.cop rfl rfl rfl rfl ?_
  refine X.cop rfl (X.indexF (f := e_api_Slot) h_4 (fun _ => rfl) rfl rfl rfl rfl) rfl rfl ?_
  refine X.cop rfl (X.loadF h_4 rfl rfl rfl) rfl rfl ?_
  refine X.cop rfl (X.neqE (eq_api_Slot x x1) rfl rfl) rfl rfl ?_
  refine X.cnil ?_
  refine X.norm [(0, (V.sl (List.map e_api_Slot s1))), (1, (V.sl (List.map e_api_Slot s2))), (12, (V.i (s1.length : Int))), (13, (V.i x2)), (24, (V.b (!decide (x = x1))))] ?_ rfl (sr rfl)
  refine X.cond rfl (fun h_5 => ?_) (fun h_5 => ?_)
  ·replace hM := ite_t h_5 hM
   refine X.sq (X.q rfl (GS.opsNil ?_))
   have hE := Option.some.inj hM
   replace hE := hr_1 _ hE.symm
   subst hE
   exact GS.ret ⟨_, rfl, ⟨30, rfl⟩⟩
  replace hM := ite_f h_5 hM
  refine GS.skip ?_
  refine GS.endB (GS.region ?_)
  refine X.opR rfl (X.addE rfl rfl) rfl (X.q rfl (GS.opsNil ?_))
  have hE := Option.some.inj hM
  exact X.gc [] (hc_2 (w64 (x2 + 1)) hE.symm) rfl rfl rfl (ga rfl rfl) (gb_nil)
 replace hM := ite_f h_2 hM
 refine GS.exit rfl ?_
 obtain ⟨y_1, hM, hy⟩ := map_of hM
 rw [hr_1 _ hy.symm] at hM
 exact X.gc [] (hj_1 () hM) rfl rfl rfl (gk_nil) (gb_nil)
set_option maxHeartbeats 4000000 in
theorem ok_berth_CheckFull {h : api_Harbour} {l : (List api_Call)} {x : api_Crowd} {r : Int × Int} (hM : berth_CheckFull h l x = some r) : Ct Tryz.prog 28 [(e_api_Harbour h), (V.sl (List.map e_api_Call l)), (e_api_Crowd x)] (V.tup [(V.i r.1), (V.i r.2)]) := by
 refine ct_of_gs CC_ok rfl ?_
 unfold berth_CheckFull at hM
 refine X.sq ?_
 iterate 2 refine X.opW rfl rfl rfl rfl ?_
 refine X.q rfl (X.q rfl ?_)
 refine GS.opsNil ?_
 iterate 2 refine GS.seq ?_
 obtain ⟨y, h_1, hM⟩ := bind_of hM
 refine GS.region (X.q rfl (X.q rfl ?_))
 refine X.call (ok_berth_CheckCalls h_1) rfl rfl rfl (.cons (.shut (n := 9) rfl) (.cons (.shut (n := 9) rfl) .nil)) (X.q rfl (X.nq (X.q rfl (X.q rfl ?_))))
 refine GS.opsNil ?_
 refine X.cond rfl (fun h_2 => ?_) (fun h_2 => ?_)
 ·replace hM := ite_t h_2 hM
  refine X.sq (X.q rfl (X.q rfl (X.q rfl ?_)))
  refine GS.opsNil ?_
  cases hM
  exact GS.ret ⟨_, rfl, ⟨30, rfl⟩⟩
 replace hM := ite_f h_2 hM
 refine GS.skip (X.sq ?_)
 refine X.opW rfl rfl rfl rfl (X.q rfl (GS.opsNil (GS.seq (X.sq (X.q rfl (X.q rfl ?_))))))
 refine X.opR rfl (X.lenF rfl rfl rfl) rfl (X.q rfl (GS.opsNil ?_))
 refine X.join (τ := (List (Int × Bool))) (fun v => berth_CheckFull_j1 h l x v = some r) (fun v => ⟨[(1, (V.sl (List.map e_api_Call l))), (3, (V.ptr 0 0 0)), (5, (V.ptr 1 0 0)), (9, (V.map 2))], [.rows 6 [(e_api_Harbour h)], .rows 2 [(e_api_Crowd x)], .map (List.map (fun p : Int × Bool => V.i p.1) v) (List.map (fun p : Int × Bool => V.b p.2) v)], 0, none, 77⟩) ?_ ?_
 ·intro m hM
  replace hM : berth_CheckFull_j1 h l x m = some r := hM
  unfold berth_CheckFull_j1 at hM
  refine GS.seq ?_
  obtain ⟨y1, h_3, hM⟩ := bind_of hM
  obtain ⟨y2, h_4, hM⟩ := bind_of hM
  refine GS.region (X.q rfl (X.q rfl ?_))
  refine X.call (ok_berth_laid h_3) rfl rfl rfl (.cons (.shut (n := 9) rfl) (.cons (.shut (n := 9) rfl) .nil)) (X.q rfl ?_)
  refine X.freezeM (f := V.i) (g := V.b) (pa := fun p => p.1) (pb := fun p => p.2) (l := m) 39 rfl rfl rfl (fun _ => rfl) (fun _ => rfl) ?_
  refine X.call (ok_berth_board_crowd h_4) rfl rfl rfl (.cons (.shut (n := 9) rfl) (.cons (.shut (n := 9) rfl) .nil)) ?_
  refine X.opW (H' := [.rows 6 [(e_api_Harbour h)], .rows 2 [(e_api_Crowd x)], .dead, .rows 2 [(V.agg [V.nil, V.nil])]]) rfl rfl rfl rfl ?_
  refine X.op0W (H' := [.rows 6 [(e_api_Harbour h)], .rows 2 [(e_api_Crowd x)], .dead, .rows 2 [(e_api_Crowd y2)]]) rfl rfl rfl (GS.opsNil ?_)
  iterate 2 refine GS.seq ?_
  obtain ⟨y3, h_5, hM⟩ := gb_of hM
  obtain ⟨y4, h_6, hM⟩ := gb_of hM
  refine GS.region ?_
  refine X.mid [(5, (V.ptr 1 0 0)), (69, (V.b ((((decide ((x.Calls.length : Int) = 0)) || (!y3)) || (!y4)) || (decide ((x.Calls.length : Int) ≤ (x.Slots.length : Int))))))] ?_ ?_
  ·intro hg
   refine X.split (decide ((x.Calls.length : Int) = 0)) (fun h_7 => ?_) (fun h_7 => ?_)
   ·iterate 2 refine X.q rfl ?_
    refine X.opR rfl (X.lenF rfl rfl rfl) rfl (X.q rfl (X.q rfl ?_))
    iterate 6 refine X.off (X.off_f rfl rfl rfl h_7) rfl ?_
    refine X.opR rfl (X.pickor_t (y := !y3) rfl h_7 rfl) rfl (X.q rfl ?_)
    iterate 6 refine X.off (X.off_f rfl rfl rfl (X.or_tt h_7)) rfl ?_
    refine X.opR rfl (X.pickor_t (y := !y4) rfl (X.or_tt h_7) rfl) rfl (X.q rfl ?_)
    iterate 7 refine X.off (X.off_f rfl rfl rfl (X.or_tt (X.or_tt h_7))) rfl ?_
    refine X.opR rfl (X.pickor_t (y := decide ((x.Calls.length : Int) ≤ (x.Slots.length : Int))) rfl (X.or_tt (X.or_tt h_7)) rfl) rfl (GS.opsNil ?_)
    exact X.norm _ hg rfl (sr rfl)
   refine X.split (((decide ((x.Calls.length : Int) = 0)) || (!y3))) (fun h_8 => ?_) (fun h_8 => ?_)
   ·iterate 2 refine X.q rfl ?_
    refine X.opR rfl (X.lenF rfl rfl rfl) rfl (X.q rfl (X.q rfl ?_))
    iterate 4 refine X.opR (X.on_f rfl rfl rfl h_7) rfl rfl ?_
    refine X.call (ok_slices_Equal_int (h_5 (X.nt h_7))) (X.on_f rfl rfl rfl h_7) rfl rfl (.cons (.shut (n := 9) rfl) (.cons (.shut (n := 9) rfl) .nil)) ?_
    refine X.opR (X.on_f rfl rfl rfl h_7) rfl rfl ?_
    refine X.opR rfl (X.pickor_f (y := !y3) rfl h_7 rfl) rfl (X.q rfl ?_)
    iterate 6 refine X.off (X.off_f rfl rfl rfl h_8) rfl ?_
    refine X.opR rfl (X.pickor_t (y := !y4) rfl h_8 rfl) rfl (X.q rfl ?_)
    iterate 7 refine X.off (X.off_f rfl rfl rfl (X.or_tt h_8)) rfl ?_
    refine X.opR rfl (X.pickor_t (y := decide ((x.Calls.length : Int) ≤ (x.Slots.length : Int))) rfl (X.or_tt h_8) rfl) rfl (GS.opsNil ?_)
    exact X.norm _ hg rfl (sr rfl)
   refine X.split ((((decide ((x.Calls.length : Int) = 0)) || (!y3)) || (!y4))) (fun h_9 => ?_) (fun h_9 => ?_)
   ·iterate 2 refine X.q rfl ?_
    refine X.opR rfl (X.lenF rfl rfl rfl) rfl (X.q rfl (X.q rfl ?_))
    iterate 4 refine X.opR (X.on_f rfl rfl rfl h_7) rfl rfl ?_
    refine X.call (ok_slices_Equal_int (h_5 (X.nt h_7))) (X.on_f rfl rfl rfl h_7) rfl rfl (.cons (.shut (n := 9) rfl) (.cons (.shut (n := 9) rfl) .nil)) ?_
    refine X.opR (X.on_f rfl rfl rfl h_7) rfl rfl ?_
    refine X.opR rfl (X.pickor_f (y := !y3) rfl h_7 rfl) rfl (X.q rfl ?_)
    iterate 4 refine X.opR (X.on_f rfl rfl rfl h_8) rfl rfl ?_
    refine X.call (ok_slices_Equal_api_Slot (h_6 (X.nt h_8))) (X.on_f rfl rfl rfl h_8) rfl rfl (.cons (.shut (n := 9) rfl) (.cons (.shut (n := 9) rfl) .nil)) ?_
    refine X.opR (X.on_f rfl rfl rfl h_8) rfl rfl ?_
    refine X.opR rfl (X.pickor_f (y := !y4) rfl h_8 rfl) rfl (X.q rfl ?_)
    iterate 7 refine X.off (X.off_f rfl rfl rfl h_9) rfl ?_
    refine X.opR rfl (X.pickor_t (y := decide ((x.Calls.length : Int) ≤ (x.Slots.length : Int))) rfl h_9 rfl) rfl (GS.opsNil ?_)
    exact X.norm _ hg rfl (sr rfl)
   refine X.q rfl (X.q rfl ?_)
   refine X.opR rfl (X.lenF rfl rfl rfl) rfl (X.q rfl (X.q rfl ?_))
   iterate 4 refine X.opR (X.on_f rfl rfl rfl h_7) rfl rfl ?_
   refine X.call (ok_slices_Equal_int (h_5 (X.nt h_7))) (X.on_f rfl rfl rfl h_7) rfl rfl (.cons (.shut (n := 9) rfl) (.cons (.shut (n := 9) rfl) .nil)) ?_
   refine X.opR (X.on_f rfl rfl rfl h_7) rfl rfl ?_
   refine X.opR rfl (X.pickor_f (y := !y3) rfl h_7 rfl) rfl (X.q rfl ?_)
   iterate 4 refine X.opR (X.on_f rfl rfl rfl h_8) rfl rfl ?_
   refine X.call (ok_slices_Equal_api_Slot (h_6 (X.nt h_8))) (X.on_f rfl rfl rfl h_8) rfl rfl (.cons (.shut (n := 9) rfl) (.cons (.shut (n := 9) rfl) .nil)) ?_
   refine X.opR (X.on_f rfl rfl rfl h_8) rfl rfl ?_
   refine X.opR rfl (X.pickor_f (y := !y4) rfl h_8 rfl) rfl (X.q rfl ?_)
   iterate 2 refine X.opR (X.on_f rfl rfl rfl h_9) rfl rfl ?_
   refine X.opR (X.on_f rfl rfl rfl h_9) (X.lenF rfl rfl rfl) rfl ?_
   iterate 2 refine X.opR (X.on_f rfl rfl rfl h_9) rfl rfl ?_
   refine X.opR (X.on_f rfl rfl rfl h_9) (X.lenF rfl rfl rfl) rfl ?_
   refine X.opR (X.on_f rfl rfl rfl h_9) rfl rfl ?_
   refine X.opR rfl (X.pickor_f (y := decide ((x.Calls.length : Int) ≤ (x.Slots.length : Int))) rfl h_9 rfl) rfl (GS.opsNil ?_)
   exact X.norm _ hg rfl (sr rfl)
  refine X.cond rfl (fun h_10 => ?_) (fun h_10 => ?_)
  ·replace hM := ite_t h_10 hM
   refine X.sq (X.q rfl (X.q rfl ?_))
   refine GS.opsNil ?_
   cases hM
   exact GS.ret ⟨_, rfl, ⟨30, rfl⟩⟩
  replace hM := ite_f h_10 hM
  refine GS.skip (X.sq (X.q rfl (X.q rfl ?_)))
  refine X.opR rfl (X.lenF rfl rfl rfl) rfl (X.q rfl (X.q rfl ?_))
  refine X.opR rfl (X.lenF rfl rfl rfl) rfl ?_
  refine X.opR rfl (X.subE rfl rfl) rfl (X.q rfl (X.q rfl ?_))
  refine GS.opsNil ?_
  cases hM
  exact GS.ret ⟨_, rfl, ⟨30, rfl⟩⟩
 intro hj_1
 refine GS.block ?_
 refine X.gc [some 0, some 1, some 2] (X.loop (σ := (Int × (List (Int × Bool)))) (fun v => ⟨[(1, (V.sl (List.map e_api_Call l))), (3, (V.ptr 0 0 0)), (5, (V.ptr 1 0 0)), (9, (V.map 2)), (22, (V.sl (List.map V.i x.Calls))), (23, (V.i (x.Calls.length : Int))), (24, (V.i v.1))], [.rows 6 [(e_api_Harbour h)], .rows 2 [(e_api_Crowd x)], .map (List.map (fun p : Int × Bool => V.i p.1) v.2) (List.map (fun p : Int × Bool => V.b p.2) v.2)], 0, none, 77⟩) hM ?_ rfl) rfl rfl rfl (ga rfl rfl) (gb9 rfl rfl rfl (gb9 rfl rfl rfl (X.gb_mapK 9 rfl rfl (fun _ => rfl) (fun _ => rfl) gb_nil)))
 rintro ⟨x2, m2⟩ b_1 hM hc_2 hr_1
 rw [berth_CheckFull_b2] at hM
 refine X.sq (X.q rfl (GS.opsNil (GS.seq ?_)))
 refine X.cond rfl (fun h_11 => ?_) (fun h_11 => ?_)
 ·replace hM := ite_t h_11 hM
  refine GS.skip (GS.seq ?_)
  refine X.join (τ := (List (Int × Bool))) (fun v => berth_CheckFull_j3 x2 v = some b_1) (fun v => ⟨[(1, (V.sl (List.map e_api_Call l))), (3, (V.ptr 0 0 0)), (5, (V.ptr 1 0 0)), (9, (V.map 2)), (22, (V.sl (List.map V.i x.Calls))), (23, (V.i (x.Calls.length : Int))), (24, (V.i x2))], [.rows 6 [(e_api_Harbour h)], .rows 2 [(e_api_Crowd x)], .map (List.map (fun p : Int × Bool => V.i p.1) v) (List.map (fun p : Int × Bool => V.b p.2) v)], 0, none, 77⟩) ?_ ?_
  ·intro m1 hM
   replace hM : berth_CheckFull_j3 x2 m1 = some b_1 := hM
   unfold berth_CheckFull_j3 at hM
   refine GS.region ?_
   refine X.opR rfl (X.addE rfl rfl) rfl (X.q rfl (GS.opsNil ?_))
   have hE := Option.some.inj hM
   exact X.gc [some 0, some 1, some 2] (hc_2 (w64 (x2 + 1), m1) hE.symm) rfl rfl rfl (ga rfl rfl) (gb9 rfl rfl rfl (gb9 rfl rfl rfl (X.gb_mapK 9 rfl rfl (fun _ => rfl) (fun _ => rfl) gb_nil)))
  intro hj_3
  refine GS.block (GS.seq ?_)
  obtain ⟨x1, h_12, hM⟩ := bind_of hM
  refine GS.region ?_
  refine X.opR rfl (X.indexF (f := V.i) h_12 (fun _ => rfl) rfl rfl rfl rfl) rfl ?_
  refine X.opR rfl (X.loadF h_12 rfl rfl rfl) rfl (X.q rfl (GS.opsNil (GS.seq ?_)))
  obtain ⟨y5, h_13, hM⟩ := bind_of hM
  refine GS.region (X.q rfl (X.q rfl ?_))
  refine X.call (ok_berth_first_api_Call__berth_callID h_13) rfl rfl rfl (.cons (.shut (n := 9) rfl) (.cons (.shut (n := 9) rfl) (.cons (.shut (n := 9) rfl) .nil))) (X.q rfl (X.nq (X.q rfl (X.q rfl ?_))))
  refine GS.opsNil ?_
  refine X.cond rfl (fun h_14 => ?_) (fun h_14 => ?_)
  ·replace hM := ite_t h_14 hM
   refine GS.region (X.q rfl (X.q rfl ?_))
   refine X.op0W rfl (X.putW (f := V.i) (g := V.b) (pos := posI) (k := y5) (v := true) (l := m2) X.keyEq_i (X.posI_ok _) rfl rfl rfl rfl rfl rfl rfl) rfl (GS.opsNil ?_)
   refine GS.endB ?_
   exact X.gc [some 0, some 1, some 2] (hj_3 (putM posI m2 y5 true) hM) rfl rfl rfl (ga rfl rfl) (gb9 rfl rfl rfl (gb9 rfl rfl rfl (X.gb_mapK 9 rfl rfl (fun _ => rfl) (fun _ => rfl) gb_nil)))
  replace hM := ite_f h_14 hM
  refine GS.skip ?_
  refine GS.endB ?_
  exact X.gc [some 0, some 1, some 2] (hj_3 m2 hM) rfl rfl rfl (ga rfl rfl) (gb9 rfl rfl rfl (gb9 rfl rfl rfl (X.gb_mapK 9 rfl rfl (fun _ => rfl) (fun _ => rfl) gb_nil)))
 replace hM := ite_f h_11 hM
 refine GS.exit rfl ?_
 obtain ⟨y_1, hM, hy⟩ := map_of hM
 rw [hr_1 _ hy.symm] at hM
 exact X.gc [some 0, some 1, some 2] (hj_1 m2 hM) rfl rfl rfl (ga rfl rfl) (gb9 rfl rfl rfl (gb9 rfl rfl rfl (X.gb_mapK 9 rfl rfl (fun _ => rfl) (fun _ => rfl) gb_nil)))
theorem eq_api_Span (a b : api_Span) : eqA CC.ty 32 (e_api_Span a) (e_api_Span b) = some (decide (a = b)) := by
 refine (X.eqa rfl rfl (X.eqp rfl rfl rfl (X.eqp rfl rfl rfl X.eqn'))).trans ?_
 congr 1
 rw [Bool.eq_iff_iff]
 simp only [Bool.and_eq_true, decide_eq_true_eq, beq_iff_eq, and_true]
 constructor
 ·intro h
  obtain ⟨a1, a2⟩ := a
  obtain ⟨b3, b4⟩ := b
  simp at h
  simp [h]
 ·rintro rfl
  simp
theorem eq_api_Stay (a b : api_Stay) : eqA CC.ty 87 (e_api_Stay a) (e_api_Stay b) = some (decide (a = b)) := by
 refine (X.eqa rfl rfl (X.eqp rfl rfl rfl (X.eqp rfl rfl (X.eqs rfl rfl (X.eqp rfl rfl rfl (X.eqp rfl rfl rfl X.eqn'))) (X.eqp rfl rfl (X.eqs rfl rfl (X.eqp rfl rfl rfl (X.eqp rfl rfl rfl X.eqn'))) X.eqn')))).trans ?_
 congr 1
 rw [Bool.eq_iff_iff]
 simp only [Bool.and_eq_true, decide_eq_true_eq, beq_iff_eq, and_true]
 constructor
 ·intro h
  obtain ⟨a1, ⟨a2, a3⟩, ⟨a4, a5⟩⟩ := a
  obtain ⟨b6, ⟨b7, b8⟩, ⟨b9, b10⟩⟩ := b
  simp at h
  simp [h]
 ·rintro rfl
  simp
set_option maxHeartbeats 4000000 in
theorem ok_law06_sanity {r : Bool} (hM : law06_sanity = some r) : Ct Tryz.prog 8 [] (V.b r) := by
 refine ct_of_gs CC_ok rfl ?_
 unfold law06_sanity at hM
 refine X.sq (X.q rfl (X.nq ?_))
 refine X.call ok_law06_Harbour rfl rfl rfl .nil ?_
 refine X.opW rfl rfl rfl rfl ?_
 refine X.op0W rfl rfl rfl (GS.opsNil (GS.seq ?_))
 replace hM := bind_of hM
 obtain ⟨y, h_1, hM⟩ := hM
 refine GS.region (X.q rfl ?_)
 refine X.call (ok_berth_Depth h_1) rfl rfl rfl (.cons (.shut (n := 9) rfl) (.cons (.shut (n := 9) rfl) (.cons (.shut (n := 9) rfl) .nil))) ?_
 iterate 5 refine X.q rfl ?_
 refine GS.opsNil (GS.seq ?_)
 replace hM := bind_of hM
 obtain ⟨y1, h_2, hM⟩ := hM
 refine GS.region (X.q rfl (X.q rfl ?_))
 refine X.call (ok_berth_Touch h_2) rfl rfl rfl (.cons (.shut (n := 9) rfl) (.cons (.shut (n := 9) rfl) (.cons (.shut (n := 9) rfl) (.cons (.shut (n := 9) rfl) .nil)))) ?_
 iterate 7 refine X.q rfl ?_
 refine GS.opsNil (GS.seq ?_)
 replace hM := bind_of hM
 obtain ⟨y2, h_3, hM⟩ := hM
 refine GS.region (X.q rfl (X.q rfl ?_))
 refine X.call (ok_berth_Touch h_3) rfl rfl rfl (.cons (.shut (n := 9) rfl) (.cons (.shut (n := 9) rfl) (.cons (.shut (n := 9) rfl) (.cons (.shut (n := 9) rfl) .nil)))) ?_
 iterate 7 refine X.q rfl ?_
 refine GS.opsNil (GS.seq ?_)
 replace hM := bind_of hM
 obtain ⟨y3, h_4, hM⟩ := hM
 replace hM := bind_of hM
 obtain ⟨x, h_5, hM⟩ := hM
 replace hM := bind_of hM
 obtain ⟨y4, h_6, hM⟩ := hM
 refine X.draw (by kernel_rfl) ?_
 refine X.dop rfl rfl rfl rfl (by kernel_rfl) rfl rfl ?_
 refine X.dcall (ok_law06_waiting h_4) rfl rfl rfl (by kernel_rfl) rfl (.cons (.shut (n := 9) rfl) .nil) ?_
 refine X.dop rfl (X.indexF (f := e_api_Call) h_5 (fun _ => rfl) rfl rfl rfl rfl) rfl rfl (by kernel_rfl) rfl rfl ?_
 refine X.dop rfl (X.loadF h_5 rfl rfl rfl) rfl rfl (by kernel_rfl) rfl rfl ?_
 refine X.dop rfl rfl rfl rfl (by kernel_rfl) rfl rfl ?_
 refine X.dcall (ok_berth_When h_6) rfl rfl rfl (by kernel_rfl) rfl (.cons (.shut (n := 9) rfl) (.cons (.shut (n := 9) rfl) (.cons (.shut (n := 9) rfl) .nil))) ?_
 iterate 5 refine X.dop rfl rfl rfl rfl (by kernel_rfl) rfl rfl ?_
 refine X.dop0 rfl rfl rfl rfl (by kernel_rfl) rfl ?_
 iterate 2 refine X.dop rfl rfl rfl rfl (by kernel_rfl) rfl rfl ?_
 refine X.dnil ?_
 refine X.norm [(1, (V.ptr 0 0 0)), (2, (V.i y.1)), (3, (V.i y.2)), (4, (V.i y1.1)), (5, (V.b y1.2.1)), (6, (V.i y1.2.2)), (8, (V.b y2.2.1)), (9, (V.i y2.2.2)), (10, (V.ptr 1 0 0)), (11, (V.b y4.2.1)), (12, (V.i y4.2.2))] ?_ rfl (sr rfl)
 refine GS.seq ?_
 replace hM := bind_of hM
 obtain ⟨y5, h_7, hM⟩ := hM
 refine GS.region (X.q rfl (X.q rfl ?_))
 refine X.call (ok_berth_Allow h_7) rfl rfl rfl (.cons (.shut (n := 9) rfl) (.cons (.shut (n := 9) rfl) (.cons (.shut (n := 9) rfl) .nil))) ?_
 iterate 5 refine X.q rfl ?_
 refine GS.opsNil (GS.seq ?_)
 replace hM := bind_of hM
 obtain ⟨y6, h_8, hM⟩ := hM
 replace hM := bind_of hM
 obtain ⟨y7, h_9, hM⟩ := hM
 refine X.drawc (by kernel_rfl) rfl ?_
 refine X.cop rfl rfl rfl rfl ?_
 refine X.ccall (ok_law06_waiting h_8) rfl rfl rfl rfl (.cons (.shut (n := 9) rfl) .nil) ?_
 refine X.ccall (ok_berth_Plan h_9) rfl rfl rfl rfl (.cons (.shut (n := 9) rfl) (.cons (.shut (n := 9) rfl) .nil)) ?_
 iterate 5 refine X.cop rfl rfl rfl rfl ?_
 refine X.cnil ?_
 refine X.norm [(1, (V.ptr 0 0 0)), (2, (V.i y.1)), (3, (V.i y.2)), (4, (V.i y1.1)), (5, (V.b y1.2.1)), (6, (V.i y1.2.2)), (8, (V.b y2.2.1)), (9, (V.i y2.2.2)), (10, (V.ptr 1 0 0)), (11, (V.b y4.2.1)), (12, (V.i y4.2.2)), (13, (V.i y5.1)), (14, (V.i y5.2)), (15, (V.sl (List.map e_api_Stay y7.1))), (16, (V.i y7.2))] ?_ rfl (sr rfl)
 refine GS.seq ?_
 replace hM := bind_of hM
 obtain ⟨y8, h_10, hM⟩ := hM
 replace hM := bind_of hM
 obtain ⟨y9, h_11, hM⟩ := hM
 refine X.draw (by kernel_rfl) ?_
 refine X.dop rfl rfl rfl rfl (by kernel_rfl) rfl rfl ?_
 refine X.dcall (ok_law06_waiting h_10) rfl rfl rfl (by kernel_rfl) rfl (.cons (.shut (n := 9) rfl) .nil) ?_
 refine X.dcall (ok_berth_Full h_11) rfl rfl rfl (by kernel_rfl) rfl (.cons (.shut (n := 9) rfl) (.cons (.shut (n := 9) rfl) .nil)) ?_
 iterate 5 refine X.dop rfl rfl rfl rfl (by kernel_rfl) rfl rfl ?_
 refine X.dop0 rfl rfl rfl rfl (by kernel_rfl) rfl ?_
 iterate 2 refine X.dop rfl rfl rfl rfl (by kernel_rfl) rfl rfl ?_
 refine X.dnil ?_
 refine X.norm [(1, (V.ptr 0 0 0)), (2, (V.i y.1)), (3, (V.i y.2)), (4, (V.i y1.1)), (5, (V.b y1.2.1)), (6, (V.i y1.2.2)), (8, (V.b y2.2.1)), (9, (V.i y2.2.2)), (10, (V.ptr 1 0 0)), (11, (V.b y4.2.1)), (12, (V.i y4.2.2)), (13, (V.i y5.1)), (14, (V.i y5.2)), (15, (V.sl (List.map e_api_Stay y7.1))), (16, (V.i y7.2)), (17, (V.ptr 2 0 0)), (18, (V.b y9.2.1)), (19, (V.i y9.2.2))] ?_ rfl (sr rfl)
 refine GS.seq ?_
 replace hM := bind_of hM
 obtain ⟨y10, h_12, hM⟩ := hM
 replace hM := bind_of hM
 obtain ⟨y11, h_13, hM⟩ := hM
 refine X.drawc (by kernel_rfl) rfl ?_
 refine X.cop rfl rfl rfl rfl ?_
 refine X.ccall (ok_law06_waiting h_12) rfl rfl rfl rfl (.cons (.shut (n := 9) rfl) .nil) ?_
 refine X.cop rfl rfl rfl rfl ?_
 refine X.ccall (ok_berth_CheckFull h_13) rfl rfl rfl rfl (.cons (.shut (n := 9) rfl) (.cons (.shut (n := 9) rfl) (.cons (.shut (n := 9) rfl) .nil))) ?_
 iterate 5 refine X.cop rfl rfl rfl rfl ?_
 refine X.cnil ?_
 refine X.norm [(2, (V.i y.1)), (3, (V.i y.2)), (4, (V.i y1.1)), (5, (V.b y1.2.1)), (6, (V.i y1.2.2)), (8, (V.b y2.2.1)), (9, (V.i y2.2.2)), (10, (V.ptr 1 0 0)), (11, (V.b y4.2.1)), (12, (V.i y4.2.2)), (13, (V.i y5.1)), (14, (V.i y5.2)), (15, (V.sl (List.map e_api_Stay y7.1))), (16, (V.i y7.2)), (17, (V.ptr 2 0 0)), (18, (V.b y9.2.1)), (19, (V.i y9.2.2)), (20, (V.i y11.1)), (21, (V.i y11.2))] ?_ rfl (sr rfl)
 refine GS.seq (X.sq ?_)
 refine X.mid [(2, (V.i y.1)), (4, (V.i y1.1)), (5, (V.b y1.2.1)), (8, (V.b y2.2.1)), (10, (V.ptr 1 0 0)), (11, (V.b y4.2.1)), (13, (V.i y5.1)), (15, (V.sl (List.map e_api_Stay y7.1))), (17, (V.ptr 2 0 0)), (18, (V.b y9.2.1)), (20, (V.i y11.1)), (113, (V.b (((((((((!decide (y.2 = 0)) || (!decide (y1.2.2 = 0))) || (!decide (y2.2.2 = 0))) || (!decide (y4.2.2 = 0))) || (!decide (y5.2 = 0))) || (!decide (y7.2 = 0))) || (!decide (y9.2.2 = 0))) || (!decide (y11.2 = 0))) || (!decide ((y7.1.length : Int) = 3)))))] ?_ ?_
 ·intro hg
  refine X.split (!decide (y.2 = 0)) (fun h_14 => ?_) (fun h_14 => ?_)
  ·iterate 3 refine X.q rfl ?_
   iterate 2 refine X.off (X.off_f rfl rfl rfl h_14) rfl ?_
   refine X.opR rfl (X.pickor_t (y := !decide (y1.2.2 = 0)) rfl h_14 rfl) rfl (X.q rfl ?_)
   iterate 2 refine X.off (X.off_f rfl rfl rfl (X.or_tt h_14)) rfl ?_
   refine X.opR rfl (X.pickor_t (y := !decide (y2.2.2 = 0)) rfl (X.or_tt h_14) rfl) rfl (X.q rfl ?_)
   iterate 2 refine X.off (X.off_f rfl rfl rfl (X.or_tt (X.or_tt h_14))) rfl ?_
   refine X.opR rfl (X.pickor_t (y := !decide (y4.2.2 = 0)) rfl (X.or_tt (X.or_tt h_14)) rfl) rfl (X.q rfl ?_)
   iterate 2 refine X.off (X.off_f rfl rfl rfl (X.or_tt (X.or_tt (X.or_tt h_14)))) rfl ?_
   refine X.opR rfl (X.pickor_t (y := !decide (y5.2 = 0)) rfl (X.or_tt (X.or_tt (X.or_tt h_14))) rfl) rfl (X.q rfl ?_)
   iterate 2 refine X.off (X.off_f rfl rfl rfl (X.or_tt (X.or_tt (X.or_tt (X.or_tt h_14))))) rfl ?_
   refine X.opR rfl (X.pickor_t (y := !decide (y7.2 = 0)) rfl (X.or_tt (X.or_tt (X.or_tt (X.or_tt h_14)))) rfl) rfl (X.q rfl ?_)
   iterate 2 refine X.off (X.off_f rfl rfl rfl (X.or_tt (X.or_tt (X.or_tt (X.or_tt (X.or_tt h_14)))))) rfl ?_
   refine X.opR rfl (X.pickor_t (y := !decide (y9.2.2 = 0)) rfl (X.or_tt (X.or_tt (X.or_tt (X.or_tt (X.or_tt h_14))))) rfl) rfl (X.q rfl ?_)
   iterate 2 refine X.off (X.off_f rfl rfl rfl (X.or_tt (X.or_tt (X.or_tt (X.or_tt (X.or_tt (X.or_tt h_14))))))) rfl ?_
   refine X.opR rfl (X.pickor_t (y := !decide (y11.2 = 0)) rfl (X.or_tt (X.or_tt (X.or_tt (X.or_tt (X.or_tt (X.or_tt h_14)))))) rfl) rfl (X.q rfl ?_)
   iterate 3 refine X.off (X.off_f rfl rfl rfl (X.or_tt (X.or_tt (X.or_tt (X.or_tt (X.or_tt (X.or_tt (X.or_tt h_14)))))))) rfl ?_
   refine X.opR rfl (X.pickor_t (y := !decide ((y7.1.length : Int) = 3)) rfl (X.or_tt (X.or_tt (X.or_tt (X.or_tt (X.or_tt (X.or_tt (X.or_tt h_14))))))) rfl) rfl (GS.opsNil ?_)
   exact X.norm _ hg rfl (sr rfl)
  refine X.split (((!decide (y.2 = 0)) || (!decide (y1.2.2 = 0)))) (fun h_15 => ?_) (fun h_15 => ?_)
  ·iterate 3 refine X.q rfl ?_
   iterate 2 refine X.opR (X.on_f rfl rfl rfl h_14) rfl rfl ?_
   refine X.opR rfl (X.pickor_f (y := !decide (y1.2.2 = 0)) rfl h_14 rfl) rfl (X.q rfl ?_)
   iterate 2 refine X.off (X.off_f rfl rfl rfl h_15) rfl ?_
   refine X.opR rfl (X.pickor_t (y := !decide (y2.2.2 = 0)) rfl h_15 rfl) rfl (X.q rfl ?_)
   iterate 2 refine X.off (X.off_f rfl rfl rfl (X.or_tt h_15)) rfl ?_
   refine X.opR rfl (X.pickor_t (y := !decide (y4.2.2 = 0)) rfl (X.or_tt h_15) rfl) rfl (X.q rfl ?_)
   iterate 2 refine X.off (X.off_f rfl rfl rfl (X.or_tt (X.or_tt h_15))) rfl ?_
   refine X.opR rfl (X.pickor_t (y := !decide (y5.2 = 0)) rfl (X.or_tt (X.or_tt h_15)) rfl) rfl (X.q rfl ?_)
   iterate 2 refine X.off (X.off_f rfl rfl rfl (X.or_tt (X.or_tt (X.or_tt h_15)))) rfl ?_
   refine X.opR rfl (X.pickor_t (y := !decide (y7.2 = 0)) rfl (X.or_tt (X.or_tt (X.or_tt h_15))) rfl) rfl (X.q rfl ?_)
   iterate 2 refine X.off (X.off_f rfl rfl rfl (X.or_tt (X.or_tt (X.or_tt (X.or_tt h_15))))) rfl ?_
   refine X.opR rfl (X.pickor_t (y := !decide (y9.2.2 = 0)) rfl (X.or_tt (X.or_tt (X.or_tt (X.or_tt h_15)))) rfl) rfl (X.q rfl ?_)
   iterate 2 refine X.off (X.off_f rfl rfl rfl (X.or_tt (X.or_tt (X.or_tt (X.or_tt (X.or_tt h_15)))))) rfl ?_
   refine X.opR rfl (X.pickor_t (y := !decide (y11.2 = 0)) rfl (X.or_tt (X.or_tt (X.or_tt (X.or_tt (X.or_tt h_15))))) rfl) rfl (X.q rfl ?_)
   iterate 3 refine X.off (X.off_f rfl rfl rfl (X.or_tt (X.or_tt (X.or_tt (X.or_tt (X.or_tt (X.or_tt h_15))))))) rfl ?_
   refine X.opR rfl (X.pickor_t (y := !decide ((y7.1.length : Int) = 3)) rfl (X.or_tt (X.or_tt (X.or_tt (X.or_tt (X.or_tt (X.or_tt h_15)))))) rfl) rfl (GS.opsNil ?_)
   exact X.norm _ hg rfl (sr rfl)
  refine X.split ((((!decide (y.2 = 0)) || (!decide (y1.2.2 = 0))) || (!decide (y2.2.2 = 0)))) (fun h_16 => ?_) (fun h_16 => ?_)
  ·iterate 3 refine X.q rfl ?_
   iterate 2 refine X.opR (X.on_f rfl rfl rfl h_14) rfl rfl ?_
   refine X.opR rfl (X.pickor_f (y := !decide (y1.2.2 = 0)) rfl h_14 rfl) rfl (X.q rfl ?_)
   iterate 2 refine X.opR (X.on_f rfl rfl rfl h_15) rfl rfl ?_
   refine X.opR rfl (X.pickor_f (y := !decide (y2.2.2 = 0)) rfl h_15 rfl) rfl (X.q rfl ?_)
   iterate 2 refine X.off (X.off_f rfl rfl rfl h_16) rfl ?_
   refine X.opR rfl (X.pickor_t (y := !decide (y4.2.2 = 0)) rfl h_16 rfl) rfl (X.q rfl ?_)
   iterate 2 refine X.off (X.off_f rfl rfl rfl (X.or_tt h_16)) rfl ?_
   refine X.opR rfl (X.pickor_t (y := !decide (y5.2 = 0)) rfl (X.or_tt h_16) rfl) rfl (X.q rfl ?_)
   iterate 2 refine X.off (X.off_f rfl rfl rfl (X.or_tt (X.or_tt h_16))) rfl ?_
   refine X.opR rfl (X.pickor_t (y := !decide (y7.2 = 0)) rfl (X.or_tt (X.or_tt h_16)) rfl) rfl (X.q rfl ?_)
   iterate 2 refine X.off (X.off_f rfl rfl rfl (X.or_tt (X.or_tt (X.or_tt h_16)))) rfl ?_
   refine X.opR rfl (X.pickor_t (y := !decide (y9.2.2 = 0)) rfl (X.or_tt (X.or_tt (X.or_tt h_16))) rfl) rfl (X.q rfl ?_)
   iterate 2 refine X.off (X.off_f rfl rfl rfl (X.or_tt (X.or_tt (X.or_tt (X.or_tt h_16))))) rfl ?_
   refine X.opR rfl (X.pickor_t (y := !decide (y11.2 = 0)) rfl (X.or_tt (X.or_tt (X.or_tt (X.or_tt h_16)))) rfl) rfl (X.q rfl ?_)
   iterate 3 refine X.off (X.off_f rfl rfl rfl (X.or_tt (X.or_tt (X.or_tt (X.or_tt (X.or_tt h_16)))))) rfl ?_
   refine X.opR rfl (X.pickor_t (y := !decide ((y7.1.length : Int) = 3)) rfl (X.or_tt (X.or_tt (X.or_tt (X.or_tt (X.or_tt h_16))))) rfl) rfl (GS.opsNil ?_)
   exact X.norm _ hg rfl (sr rfl)
  refine X.split (((((!decide (y.2 = 0)) || (!decide (y1.2.2 = 0))) || (!decide (y2.2.2 = 0))) || (!decide (y4.2.2 = 0)))) (fun h_17 => ?_) (fun h_17 => ?_)
  ·iterate 3 refine X.q rfl ?_
   iterate 2 refine X.opR (X.on_f rfl rfl rfl h_14) rfl rfl ?_
   refine X.opR rfl (X.pickor_f (y := !decide (y1.2.2 = 0)) rfl h_14 rfl) rfl (X.q rfl ?_)
   iterate 2 refine X.opR (X.on_f rfl rfl rfl h_15) rfl rfl ?_
   refine X.opR rfl (X.pickor_f (y := !decide (y2.2.2 = 0)) rfl h_15 rfl) rfl (X.q rfl ?_)
   iterate 2 refine X.opR (X.on_f rfl rfl rfl h_16) rfl rfl ?_
   refine X.opR rfl (X.pickor_f (y := !decide (y4.2.2 = 0)) rfl h_16 rfl) rfl (X.q rfl ?_)
   iterate 2 refine X.off (X.off_f rfl rfl rfl h_17) rfl ?_
   refine X.opR rfl (X.pickor_t (y := !decide (y5.2 = 0)) rfl h_17 rfl) rfl (X.q rfl ?_)
   iterate 2 refine X.off (X.off_f rfl rfl rfl (X.or_tt h_17)) rfl ?_
   refine X.opR rfl (X.pickor_t (y := !decide (y7.2 = 0)) rfl (X.or_tt h_17) rfl) rfl (X.q rfl ?_)
   iterate 2 refine X.off (X.off_f rfl rfl rfl (X.or_tt (X.or_tt h_17))) rfl ?_
   refine X.opR rfl (X.pickor_t (y := !decide (y9.2.2 = 0)) rfl (X.or_tt (X.or_tt h_17)) rfl) rfl (X.q rfl ?_)
   iterate 2 refine X.off (X.off_f rfl rfl rfl (X.or_tt (X.or_tt (X.or_tt h_17)))) rfl ?_
   refine X.opR rfl (X.pickor_t (y := !decide (y11.2 = 0)) rfl (X.or_tt (X.or_tt (X.or_tt h_17))) rfl) rfl (X.q rfl ?_)
   iterate 3 refine X.off (X.off_f rfl rfl rfl (X.or_tt (X.or_tt (X.or_tt (X.or_tt h_17))))) rfl ?_
   refine X.opR rfl (X.pickor_t (y := !decide ((y7.1.length : Int) = 3)) rfl (X.or_tt (X.or_tt (X.or_tt (X.or_tt h_17)))) rfl) rfl (GS.opsNil ?_)
   exact X.norm _ hg rfl (sr rfl)
  refine X.split ((((((!decide (y.2 = 0)) || (!decide (y1.2.2 = 0))) || (!decide (y2.2.2 = 0))) || (!decide (y4.2.2 = 0))) || (!decide (y5.2 = 0)))) (fun h_18 => ?_) (fun h_18 => ?_)
  ·iterate 3 refine X.q rfl ?_
   iterate 2 refine X.opR (X.on_f rfl rfl rfl h_14) rfl rfl ?_
   refine X.opR rfl (X.pickor_f (y := !decide (y1.2.2 = 0)) rfl h_14 rfl) rfl (X.q rfl ?_)
   iterate 2 refine X.opR (X.on_f rfl rfl rfl h_15) rfl rfl ?_
   refine X.opR rfl (X.pickor_f (y := !decide (y2.2.2 = 0)) rfl h_15 rfl) rfl (X.q rfl ?_)
   iterate 2 refine X.opR (X.on_f rfl rfl rfl h_16) rfl rfl ?_
   refine X.opR rfl (X.pickor_f (y := !decide (y4.2.2 = 0)) rfl h_16 rfl) rfl (X.q rfl ?_)
   iterate 2 refine X.opR (X.on_f rfl rfl rfl h_17) rfl rfl ?_
   refine X.opR rfl (X.pickor_f (y := !decide (y5.2 = 0)) rfl h_17 rfl) rfl (X.q rfl ?_)
   iterate 2 refine X.off (X.off_f rfl rfl rfl h_18) rfl ?_
   refine X.opR rfl (X.pickor_t (y := !decide (y7.2 = 0)) rfl h_18 rfl) rfl (X.q rfl ?_)
   iterate 2 refine X.off (X.off_f rfl rfl rfl (X.or_tt h_18)) rfl ?_
   refine X.opR rfl (X.pickor_t (y := !decide (y9.2.2 = 0)) rfl (X.or_tt h_18) rfl) rfl (X.q rfl ?_)
   iterate 2 refine X.off (X.off_f rfl rfl rfl (X.or_tt (X.or_tt h_18))) rfl ?_
   refine X.opR rfl (X.pickor_t (y := !decide (y11.2 = 0)) rfl (X.or_tt (X.or_tt h_18)) rfl) rfl (X.q rfl ?_)
   iterate 3 refine X.off (X.off_f rfl rfl rfl (X.or_tt (X.or_tt (X.or_tt h_18)))) rfl ?_
   refine X.opR rfl (X.pickor_t (y := !decide ((y7.1.length : Int) = 3)) rfl (X.or_tt (X.or_tt (X.or_tt h_18))) rfl) rfl (GS.opsNil ?_)
   exact X.norm _ hg rfl (sr rfl)
  refine X.split (((((((!decide (y.2 = 0)) || (!decide (y1.2.2 = 0))) || (!decide (y2.2.2 = 0))) || (!decide (y4.2.2 = 0))) || (!decide (y5.2 = 0))) || (!decide (y7.2 = 0)))) (fun h_19 => ?_) (fun h_19 => ?_)
  ·iterate 3 refine X.q rfl ?_
   iterate 2 refine X.opR (X.on_f rfl rfl rfl h_14) rfl rfl ?_
   refine X.opR rfl (X.pickor_f (y := !decide (y1.2.2 = 0)) rfl h_14 rfl) rfl (X.q rfl ?_)
   iterate 2 refine X.opR (X.on_f rfl rfl rfl h_15) rfl rfl ?_
   refine X.opR rfl (X.pickor_f (y := !decide (y2.2.2 = 0)) rfl h_15 rfl) rfl (X.q rfl ?_)
   iterate 2 refine X.opR (X.on_f rfl rfl rfl h_16) rfl rfl ?_
   refine X.opR rfl (X.pickor_f (y := !decide (y4.2.2 = 0)) rfl h_16 rfl) rfl (X.q rfl ?_)
   iterate 2 refine X.opR (X.on_f rfl rfl rfl h_17) rfl rfl ?_
   refine X.opR rfl (X.pickor_f (y := !decide (y5.2 = 0)) rfl h_17 rfl) rfl (X.q rfl ?_)
   iterate 2 refine X.opR (X.on_f rfl rfl rfl h_18) rfl rfl ?_
   refine X.opR rfl (X.pickor_f (y := !decide (y7.2 = 0)) rfl h_18 rfl) rfl (X.q rfl ?_)
   iterate 2 refine X.off (X.off_f rfl rfl rfl h_19) rfl ?_
   refine X.opR rfl (X.pickor_t (y := !decide (y9.2.2 = 0)) rfl h_19 rfl) rfl (X.q rfl ?_)
   iterate 2 refine X.off (X.off_f rfl rfl rfl (X.or_tt h_19)) rfl ?_
   refine X.opR rfl (X.pickor_t (y := !decide (y11.2 = 0)) rfl (X.or_tt h_19) rfl) rfl (X.q rfl ?_)
   iterate 3 refine X.off (X.off_f rfl rfl rfl (X.or_tt (X.or_tt h_19))) rfl ?_
   refine X.opR rfl (X.pickor_t (y := !decide ((y7.1.length : Int) = 3)) rfl (X.or_tt (X.or_tt h_19)) rfl) rfl (GS.opsNil ?_)
   exact X.norm _ hg rfl (sr rfl)
  refine X.split ((((((((!decide (y.2 = 0)) || (!decide (y1.2.2 = 0))) || (!decide (y2.2.2 = 0))) || (!decide (y4.2.2 = 0))) || (!decide (y5.2 = 0))) || (!decide (y7.2 = 0))) || (!decide (y9.2.2 = 0)))) (fun h_20 => ?_) (fun h_20 => ?_)
  ·iterate 3 refine X.q rfl ?_
   iterate 2 refine X.opR (X.on_f rfl rfl rfl h_14) rfl rfl ?_
   refine X.opR rfl (X.pickor_f (y := !decide (y1.2.2 = 0)) rfl h_14 rfl) rfl (X.q rfl ?_)
   iterate 2 refine X.opR (X.on_f rfl rfl rfl h_15) rfl rfl ?_
   refine X.opR rfl (X.pickor_f (y := !decide (y2.2.2 = 0)) rfl h_15 rfl) rfl (X.q rfl ?_)
   iterate 2 refine X.opR (X.on_f rfl rfl rfl h_16) rfl rfl ?_
   refine X.opR rfl (X.pickor_f (y := !decide (y4.2.2 = 0)) rfl h_16 rfl) rfl (X.q rfl ?_)
   iterate 2 refine X.opR (X.on_f rfl rfl rfl h_17) rfl rfl ?_
   refine X.opR rfl (X.pickor_f (y := !decide (y5.2 = 0)) rfl h_17 rfl) rfl (X.q rfl ?_)
   iterate 2 refine X.opR (X.on_f rfl rfl rfl h_18) rfl rfl ?_
   refine X.opR rfl (X.pickor_f (y := !decide (y7.2 = 0)) rfl h_18 rfl) rfl (X.q rfl ?_)
   iterate 2 refine X.opR (X.on_f rfl rfl rfl h_19) rfl rfl ?_
   refine X.opR rfl (X.pickor_f (y := !decide (y9.2.2 = 0)) rfl h_19 rfl) rfl (X.q rfl ?_)
   iterate 2 refine X.off (X.off_f rfl rfl rfl h_20) rfl ?_
   refine X.opR rfl (X.pickor_t (y := !decide (y11.2 = 0)) rfl h_20 rfl) rfl (X.q rfl ?_)
   iterate 3 refine X.off (X.off_f rfl rfl rfl (X.or_tt h_20)) rfl ?_
   refine X.opR rfl (X.pickor_t (y := !decide ((y7.1.length : Int) = 3)) rfl (X.or_tt h_20) rfl) rfl (GS.opsNil ?_)
   exact X.norm _ hg rfl (sr rfl)
  refine X.split (((((((((!decide (y.2 = 0)) || (!decide (y1.2.2 = 0))) || (!decide (y2.2.2 = 0))) || (!decide (y4.2.2 = 0))) || (!decide (y5.2 = 0))) || (!decide (y7.2 = 0))) || (!decide (y9.2.2 = 0))) || (!decide (y11.2 = 0)))) (fun h_21 => ?_) (fun h_21 => ?_)
  ·iterate 3 refine X.q rfl ?_
   iterate 2 refine X.opR (X.on_f rfl rfl rfl h_14) rfl rfl ?_
   refine X.opR rfl (X.pickor_f (y := !decide (y1.2.2 = 0)) rfl h_14 rfl) rfl (X.q rfl ?_)
   iterate 2 refine X.opR (X.on_f rfl rfl rfl h_15) rfl rfl ?_
   refine X.opR rfl (X.pickor_f (y := !decide (y2.2.2 = 0)) rfl h_15 rfl) rfl (X.q rfl ?_)
   iterate 2 refine X.opR (X.on_f rfl rfl rfl h_16) rfl rfl ?_
   refine X.opR rfl (X.pickor_f (y := !decide (y4.2.2 = 0)) rfl h_16 rfl) rfl (X.q rfl ?_)
   iterate 2 refine X.opR (X.on_f rfl rfl rfl h_17) rfl rfl ?_
   refine X.opR rfl (X.pickor_f (y := !decide (y5.2 = 0)) rfl h_17 rfl) rfl (X.q rfl ?_)
   iterate 2 refine X.opR (X.on_f rfl rfl rfl h_18) rfl rfl ?_
   refine X.opR rfl (X.pickor_f (y := !decide (y7.2 = 0)) rfl h_18 rfl) rfl (X.q rfl ?_)
   iterate 2 refine X.opR (X.on_f rfl rfl rfl h_19) rfl rfl ?_
   refine X.opR rfl (X.pickor_f (y := !decide (y9.2.2 = 0)) rfl h_19 rfl) rfl (X.q rfl ?_)
   iterate 2 refine X.opR (X.on_f rfl rfl rfl h_20) rfl rfl ?_
   refine X.opR rfl (X.pickor_f (y := !decide (y11.2 = 0)) rfl h_20 rfl) rfl (X.q rfl ?_)
   iterate 3 refine X.off (X.off_f rfl rfl rfl h_21) rfl ?_
   refine X.opR rfl (X.pickor_t (y := !decide ((y7.1.length : Int) = 3)) rfl h_21 rfl) rfl (GS.opsNil ?_)
   exact X.norm _ hg rfl (sr rfl)
  iterate 3 refine X.q rfl ?_
  iterate 2 refine X.opR (X.on_f rfl rfl rfl h_14) rfl rfl ?_
  refine X.opR rfl (X.pickor_f (y := !decide (y1.2.2 = 0)) rfl h_14 rfl) rfl (X.q rfl ?_)
  iterate 2 refine X.opR (X.on_f rfl rfl rfl h_15) rfl rfl ?_
  refine X.opR rfl (X.pickor_f (y := !decide (y2.2.2 = 0)) rfl h_15 rfl) rfl (X.q rfl ?_)
  iterate 2 refine X.opR (X.on_f rfl rfl rfl h_16) rfl rfl ?_
  refine X.opR rfl (X.pickor_f (y := !decide (y4.2.2 = 0)) rfl h_16 rfl) rfl (X.q rfl ?_)
  iterate 2 refine X.opR (X.on_f rfl rfl rfl h_17) rfl rfl ?_
  refine X.opR rfl (X.pickor_f (y := !decide (y5.2 = 0)) rfl h_17 rfl) rfl (X.q rfl ?_)
  iterate 2 refine X.opR (X.on_f rfl rfl rfl h_18) rfl rfl ?_
  refine X.opR rfl (X.pickor_f (y := !decide (y7.2 = 0)) rfl h_18 rfl) rfl (X.q rfl ?_)
  iterate 2 refine X.opR (X.on_f rfl rfl rfl h_19) rfl rfl ?_
  refine X.opR rfl (X.pickor_f (y := !decide (y9.2.2 = 0)) rfl h_19 rfl) rfl (X.q rfl ?_)
  iterate 2 refine X.opR (X.on_f rfl rfl rfl h_20) rfl rfl ?_
  refine X.opR rfl (X.pickor_f (y := !decide (y11.2 = 0)) rfl h_20 rfl) rfl (X.q rfl ?_)
  refine X.opR (X.on_f rfl rfl rfl h_21) rfl rfl ?_
  refine X.opR (X.on_f rfl rfl rfl h_21) (X.lenF rfl rfl rfl) rfl ?_
  refine X.opR (X.on_f rfl rfl rfl h_21) rfl rfl ?_
  refine X.opR rfl (X.pickor_f (y := !decide ((y7.1.length : Int) = 3)) rfl h_21 rfl) rfl (GS.opsNil ?_)
  exact X.norm _ hg rfl (sr rfl)
 refine X.cond rfl (fun h_22 => ?_) (fun h_22 => ?_)
 ·replace hM := ite_t h_22 hM
  refine X.sq (X.q rfl (GS.opsNil ?_))
  cases hM
  exact GS.ret ⟨_, rfl, ⟨30, rfl⟩⟩
 replace hM := ite_f h_22 hM
 refine GS.skip (X.sq ?_)
 refine X.mid [(15, (V.sl (List.map e_api_Stay y7.1))), (17, (V.ptr 2 0 0)), (18, (V.b y9.2.1)), (20, (V.i y11.1)), (22, (V.b (((((((decide (y.1 = 1000)) && y1.2.1) && (decide (y1.1 = 60))) && (!y2.2.1)) && y4.2.1) && (decide (y4.1 = (⟨120, 179⟩ : api_Span)))) && (decide (y5.1 = 650)))))] ?_ ?_
 ·intro hg
  refine X.split (decide (y.1 = 1000)) (fun h_23 => ?_) (fun h_23 => ?_)
  ·refine X.split (((decide (y.1 = 1000)) && y1.2.1)) (fun h_24 => ?_) (fun h_24 => ?_)
   ·refine X.split ((((decide (y.1 = 1000)) && y1.2.1) && (decide (y1.1 = 60)))) (fun h_25 => ?_) (fun h_25 => ?_)
    ·refine X.split (((((decide (y.1 = 1000)) && y1.2.1) && (decide (y1.1 = 60))) && (!y2.2.1))) (fun h_26 => ?_) (fun h_26 => ?_)
     ·refine X.split ((((((decide (y.1 = 1000)) && y1.2.1) && (decide (y1.1 = 60))) && (!y2.2.1)) && y4.2.1)) (fun h_27 => ?_) (fun h_27 => ?_)
      ·refine X.split (((((((decide (y.1 = 1000)) && y1.2.1) && (decide (y1.1 = 60))) && (!y2.2.1)) && y4.2.1) && (decide (y4.1 = (⟨120, 179⟩ : api_Span))))) (fun h_28 => ?_) (fun h_28 => ?_)
       ·iterate 3 refine X.q rfl ?_
        refine X.opR (X.on_t rfl rfl rfl h_23) rfl rfl ?_
        refine X.opR rfl (X.pickand_t (y := y1.2.1) rfl h_23 rfl) rfl (X.q rfl ?_)
        iterate 2 refine X.opR (X.on_t rfl rfl rfl h_24) rfl rfl ?_
        refine X.opR rfl (X.pickand_t (y := decide (y1.1 = 60)) rfl h_24 rfl) rfl (X.q rfl ?_)
        iterate 2 refine X.opR (X.on_t rfl rfl rfl h_25) rfl rfl ?_
        refine X.opR rfl (X.pickand_t (y := !y2.2.1) rfl h_25 rfl) rfl (X.q rfl ?_)
        refine X.opR (X.on_t rfl rfl rfl h_26) rfl rfl ?_
        refine X.opR rfl (X.pickand_t (y := y4.2.1) rfl h_26 rfl) rfl (X.q rfl ?_)
        iterate 2 refine X.opR (X.on_t rfl rfl rfl h_27) rfl rfl ?_
        refine X.opR (X.on_t rfl rfl rfl h_27) (X.eqlE (eq_api_Span y4.1 (⟨120, 179⟩ : api_Span)) rfl rfl) rfl ?_
        refine X.opR rfl (X.pickand_t (y := decide (y4.1 = (⟨120, 179⟩ : api_Span))) rfl h_27 rfl) rfl (X.q rfl ?_)
        iterate 2 refine X.opR (X.on_t rfl rfl rfl h_28) rfl rfl ?_
        refine X.opR rfl (X.pickand_t (y := decide (y5.1 = 650)) rfl h_28 rfl) rfl (X.q rfl (GS.opsNil ?_))
        exact X.norm _ hg rfl (sr rfl)
       iterate 3 refine X.q rfl ?_
       refine X.opR (X.on_t rfl rfl rfl h_23) rfl rfl ?_
       refine X.opR rfl (X.pickand_t (y := y1.2.1) rfl h_23 rfl) rfl (X.q rfl ?_)
       iterate 2 refine X.opR (X.on_t rfl rfl rfl h_24) rfl rfl ?_
       refine X.opR rfl (X.pickand_t (y := decide (y1.1 = 60)) rfl h_24 rfl) rfl (X.q rfl ?_)
       iterate 2 refine X.opR (X.on_t rfl rfl rfl h_25) rfl rfl ?_
       refine X.opR rfl (X.pickand_t (y := !y2.2.1) rfl h_25 rfl) rfl (X.q rfl ?_)
       refine X.opR (X.on_t rfl rfl rfl h_26) rfl rfl ?_
       refine X.opR rfl (X.pickand_t (y := y4.2.1) rfl h_26 rfl) rfl (X.q rfl ?_)
       iterate 2 refine X.opR (X.on_t rfl rfl rfl h_27) rfl rfl ?_
       refine X.opR (X.on_t rfl rfl rfl h_27) (X.eqlE (eq_api_Span y4.1 (⟨120, 179⟩ : api_Span)) rfl rfl) rfl ?_
       refine X.opR rfl (X.pickand_t (y := decide (y4.1 = (⟨120, 179⟩ : api_Span))) rfl h_27 rfl) rfl (X.q rfl ?_)
       iterate 2 refine X.off (X.off_t rfl rfl rfl h_28) rfl ?_
       refine X.opR rfl (X.pickand_f (y := decide (y5.1 = 650)) rfl h_28 rfl) rfl (X.q rfl (GS.opsNil ?_))
       exact X.norm _ hg rfl (sr rfl)
      iterate 3 refine X.q rfl ?_
      refine X.opR (X.on_t rfl rfl rfl h_23) rfl rfl ?_
      refine X.opR rfl (X.pickand_t (y := y1.2.1) rfl h_23 rfl) rfl (X.q rfl ?_)
      iterate 2 refine X.opR (X.on_t rfl rfl rfl h_24) rfl rfl ?_
      refine X.opR rfl (X.pickand_t (y := decide (y1.1 = 60)) rfl h_24 rfl) rfl (X.q rfl ?_)
      iterate 2 refine X.opR (X.on_t rfl rfl rfl h_25) rfl rfl ?_
      refine X.opR rfl (X.pickand_t (y := !y2.2.1) rfl h_25 rfl) rfl (X.q rfl ?_)
      refine X.opR (X.on_t rfl rfl rfl h_26) rfl rfl ?_
      refine X.opR rfl (X.pickand_t (y := y4.2.1) rfl h_26 rfl) rfl (X.q rfl ?_)
      iterate 3 refine X.off (X.off_t rfl rfl rfl h_27) rfl ?_
      refine X.opR rfl (X.pickand_f (y := decide (y4.1 = (⟨120, 179⟩ : api_Span))) rfl h_27 rfl) rfl (X.q rfl ?_)
      iterate 2 refine X.off (X.off_t rfl rfl rfl (X.and_ff h_27)) rfl ?_
      refine X.opR rfl (X.pickand_f (y := decide (y5.1 = 650)) rfl (X.and_ff h_27) rfl) rfl (X.q rfl (GS.opsNil ?_))
      exact X.norm _ hg rfl (sr rfl)
     iterate 3 refine X.q rfl ?_
     refine X.opR (X.on_t rfl rfl rfl h_23) rfl rfl ?_
     refine X.opR rfl (X.pickand_t (y := y1.2.1) rfl h_23 rfl) rfl (X.q rfl ?_)
     iterate 2 refine X.opR (X.on_t rfl rfl rfl h_24) rfl rfl ?_
     refine X.opR rfl (X.pickand_t (y := decide (y1.1 = 60)) rfl h_24 rfl) rfl (X.q rfl ?_)
     iterate 2 refine X.opR (X.on_t rfl rfl rfl h_25) rfl rfl ?_
     refine X.opR rfl (X.pickand_t (y := !y2.2.1) rfl h_25 rfl) rfl (X.q rfl ?_)
     refine X.off (X.off_t rfl rfl rfl h_26) rfl ?_
     refine X.opR rfl (X.pickand_f (y := y4.2.1) rfl h_26 rfl) rfl (X.q rfl ?_)
     iterate 3 refine X.off (X.off_t rfl rfl rfl (X.and_ff h_26)) rfl ?_
     refine X.opR rfl (X.pickand_f (y := decide (y4.1 = (⟨120, 179⟩ : api_Span))) rfl (X.and_ff h_26) rfl) rfl (X.q rfl ?_)
     iterate 2 refine X.off (X.off_t rfl rfl rfl (X.and_ff (X.and_ff h_26))) rfl ?_
     refine X.opR rfl (X.pickand_f (y := decide (y5.1 = 650)) rfl (X.and_ff (X.and_ff h_26)) rfl) rfl (X.q rfl (GS.opsNil ?_))
     exact X.norm _ hg rfl (sr rfl)
    iterate 3 refine X.q rfl ?_
    refine X.opR (X.on_t rfl rfl rfl h_23) rfl rfl ?_
    refine X.opR rfl (X.pickand_t (y := y1.2.1) rfl h_23 rfl) rfl (X.q rfl ?_)
    iterate 2 refine X.opR (X.on_t rfl rfl rfl h_24) rfl rfl ?_
    refine X.opR rfl (X.pickand_t (y := decide (y1.1 = 60)) rfl h_24 rfl) rfl (X.q rfl ?_)
    iterate 2 refine X.off (X.off_t rfl rfl rfl h_25) rfl ?_
    refine X.opR rfl (X.pickand_f (y := !y2.2.1) rfl h_25 rfl) rfl (X.q rfl ?_)
    refine X.off (X.off_t rfl rfl rfl (X.and_ff h_25)) rfl ?_
    refine X.opR rfl (X.pickand_f (y := y4.2.1) rfl (X.and_ff h_25) rfl) rfl (X.q rfl ?_)
    iterate 3 refine X.off (X.off_t rfl rfl rfl (X.and_ff (X.and_ff h_25))) rfl ?_
    refine X.opR rfl (X.pickand_f (y := decide (y4.1 = (⟨120, 179⟩ : api_Span))) rfl (X.and_ff (X.and_ff h_25)) rfl) rfl (X.q rfl ?_)
    iterate 2 refine X.off (X.off_t rfl rfl rfl (X.and_ff (X.and_ff (X.and_ff h_25)))) rfl ?_
    refine X.opR rfl (X.pickand_f (y := decide (y5.1 = 650)) rfl (X.and_ff (X.and_ff (X.and_ff h_25))) rfl) rfl (X.q rfl (GS.opsNil ?_))
    exact X.norm _ hg rfl (sr rfl)
   iterate 3 refine X.q rfl ?_
   refine X.opR (X.on_t rfl rfl rfl h_23) rfl rfl ?_
   refine X.opR rfl (X.pickand_t (y := y1.2.1) rfl h_23 rfl) rfl (X.q rfl ?_)
   iterate 2 refine X.off (X.off_t rfl rfl rfl h_24) rfl ?_
   refine X.opR rfl (X.pickand_f (y := decide (y1.1 = 60)) rfl h_24 rfl) rfl (X.q rfl ?_)
   iterate 2 refine X.off (X.off_t rfl rfl rfl (X.and_ff h_24)) rfl ?_
   refine X.opR rfl (X.pickand_f (y := !y2.2.1) rfl (X.and_ff h_24) rfl) rfl (X.q rfl ?_)
   refine X.off (X.off_t rfl rfl rfl (X.and_ff (X.and_ff h_24))) rfl ?_
   refine X.opR rfl (X.pickand_f (y := y4.2.1) rfl (X.and_ff (X.and_ff h_24)) rfl) rfl (X.q rfl ?_)
   iterate 3 refine X.off (X.off_t rfl rfl rfl (X.and_ff (X.and_ff (X.and_ff h_24)))) rfl ?_
   refine X.opR rfl (X.pickand_f (y := decide (y4.1 = (⟨120, 179⟩ : api_Span))) rfl (X.and_ff (X.and_ff (X.and_ff h_24))) rfl) rfl (X.q rfl ?_)
   iterate 2 refine X.off (X.off_t rfl rfl rfl (X.and_ff (X.and_ff (X.and_ff (X.and_ff h_24))))) rfl ?_
   refine X.opR rfl (X.pickand_f (y := decide (y5.1 = 650)) rfl (X.and_ff (X.and_ff (X.and_ff (X.and_ff h_24)))) rfl) rfl (X.q rfl (GS.opsNil ?_))
   exact X.norm _ hg rfl (sr rfl)
  iterate 3 refine X.q rfl ?_
  refine X.off (X.off_t rfl rfl rfl h_23) rfl ?_
  refine X.opR rfl (X.pickand_f (y := y1.2.1) rfl h_23 rfl) rfl (X.q rfl ?_)
  iterate 2 refine X.off (X.off_t rfl rfl rfl (X.and_ff h_23)) rfl ?_
  refine X.opR rfl (X.pickand_f (y := decide (y1.1 = 60)) rfl (X.and_ff h_23) rfl) rfl (X.q rfl ?_)
  iterate 2 refine X.off (X.off_t rfl rfl rfl (X.and_ff (X.and_ff h_23))) rfl ?_
  refine X.opR rfl (X.pickand_f (y := !y2.2.1) rfl (X.and_ff (X.and_ff h_23)) rfl) rfl (X.q rfl ?_)
  refine X.off (X.off_t rfl rfl rfl (X.and_ff (X.and_ff (X.and_ff h_23)))) rfl ?_
  refine X.opR rfl (X.pickand_f (y := y4.2.1) rfl (X.and_ff (X.and_ff (X.and_ff h_23))) rfl) rfl (X.q rfl ?_)
  iterate 3 refine X.off (X.off_t rfl rfl rfl (X.and_ff (X.and_ff (X.and_ff (X.and_ff h_23))))) rfl ?_
  refine X.opR rfl (X.pickand_f (y := decide (y4.1 = (⟨120, 179⟩ : api_Span))) rfl (X.and_ff (X.and_ff (X.and_ff (X.and_ff h_23)))) rfl) rfl (X.q rfl ?_)
  iterate 2 refine X.off (X.off_t rfl rfl rfl (X.and_ff (X.and_ff (X.and_ff (X.and_ff (X.and_ff h_23)))))) rfl ?_
  refine X.opR rfl (X.pickand_f (y := decide (y5.1 = 650)) rfl (X.and_ff (X.and_ff (X.and_ff (X.and_ff (X.and_ff h_23))))) rfl) rfl (X.q rfl (GS.opsNil ?_))
  exact X.norm _ hg rfl (sr rfl)
 refine GS.seq ?_
 replace hM := gb_of hM
 obtain ⟨x1, h_29, hM⟩ := hM
 refine GS.region ?_
 refine X.mid [(0, (V.b ((((((((((((decide (y.1 = 1000)) && y1.2.1) && (decide (y1.1 = 60))) && (!y2.2.1)) && y4.2.1) && (decide (y4.1 = (⟨120, 179⟩ : api_Span)))) && (decide (y5.1 = 650))) && (decide (x1 = (⟨13, (⟨1, 1⟩ : api_Slot), (⟨240, 299⟩ : api_Span)⟩ : api_Stay)))) && y9.2.1) && (decide ((y9.1.Calls.length : Int) = 5))) && (decide ((y9.1.Slots.length : Int) = 4))) && (decide (y11.1 = 1)))))] ?_ ?_
 ·intro hg
  refine X.split (decide (y.1 = 1000)) (fun h_30 => ?_) (fun h_30 => ?_)
  ·refine X.split (((decide (y.1 = 1000)) && y1.2.1)) (fun h_31 => ?_) (fun h_31 => ?_)
   ·refine X.split ((((decide (y.1 = 1000)) && y1.2.1) && (decide (y1.1 = 60)))) (fun h_32 => ?_) (fun h_32 => ?_)
    ·refine X.split (((((decide (y.1 = 1000)) && y1.2.1) && (decide (y1.1 = 60))) && (!y2.2.1))) (fun h_33 => ?_) (fun h_33 => ?_)
     ·refine X.split ((((((decide (y.1 = 1000)) && y1.2.1) && (decide (y1.1 = 60))) && (!y2.2.1)) && y4.2.1)) (fun h_34 => ?_) (fun h_34 => ?_)
      ·refine X.split (((((((decide (y.1 = 1000)) && y1.2.1) && (decide (y1.1 = 60))) && (!y2.2.1)) && y4.2.1) && (decide (y4.1 = (⟨120, 179⟩ : api_Span))))) (fun h_35 => ?_) (fun h_35 => ?_)
       ·refine X.split ((((((((decide (y.1 = 1000)) && y1.2.1) && (decide (y1.1 = 60))) && (!y2.2.1)) && y4.2.1) && (decide (y4.1 = (⟨120, 179⟩ : api_Span)))) && (decide (y5.1 = 650)))) (fun h_36 => ?_) (fun h_36 => ?_)
        ·refine X.split (((((((((decide (y.1 = 1000)) && y1.2.1) && (decide (y1.1 = 60))) && (!y2.2.1)) && y4.2.1) && (decide (y4.1 = (⟨120, 179⟩ : api_Span)))) && (decide (y5.1 = 650))) && (decide (x1 = (⟨13, (⟨1, 1⟩ : api_Slot), (⟨240, 299⟩ : api_Span)⟩ : api_Stay))))) (fun h_37 => ?_) (fun h_37 => ?_)
         ·refine X.split ((((((((((decide (y.1 = 1000)) && y1.2.1) && (decide (y1.1 = 60))) && (!y2.2.1)) && y4.2.1) && (decide (y4.1 = (⟨120, 179⟩ : api_Span)))) && (decide (y5.1 = 650))) && (decide (x1 = (⟨13, (⟨1, 1⟩ : api_Slot), (⟨240, 299⟩ : api_Span)⟩ : api_Stay)))) && y9.2.1)) (fun h_38 => ?_) (fun h_38 => ?_)
          ·refine X.split (((((((((((decide (y.1 = 1000)) && y1.2.1) && (decide (y1.1 = 60))) && (!y2.2.1)) && y4.2.1) && (decide (y4.1 = (⟨120, 179⟩ : api_Span)))) && (decide (y5.1 = 650))) && (decide (x1 = (⟨13, (⟨1, 1⟩ : api_Slot), (⟨240, 299⟩ : api_Span)⟩ : api_Stay)))) && y9.2.1) && (decide ((y9.1.Calls.length : Int) = 5)))) (fun h_39 => ?_) (fun h_39 => ?_)
           ·refine X.split ((((((((((((decide (y.1 = 1000)) && y1.2.1) && (decide (y1.1 = 60))) && (!y2.2.1)) && y4.2.1) && (decide (y4.1 = (⟨120, 179⟩ : api_Span)))) && (decide (y5.1 = 650))) && (decide (x1 = (⟨13, (⟨1, 1⟩ : api_Slot), (⟨240, 299⟩ : api_Span)⟩ : api_Stay)))) && y9.2.1) && (decide ((y9.1.Calls.length : Int) = 5))) && (decide ((y9.1.Slots.length : Int) = 4)))) (fun h_40 => ?_) (fun h_40 => ?_)
            ·iterate 2 refine X.q rfl ?_
             refine X.opR (X.on_t rfl rfl rfl h_36) rfl rfl ?_
             refine X.opR (X.on_t rfl rfl rfl h_36) (X.indexF (f := e_api_Stay) (h_29 h_36) (fun _ => rfl) rfl rfl rfl rfl) rfl ?_
             refine X.opR (X.on_t rfl rfl rfl h_36) (X.loadF (h_29 h_36) rfl rfl rfl) rfl ?_
             iterate 3 refine X.opR (X.on_t rfl rfl rfl h_36) rfl rfl ?_
             refine X.opR (X.on_t rfl rfl rfl h_36) (X.eqlE (eq_api_Stay x1 (⟨13, (⟨1, 1⟩ : api_Slot), (⟨240, 299⟩ : api_Span)⟩ : api_Stay)) rfl rfl) rfl ?_
             refine X.opR rfl (X.pickand_t (y := decide (x1 = (⟨13, (⟨1, 1⟩ : api_Slot), (⟨240, 299⟩ : api_Span)⟩ : api_Stay))) rfl h_36 rfl) rfl (X.q rfl ?_)
             refine X.opR (X.on_t rfl rfl rfl h_37) rfl rfl ?_
             refine X.opR rfl (X.pickand_t (y := y9.2.1) rfl h_37 rfl) rfl (X.q rfl ?_)
             iterate 2 refine X.opR (X.on_t rfl rfl rfl h_38) rfl rfl ?_
             refine X.opR (X.on_t rfl rfl rfl h_38) (X.lenF rfl rfl rfl) rfl ?_
             refine X.opR (X.on_t rfl rfl rfl h_38) rfl rfl ?_
             refine X.opR rfl (X.pickand_t (y := decide ((y9.1.Calls.length : Int) = 5)) rfl h_38 rfl) rfl (X.q rfl ?_)
             iterate 2 refine X.opR (X.on_t rfl rfl rfl h_39) rfl rfl ?_
             refine X.opR (X.on_t rfl rfl rfl h_39) (X.lenF rfl rfl rfl) rfl ?_
             refine X.opR (X.on_t rfl rfl rfl h_39) rfl rfl ?_
             refine X.opR rfl (X.pickand_t (y := decide ((y9.1.Slots.length : Int) = 4)) rfl h_39 rfl) rfl (X.q rfl ?_)
             iterate 2 refine X.opR (X.on_t rfl rfl rfl h_40) rfl rfl ?_
             refine X.opR rfl (X.pickand_t (y := decide (y11.1 = 1)) rfl h_40 rfl) rfl (X.q rfl (GS.opsNil ?_))
             exact X.norm _ hg rfl (sr rfl)
            refine X.q rfl (X.q rfl ?_)
            refine X.opR (X.on_t rfl rfl rfl h_36) rfl rfl ?_
            refine X.opR (X.on_t rfl rfl rfl h_36) (X.indexF (f := e_api_Stay) (h_29 h_36) (fun _ => rfl) rfl rfl rfl rfl) rfl ?_
            refine X.opR (X.on_t rfl rfl rfl h_36) (X.loadF (h_29 h_36) rfl rfl rfl) rfl ?_
            iterate 3 refine X.opR (X.on_t rfl rfl rfl h_36) rfl rfl ?_
            refine X.opR (X.on_t rfl rfl rfl h_36) (X.eqlE (eq_api_Stay x1 (⟨13, (⟨1, 1⟩ : api_Slot), (⟨240, 299⟩ : api_Span)⟩ : api_Stay)) rfl rfl) rfl ?_
            refine X.opR rfl (X.pickand_t (y := decide (x1 = (⟨13, (⟨1, 1⟩ : api_Slot), (⟨240, 299⟩ : api_Span)⟩ : api_Stay))) rfl h_36 rfl) rfl (X.q rfl ?_)
            refine X.opR (X.on_t rfl rfl rfl h_37) rfl rfl ?_
            refine X.opR rfl (X.pickand_t (y := y9.2.1) rfl h_37 rfl) rfl (X.q rfl ?_)
            iterate 2 refine X.opR (X.on_t rfl rfl rfl h_38) rfl rfl ?_
            refine X.opR (X.on_t rfl rfl rfl h_38) (X.lenF rfl rfl rfl) rfl ?_
            refine X.opR (X.on_t rfl rfl rfl h_38) rfl rfl ?_
            refine X.opR rfl (X.pickand_t (y := decide ((y9.1.Calls.length : Int) = 5)) rfl h_38 rfl) rfl (X.q rfl ?_)
            iterate 2 refine X.opR (X.on_t rfl rfl rfl h_39) rfl rfl ?_
            refine X.opR (X.on_t rfl rfl rfl h_39) (X.lenF rfl rfl rfl) rfl ?_
            refine X.opR (X.on_t rfl rfl rfl h_39) rfl rfl ?_
            refine X.opR rfl (X.pickand_t (y := decide ((y9.1.Slots.length : Int) = 4)) rfl h_39 rfl) rfl (X.q rfl ?_)
            iterate 2 refine X.off (X.off_t rfl rfl rfl h_40) rfl ?_
            refine X.opR rfl (X.pickand_f (y := decide (y11.1 = 1)) rfl h_40 rfl) rfl (X.q rfl (GS.opsNil ?_))
            exact X.norm _ hg rfl (sr rfl)
           refine X.q rfl (X.q rfl ?_)
           refine X.opR (X.on_t rfl rfl rfl h_36) rfl rfl ?_
           refine X.opR (X.on_t rfl rfl rfl h_36) (X.indexF (f := e_api_Stay) (h_29 h_36) (fun _ => rfl) rfl rfl rfl rfl) rfl ?_
           refine X.opR (X.on_t rfl rfl rfl h_36) (X.loadF (h_29 h_36) rfl rfl rfl) rfl ?_
           iterate 3 refine X.opR (X.on_t rfl rfl rfl h_36) rfl rfl ?_
           refine X.opR (X.on_t rfl rfl rfl h_36) (X.eqlE (eq_api_Stay x1 (⟨13, (⟨1, 1⟩ : api_Slot), (⟨240, 299⟩ : api_Span)⟩ : api_Stay)) rfl rfl) rfl ?_
           refine X.opR rfl (X.pickand_t (y := decide (x1 = (⟨13, (⟨1, 1⟩ : api_Slot), (⟨240, 299⟩ : api_Span)⟩ : api_Stay))) rfl h_36 rfl) rfl (X.q rfl ?_)
           refine X.opR (X.on_t rfl rfl rfl h_37) rfl rfl ?_
           refine X.opR rfl (X.pickand_t (y := y9.2.1) rfl h_37 rfl) rfl (X.q rfl ?_)
           iterate 2 refine X.opR (X.on_t rfl rfl rfl h_38) rfl rfl ?_
           refine X.opR (X.on_t rfl rfl rfl h_38) (X.lenF rfl rfl rfl) rfl ?_
           refine X.opR (X.on_t rfl rfl rfl h_38) rfl rfl ?_
           refine X.opR rfl (X.pickand_t (y := decide ((y9.1.Calls.length : Int) = 5)) rfl h_38 rfl) rfl (X.q rfl ?_)
           iterate 4 refine X.off (X.off_t rfl rfl rfl h_39) rfl ?_
           refine X.opR rfl (X.pickand_f (y := decide ((y9.1.Slots.length : Int) = 4)) rfl h_39 rfl) rfl (X.q rfl ?_)
           iterate 2 refine X.off (X.off_t rfl rfl rfl (X.and_ff h_39)) rfl ?_
           refine X.opR rfl (X.pickand_f (y := decide (y11.1 = 1)) rfl (X.and_ff h_39) rfl) rfl (X.q rfl (GS.opsNil ?_))
           exact X.norm _ hg rfl (sr rfl)
          refine X.q rfl (X.q rfl ?_)
          refine X.opR (X.on_t rfl rfl rfl h_36) rfl rfl ?_
          refine X.opR (X.on_t rfl rfl rfl h_36) (X.indexF (f := e_api_Stay) (h_29 h_36) (fun _ => rfl) rfl rfl rfl rfl) rfl ?_
          refine X.opR (X.on_t rfl rfl rfl h_36) (X.loadF (h_29 h_36) rfl rfl rfl) rfl ?_
          iterate 3 refine X.opR (X.on_t rfl rfl rfl h_36) rfl rfl ?_
          refine X.opR (X.on_t rfl rfl rfl h_36) (X.eqlE (eq_api_Stay x1 (⟨13, (⟨1, 1⟩ : api_Slot), (⟨240, 299⟩ : api_Span)⟩ : api_Stay)) rfl rfl) rfl ?_
          refine X.opR rfl (X.pickand_t (y := decide (x1 = (⟨13, (⟨1, 1⟩ : api_Slot), (⟨240, 299⟩ : api_Span)⟩ : api_Stay))) rfl h_36 rfl) rfl (X.q rfl ?_)
          refine X.opR (X.on_t rfl rfl rfl h_37) rfl rfl ?_
          refine X.opR rfl (X.pickand_t (y := y9.2.1) rfl h_37 rfl) rfl (X.q rfl ?_)
          iterate 4 refine X.off (X.off_t rfl rfl rfl h_38) rfl ?_
          refine X.opR rfl (X.pickand_f (y := decide ((y9.1.Calls.length : Int) = 5)) rfl h_38 rfl) rfl (X.q rfl ?_)
          iterate 4 refine X.off (X.off_t rfl rfl rfl (X.and_ff h_38)) rfl ?_
          refine X.opR rfl (X.pickand_f (y := decide ((y9.1.Slots.length : Int) = 4)) rfl (X.and_ff h_38) rfl) rfl (X.q rfl ?_)
          iterate 2 refine X.off (X.off_t rfl rfl rfl (X.and_ff (X.and_ff h_38))) rfl ?_
          refine X.opR rfl (X.pickand_f (y := decide (y11.1 = 1)) rfl (X.and_ff (X.and_ff h_38)) rfl) rfl (X.q rfl (GS.opsNil ?_))
          exact X.norm _ hg rfl (sr rfl)
         refine X.q rfl (X.q rfl ?_)
         refine X.opR (X.on_t rfl rfl rfl h_36) rfl rfl ?_
         refine X.opR (X.on_t rfl rfl rfl h_36) (X.indexF (f := e_api_Stay) (h_29 h_36) (fun _ => rfl) rfl rfl rfl rfl) rfl ?_
         refine X.opR (X.on_t rfl rfl rfl h_36) (X.loadF (h_29 h_36) rfl rfl rfl) rfl ?_
         iterate 3 refine X.opR (X.on_t rfl rfl rfl h_36) rfl rfl ?_
         refine X.opR (X.on_t rfl rfl rfl h_36) (X.eqlE (eq_api_Stay x1 (⟨13, (⟨1, 1⟩ : api_Slot), (⟨240, 299⟩ : api_Span)⟩ : api_Stay)) rfl rfl) rfl ?_
         refine X.opR rfl (X.pickand_t (y := decide (x1 = (⟨13, (⟨1, 1⟩ : api_Slot), (⟨240, 299⟩ : api_Span)⟩ : api_Stay))) rfl h_36 rfl) rfl (X.q rfl ?_)
         refine X.off (X.off_t rfl rfl rfl h_37) rfl ?_
         refine X.opR rfl (X.pickand_f (y := y9.2.1) rfl h_37 rfl) rfl (X.q rfl ?_)
         iterate 4 refine X.off (X.off_t rfl rfl rfl (X.and_ff h_37)) rfl ?_
         refine X.opR rfl (X.pickand_f (y := decide ((y9.1.Calls.length : Int) = 5)) rfl (X.and_ff h_37) rfl) rfl (X.q rfl ?_)
         iterate 4 refine X.off (X.off_t rfl rfl rfl (X.and_ff (X.and_ff h_37))) rfl ?_
         refine X.opR rfl (X.pickand_f (y := decide ((y9.1.Slots.length : Int) = 4)) rfl (X.and_ff (X.and_ff h_37)) rfl) rfl (X.q rfl ?_)
         iterate 2 refine X.off (X.off_t rfl rfl rfl (X.and_ff (X.and_ff (X.and_ff h_37)))) rfl ?_
         refine X.opR rfl (X.pickand_f (y := decide (y11.1 = 1)) rfl (X.and_ff (X.and_ff (X.and_ff h_37))) rfl) rfl (X.q rfl (GS.opsNil ?_))
         exact X.norm _ hg rfl (sr rfl)
        refine X.q rfl (X.q rfl ?_)
        iterate 7 refine X.off (X.off_t rfl rfl rfl h_36) rfl ?_
        refine X.opR rfl (X.pickand_f (y := decide (x1 = (⟨13, (⟨1, 1⟩ : api_Slot), (⟨240, 299⟩ : api_Span)⟩ : api_Stay))) rfl h_36 rfl) rfl (X.q rfl ?_)
        refine X.off (X.off_t rfl rfl rfl (X.and_ff h_36)) rfl ?_
        refine X.opR rfl (X.pickand_f (y := y9.2.1) rfl (X.and_ff h_36) rfl) rfl (X.q rfl ?_)
        iterate 4 refine X.off (X.off_t rfl rfl rfl (X.and_ff (X.and_ff h_36))) rfl ?_
        refine X.opR rfl (X.pickand_f (y := decide ((y9.1.Calls.length : Int) = 5)) rfl (X.and_ff (X.and_ff h_36)) rfl) rfl (X.q rfl ?_)
        iterate 4 refine X.off (X.off_t rfl rfl rfl (X.and_ff (X.and_ff (X.and_ff h_36)))) rfl ?_
        refine X.opR rfl (X.pickand_f (y := decide ((y9.1.Slots.length : Int) = 4)) rfl (X.and_ff (X.and_ff (X.and_ff h_36))) rfl) rfl (X.q rfl ?_)
        iterate 2 refine X.off (X.off_t rfl rfl rfl (X.and_ff (X.and_ff (X.and_ff (X.and_ff h_36))))) rfl ?_
        refine X.opR rfl (X.pickand_f (y := decide (y11.1 = 1)) rfl (X.and_ff (X.and_ff (X.and_ff (X.and_ff h_36)))) rfl) rfl (X.q rfl (GS.opsNil ?_))
        exact X.norm _ hg rfl (sr rfl)
       refine X.q rfl (X.q rfl ?_)
       iterate 7 refine X.off (X.off_t rfl rfl rfl (X.and_ff h_35)) rfl ?_
       refine X.opR rfl (X.pickand_f (y := decide (x1 = (⟨13, (⟨1, 1⟩ : api_Slot), (⟨240, 299⟩ : api_Span)⟩ : api_Stay))) rfl (X.and_ff h_35) rfl) rfl (X.q rfl ?_)
       refine X.off (X.off_t rfl rfl rfl (X.and_ff (X.and_ff h_35))) rfl ?_
       refine X.opR rfl (X.pickand_f (y := y9.2.1) rfl (X.and_ff (X.and_ff h_35)) rfl) rfl (X.q rfl ?_)
       iterate 4 refine X.off (X.off_t rfl rfl rfl (X.and_ff (X.and_ff (X.and_ff h_35)))) rfl ?_
       refine X.opR rfl (X.pickand_f (y := decide ((y9.1.Calls.length : Int) = 5)) rfl (X.and_ff (X.and_ff (X.and_ff h_35))) rfl) rfl (X.q rfl ?_)
       iterate 4 refine X.off (X.off_t rfl rfl rfl (X.and_ff (X.and_ff (X.and_ff (X.and_ff h_35))))) rfl ?_
       refine X.opR rfl (X.pickand_f (y := decide ((y9.1.Slots.length : Int) = 4)) rfl (X.and_ff (X.and_ff (X.and_ff (X.and_ff h_35)))) rfl) rfl (X.q rfl ?_)
       iterate 2 refine X.off (X.off_t rfl rfl rfl (X.and_ff (X.and_ff (X.and_ff (X.and_ff (X.and_ff h_35)))))) rfl ?_
       refine X.opR rfl (X.pickand_f (y := decide (y11.1 = 1)) rfl (X.and_ff (X.and_ff (X.and_ff (X.and_ff (X.and_ff h_35))))) rfl) rfl (X.q rfl (GS.opsNil ?_))
       exact X.norm _ hg rfl (sr rfl)
      refine X.q rfl (X.q rfl ?_)
      iterate 7 refine X.off (X.off_t rfl rfl rfl (X.and_ff (X.and_ff h_34))) rfl ?_
      refine X.opR rfl (X.pickand_f (y := decide (x1 = (⟨13, (⟨1, 1⟩ : api_Slot), (⟨240, 299⟩ : api_Span)⟩ : api_Stay))) rfl (X.and_ff (X.and_ff h_34)) rfl) rfl (X.q rfl ?_)
      refine X.off (X.off_t rfl rfl rfl (X.and_ff (X.and_ff (X.and_ff h_34)))) rfl ?_
      refine X.opR rfl (X.pickand_f (y := y9.2.1) rfl (X.and_ff (X.and_ff (X.and_ff h_34))) rfl) rfl (X.q rfl ?_)
      iterate 4 refine X.off (X.off_t rfl rfl rfl (X.and_ff (X.and_ff (X.and_ff (X.and_ff h_34))))) rfl ?_
      refine X.opR rfl (X.pickand_f (y := decide ((y9.1.Calls.length : Int) = 5)) rfl (X.and_ff (X.and_ff (X.and_ff (X.and_ff h_34)))) rfl) rfl (X.q rfl ?_)
      iterate 4 refine X.off (X.off_t rfl rfl rfl (X.and_ff (X.and_ff (X.and_ff (X.and_ff (X.and_ff h_34)))))) rfl ?_
      refine X.opR rfl (X.pickand_f (y := decide ((y9.1.Slots.length : Int) = 4)) rfl (X.and_ff (X.and_ff (X.and_ff (X.and_ff (X.and_ff h_34))))) rfl) rfl (X.q rfl ?_)
      iterate 2 refine X.off (X.off_t rfl rfl rfl (X.and_ff (X.and_ff (X.and_ff (X.and_ff (X.and_ff (X.and_ff h_34))))))) rfl ?_
      refine X.opR rfl (X.pickand_f (y := decide (y11.1 = 1)) rfl (X.and_ff (X.and_ff (X.and_ff (X.and_ff (X.and_ff (X.and_ff h_34)))))) rfl) rfl (X.q rfl (GS.opsNil ?_))
      exact X.norm _ hg rfl (sr rfl)
     refine X.q rfl (X.q rfl ?_)
     iterate 7 refine X.off (X.off_t rfl rfl rfl (X.and_ff (X.and_ff (X.and_ff h_33)))) rfl ?_
     refine X.opR rfl (X.pickand_f (y := decide (x1 = (⟨13, (⟨1, 1⟩ : api_Slot), (⟨240, 299⟩ : api_Span)⟩ : api_Stay))) rfl (X.and_ff (X.and_ff (X.and_ff h_33))) rfl) rfl (X.q rfl ?_)
     refine X.off (X.off_t rfl rfl rfl (X.and_ff (X.and_ff (X.and_ff (X.and_ff h_33))))) rfl ?_
     refine X.opR rfl (X.pickand_f (y := y9.2.1) rfl (X.and_ff (X.and_ff (X.and_ff (X.and_ff h_33)))) rfl) rfl (X.q rfl ?_)
     iterate 4 refine X.off (X.off_t rfl rfl rfl (X.and_ff (X.and_ff (X.and_ff (X.and_ff (X.and_ff h_33)))))) rfl ?_
     refine X.opR rfl (X.pickand_f (y := decide ((y9.1.Calls.length : Int) = 5)) rfl (X.and_ff (X.and_ff (X.and_ff (X.and_ff (X.and_ff h_33))))) rfl) rfl (X.q rfl ?_)
     iterate 4 refine X.off (X.off_t rfl rfl rfl (X.and_ff (X.and_ff (X.and_ff (X.and_ff (X.and_ff (X.and_ff h_33))))))) rfl ?_
     refine X.opR rfl (X.pickand_f (y := decide ((y9.1.Slots.length : Int) = 4)) rfl (X.and_ff (X.and_ff (X.and_ff (X.and_ff (X.and_ff (X.and_ff h_33)))))) rfl) rfl (X.q rfl ?_)
     iterate 2 refine X.off (X.off_t rfl rfl rfl (X.and_ff (X.and_ff (X.and_ff (X.and_ff (X.and_ff (X.and_ff (X.and_ff h_33)))))))) rfl ?_
     refine X.opR rfl (X.pickand_f (y := decide (y11.1 = 1)) rfl (X.and_ff (X.and_ff (X.and_ff (X.and_ff (X.and_ff (X.and_ff (X.and_ff h_33))))))) rfl) rfl (X.q rfl (GS.opsNil ?_))
     exact X.norm _ hg rfl (sr rfl)
    refine X.q rfl (X.q rfl ?_)
    iterate 7 refine X.off (X.off_t rfl rfl rfl (X.and_ff (X.and_ff (X.and_ff (X.and_ff h_32))))) rfl ?_
    refine X.opR rfl (X.pickand_f (y := decide (x1 = (⟨13, (⟨1, 1⟩ : api_Slot), (⟨240, 299⟩ : api_Span)⟩ : api_Stay))) rfl (X.and_ff (X.and_ff (X.and_ff (X.and_ff h_32)))) rfl) rfl (X.q rfl ?_)
    refine X.off (X.off_t rfl rfl rfl (X.and_ff (X.and_ff (X.and_ff (X.and_ff (X.and_ff h_32)))))) rfl ?_
    refine X.opR rfl (X.pickand_f (y := y9.2.1) rfl (X.and_ff (X.and_ff (X.and_ff (X.and_ff (X.and_ff h_32))))) rfl) rfl (X.q rfl ?_)
    iterate 4 refine X.off (X.off_t rfl rfl rfl (X.and_ff (X.and_ff (X.and_ff (X.and_ff (X.and_ff (X.and_ff h_32))))))) rfl ?_
    refine X.opR rfl (X.pickand_f (y := decide ((y9.1.Calls.length : Int) = 5)) rfl (X.and_ff (X.and_ff (X.and_ff (X.and_ff (X.and_ff (X.and_ff h_32)))))) rfl) rfl (X.q rfl ?_)
    iterate 4 refine X.off (X.off_t rfl rfl rfl (X.and_ff (X.and_ff (X.and_ff (X.and_ff (X.and_ff (X.and_ff (X.and_ff h_32)))))))) rfl ?_
    refine X.opR rfl (X.pickand_f (y := decide ((y9.1.Slots.length : Int) = 4)) rfl (X.and_ff (X.and_ff (X.and_ff (X.and_ff (X.and_ff (X.and_ff (X.and_ff h_32))))))) rfl) rfl (X.q rfl ?_)
    iterate 2 refine X.off (X.off_t rfl rfl rfl (X.and_ff (X.and_ff (X.and_ff (X.and_ff (X.and_ff (X.and_ff (X.and_ff (X.and_ff h_32))))))))) rfl ?_
    refine X.opR rfl (X.pickand_f (y := decide (y11.1 = 1)) rfl (X.and_ff (X.and_ff (X.and_ff (X.and_ff (X.and_ff (X.and_ff (X.and_ff (X.and_ff h_32)))))))) rfl) rfl (X.q rfl (GS.opsNil ?_))
    exact X.norm _ hg rfl (sr rfl)
   refine X.q rfl (X.q rfl ?_)
   iterate 7 refine X.off (X.off_t rfl rfl rfl (X.and_ff (X.and_ff (X.and_ff (X.and_ff (X.and_ff h_31)))))) rfl ?_
   refine X.opR rfl (X.pickand_f (y := decide (x1 = (⟨13, (⟨1, 1⟩ : api_Slot), (⟨240, 299⟩ : api_Span)⟩ : api_Stay))) rfl (X.and_ff (X.and_ff (X.and_ff (X.and_ff (X.and_ff h_31))))) rfl) rfl (X.q rfl ?_)
   refine X.off (X.off_t rfl rfl rfl (X.and_ff (X.and_ff (X.and_ff (X.and_ff (X.and_ff (X.and_ff h_31))))))) rfl ?_
   refine X.opR rfl (X.pickand_f (y := y9.2.1) rfl (X.and_ff (X.and_ff (X.and_ff (X.and_ff (X.and_ff (X.and_ff h_31)))))) rfl) rfl (X.q rfl ?_)
   iterate 4 refine X.off (X.off_t rfl rfl rfl (X.and_ff (X.and_ff (X.and_ff (X.and_ff (X.and_ff (X.and_ff (X.and_ff h_31)))))))) rfl ?_
   refine X.opR rfl (X.pickand_f (y := decide ((y9.1.Calls.length : Int) = 5)) rfl (X.and_ff (X.and_ff (X.and_ff (X.and_ff (X.and_ff (X.and_ff (X.and_ff h_31))))))) rfl) rfl (X.q rfl ?_)
   iterate 4 refine X.off (X.off_t rfl rfl rfl (X.and_ff (X.and_ff (X.and_ff (X.and_ff (X.and_ff (X.and_ff (X.and_ff (X.and_ff h_31))))))))) rfl ?_
   refine X.opR rfl (X.pickand_f (y := decide ((y9.1.Slots.length : Int) = 4)) rfl (X.and_ff (X.and_ff (X.and_ff (X.and_ff (X.and_ff (X.and_ff (X.and_ff (X.and_ff h_31)))))))) rfl) rfl (X.q rfl ?_)
   iterate 2 refine X.off (X.off_t rfl rfl rfl (X.and_ff (X.and_ff (X.and_ff (X.and_ff (X.and_ff (X.and_ff (X.and_ff (X.and_ff (X.and_ff h_31)))))))))) rfl ?_
   refine X.opR rfl (X.pickand_f (y := decide (y11.1 = 1)) rfl (X.and_ff (X.and_ff (X.and_ff (X.and_ff (X.and_ff (X.and_ff (X.and_ff (X.and_ff (X.and_ff h_31))))))))) rfl) rfl (X.q rfl (GS.opsNil ?_))
   exact X.norm _ hg rfl (sr rfl)
  refine X.q rfl (X.q rfl ?_)
  iterate 7 refine X.off (X.off_t rfl rfl rfl (X.and_ff (X.and_ff (X.and_ff (X.and_ff (X.and_ff (X.and_ff h_30))))))) rfl ?_
  refine X.opR rfl (X.pickand_f (y := decide (x1 = (⟨13, (⟨1, 1⟩ : api_Slot), (⟨240, 299⟩ : api_Span)⟩ : api_Stay))) rfl (X.and_ff (X.and_ff (X.and_ff (X.and_ff (X.and_ff (X.and_ff h_30)))))) rfl) rfl (X.q rfl ?_)
  refine X.off (X.off_t rfl rfl rfl (X.and_ff (X.and_ff (X.and_ff (X.and_ff (X.and_ff (X.and_ff (X.and_ff h_30)))))))) rfl ?_
  refine X.opR rfl (X.pickand_f (y := y9.2.1) rfl (X.and_ff (X.and_ff (X.and_ff (X.and_ff (X.and_ff (X.and_ff (X.and_ff h_30))))))) rfl) rfl (X.q rfl ?_)
  iterate 4 refine X.off (X.off_t rfl rfl rfl (X.and_ff (X.and_ff (X.and_ff (X.and_ff (X.and_ff (X.and_ff (X.and_ff (X.and_ff h_30))))))))) rfl ?_
  refine X.opR rfl (X.pickand_f (y := decide ((y9.1.Calls.length : Int) = 5)) rfl (X.and_ff (X.and_ff (X.and_ff (X.and_ff (X.and_ff (X.and_ff (X.and_ff (X.and_ff h_30)))))))) rfl) rfl (X.q rfl ?_)
  iterate 4 refine X.off (X.off_t rfl rfl rfl (X.and_ff (X.and_ff (X.and_ff (X.and_ff (X.and_ff (X.and_ff (X.and_ff (X.and_ff (X.and_ff h_30)))))))))) rfl ?_
  refine X.opR rfl (X.pickand_f (y := decide ((y9.1.Slots.length : Int) = 4)) rfl (X.and_ff (X.and_ff (X.and_ff (X.and_ff (X.and_ff (X.and_ff (X.and_ff (X.and_ff (X.and_ff h_30))))))))) rfl) rfl (X.q rfl ?_)
  iterate 2 refine X.off (X.off_t rfl rfl rfl (X.and_ff (X.and_ff (X.and_ff (X.and_ff (X.and_ff (X.and_ff (X.and_ff (X.and_ff (X.and_ff (X.and_ff h_30))))))))))) rfl ?_
  refine X.opR rfl (X.pickand_f (y := decide (y11.1 = 1)) rfl (X.and_ff (X.and_ff (X.and_ff (X.and_ff (X.and_ff (X.and_ff (X.and_ff (X.and_ff (X.and_ff (X.and_ff h_30)))))))))) rfl) rfl (X.q rfl (GS.opsNil ?_))
  exact X.norm _ hg rfl (sr rfl)
 cases hM
 exact GS.ret ⟨_, rfl, ⟨30, rfl⟩⟩
theorem ok_ref02_within (n : Int) (lo : Int) (hi : Int) : Ct Tryz.prog 93 [(V.i n), (V.i lo), (V.i hi)] (V.b (ref02_within n lo hi)) := by
 refine ct_of_gs CC_ok rfl ?_
 generalize hM : ref02_within n lo hi = r
 unfold ref02_within at hM
 refine X.sq (X.q rfl (X.nq ?_))
 refine X.mid [(6, (V.b ((decide (lo ≤ n)) && (decide (n ≤ hi)))))] ?_ ?_
 ·intro hg
  refine X.split (decide (lo ≤ n)) (fun h_1 => ?_) (fun h_1 => ?_)
  ·iterate 4 refine X.q rfl ?_
   iterate 3 refine X.opR (X.on_t rfl rfl rfl h_1) rfl rfl ?_
   refine X.opR rfl (X.pickand_t (y := decide (n ≤ hi)) rfl h_1 rfl) rfl (X.q rfl (GS.opsNil ?_))
   exact X.norm _ hg rfl (sr rfl)
  iterate 4 refine X.q rfl ?_
  iterate 3 refine X.off (X.off_t rfl rfl rfl h_1) rfl ?_
  refine X.opR rfl (X.pickand_f (y := decide (n ≤ hi)) rfl h_1 rfl) rfl (X.q rfl (GS.opsNil ?_))
  exact X.norm _ hg rfl (sr rfl)
 subst hM
 exact GS.ret ⟨_, rfl, ⟨30, rfl⟩⟩
theorem ok_ref02_Right {c : api_Cycle} {r : Bool} (hM : ref02_Right c = some r) : Ct Tryz.prog 94 [(e_api_Cycle c)] (V.b r) := by
 refine ct_of_gs CC_ok rfl ?_
 unfold ref02_Right at hM
 refine X.sq ?_
 refine X.opW rfl rfl rfl rfl (X.q rfl (X.nq (X.q rfl (X.q rfl ?_))))
 refine X.call (ok_ref02_within c.ID 1 1099511627776) rfl rfl rfl (.cons (.shut (n := 9) rfl) (.cons (.shut (n := 9) rfl) (.cons (.shut (n := 9) rfl) .nil))) (X.q rfl (X.nq (X.q rfl (X.q rfl ?_))))
 refine X.call (ok_ref02_within c.Begin 0 1048576) rfl rfl rfl (.cons (.shut (n := 9) rfl) (.cons (.shut (n := 9) rfl) (.cons (.shut (n := 9) rfl) .nil))) (X.q rfl (X.nq (X.q rfl (X.q rfl ?_))))
 refine X.call (ok_ref02_within c.Every 1 120) rfl rfl rfl (.cons (.shut (n := 9) rfl) (.cons (.shut (n := 9) rfl) (.cons (.shut (n := 9) rfl) .nil))) (X.q rfl (X.nq (X.q rfl (X.q rfl ?_))))
 refine X.opR rfl (X.lenF rfl rfl rfl) rfl ?_
 refine X.call (ok_ref02_within (c.Heights.length : Int) 1 60) rfl rfl rfl (.cons (.shut (n := 9) rfl) (.cons (.shut (n := 9) rfl) (.cons (.shut (n := 9) rfl) .nil))) (X.q rfl (GS.opsNil (GS.seq (X.sq ?_))))
 refine X.mid [(1, (V.ptr 0 0 0)), (35, (V.b ((((!(ref02_within c.ID 1 1099511627776)) || (!(ref02_within c.Begin 0 1048576))) || (!(ref02_within c.Every 1 120))) || (!(ref02_within (c.Heights.length : Int) 1 60)))))] ?_ ?_
 ·intro hg
  refine X.split (!(ref02_within c.ID 1 1099511627776)) (fun h_1 => ?_) (fun h_1 => ?_)
  ·iterate 3 refine X.q rfl ?_
   iterate 2 refine X.off (X.off_f rfl rfl rfl h_1) rfl ?_
   refine X.opR rfl (X.pickor_t (y := !(ref02_within c.Begin 0 1048576)) rfl h_1 rfl) rfl (X.q rfl ?_)
   iterate 2 refine X.off (X.off_f rfl rfl rfl (X.or_tt h_1)) rfl ?_
   refine X.opR rfl (X.pickor_t (y := !(ref02_within c.Every 1 120)) rfl (X.or_tt h_1) rfl) rfl (X.q rfl ?_)
   iterate 2 refine X.off (X.off_f rfl rfl rfl (X.or_tt (X.or_tt h_1))) rfl ?_
   refine X.opR rfl (X.pickor_t (y := !(ref02_within (c.Heights.length : Int) 1 60)) rfl (X.or_tt (X.or_tt h_1)) rfl) rfl (GS.opsNil ?_)
   exact X.norm _ hg rfl (sr rfl)
  refine X.split (((!(ref02_within c.ID 1 1099511627776)) || (!(ref02_within c.Begin 0 1048576)))) (fun h_2 => ?_) (fun h_2 => ?_)
  ·iterate 3 refine X.q rfl ?_
   iterate 2 refine X.opR (X.on_f rfl rfl rfl h_1) rfl rfl ?_
   refine X.opR rfl (X.pickor_f (y := !(ref02_within c.Begin 0 1048576)) rfl h_1 rfl) rfl (X.q rfl ?_)
   iterate 2 refine X.off (X.off_f rfl rfl rfl h_2) rfl ?_
   refine X.opR rfl (X.pickor_t (y := !(ref02_within c.Every 1 120)) rfl h_2 rfl) rfl (X.q rfl ?_)
   iterate 2 refine X.off (X.off_f rfl rfl rfl (X.or_tt h_2)) rfl ?_
   refine X.opR rfl (X.pickor_t (y := !(ref02_within (c.Heights.length : Int) 1 60)) rfl (X.or_tt h_2) rfl) rfl (GS.opsNil ?_)
   exact X.norm _ hg rfl (sr rfl)
  refine X.split ((((!(ref02_within c.ID 1 1099511627776)) || (!(ref02_within c.Begin 0 1048576))) || (!(ref02_within c.Every 1 120)))) (fun h_3 => ?_) (fun h_3 => ?_)
  ·iterate 3 refine X.q rfl ?_
   iterate 2 refine X.opR (X.on_f rfl rfl rfl h_1) rfl rfl ?_
   refine X.opR rfl (X.pickor_f (y := !(ref02_within c.Begin 0 1048576)) rfl h_1 rfl) rfl (X.q rfl ?_)
   iterate 2 refine X.opR (X.on_f rfl rfl rfl h_2) rfl rfl ?_
   refine X.opR rfl (X.pickor_f (y := !(ref02_within c.Every 1 120)) rfl h_2 rfl) rfl (X.q rfl ?_)
   iterate 2 refine X.off (X.off_f rfl rfl rfl h_3) rfl ?_
   refine X.opR rfl (X.pickor_t (y := !(ref02_within (c.Heights.length : Int) 1 60)) rfl h_3 rfl) rfl (GS.opsNil ?_)
   exact X.norm _ hg rfl (sr rfl)
  iterate 3 refine X.q rfl ?_
  iterate 2 refine X.opR (X.on_f rfl rfl rfl h_1) rfl rfl ?_
  refine X.opR rfl (X.pickor_f (y := !(ref02_within c.Begin 0 1048576)) rfl h_1 rfl) rfl (X.q rfl ?_)
  iterate 2 refine X.opR (X.on_f rfl rfl rfl h_2) rfl rfl ?_
  refine X.opR rfl (X.pickor_f (y := !(ref02_within c.Every 1 120)) rfl h_2 rfl) rfl (X.q rfl ?_)
  iterate 2 refine X.opR (X.on_f rfl rfl rfl h_3) rfl rfl ?_
  refine X.opR rfl (X.pickor_f (y := !(ref02_within (c.Heights.length : Int) 1 60)) rfl h_3 rfl) rfl (GS.opsNil ?_)
  exact X.norm _ hg rfl (sr rfl)
 refine X.cond rfl (fun h_4 => ?_) (fun h_4 => ?_)
 ·replace hM := ite_t h_4 hM
  refine X.sq (X.q rfl (GS.opsNil ?_))
  cases hM
  exact GS.ret ⟨_, rfl, ⟨30, rfl⟩⟩
 replace hM := ite_f h_4 hM
 refine GS.skip (GS.seq (X.sq (X.q rfl (GS.opsNil ?_))))
 refine X.join (τ := Unit) (fun v => ref02_Right_j1 = some r) (fun v => ⟨[], [], 0, none, 51⟩) ?_ ?_
 ·intro _ hM
  replace hM : ref02_Right_j1 = some r := hM
  unfold ref02_Right_j1 at hM
  refine X.sq (X.q rfl (GS.opsNil ?_))
  cases hM
  exact GS.ret ⟨_, rfl, ⟨30, rfl⟩⟩
 intro hj_1
 refine GS.block ?_
 refine X.gc [some 0] (X.loop (σ := Int) (fun v => ⟨[(1, (V.ptr 0 0 0)), (7, (V.i v))], [.rows 4 [(e_api_Cycle c)]], 0, none, 51⟩) hM ?_ rfl) rfl rfl rfl (ga rfl rfl) (gb9 rfl rfl rfl gb_nil)
 intro i b_1 hM hc_2 hr_1
 rw [ref02_Right_b2] at hM
 refine GS.seq (X.sq (X.q rfl (X.q rfl (X.q rfl ?_))))
 refine X.opR rfl (X.lenF rfl rfl rfl) rfl (X.q rfl (GS.opsNil ?_))
 refine X.cond rfl (fun h_5 => ?_) (fun h_5 => ?_)
 ·replace hM := ite_t h_5 hM
  refine GS.skip (GS.seq (GS.block (GS.seq ?_)))
  obtain ⟨x, h_6, hM⟩ := bind_of hM
  refine GS.region (X.q rfl (X.q rfl (X.q rfl ?_)))
  refine X.opR rfl (X.indexF (f := V.i) h_6 (fun _ => rfl) rfl rfl rfl rfl) rfl ?_
  refine X.opR rfl (X.loadF h_6 rfl rfl rfl) rfl ?_
  refine X.call (ok_ref02_within x (-4000) 4000) rfl rfl rfl (.cons (.shut (n := 9) rfl) (.cons (.shut (n := 9) rfl) (.cons (.shut (n := 9) rfl) .nil))) (X.q rfl (X.nq (X.q rfl (X.q rfl ?_))))
  refine GS.opsNil ?_
  refine X.cond rfl (fun h_7 => ?_) (fun h_7 => ?_)
  ·replace hM := ite_t h_7 hM
   refine X.sq (X.q rfl (GS.opsNil ?_))
   have hE := Option.some.inj hM
   replace hE := hr_1 _ hE.symm
   subst hE
   exact GS.ret ⟨_, rfl, ⟨30, rfl⟩⟩
  replace hM := ite_f h_7 hM
  refine GS.skip ?_
  refine GS.endB (GS.region (X.q rfl ?_))
  refine X.opR rfl (X.addE rfl rfl) rfl (X.q rfl (GS.opsNil ?_))
  have hE := Option.some.inj hM
  exact X.gc [some 0] (hc_2 (w64 (i + 1)) hE.symm) rfl rfl rfl (ga rfl rfl) (gb9 rfl rfl rfl gb_nil)
 replace hM := ite_f h_5 hM
 refine GS.exit rfl ?_
 obtain ⟨y_1, hM, hy⟩ := map_of hM
 rw [hr_1 _ hy.symm] at hM
 exact X.gc [] (hj_1 () hM) rfl rfl rfl (gk_nil) (gb_nil)
set_option maxHeartbeats 4000000 in
theorem ok_ref02_shifted {l : (List api_Shift)} {r : Int} (hM : ref02_shifted l = some r) : Ct Tryz.prog 95 [(V.sl (List.map e_api_Shift l))] (V.i r) := by
 refine ct_of_gs CC_ok rfl ?_
 unfold ref02_shifted at hM
 refine X.sq (X.q rfl (GS.opsNil (GS.seq (X.sq (X.q rfl (GS.opsNil ?_))))))
 refine X.join (τ := Unit) (fun v => ref02_shifted_j1 = some r) (fun v => ⟨[], [], 0, none, 65⟩) ?_ ?_
 ·intro _ hM
  replace hM : ref02_shifted_j1 = some r := hM
  unfold ref02_shifted_j1 at hM
  refine X.sq (X.q rfl (GS.opsNil ?_))
  cases hM
  exact GS.ret ⟨_, rfl, ⟨30, rfl⟩⟩
 intro hj_1
 refine GS.block ?_
 refine X.gc [] (X.loop (σ := Int) (fun v => ⟨[(0, (V.sl (List.map e_api_Shift l))), (3, (V.i v))], [], 0, none, 65⟩) hM ?_ rfl) rfl rfl rfl (ga rfl rfl) (gb_nil)
 intro i b_1 hM hc_2 hr_1
 rw [ref02_shifted_b2] at hM
 refine GS.seq (X.sq (X.q rfl (X.q rfl ?_)))
 refine X.opR rfl (X.lenF rfl rfl rfl) rfl (X.q rfl (GS.opsNil ?_))
 refine X.cond rfl (fun h_1 => ?_) (fun h_1 => ?_)
 ·replace hM := ite_t h_1 hM
  refine GS.skip (GS.seq (GS.block (GS.seq ?_)))
  obtain ⟨x, h_2, hM⟩ := bind_of hM
  refine GS.region (X.q rfl (X.q rfl ?_))
  refine X.opR rfl (X.indexF (f := e_api_Shift) h_2 (fun _ => rfl) rfl rfl rfl rfl) rfl (X.q rfl ?_)
  refine X.opR rfl (X.loadF h_2 rfl rfl rfl) rfl ?_
  refine X.call (ok_ref02_within x.Add (-4000) 4000) rfl rfl rfl (.cons (.shut (n := 9) rfl) (.cons (.shut (n := 9) rfl) (.cons (.shut (n := 9) rfl) .nil))) (X.q rfl (GS.opsNil ?_))
  iterate 2 refine GS.seq ?_
  obtain ⟨x1, h_3, hM⟩ := bind_of hM
  obtain ⟨x2, h_4, hM⟩ := gb_of hM
  obtain ⟨x3, h_5, hM⟩ := gb_of hM
  obtain ⟨x4, h_6, hM⟩ := gb_of hM
  refine X.mid [(0, (V.sl (List.map e_api_Shift l))), (3, (V.i i)), (47, (V.b ((((decide (x1.From < 0)) || (decide (x3.To < x2.From))) || (decide (728 < x4.To))) || (!(ref02_within x.Add (-4000) 4000)))))] ?_ ?_
  ·intro hg
   refine X.split (decide (x1.From < 0)) (fun h_7 => ?_) (fun h_7 => ?_)
   ·refine X.drawc (by kernel_rfl) rfl ?_
    iterate 2 refine X.cop rfl rfl rfl rfl ?_
    refine X.cop rfl (X.indexF (f := e_api_Shift) h_3 (fun _ => rfl) rfl rfl rfl rfl) rfl rfl ?_
    refine X.cop rfl rfl rfl rfl ?_
    refine X.cop rfl (X.loadF h_3 rfl rfl rfl) rfl rfl ?_
    iterate 2 refine X.cop rfl rfl rfl rfl ?_
    iterate 11 refine X.coff (X.off_f rfl rfl rfl h_7) rfl rfl ?_
    refine X.cop rfl (X.pickor_t (y := decide (x3.To < x2.From)) rfl h_7 rfl) rfl rfl ?_
    refine X.cop rfl rfl rfl rfl ?_
    iterate 6 refine X.coff (X.off_f rfl rfl rfl (X.or_tt h_7)) rfl rfl ?_
    refine X.cop rfl (X.pickor_t (y := decide (728 < x4.To)) rfl (X.or_tt h_7) rfl) rfl rfl ?_
    refine X.cop rfl rfl rfl rfl ?_
    iterate 2 refine X.coff (X.off_f rfl rfl rfl (X.or_tt (X.or_tt h_7))) rfl rfl ?_
    refine X.cop rfl (X.pickor_t (y := !(ref02_within x.Add (-4000) 4000)) rfl (X.or_tt (X.or_tt h_7)) rfl) rfl rfl ?_
    refine X.cnil ?_
    exact X.norm _ hg rfl (sr rfl)
   refine X.split (((decide (x1.From < 0)) || (decide (x3.To < x2.From)))) (fun h_8 => ?_) (fun h_8 => ?_)
   ·refine X.drawc (by kernel_rfl) rfl ?_
    iterate 2 refine X.cop rfl rfl rfl rfl ?_
    refine X.cop rfl (X.indexF (f := e_api_Shift) h_3 (fun _ => rfl) rfl rfl rfl rfl) rfl rfl ?_
    refine X.cop rfl rfl rfl rfl ?_
    refine X.cop rfl (X.loadF h_3 rfl rfl rfl) rfl rfl ?_
    iterate 2 refine X.cop rfl rfl rfl rfl ?_
    iterate 2 refine X.cop (X.on_f rfl rfl rfl h_7) rfl rfl rfl ?_
    refine X.cop (X.on_f rfl rfl rfl h_7) (X.indexF (f := e_api_Shift) (h_4 (X.nt h_7)) (fun _ => rfl) rfl rfl rfl rfl) rfl rfl ?_
    refine X.cop (X.on_f rfl rfl rfl h_7) rfl rfl rfl ?_
    refine X.cop (X.on_f rfl rfl rfl h_7) (X.loadF (h_4 (X.nt h_7)) rfl rfl rfl) rfl rfl ?_
    iterate 2 refine X.cop (X.on_f rfl rfl rfl h_7) rfl rfl rfl ?_
    refine X.cop (X.on_f rfl rfl rfl h_7) (X.indexF (f := e_api_Shift) (h_5 (X.nt h_7)) (fun _ => rfl) rfl rfl rfl rfl) rfl rfl ?_
    refine X.cop (X.on_f rfl rfl rfl h_7) rfl rfl rfl ?_
    refine X.cop (X.on_f rfl rfl rfl h_7) (X.loadF (h_5 (X.nt h_7)) rfl rfl rfl) rfl rfl ?_
    refine X.cop (X.on_f rfl rfl rfl h_7) rfl rfl rfl ?_
    refine X.cop rfl (X.pickor_f (y := decide (x3.To < x2.From)) rfl h_7 rfl) rfl rfl ?_
    refine X.cop rfl rfl rfl rfl ?_
    iterate 6 refine X.coff (X.off_f rfl rfl rfl h_8) rfl rfl ?_
    refine X.cop rfl (X.pickor_t (y := decide (728 < x4.To)) rfl h_8 rfl) rfl rfl ?_
    refine X.cop rfl rfl rfl rfl ?_
    iterate 2 refine X.coff (X.off_f rfl rfl rfl (X.or_tt h_8)) rfl rfl ?_
    refine X.cop rfl (X.pickor_t (y := !(ref02_within x.Add (-4000) 4000)) rfl (X.or_tt h_8) rfl) rfl rfl ?_
    refine X.cnil ?_
    exact X.norm _ hg rfl (sr rfl)
   refine X.split ((((decide (x1.From < 0)) || (decide (x3.To < x2.From))) || (decide (728 < x4.To)))) (fun h_9 => ?_) (fun h_9 => ?_)
   ·refine X.drawc (by kernel_rfl) rfl ?_
    iterate 2 refine X.cop rfl rfl rfl rfl ?_
    refine X.cop rfl (X.indexF (f := e_api_Shift) h_3 (fun _ => rfl) rfl rfl rfl rfl) rfl rfl ?_
    refine X.cop rfl rfl rfl rfl ?_
    refine X.cop rfl (X.loadF h_3 rfl rfl rfl) rfl rfl ?_
    iterate 2 refine X.cop rfl rfl rfl rfl ?_
    iterate 2 refine X.cop (X.on_f rfl rfl rfl h_7) rfl rfl rfl ?_
    refine X.cop (X.on_f rfl rfl rfl h_7) (X.indexF (f := e_api_Shift) (h_4 (X.nt h_7)) (fun _ => rfl) rfl rfl rfl rfl) rfl rfl ?_
    refine X.cop (X.on_f rfl rfl rfl h_7) rfl rfl rfl ?_
    refine X.cop (X.on_f rfl rfl rfl h_7) (X.loadF (h_4 (X.nt h_7)) rfl rfl rfl) rfl rfl ?_
    iterate 2 refine X.cop (X.on_f rfl rfl rfl h_7) rfl rfl rfl ?_
    refine X.cop (X.on_f rfl rfl rfl h_7) (X.indexF (f := e_api_Shift) (h_5 (X.nt h_7)) (fun _ => rfl) rfl rfl rfl rfl) rfl rfl ?_
    refine X.cop (X.on_f rfl rfl rfl h_7) rfl rfl rfl ?_
    refine X.cop (X.on_f rfl rfl rfl h_7) (X.loadF (h_5 (X.nt h_7)) rfl rfl rfl) rfl rfl ?_
    refine X.cop (X.on_f rfl rfl rfl h_7) rfl rfl rfl ?_
    refine X.cop rfl (X.pickor_f (y := decide (x3.To < x2.From)) rfl h_7 rfl) rfl rfl ?_
    refine X.cop rfl rfl rfl rfl ?_
    iterate 2 refine X.cop (X.on_f rfl rfl rfl h_8) rfl rfl rfl ?_
    refine X.cop (X.on_f rfl rfl rfl h_8) (X.indexF (f := e_api_Shift) (h_6 (X.nt h_8)) (fun _ => rfl) rfl rfl rfl rfl) rfl rfl ?_
    refine X.cop (X.on_f rfl rfl rfl h_8) rfl rfl rfl ?_
    refine X.cop (X.on_f rfl rfl rfl h_8) (X.loadF (h_6 (X.nt h_8)) rfl rfl rfl) rfl rfl ?_
    refine X.cop (X.on_f rfl rfl rfl h_8) rfl rfl rfl ?_
    refine X.cop rfl (X.pickor_f (y := decide (728 < x4.To)) rfl h_8 rfl) rfl rfl ?_
    refine X.cop rfl rfl rfl rfl ?_
    iterate 2 refine X.coff (X.off_f rfl rfl rfl h_9) rfl rfl ?_
    refine X.cop rfl (X.pickor_t (y := !(ref02_within x.Add (-4000) 4000)) rfl h_9 rfl) rfl rfl ?_
    refine X.cnil ?_
    exact X.norm _ hg rfl (sr rfl)
   refine X.drawc (by kernel_rfl) rfl ?_
   iterate 2 refine X.cop rfl rfl rfl rfl ?_
   refine X.cop rfl (X.indexF (f := e_api_Shift) h_3 (fun _ => rfl) rfl rfl rfl rfl) rfl rfl ?_
   refine X.cop rfl rfl rfl rfl ?_
   refine X.cop rfl (X.loadF h_3 rfl rfl rfl) rfl rfl ?_
   iterate 2 refine X.cop rfl rfl rfl rfl ?_
   iterate 2 refine X.cop (X.on_f rfl rfl rfl h_7) rfl rfl rfl ?_
   refine X.cop (X.on_f rfl rfl rfl h_7) (X.indexF (f := e_api_Shift) (h_4 (X.nt h_7)) (fun _ => rfl) rfl rfl rfl rfl) rfl rfl ?_
   refine X.cop (X.on_f rfl rfl rfl h_7) rfl rfl rfl ?_
   refine X.cop (X.on_f rfl rfl rfl h_7) (X.loadF (h_4 (X.nt h_7)) rfl rfl rfl) rfl rfl ?_
   iterate 2 refine X.cop (X.on_f rfl rfl rfl h_7) rfl rfl rfl ?_
   refine X.cop (X.on_f rfl rfl rfl h_7) (X.indexF (f := e_api_Shift) (h_5 (X.nt h_7)) (fun _ => rfl) rfl rfl rfl rfl) rfl rfl ?_
   refine X.cop (X.on_f rfl rfl rfl h_7) rfl rfl rfl ?_
   refine X.cop (X.on_f rfl rfl rfl h_7) (X.loadF (h_5 (X.nt h_7)) rfl rfl rfl) rfl rfl ?_
   refine X.cop (X.on_f rfl rfl rfl h_7) rfl rfl rfl ?_
   refine X.cop rfl (X.pickor_f (y := decide (x3.To < x2.From)) rfl h_7 rfl) rfl rfl ?_
   refine X.cop rfl rfl rfl rfl ?_
   iterate 2 refine X.cop (X.on_f rfl rfl rfl h_8) rfl rfl rfl ?_
   refine X.cop (X.on_f rfl rfl rfl h_8) (X.indexF (f := e_api_Shift) (h_6 (X.nt h_8)) (fun _ => rfl) rfl rfl rfl rfl) rfl rfl ?_
   refine X.cop (X.on_f rfl rfl rfl h_8) rfl rfl rfl ?_
   refine X.cop (X.on_f rfl rfl rfl h_8) (X.loadF (h_6 (X.nt h_8)) rfl rfl rfl) rfl rfl ?_
   refine X.cop (X.on_f rfl rfl rfl h_8) rfl rfl rfl ?_
   refine X.cop rfl (X.pickor_f (y := decide (728 < x4.To)) rfl h_8 rfl) rfl rfl ?_
   refine X.cop rfl rfl rfl rfl ?_
   iterate 2 refine X.cop (X.on_f rfl rfl rfl h_9) rfl rfl rfl ?_
   refine X.cop rfl (X.pickor_f (y := !(ref02_within x.Add (-4000) 4000)) rfl h_9 rfl) rfl rfl ?_
   refine X.cnil ?_
   exact X.norm _ hg rfl (sr rfl)
  refine X.cond rfl (fun h_10 => ?_) (fun h_10 => ?_)
  ·replace hM := ite_t h_10 hM
   refine X.sq (X.q rfl (GS.opsNil ?_))
   have hE := Option.some.inj hM
   replace hE := hr_1 _ hE.symm
   subst hE
   exact GS.ret ⟨_, rfl, ⟨30, rfl⟩⟩
  replace hM := ite_f h_10 hM
  refine GS.skip (GS.seq ?_)
  obtain ⟨x5, h_11, hM⟩ := gb_of hM
  obtain ⟨x6, h_12, hM⟩ := gb_of hM
  refine X.mid [(0, (V.sl (List.map e_api_Shift l))), (3, (V.i i)), (64, (V.b ((decide (0 < i)) && (decide (x5.From ≤ x6.To)))))] ?_ ?_
  ·intro hg
   refine X.split (decide (0 < i)) (fun h_13 => ?_) (fun h_13 => ?_)
   ·refine X.drawc (by kernel_rfl) rfl ?_
    iterate 3 refine X.cop rfl rfl rfl rfl ?_
    iterate 2 refine X.cop (X.on_t rfl rfl rfl h_13) rfl rfl rfl ?_
    refine X.cop (X.on_t rfl rfl rfl h_13) (X.indexF (f := e_api_Shift) (h_11 h_13) (fun _ => rfl) rfl rfl rfl rfl) rfl rfl ?_
    refine X.cop (X.on_t rfl rfl rfl h_13) rfl rfl rfl ?_
    refine X.cop (X.on_t rfl rfl rfl h_13) (X.loadF (h_11 h_13) rfl rfl rfl) rfl rfl ?_
    iterate 2 refine X.cop (X.on_t rfl rfl rfl h_13) rfl rfl rfl ?_
    refine X.cop (X.on_t rfl rfl rfl h_13) (X.subE rfl rfl) rfl rfl ?_
    refine X.cop (X.on_t rfl rfl rfl h_13) (X.maxE rfl rfl) rfl rfl ?_
    refine X.cop (X.on_t rfl rfl rfl h_13) (X.indexF (f := e_api_Shift) (h_12 h_13) (fun _ => rfl) rfl rfl rfl rfl) rfl rfl ?_
    refine X.cop (X.on_t rfl rfl rfl h_13) rfl rfl rfl ?_
    refine X.cop (X.on_t rfl rfl rfl h_13) (X.loadF (h_12 h_13) rfl rfl rfl) rfl rfl ?_
    refine X.cop (X.on_t rfl rfl rfl h_13) rfl rfl rfl ?_
    refine X.cop rfl (X.pickand_t (y := decide (x5.From ≤ x6.To)) rfl h_13 rfl) rfl rfl ?_
    refine X.cnil ?_
    exact X.norm _ hg rfl (sr rfl)
   refine X.drawc (by kernel_rfl) rfl ?_
   iterate 3 refine X.cop rfl rfl rfl rfl ?_
   iterate 13 refine X.coff (X.off_t rfl rfl rfl h_13) rfl rfl ?_
   refine X.cop rfl (X.pickand_f (y := decide (x5.From ≤ x6.To)) rfl h_13 rfl) rfl rfl ?_
   refine X.cnil ?_
   exact X.norm _ hg rfl (sr rfl)
  refine X.cond rfl (fun h_14 => ?_) (fun h_14 => ?_)
  ·replace hM := ite_t h_14 hM
   refine X.sq (X.q rfl (GS.opsNil ?_))
   have hE := Option.some.inj hM
   replace hE := hr_1 _ hE.symm
   subst hE
   exact GS.ret ⟨_, rfl, ⟨30, rfl⟩⟩
  replace hM := ite_f h_14 hM
  refine GS.skip ?_
  refine GS.endB (GS.region (X.q rfl ?_))
  refine X.opR rfl (X.addE rfl rfl) rfl (X.q rfl (GS.opsNil ?_))
  have hE := Option.some.inj hM
  exact X.gc [] (hc_2 (w64 (i + 1)) hE.symm) rfl rfl rfl (ga rfl rfl) (gb_nil)
 replace hM := ite_f h_1 hM
 refine GS.exit rfl ?_
 obtain ⟨y_1, hM, hy⟩ := map_of hM
 rw [hr_1 _ hy.symm] at hM
 exact X.gc [] (hj_1 () hM) rfl rfl rfl (gk_nil) (gb_nil)
theorem ok_ref02_Check {w : api_Water} {r : Int} (hM : ref02_Check w = some r) : Ct Tryz.prog 52 [(e_api_Water w)] (V.i r) := by
 refine ct_of_gs CC_ok rfl ?_
 unfold ref02_Check at hM
 refine X.sq ?_
 refine X.opW rfl rfl rfl rfl (X.q rfl (X.nq (X.q rfl (X.q rfl ?_))))
 refine X.call (ok_ref02_within w.Level (-4000) 4000) rfl rfl rfl (.cons (.shut (n := 9) rfl) (.cons (.shut (n := 9) rfl) (.cons (.shut (n := 9) rfl) .nil))) (X.q rfl (GS.opsNil (GS.seq (X.sq (X.q rfl (X.q rfl ?_))))))
 refine GS.opsNil ?_
 refine X.cond rfl (fun h_1 => ?_) (fun h_1 => ?_)
 ·replace hM := ite_t h_1 hM
  refine X.sq (X.q rfl (GS.opsNil ?_))
  cases hM
  exact GS.ret ⟨_, rfl, ⟨30, rfl⟩⟩
 replace hM := ite_f h_1 hM
 refine GS.skip (GS.seq (X.sq ?_))
 refine X.mid [(1, (V.ptr 0 0 0)), (21, (V.b ((decide (6 < (w.Cycles.length : Int))) || (decide (20 < (w.Shifts.length : Int))))))] ?_ ?_
 ·intro hg
  refine X.split (decide (6 < (w.Cycles.length : Int))) (fun h_2 => ?_) (fun h_2 => ?_)
  ·iterate 2 refine X.q rfl ?_
   refine X.opR rfl (X.lenF rfl rfl rfl) rfl (X.q rfl (X.q rfl ?_))
   iterate 4 refine X.off (X.off_f rfl rfl rfl h_2) rfl ?_
   refine X.opR rfl (X.pickor_t (y := decide (20 < (w.Shifts.length : Int))) rfl h_2 rfl) rfl (GS.opsNil ?_)
   exact X.norm _ hg rfl (sr rfl)
  refine X.q rfl (X.q rfl ?_)
  refine X.opR rfl (X.lenF rfl rfl rfl) rfl (X.q rfl (X.q rfl ?_))
  iterate 2 refine X.opR (X.on_f rfl rfl rfl h_2) rfl rfl ?_
  refine X.opR (X.on_f rfl rfl rfl h_2) (X.lenF rfl rfl rfl) rfl ?_
  refine X.opR (X.on_f rfl rfl rfl h_2) rfl rfl ?_
  refine X.opR rfl (X.pickor_f (y := decide (20 < (w.Shifts.length : Int))) rfl h_2 rfl) rfl (GS.opsNil ?_)
  exact X.norm _ hg rfl (sr rfl)
 refine X.cond rfl (fun h_3 => ?_) (fun h_3 => ?_)
 ·replace hM := ite_t h_3 hM
  refine X.sq (X.q rfl (GS.opsNil ?_))
  cases hM
  exact GS.ret ⟨_, rfl, ⟨30, rfl⟩⟩
 replace hM := ite_f h_3 hM
 refine GS.skip (GS.seq (X.sq (X.q rfl (GS.opsNil ?_))))
 refine X.join (τ := Unit) (fun v => ref02_Check_j1 w = some r) (fun v => ⟨[(1, (V.ptr 0 0 0))], [.rows 3 [(e_api_Water w)]], 0, none, 58⟩) ?_ ?_
 ·intro _ hM
  replace hM : ref02_Check_j1 w = some r := hM
  unfold ref02_Check_j1 at hM
  refine GS.seq ?_
  obtain ⟨y, h_4, hM⟩ := bind_of hM
  refine GS.region (X.q rfl (X.q rfl ?_))
  refine X.call (ok_ref02_shifted h_4) rfl rfl rfl (.cons (.shut (n := 9) rfl) .nil) (X.q rfl (GS.opsNil ?_))
  cases hM
  exact GS.ret ⟨_, rfl, ⟨30, rfl⟩⟩
 intro hj_1
 refine GS.block ?_
 refine X.gc [some 0] (X.loop (σ := Int) (fun v => ⟨[(1, (V.ptr 0 0 0)), (4, (V.i v))], [.rows 3 [(e_api_Water w)]], 0, none, 58⟩) hM ?_ rfl) rfl rfl rfl (ga rfl rfl) (gb9 rfl rfl rfl gb_nil)
 intro i b_1 hM hc_2 hr_1
 rw [ref02_Check_b2] at hM
 refine GS.seq (X.sq (X.q rfl (X.q rfl (X.q rfl ?_))))
 refine X.opR rfl (X.lenF rfl rfl rfl) rfl (X.q rfl (GS.opsNil ?_))
 refine X.cond rfl (fun h_5 => ?_) (fun h_5 => ?_)
 ·replace hM := ite_t h_5 hM
  refine GS.skip (GS.seq (GS.block (GS.seq ?_)))
  obtain ⟨x, h_6, hM⟩ := bind_of hM
  obtain ⟨y1, h_7, hM⟩ := bind_of hM
  refine GS.region (X.q rfl (X.q rfl (X.q rfl ?_)))
  refine X.opR rfl (X.indexF (f := e_api_Cycle) h_6 (fun _ => rfl) rfl rfl rfl rfl) rfl ?_
  refine X.opR rfl (X.loadF h_6 rfl rfl rfl) rfl ?_
  refine X.call (ok_ref02_Right h_7) rfl rfl rfl (.cons (.shut (n := 9) rfl) .nil) (X.q rfl (GS.opsNil (GS.seq (X.sq (X.q rfl (X.q rfl ?_))))))
  refine GS.opsNil ?_
  refine X.cond rfl (fun h_8 => ?_) (fun h_8 => ?_)
  ·replace hM := ite_t h_8 hM
   refine X.sq (X.q rfl (GS.opsNil ?_))
   have hE := Option.some.inj hM
   replace hE := hr_1 _ hE.symm
   subst hE
   exact GS.ret ⟨_, rfl, ⟨30, rfl⟩⟩
  replace hM := ite_f h_8 hM
  refine GS.skip (X.sq (X.q rfl (GS.opsNil ?_)))
  refine X.join (τ := Unit) (fun v => ref02_Check_j3 i = some b_1) (fun v => ⟨[(1, (V.ptr 0 0 0)), (4, (V.i i))], [.rows 3 [(e_api_Water w)]], 0, none, 58⟩) ?_ ?_
  ·intro _ hM
   replace hM : ref02_Check_j3 i = some b_1 := hM
   unfold ref02_Check_j3 at hM
   refine GS.endB (GS.region (X.q rfl ?_))
   refine X.opR rfl (X.addE rfl rfl) rfl (X.q rfl (GS.opsNil ?_))
   have hE := Option.some.inj hM
   exact X.gc [some 0] (hc_2 (w64 (i + 1)) hE.symm) rfl rfl rfl (ga rfl rfl) (gb9 rfl rfl rfl gb_nil)
  intro hj_3
  refine GS.block ?_
  refine X.gc [some 0] (X.loop (σ := Int) (fun v => ⟨[(1, (V.ptr 0 0 0)), (4, (V.i i)), (6, (V.i v))], [.rows 3 [(e_api_Water w)]], 0, none, 58⟩) hM ?_ rfl) rfl rfl rfl (ga rfl rfl) (gb9 rfl rfl rfl gb_nil)
  intro k b_2 hM hc_4 hr_2
  rw [ref02_Check_b4] at hM
  refine GS.seq (X.sq (X.q rfl (X.q rfl (X.q rfl ?_))))
  refine GS.opsNil ?_
  refine X.cond rfl (fun h_9 => ?_) (fun h_9 => ?_)
  ·replace hM := ite_t h_9 hM
   refine GS.skip (GS.seq (GS.block (GS.seq ?_)))
   obtain ⟨x1, h_10, hM⟩ := bind_of hM
   obtain ⟨x2, h_11, hM⟩ := bind_of hM
   refine X.drawc (by kernel_rfl) rfl ?_
   iterate 3 refine X.cop rfl rfl rfl rfl ?_
   refine X.cop rfl (X.indexF (f := e_api_Cycle) h_10 (fun _ => rfl) rfl rfl rfl rfl) rfl rfl ?_
   refine X.cop rfl rfl rfl rfl ?_
   refine X.cop rfl (X.loadF h_10 rfl rfl rfl) rfl rfl ?_
   iterate 3 refine X.cop rfl rfl rfl rfl ?_
   refine X.cop rfl (X.indexF (f := e_api_Cycle) h_11 (fun _ => rfl) rfl rfl rfl rfl) rfl rfl ?_
   refine X.cop rfl rfl rfl rfl ?_
   refine X.cop rfl (X.loadF h_11 rfl rfl rfl) rfl rfl ?_
   refine X.cop rfl rfl rfl rfl ?_
   refine X.cnil ?_
   refine X.norm [(1, (V.ptr 0 0 0)), (4, (V.i i)), (6, (V.i k)), (54, (V.b (decide (x1.ID = x2.ID))))] ?_ rfl (sr rfl)
   refine X.cond rfl (fun h_12 => ?_) (fun h_12 => ?_)
   ·replace hM := ite_t h_12 hM
    refine X.sq (X.q rfl (GS.opsNil ?_))
    have hE := Option.some.inj hM
    replace hE := hr_2 _ hE.symm
    replace hE := hr_1 _ hE.symm
    subst hE
    exact GS.ret ⟨_, rfl, ⟨30, rfl⟩⟩
   replace hM := ite_f h_12 hM
   refine GS.skip ?_
   refine GS.endB (GS.region (X.q rfl ?_))
   refine X.opR rfl (X.addE rfl rfl) rfl (X.q rfl (GS.opsNil ?_))
   have hE := Option.some.inj hM
   exact X.gc [some 0] (hc_4 (w64 (k + 1)) hE.symm) rfl rfl rfl (ga rfl rfl) (gb9 rfl rfl rfl gb_nil)
  replace hM := ite_f h_9 hM
  refine GS.exit rfl ?_
  obtain ⟨y_2, hM, hy⟩ := map_of hM
  rw [hr_2 _ hy.symm] at hM
  exact X.gc [some 0] (hj_3 () hM) rfl rfl rfl (ga rfl rfl) (gb9 rfl rfl rfl gb_nil)
 replace hM := ite_f h_5 hM
 refine GS.exit rfl ?_
 obtain ⟨y_1, hM, hy⟩ := map_of hM
 rw [hr_1 _ hy.symm] at hM
 exact X.gc [some 0] (hj_1 () hM) rfl rfl rfl (ga rfl rfl) (gb9 rfl rfl rfl gb_nil)
theorem ok_ref06_in (n : Int) (lo : Int) (hi : Int) : Ct Tryz.prog 44 [(V.i n), (V.i lo), (V.i hi)] (V.b (ref06_in n lo hi)) := by
 refine ct_of_gs CC_ok rfl ?_
 generalize hM : ref06_in n lo hi = r
 unfold ref06_in at hM
 refine X.sq (X.q rfl (X.nq ?_))
 refine X.mid [(6, (V.b ((decide (lo ≤ n)) && (decide (n ≤ hi)))))] ?_ ?_
 ·intro hg
  refine X.split (decide (lo ≤ n)) (fun h_1 => ?_) (fun h_1 => ?_)
  ·iterate 4 refine X.q rfl ?_
   iterate 3 refine X.opR (X.on_t rfl rfl rfl h_1) rfl rfl ?_
   refine X.opR rfl (X.pickand_t (y := decide (n ≤ hi)) rfl h_1 rfl) rfl (X.q rfl (GS.opsNil ?_))
   exact X.norm _ hg rfl (sr rfl)
  iterate 4 refine X.q rfl ?_
  iterate 3 refine X.off (X.off_t rfl rfl rfl h_1) rfl ?_
  refine X.opR rfl (X.pickand_f (y := decide (n ≤ hi)) rfl h_1 rfl) rfl (X.q rfl (GS.opsNil ?_))
  exact X.norm _ hg rfl (sr rfl)
 subst hM
 exact GS.ret ⟨_, rfl, ⟨30, rfl⟩⟩
theorem ok_ref06_stay (s : api_Span) : Ct Tryz.prog 50 [(e_api_Span s)] (V.b (ref06_stay s)) := by
 refine ct_of_gs CC_ok rfl ?_
 generalize hM : ref06_stay s = r
 unfold ref06_stay at hM
 refine X.sq ?_
 refine X.opW rfl rfl rfl rfl (X.q rfl (X.nq ?_))
 refine X.mid [(2, (V.b ((((decide (0 ≤ s.Lo)) && (decide (s.Lo ≤ s.Hi))) && (decide (s.Hi ≤ 1048576))) && (decide ((w64 (s.Hi - s.Lo)) < 1440)))))] ?_ ?_
 ·intro hg
  refine X.split (decide (0 ≤ s.Lo)) (fun h_1 => ?_) (fun h_1 => ?_)
  ·refine X.split (((decide (0 ≤ s.Lo)) && (decide (s.Lo ≤ s.Hi)))) (fun h_2 => ?_) (fun h_2 => ?_)
   ·refine X.split ((((decide (0 ≤ s.Lo)) && (decide (s.Lo ≤ s.Hi))) && (decide (s.Hi ≤ 1048576)))) (fun h_3 => ?_) (fun h_3 => ?_)
    ·iterate 4 refine X.q rfl ?_
     iterate 5 refine X.opR (X.on_t rfl rfl rfl h_1) rfl rfl ?_
     refine X.opR rfl (X.pickand_t (y := decide (s.Lo ≤ s.Hi)) rfl h_1 rfl) rfl (X.q rfl ?_)
     iterate 3 refine X.opR (X.on_t rfl rfl rfl h_2) rfl rfl ?_
     refine X.opR rfl (X.pickand_t (y := decide (s.Hi ≤ 1048576)) rfl h_2 rfl) rfl (X.q rfl ?_)
     iterate 4 refine X.opR (X.on_t rfl rfl rfl h_3) rfl rfl ?_
     refine X.opR (X.on_t rfl rfl rfl h_3) (X.subE rfl rfl) rfl ?_
     refine X.opR (X.on_t rfl rfl rfl h_3) rfl rfl ?_
     refine X.opR rfl (X.pickand_t (y := decide ((w64 (s.Hi - s.Lo)) < 1440)) rfl h_3 rfl) rfl (X.q rfl (GS.opsNil ?_))
     exact X.norm _ hg rfl (sr rfl)
    iterate 4 refine X.q rfl ?_
    iterate 5 refine X.opR (X.on_t rfl rfl rfl h_1) rfl rfl ?_
    refine X.opR rfl (X.pickand_t (y := decide (s.Lo ≤ s.Hi)) rfl h_1 rfl) rfl (X.q rfl ?_)
    iterate 3 refine X.opR (X.on_t rfl rfl rfl h_2) rfl rfl ?_
    refine X.opR rfl (X.pickand_t (y := decide (s.Hi ≤ 1048576)) rfl h_2 rfl) rfl (X.q rfl ?_)
    iterate 6 refine X.off (X.off_t rfl rfl rfl h_3) rfl ?_
    refine X.opR rfl (X.pickand_f (y := decide ((w64 (s.Hi - s.Lo)) < 1440)) rfl h_3 rfl) rfl (X.q rfl (GS.opsNil ?_))
    exact X.norm _ hg rfl (sr rfl)
   iterate 4 refine X.q rfl ?_
   iterate 5 refine X.opR (X.on_t rfl rfl rfl h_1) rfl rfl ?_
   refine X.opR rfl (X.pickand_t (y := decide (s.Lo ≤ s.Hi)) rfl h_1 rfl) rfl (X.q rfl ?_)
   iterate 3 refine X.off (X.off_t rfl rfl rfl h_2) rfl ?_
   refine X.opR rfl (X.pickand_f (y := decide (s.Hi ≤ 1048576)) rfl h_2 rfl) rfl (X.q rfl ?_)
   iterate 6 refine X.off (X.off_t rfl rfl rfl (X.and_ff h_2)) rfl ?_
   refine X.opR rfl (X.pickand_f (y := decide ((w64 (s.Hi - s.Lo)) < 1440)) rfl (X.and_ff h_2) rfl) rfl (X.q rfl (GS.opsNil ?_))
   exact X.norm _ hg rfl (sr rfl)
  iterate 4 refine X.q rfl ?_
  iterate 5 refine X.off (X.off_t rfl rfl rfl h_1) rfl ?_
  refine X.opR rfl (X.pickand_f (y := decide (s.Lo ≤ s.Hi)) rfl h_1 rfl) rfl (X.q rfl ?_)
  iterate 3 refine X.off (X.off_t rfl rfl rfl (X.and_ff h_1)) rfl ?_
  refine X.opR rfl (X.pickand_f (y := decide (s.Hi ≤ 1048576)) rfl (X.and_ff h_1) rfl) rfl (X.q rfl ?_)
  iterate 6 refine X.off (X.off_t rfl rfl rfl (X.and_ff (X.and_ff h_1))) rfl ?_
  refine X.opR rfl (X.pickand_f (y := decide ((w64 (s.Hi - s.Lo)) < 1440)) rfl (X.and_ff (X.and_ff h_1)) rfl) rfl (X.q rfl (GS.opsNil ?_))
  exact X.norm _ hg rfl (sr rfl)
 subst hM
 exact GS.ret ⟨_, rfl, ⟨30, rfl⟩⟩
end Go.Proofs.YtnkngglimidldaaGreat
