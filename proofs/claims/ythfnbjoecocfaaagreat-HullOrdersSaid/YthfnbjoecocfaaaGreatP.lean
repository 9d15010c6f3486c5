/- The program's functions compute the plain ones. Conditions: none. Printed by a program (wip/tools/xg.py). -/
import Derived.Test.YthfnbjoecocfaaaGreatP2
set_option linter.unusedVariables false
set_option linter.unusedSimpArgs false
namespace Go.Proofs.YthfnbjoecocfaaaGreat
open Go Go.Am Go.Proofs Go.Mx

set_option maxHeartbeats 4000000 in
theorem ok_ref03_further {s : api_Ship} {from_ : (List Int)} {to : (List Int)} {step : Int} {level : (List (List Int))} {r : (List (List Int))} (hM : ref03_further s from_ to step level = some r) : Ct Tryz.prog 71 [(e_api_Ship s), (V.sl (List.map V.i from_)), (V.sl (List.map V.i to)), (V.i step), (V.sl (List.map (fun l => V.sl (List.map V.i l)) level))] (V.sl (List.map (fun l => V.sl (List.map V.i l)) r)) := by
 refine ct_of_gs CC_ok rfl ?_
 unfold ref03_further at hM
 refine X.sq ?_
 refine X.opW rfl rfl rfl rfl ?_
 refine X.q rfl (X.nq ?_)
 refine X.q rfl (GS.opsNil (GS.seq (X.sq ?_)))
 refine X.q rfl (GS.opsNil ?_)
 refine X.join (τ := (List (List Int))) (fun v => ref03_further_j1 v = some r) (fun v => ⟨[(11, (ovl 0 v))], [obl 1 (fun v => V.sl (List.map V.i v)) v], 0, none, 80⟩) ?_ ?_
 ·intro l hM
  replace hM : ref03_further_j1 l = some r := hM
  unfold ref03_further_j1 at hM
  refine X.sq ?_
  iterate 2 refine X.q rfl ?_
  refine GS.opsNil ?_
  have hE := Option.some.inj hM
  subst hE
  exact GS.ret ⟨_, rfl, FR.ovl (f := (fun l => V.sl (List.map V.i l))) (l := l) 9 rfl rfl (fun _ => rfl)⟩
 intro hj_1
 refine GS.block ?_
 refine X.gc [some 0, none] (X.loop (σ := (Int × (List (List Int)))) (fun v => ⟨[(1, (V.sl (List.map V.i from_))), (2, (V.sl (List.map V.i to))), (3, (V.i step)), (4, (V.sl (List.map (fun l => V.sl (List.map V.i l)) level))), (5, (V.ptr 0 0 0)), (11, (ovl 1 v.2)), (12, (V.i v.1))], [.rows 11 [(e_api_Ship s)], obl 1 (fun l => V.sl (List.map V.i l)) v.2], 0, none, 80⟩) hM ?_ rfl) rfl rfl rfl (ga rfl rfl) (gb9 rfl rfl rfl (gb_pad' rfl gb_nil))
 rintro ⟨k, l6⟩ b_1 hM hc_2 hr_1
 rw [ref03_further_b2] at hM
 refine GS.seq (X.sq ?_)
 iterate 2 refine X.q rfl ?_
 refine X.opR rfl (X.lenF rfl rfl rfl) rfl ?_
 refine X.q rfl (GS.opsNil ?_)
 refine X.cond rfl (fun h_1 => ?_) (fun h_1 => ?_)
 ·replace hM := ite_t h_1 hM
  refine GS.skip (GS.seq (GS.block (X.sq ?_)))
  refine X.q rfl (GS.opsNil ?_)
  refine X.join (τ := (List (List Int))) (fun v => ref03_further_j3 k v = some b_1) (fun v => ⟨[(1, (V.sl (List.map V.i from_))), (2, (V.sl (List.map V.i to))), (3, (V.i step)), (4, (V.sl (List.map (fun l => V.sl (List.map V.i l)) level))), (5, (V.ptr 0 0 0)), (11, (ovl 1 v)), (12, (V.i k))], [.rows 11 [(e_api_Ship s)], obl 1 (fun l => V.sl (List.map V.i l)) v], 0, none, 80⟩) ?_ ?_
  ·intro l1 hM
   replace hM : ref03_further_j3 k l1 = some b_1 := hM
   unfold ref03_further_j3 at hM
   refine GS.endB (GS.region ?_)
   refine X.q rfl ?_
   refine X.opR rfl (X.addE rfl rfl) rfl ?_
   refine X.q rfl (GS.opsNil ?_)
   have hE := Option.some.inj hM
   exact X.gc [some 0, some 1] (hc_2 (w64 (k + 1), l1) hE.symm) rfl rfl rfl (gk_cons rfl ⟨9, rfl⟩ (gk_cons rfl ⟨9, rfl⟩ (gk_cons rfl ⟨9, rfl⟩ (gk_cons rfl ⟨9, rfl⟩ (gk_cons rfl ⟨9, rfl⟩ (gk_cons rfl (rn_ovl rfl) (ga rfl rfl))))))) (gb9 rfl rfl rfl (gb_obl 9 rfl rfl (fun _ => rfl) gb_nil))
  intro hj_3
  refine GS.block ?_
  refine X.gc [some 0, some 1] (X.loop (σ := (Int × (List (List Int)))) (fun v => ⟨[(1, (V.sl (List.map V.i from_))), (2, (V.sl (List.map V.i to))), (3, (V.i step)), (4, (V.sl (List.map (fun l => V.sl (List.map V.i l)) level))), (5, (V.ptr 0 0 0)), (11, (ovl 1 v.2)), (12, (V.i k)), (13, (V.i v.1))], [.rows 11 [(e_api_Ship s)], obl 1 (fun l => V.sl (List.map V.i l)) v.2], 0, none, 80⟩) hM ?_ rfl) rfl rfl rfl (gk_cons rfl ⟨9, rfl⟩ (gk_cons rfl ⟨9, rfl⟩ (gk_cons rfl ⟨9, rfl⟩ (gk_cons rfl ⟨9, rfl⟩ (gk_cons rfl ⟨9, rfl⟩ (gk_cons rfl (rn_ovl rfl) (ga rfl rfl))))))) (gb9 rfl rfl rfl (gb_obl 9 rfl rfl (fun _ => rfl) gb_nil))
  rintro ⟨i, l5⟩ b_2 hM hc_4 hr_2
  rw [ref03_further_b4] at hM
  refine GS.seq (X.sq ?_)
  iterate 2 refine X.q rfl ?_
  refine X.opR rfl (X.lenF rfl rfl rfl) rfl ?_
  refine X.q rfl (GS.opsNil ?_)
  refine X.cond rfl (fun h_2 => ?_) (fun h_2 => ?_)
  ·replace hM := ite_t h_2 hM
   refine GS.skip (GS.seq ?_)
   refine X.join (τ := (List (List Int))) (fun v => ref03_further_j5 i v = some b_2) (fun v => ⟨[(1, (V.sl (List.map V.i from_))), (2, (V.sl (List.map V.i to))), (3, (V.i step)), (4, (V.sl (List.map (fun l => V.sl (List.map V.i l)) level))), (5, (V.ptr 0 0 0)), (11, (ovl 1 v)), (12, (V.i k)), (13, (V.i i))], [.rows 11 [(e_api_Ship s)], obl 1 (fun l => V.sl (List.map V.i l)) v], 0, none, 80⟩) ?_ ?_
   ·intro l2 hM
    replace hM : ref03_further_j5 i l2 = some b_2 := hM
    unfold ref03_further_j5 at hM
    refine GS.region ?_
    refine X.q rfl ?_
    refine X.opR rfl (X.addE rfl rfl) rfl ?_
    refine X.q rfl (GS.opsNil ?_)
    have hE := Option.some.inj hM
    exact X.gc [some 0, some 1] (hc_4 (w64 (i + 1), l2) hE.symm) rfl rfl rfl (gk_cons rfl ⟨9, rfl⟩ (gk_cons rfl ⟨9, rfl⟩ (gk_cons rfl ⟨9, rfl⟩ (gk_cons rfl ⟨9, rfl⟩ (gk_cons rfl ⟨9, rfl⟩ (gk_cons rfl (rn_ovl rfl) (ga rfl rfl))))))) (gb9 rfl rfl rfl (gb_obl 9 rfl rfl (fun _ => rfl) gb_nil))
   intro hj_5
   refine GS.block ?_
   iterate 2 refine GS.seq ?_
   obtain ⟨x, h_3, hM⟩ := bind_of hM
   obtain ⟨x1, h_4, hM⟩ := bind_of hM
   obtain ⟨x2, h_5, hM⟩ := bind_of hM
   obtain ⟨x3, h_6, hM⟩ := bind_of hM
   obtain ⟨y, h_7, hM⟩ := bind_of hM
   refine X.drawc (by kernel_rfl) rfl ?_
   iterate 2 refine X.cop rfl rfl rfl rfl ?_
   refine X.cop rfl (X.indexF (f := (fun l => V.sl (List.map V.i l))) h_3 (fun _ => rfl) rfl rfl rfl rfl) rfl rfl ?_
   refine X.cop rfl (X.loadF h_3 rfl rfl rfl) rfl rfl ?_
   refine X.cop rfl rfl rfl rfl ?_
   refine X.cop rfl (X.indexF (f := V.i) h_4 (fun _ => rfl) rfl rfl rfl rfl) rfl rfl ?_
   refine X.cop rfl (X.loadF h_4 rfl rfl rfl) rfl rfl ?_
   iterate 2 refine X.cop rfl rfl rfl rfl ?_
   refine X.cop rfl (X.indexF (f := V.i) h_5 (fun _ => rfl) rfl rfl rfl rfl) rfl rfl ?_
   refine X.cop rfl (X.loadF h_5 rfl rfl rfl) rfl rfl ?_
   iterate 2 refine X.cop rfl rfl rfl rfl ?_
   refine X.cop rfl (X.indexF (f := V.i) h_6 (fun _ => rfl) rfl rfl rfl rfl) rfl rfl ?_
   refine X.cop rfl (X.loadF h_6 rfl rfl rfl) rfl rfl ?_
   refine X.cop rfl (X.subE rfl rfl) rfl rfl ?_
   refine X.cop rfl rfl rfl rfl ?_
   refine X.ccall (ok_ref03_steps h_7) rfl rfl rfl rfl (.cons (.shut (n := 9) rfl) (.cons (.shut (n := 9) rfl) .nil)) ?_
   refine X.cop rfl rfl rfl rfl ?_
   refine X.cnil ?_
   refine X.norm [(1, (V.sl (List.map V.i from_))), (2, (V.sl (List.map V.i to))), (3, (V.i step)), (4, (V.sl (List.map (fun l => V.sl (List.map V.i l)) level))), (5, (V.ptr 0 0 0)), (11, (ovl 1 l5)), (12, (V.i k)), (13, (V.i i)), (46, (V.b (decide (y ≤ x1))))] ?_ rfl (sr rfl)
   refine X.cond rfl (fun h_8 => ?_) (fun h_8 => ?_)
   ·replace hM := ite_t h_8 hM
    refine GS.exit rfl ?_
    exact X.gc [some 0, some 1] (hj_5 l5 hM) rfl rfl rfl (gk_cons rfl ⟨9, rfl⟩ (gk_cons rfl ⟨9, rfl⟩ (gk_cons rfl ⟨9, rfl⟩ (gk_cons rfl ⟨9, rfl⟩ (gk_cons rfl ⟨9, rfl⟩ (gk_cons rfl (rn_ovl rfl) (ga rfl rfl))))))) (gb9 rfl rfl rfl (gb_obl 9 rfl rfl (fun _ => rfl) gb_nil))
   replace hM := ite_f h_8 hM
   refine GS.skip (X.sq ?_)
   refine X.q rfl (GS.opsNil (GS.seq ?_))
   obtain ⟨x4, h_9, hM⟩ := bind_of hM
   obtain ⟨l3, h_10, hM⟩ := bind_of hM
   refine GS.region ?_
   iterate 3 refine X.q rfl ?_
   refine X.opR rfl (X.indexF (f := (fun l => V.sl (List.map V.i l))) h_9 (fun _ => rfl) rfl rfl rfl rfl) rfl ?_
   refine X.opR rfl (X.loadF h_9 rfl rfl rfl) rfl ?_
   refine X.appNilS (f := V.i) (m := 2) (by rfl) h_10 (fun _ => rfl) (by rfl) (by rfl) (by rfl) (by rfl) (by rfl) (by rfl) (by rfl) (by rfl) (by exact rfl) (by rfl) (by rfl) ?_
   refine X.q rfl (GS.opsNil (GS.seq ?_))
   obtain ⟨x5, h_11, hM⟩ := bind_of hM
   obtain ⟨x6, h_12, hM⟩ := bind_of hM
   refine GS.region ?_
   iterate 4 refine X.q rfl ?_
   refine X.opR rfl (X.indexN h_11 rfl rfl rfl rfl rfl) rfl ?_
   refine X.opR rfl (X.loadN h_11 rfl rfl rfl rfl) rfl ?_
   refine X.opR rfl (X.addE rfl rfl) rfl ?_
   refine X.opR rfl (X.indexN h_12 rfl rfl rfl rfl rfl) rfl ?_
   refine X.op0W rfl (X.storeN (b := w64 (x5 + 1)) h_12 rfl rfl rfl rfl rfl rfl rfl) rfl (GS.opsNil (GS.seq ?_))
   refine X.freezeAt (z := true) (f := V.i) (l := (put l3 i (w64 (x5 + 1)))) (es := 1) 14 (X.kget_eq rfl X.ovl_put) rfl rfl rfl (fun _ => rfl) ?_
   obtain ⟨y1, h_13, hM⟩ := bind_of hM
   obtain ⟨y2, h_14, hM⟩ := bind_of hM
   refine X.drawc (by kernel_rfl) rfl ?_
   iterate 5 refine X.cop rfl rfl rfl rfl ?_
   refine X.ccall (ok_ref03_left h_13) rfl rfl rfl rfl (.cons (.shut (n := 9) rfl) (.cons (.shut (n := 9) rfl) (.cons (.shut (n := 9) rfl) (.cons (.shut (n := 9) rfl) .nil)))) ?_
   refine X.ccall (ok_ref03_steady h_14) rfl rfl rfl rfl (.cons (.shut (n := 9) rfl) (.cons (.shut (n := 9) rfl) .nil)) ?_
   refine X.cop rfl rfl rfl rfl ?_
   refine X.cnil ?_
   refine X.norm [(1, (V.sl (List.map V.i from_))), (2, (V.sl (List.map V.i to))), (3, (V.i step)), (4, (V.sl (List.map (fun l => V.sl (List.map V.i l)) level))), (5, (V.ptr 0 0 0)), (11, (ovl 1 l5)), (12, (V.i k)), (13, (V.i i)), (14, (V.sl (List.map V.i (put l3 i (w64 (x5 + 1)))))), (15, (V.b y2))] ?_ rfl (sr rfl)
   refine GS.seq ?_
   obtain ⟨y3, h_15, hM⟩ := gb_of hM
   refine GS.region ?_
   refine X.mid [(1, (V.sl (List.map V.i from_))), (2, (V.sl (List.map V.i to))), (3, (V.i step)), (4, (V.sl (List.map (fun l => V.sl (List.map V.i l)) level))), (5, (V.ptr 0 0 0)), (11, (ovl 1 l5)), (12, (V.i k)), (13, (V.i i)), (14, (V.sl (List.map V.i (put l3 i (w64 (x5 + 1)))))), (74, (V.b (y2 && (!y3))))] ?_ ?_
   ·intro hg
    refine X.split (y2) (fun h_16 => ?_) (fun h_16 => ?_)
    ·iterate 2 refine X.q rfl ?_
     iterate 2 refine X.opR (X.on_t rfl rfl rfl h_16) rfl rfl ?_
     refine X.callF (ok_ref03_met (h_15 h_16)) (X.on_t rfl rfl rfl h_16) rfl rfl (m := 9) rfl (.cons (FR.arg (FR.ovl (f := (fun l => V.sl (List.map V.i l))) (l := l5) 9 rfl rfl (fun _ => rfl))) (.cons (.shut (n := 9) rfl) .nil)) ?_
     refine X.opR (X.on_t rfl rfl rfl h_16) rfl rfl ?_
     refine X.opR rfl (X.pickand_t (y := !y3) rfl h_16 rfl) rfl (GS.opsNil ?_)
     exact X.norm _ hg rfl (sr rfl)
    iterate 2 refine X.q rfl ?_
    iterate 4 refine X.off (X.off_t rfl rfl rfl h_16) rfl ?_
    refine X.opR rfl (X.pickand_f (y := !y3) rfl h_16 rfl) rfl (GS.opsNil ?_)
    exact X.norm _ hg rfl (sr rfl)
   refine X.cond rfl (fun h_17 => ?_) (fun h_17 => ?_)
   ·replace hM := ite_t h_17 hM
    obtain ⟨l4, h_18, hM⟩ := bind_of hM
    refine GS.region ?_
    iterate 2 refine X.q rfl ?_
    refine X.opW (H' := [.rows 11 [(e_api_Ship s)], obl 1 (fun l => V.sl (List.map V.i l)) l5, .dead, .rows 1 (List.map (fun l => V.sl (List.map V.i l)) ([(put l3 i (w64 (x5 + 1)))]))]) rfl rfl rfl rfl ?_
    refine X.appN (f := (fun l => V.sl (List.map V.i l))) h_18 (fun _ => rfl) (by rfl) (by rfl) (by rfl) (by rfl) (by rfl) (by rfl) (by rfl) (by rfl) (by rfl) (by rfl) (by rfl) (by exact rfl) (by rfl) (by rfl) ?_
    refine X.q rfl (GS.opsNil ?_)
    refine GS.endB ?_
    exact X.gc [some 0, some 4] (hj_5 l4 hM) rfl rfl rfl (gk_cons rfl ⟨9, rfl⟩ (gk_cons rfl ⟨9, rfl⟩ (gk_cons rfl ⟨9, rfl⟩ (gk_cons rfl ⟨9, rfl⟩ (gk_cons rfl ⟨9, rfl⟩ (gk_cons rfl (rv_ne (app_ne h_18) rfl) (ga rfl rfl))))))) (gb9 rfl rfl rfl (gb_obl' 9 (app_ne h_18) rfl rfl (fun _ => rfl) gb_nil))
   replace hM := ite_f h_17 hM
   refine GS.skip ?_
   refine GS.endB ?_
   exact X.gc [some 0, some 1] (hj_5 l5 hM) rfl rfl rfl (gk_cons rfl ⟨9, rfl⟩ (gk_cons rfl ⟨9, rfl⟩ (gk_cons rfl ⟨9, rfl⟩ (gk_cons rfl ⟨9, rfl⟩ (gk_cons rfl ⟨9, rfl⟩ (gk_cons rfl (rn_ovl rfl) (ga rfl rfl))))))) (gb9 rfl rfl rfl (gb_obl 9 rfl rfl (fun _ => rfl) gb_nil))
  replace hM := ite_f h_2 hM
  refine GS.exit rfl ?_
  obtain ⟨y_2, hM, hy⟩ := map_of hM
  rw [hr_2 _ hy.symm] at hM
  exact X.gc [some 0, some 1] (hj_3 l5 hM) rfl rfl rfl (gk_cons rfl ⟨9, rfl⟩ (gk_cons rfl ⟨9, rfl⟩ (gk_cons rfl ⟨9, rfl⟩ (gk_cons rfl ⟨9, rfl⟩ (gk_cons rfl ⟨9, rfl⟩ (gk_cons rfl (rn_ovl rfl) (ga rfl rfl))))))) (gb9 rfl rfl rfl (gb_obl 9 rfl rfl (fun _ => rfl) gb_nil))
 replace hM := ite_f h_1 hM
 refine GS.exit rfl ?_
 obtain ⟨y_1, hM, hy⟩ := map_of hM
 rw [hr_1 _ hy.symm] at hM
 exact X.gc [some 1] (hj_1 l6 hM) rfl rfl rfl (gk_cons rfl (rn_ovl rfl) gk_nil) (gb_obl 9 rfl rfl (fun _ => rfl) gb_nil)

theorem ok_ref03_Order {s : api_Ship} {from_ : (List Int)} {to : (List Int)} {step : Int} {r : ref03_Ways} (hM : ref03_Order s from_ to step = some r) : Ct Tryz.prog 24 [(e_api_Ship s), (V.sl (List.map V.i from_)), (V.sl (List.map V.i to)), (V.i step)] (e_ref03_Ways r) := by
 refine ct_of_gs CC_ok rfl ?_
 unfold ref03_Order at hM
 refine X.sq ?_
 iterate 2 refine X.opW rfl rfl rfl rfl ?_
 refine GS.opsNil (GS.seq ?_)
 obtain ⟨y, h_1, hM⟩ := bind_of hM
 refine GS.region ?_
 iterate 2 refine X.q rfl ?_
 refine X.call (ok_ref03_given h_1) rfl rfl rfl (.cons (.shut (n := 9) rfl) (.cons (.shut (n := 9) rfl) .nil)) ?_
 refine X.q rfl (GS.opsNil (GS.seq (X.sq ?_)))
 iterate 2 refine X.q rfl ?_
 refine GS.opsNil ?_
 refine X.cond rfl (fun h_2 => ?_) (fun h_2 => ?_)
 ·replace hM := ite_t h_2 hM
  refine X.sq ?_
  iterate 2 refine X.q rfl ?_
  refine X.op0W rfl rfl rfl (GS.opsNil ?_)
  cases hM
  exact GS.ret ⟨_, rfl, ⟨30, rfl⟩⟩
 replace hM := ite_f h_2 hM
 refine GS.skip (GS.seq ?_)
 obtain ⟨y1, h_3, hM⟩ := bind_of hM
 refine GS.region ?_
 iterate 2 refine X.q rfl ?_
 refine X.call (ok_ref03_given h_3) rfl rfl rfl (.cons (.shut (n := 9) rfl) (.cons (.shut (n := 9) rfl) .nil)) ?_
 refine X.q rfl (GS.opsNil (GS.seq (X.sq ?_)))
 iterate 2 refine X.q rfl ?_
 refine GS.opsNil ?_
 refine X.cond rfl (fun h_4 => ?_) (fun h_4 => ?_)
 ·replace hM := ite_t h_4 hM
  refine X.sq ?_
  iterate 2 refine X.q rfl ?_
  refine X.op0W rfl rfl rfl (GS.opsNil ?_)
  cases hM
  exact GS.ret ⟨_, rfl, ⟨30, rfl⟩⟩
 replace hM := ite_f h_4 hM
 refine GS.skip (GS.seq ?_)
 obtain ⟨y2, h_5, hM⟩ := bind_of hM
 refine GS.region ?_
 iterate 4 refine X.q rfl ?_
 refine X.call (ok_ref03_asked h_5) rfl rfl rfl (.cons (.shut (n := 9) rfl) (.cons (.shut (n := 9) rfl) (.cons (.shut (n := 9) rfl) (.cons (.shut (n := 9) rfl) .nil)))) ?_
 refine X.q rfl (GS.opsNil (GS.seq (X.sq ?_)))
 iterate 2 refine X.q rfl ?_
 refine GS.opsNil ?_
 refine X.cond rfl (fun h_6 => ?_) (fun h_6 => ?_)
 ·replace hM := ite_t h_6 hM
  refine X.sq ?_
  iterate 2 refine X.q rfl ?_
  refine X.op0W rfl rfl rfl (GS.opsNil ?_)
  cases hM
  exact GS.ret ⟨_, rfl, ⟨30, rfl⟩⟩
 replace hM := ite_f h_6 hM
 refine GS.skip (X.sq ?_)
 refine X.q rfl (X.nq ?_)
 refine X.q rfl (GS.opsNil (GS.seq (X.sq ?_)))
 refine X.q rfl (GS.opsNil ?_)
 refine X.join (τ := Int × (List Int)) (fun v => ref03_Order_j1 s from_ to step v.1 v.2 = some r) (fun v => ⟨[(1, (V.sl (List.map V.i from_))), (2, (V.sl (List.map V.i to))), (3, (V.i step)), (4, (V.ptr 0 0 0)), (8, (V.ptr 1 0 0)), (10, (V.i v.1)), (11, (ovl 2 v.2))], [.rows 11 [(e_api_Ship s)], .rows 2 [(V.agg [(V.i 0), (V.i 0)])], obl 1 V.i v.2], 0, none, 79⟩) ?_ ?_
 ·rintro ⟨all, l⟩ hM
  replace hM : ref03_Order_j1 s from_ to step all l = some r := hM
  unfold ref03_Order_j1 at hM
  refine GS.seq ?_
  refine X.freezeAt (z := true) (f := V.i) (l := l) (es := 1) 11 rfl rfl rfl rfl (fun _ => rfl) (GS.region ?_)
  refine X.q rfl ?_
  refine GS.bldF rfl rfl rfl rfl ?_
  refine X.q rfl (GS.opsNil (GS.seq (X.sq ?_)))
  refine X.q rfl (GS.opsNil ?_)
  refine X.join (τ := (List (List Int))) (fun v => ref03_Order_j2 all v = some r) (fun v => ⟨[(8, (V.ptr 0 0 0)), (10, (V.i all)), (13, (V.sl (List.map (fun l => V.sl (List.map V.i l)) v)))], [.rows 2 [(V.agg [(V.i 0), (V.i 0)])]], 0, none, 79⟩) ?_ ?_
  ·intro level hM
   replace hM : ref03_Order_j2 all level = some r := hM
   unfold ref03_Order_j2 at hM
   refine GS.seq (X.sq ?_)
   refine X.q rfl ?_
   refine X.opR rfl (X.lenF rfl rfl rfl) rfl ?_
   refine X.q rfl (GS.opsNil ?_)
   refine X.cond rfl (fun h_7 => ?_) (fun h_7 => ?_)
   ·replace hM := ite_t h_7 hM
    refine X.sq ?_
    refine X.q rfl ?_
    refine X.op0W rfl rfl rfl (GS.opsNil ?_)
    cases hM
    exact GS.ret ⟨_, rfl, ⟨30, rfl⟩⟩
   replace hM := ite_f h_7 hM
   refine GS.skip (X.sq ?_)
   iterate 2 refine X.q rfl ?_
   refine X.op0W rfl rfl rfl (GS.opsNil ?_)
   cases hM
   exact GS.ret ⟨_, rfl, ⟨30, rfl⟩⟩
  intro hj_2
  refine GS.block ?_
  refine X.gc [some 0, some 1] (X.loop (σ := ((List (List Int)) × Int)) (fun v => ⟨[(1, (V.sl (List.map V.i from_))), (2, (V.sl (List.map V.i to))), (3, (V.i step)), (4, (V.ptr 0 0 0)), (8, (V.ptr 1 0 0)), (10, (V.i all)), (13, (V.sl (List.map (fun l => V.sl (List.map V.i l)) v.1))), (14, (V.i v.2))], [.rows 11 [(e_api_Ship s)], .rows 2 [(V.agg [(V.i 0), (V.i 0)])]], 0, none, 79⟩) hM ?_ rfl) rfl rfl rfl (ga rfl rfl) (gb9 rfl rfl rfl (gb9 rfl rfl rfl gb_nil))
  rintro ⟨level1, n⟩ b_1 hM hc_3 hr_1
  rw [ref03_Order_b3] at hM
  refine GS.seq (X.sq ?_)
  iterate 3 refine X.q rfl ?_
  refine GS.opsNil ?_
  refine X.cond rfl (fun h_8 => ?_) (fun h_8 => ?_)
  ·replace hM := ite_t h_8 hM
   refine GS.skip (GS.seq (GS.block ?_))
   obtain ⟨y3, h_9, hM⟩ := bind_of hM
   refine GS.region ?_
   iterate 5 refine X.q rfl ?_
   refine X.call (ok_ref03_further h_9) rfl rfl rfl (.cons (.shut (n := 9) rfl) (.cons (.shut (n := 9) rfl) (.cons (.shut (n := 9) rfl) (.cons (.shut (n := 9) rfl) (.cons (.shut (n := 9) rfl) .nil))))) ?_
   refine X.q rfl (GS.opsNil ?_)
   refine GS.endB (GS.region ?_)
   refine X.q rfl ?_
   refine X.opR rfl (X.addE rfl rfl) rfl ?_
   refine X.q rfl (GS.opsNil ?_)
   have hE := Option.some.inj hM
   exact X.gc [some 0, some 1] (hc_3 (y3, w64 (n + 1)) hE.symm) rfl rfl rfl (ga rfl rfl) (gb9 rfl rfl rfl (gb9 rfl rfl rfl gb_nil))
  replace hM := ite_f h_8 hM
  refine GS.exit rfl ?_
  obtain ⟨y_1, hM, hy⟩ := map_of hM
  rw [hr_1 _ hy.symm] at hM
  exact X.gc [some 1] (hj_2 level1 hM) rfl rfl rfl (ga rfl rfl) (gb9 rfl rfl rfl gb_nil)
 intro hj_1
 refine GS.block ?_
 refine X.gc [some 0, some 1, none] (X.loop (σ := (Int × Int × (List Int))) (fun v => ⟨[(1, (V.sl (List.map V.i from_))), (2, (V.sl (List.map V.i to))), (3, (V.i step)), (4, (V.ptr 0 0 0)), (8, (V.ptr 1 0 0)), (10, (V.i v.1)), (11, (ovl 2 v.2.2)), (12, (V.i v.2.1))], [.rows 11 [(e_api_Ship s)], .rows 2 [(V.agg [(V.i 0), (V.i 0)])], obl 1 V.i v.2.2], 0, none, 79⟩) hM ?_ rfl) rfl rfl rfl (ga rfl rfl) (gb9 rfl rfl rfl (gb9 rfl rfl rfl (gb_pad' rfl gb_nil)))
 rintro ⟨all1, i, l2⟩ b_1 hM hc_4 hr_1
 rw [ref03_Order_b4] at hM
 refine GS.seq (X.sq ?_)
 iterate 2 refine X.q rfl ?_
 refine X.opR rfl (X.lenF rfl rfl rfl) rfl ?_
 refine X.q rfl (GS.opsNil ?_)
 refine X.cond rfl (fun h_10 => ?_) (fun h_10 => ?_)
 ·replace hM := ite_t h_10 hM
  refine GS.skip (GS.seq (GS.block (GS.seq ?_)))
  obtain ⟨x, h_11, hM⟩ := bind_of hM
  obtain ⟨x1, h_12, hM⟩ := bind_of hM
  obtain ⟨y4, h_13, hM⟩ := bind_of hM
  refine X.drawc (by kernel_rfl) rfl ?_
  iterate 3 refine X.cop rfl rfl rfl rfl ?_
  refine X.cop rfl (X.indexF (f := V.i) h_11 (fun _ => rfl) rfl rfl rfl rfl) rfl rfl ?_
  refine X.cop rfl (X.loadF h_11 rfl rfl rfl) rfl rfl ?_
  iterate 2 refine X.cop rfl rfl rfl rfl ?_
  refine X.cop rfl (X.indexF (f := V.i) h_12 (fun _ => rfl) rfl rfl rfl rfl) rfl rfl ?_
  refine X.cop rfl (X.loadF h_12 rfl rfl rfl) rfl rfl ?_
  refine X.cop rfl (X.subE rfl rfl) rfl rfl ?_
  refine X.cop rfl rfl rfl rfl ?_
  refine X.ccall (ok_ref03_steps h_13) rfl rfl rfl rfl (.cons (.shut (n := 9) rfl) (.cons (.shut (n := 9) rfl) .nil)) ?_
  refine X.cop rfl (X.addE rfl rfl) rfl rfl ?_
  refine X.cop rfl rfl rfl rfl ?_
  refine X.cnil ?_
  refine X.norm [(1, (V.sl (List.map V.i from_))), (2, (V.sl (List.map V.i to))), (3, (V.i step)), (4, (V.ptr 0 0 0)), (8, (V.ptr 1 0 0)), (10, (V.i (w64 (all1 + y4)))), (11, (ovl 2 l2)), (12, (V.i i))] ?_ rfl (sr rfl)
  obtain ⟨l1, h_14, hM⟩ := bind_of hM
  refine GS.region ?_
  refine X.q rfl ?_
  refine X.opW (H' := [.rows 11 [(e_api_Ship s)], .rows 2 [(V.agg [(V.i 0), (V.i 0)])], obl 1 V.i l2, .rows 1 (List.map V.i ([0]))]) rfl rfl rfl rfl ?_
  refine X.appN (f := V.i) h_14 (fun _ => rfl) (by rfl) (by rfl) (by rfl) (by rfl) (by rfl) (by rfl) (by rfl) (by rfl) (by rfl) (by rfl) (by rfl) (by exact rfl) (by rfl) (by rfl) ?_
  refine X.q rfl (GS.opsNil ?_)
  refine GS.endB (GS.region ?_)
  refine X.q rfl ?_
  refine X.opR rfl (X.addE rfl rfl) rfl ?_
  refine X.q rfl (GS.opsNil ?_)
  have hE := Option.some.inj hM
  exact X.gc [some 0, some 1, some 4] (hc_4 (w64 (all1 + y4), w64 (i + 1), l1) hE.symm) rfl rfl rfl (gk_cons rfl ⟨9, rfl⟩ (gk_cons rfl ⟨9, rfl⟩ (gk_cons rfl ⟨9, rfl⟩ (gk_cons rfl ⟨9, rfl⟩ (gk_cons rfl ⟨9, rfl⟩ (gk_cons rfl ⟨9, rfl⟩ (gk_cons rfl (rv_ne (app_ne h_14) rfl) (ga rfl rfl)))))))) (gb9 rfl rfl rfl (gb9 rfl rfl rfl (gb_obl' 9 (app_ne h_14) rfl rfl (fun _ => rfl) gb_nil)))
 replace hM := ite_f h_10 hM
 refine GS.exit rfl ?_
 obtain ⟨y_1, hM, hy⟩ := map_of hM
 rw [hr_1 _ hy.symm] at hM
 exact X.gc [some 0, some 1, some 2] (hj_1 (all1, l2) hM) rfl rfl rfl (gk_cons rfl ⟨9, rfl⟩ (gk_cons rfl ⟨9, rfl⟩ (gk_cons rfl ⟨9, rfl⟩ (gk_cons rfl ⟨9, rfl⟩ (gk_cons rfl ⟨9, rfl⟩ (gk_cons rfl ⟨9, rfl⟩ (gk_cons rfl (rn_ovl rfl) gk_nil))))))) (gb9 rfl rfl rfl (gb9 rfl rfl rfl (gb_obl 9 rfl rfl (fun _ => rfl) gb_nil)))

set_option maxHeartbeats 4000000 in
theorem ok_law03_HullOrders {s : api_Ship} {from_ : (List Int)} {to : (List Int)} {step : Int} {drops : (List api_Drop)} {r : Bool} (hM : law03_HullOrders s from_ to step drops = some r) : Ct Tryz.prog 4 [(e_api_Ship s), (V.sl (List.map V.i from_)), (V.sl (List.map V.i to)), (V.i step), (V.sl (List.map e_api_Drop drops))] (V.b r) := by
 refine ct_of_gs CC_ok rfl ?_
 unfold law03_HullOrders at hM
 refine X.sq ?_
 refine X.opW rfl rfl rfl rfl ?_
 refine X.q rfl (GS.opsNil (GS.seq (X.sq ?_)))
 refine X.mid [(1, (V.sl (List.map V.i from_))), (2, (V.sl (List.map V.i to))), (3, (V.i step)), (4, (V.sl (List.map e_api_Drop drops))), (5, (V.ptr 0 0 0)), (39, (V.b ((((!(law03_short s (⟨[], (⟨0, 0⟩ : api_Span)⟩ : api_Load))) || (decide (20 < (from_.length : Int)))) || (decide (20 < (to.length : Int)))) || (decide (80 < (drops.length : Int))))))] ?_ ?_
 ·intro hg
  refine X.split (!(law03_short s (⟨[], (⟨0, 0⟩ : api_Span)⟩ : api_Load))) (fun h_1 => ?_) (fun h_1 => ?_)
  ·iterate 2 refine X.q rfl ?_
   refine X.call (ok_law03_short s (⟨[], (⟨0, 0⟩ : api_Span)⟩ : api_Load)) rfl rfl rfl (.cons (.shut (n := 9) rfl) (.cons (.nil (n := 9) rfl) .nil)) ?_
   iterate 2 refine X.q rfl ?_
   iterate 3 refine X.off (X.off_f rfl rfl rfl h_1) rfl ?_
   refine X.opR rfl (X.pickor_t (y := decide (20 < (from_.length : Int))) rfl h_1 rfl) rfl ?_
   refine X.q rfl ?_
   iterate 3 refine X.off (X.off_f rfl rfl rfl (X.or_tt h_1)) rfl ?_
   refine X.opR rfl (X.pickor_t (y := decide (20 < (to.length : Int))) rfl (X.or_tt h_1) rfl) rfl ?_
   refine X.q rfl ?_
   iterate 3 refine X.off (X.off_f rfl rfl rfl (X.or_tt (X.or_tt h_1))) rfl ?_
   refine X.opR rfl (X.pickor_t (y := decide (80 < (drops.length : Int))) rfl (X.or_tt (X.or_tt h_1)) rfl) rfl (GS.opsNil ?_)
   exact X.norm _ hg rfl (sr rfl)
  refine X.split (((!(law03_short s (⟨[], (⟨0, 0⟩ : api_Span)⟩ : api_Load))) || (decide (20 < (from_.length : Int))))) (fun h_2 => ?_) (fun h_2 => ?_)
  ·iterate 2 refine X.q rfl ?_
   refine X.call (ok_law03_short s (⟨[], (⟨0, 0⟩ : api_Span)⟩ : api_Load)) rfl rfl rfl (.cons (.shut (n := 9) rfl) (.cons (.nil (n := 9) rfl) .nil)) ?_
   iterate 2 refine X.q rfl ?_
   refine X.opR (X.on_f rfl rfl rfl h_1) rfl rfl ?_
   refine X.opR (X.on_f rfl rfl rfl h_1) (X.lenF rfl rfl rfl) rfl ?_
   refine X.opR (X.on_f rfl rfl rfl h_1) rfl rfl ?_
   refine X.opR rfl (X.pickor_f (y := decide (20 < (from_.length : Int))) rfl h_1 rfl) rfl ?_
   refine X.q rfl ?_
   iterate 3 refine X.off (X.off_f rfl rfl rfl h_2) rfl ?_
   refine X.opR rfl (X.pickor_t (y := decide (20 < (to.length : Int))) rfl h_2 rfl) rfl ?_
   refine X.q rfl ?_
   iterate 3 refine X.off (X.off_f rfl rfl rfl (X.or_tt h_2)) rfl ?_
   refine X.opR rfl (X.pickor_t (y := decide (80 < (drops.length : Int))) rfl (X.or_tt h_2) rfl) rfl (GS.opsNil ?_)
   exact X.norm _ hg rfl (sr rfl)
  refine X.split ((((!(law03_short s (⟨[], (⟨0, 0⟩ : api_Span)⟩ : api_Load))) || (decide (20 < (from_.length : Int)))) || (decide (20 < (to.length : Int))))) (fun h_3 => ?_) (fun h_3 => ?_)
  ·iterate 2 refine X.q rfl ?_
   refine X.call (ok_law03_short s (⟨[], (⟨0, 0⟩ : api_Span)⟩ : api_Load)) rfl rfl rfl (.cons (.shut (n := 9) rfl) (.cons (.nil (n := 9) rfl) .nil)) ?_
   iterate 2 refine X.q rfl ?_
   refine X.opR (X.on_f rfl rfl rfl h_1) rfl rfl ?_
   refine X.opR (X.on_f rfl rfl rfl h_1) (X.lenF rfl rfl rfl) rfl ?_
   refine X.opR (X.on_f rfl rfl rfl h_1) rfl rfl ?_
   refine X.opR rfl (X.pickor_f (y := decide (20 < (from_.length : Int))) rfl h_1 rfl) rfl ?_
   refine X.q rfl ?_
   refine X.opR (X.on_f rfl rfl rfl h_2) rfl rfl ?_
   refine X.opR (X.on_f rfl rfl rfl h_2) (X.lenF rfl rfl rfl) rfl ?_
   refine X.opR (X.on_f rfl rfl rfl h_2) rfl rfl ?_
   refine X.opR rfl (X.pickor_f (y := decide (20 < (to.length : Int))) rfl h_2 rfl) rfl ?_
   refine X.q rfl ?_
   iterate 3 refine X.off (X.off_f rfl rfl rfl h_3) rfl ?_
   refine X.opR rfl (X.pickor_t (y := decide (80 < (drops.length : Int))) rfl h_3 rfl) rfl (GS.opsNil ?_)
   exact X.norm _ hg rfl (sr rfl)
  iterate 2 refine X.q rfl ?_
  refine X.call (ok_law03_short s (⟨[], (⟨0, 0⟩ : api_Span)⟩ : api_Load)) rfl rfl rfl (.cons (.shut (n := 9) rfl) (.cons (.nil (n := 9) rfl) .nil)) ?_
  iterate 2 refine X.q rfl ?_
  refine X.opR (X.on_f rfl rfl rfl h_1) rfl rfl ?_
  refine X.opR (X.on_f rfl rfl rfl h_1) (X.lenF rfl rfl rfl) rfl ?_
  refine X.opR (X.on_f rfl rfl rfl h_1) rfl rfl ?_
  refine X.opR rfl (X.pickor_f (y := decide (20 < (from_.length : Int))) rfl h_1 rfl) rfl ?_
  refine X.q rfl ?_
  refine X.opR (X.on_f rfl rfl rfl h_2) rfl rfl ?_
  refine X.opR (X.on_f rfl rfl rfl h_2) (X.lenF rfl rfl rfl) rfl ?_
  refine X.opR (X.on_f rfl rfl rfl h_2) rfl rfl ?_
  refine X.opR rfl (X.pickor_f (y := decide (20 < (to.length : Int))) rfl h_2 rfl) rfl ?_
  refine X.q rfl ?_
  refine X.opR (X.on_f rfl rfl rfl h_3) rfl rfl ?_
  refine X.opR (X.on_f rfl rfl rfl h_3) (X.lenF rfl rfl rfl) rfl ?_
  refine X.opR (X.on_f rfl rfl rfl h_3) rfl rfl ?_
  refine X.opR rfl (X.pickor_f (y := decide (80 < (drops.length : Int))) rfl h_3 rfl) rfl (GS.opsNil ?_)
  exact X.norm _ hg rfl (sr rfl)
 refine X.cond rfl (fun h_4 => ?_) (fun h_4 => ?_)
 ·replace hM := ite_t h_4 hM
  refine GS.seq ?_
  obtain ⟨y, h_5, hM⟩ := bind_of hM
  refine GS.region ?_
  refine X.call (ok_law03_sanity h_5) rfl rfl rfl .nil ?_
  refine X.q rfl (GS.opsNil ?_)
  cases hM
  exact GS.ret ⟨_, rfl, ⟨30, rfl⟩⟩
 replace hM := ite_f h_4 hM
 refine GS.skip (GS.seq ?_)
 obtain ⟨y1, h_6, hM⟩ := bind_of hM
 refine GS.region ?_
 iterate 3 refine X.q rfl ?_
 refine X.call (ok_hull_CheckOrder h_6) rfl rfl rfl (.cons (.shut (n := 9) rfl) (.cons (.shut (n := 9) rfl) (.cons (.shut (n := 9) rfl) .nil))) ?_
 iterate 7 refine X.q rfl ?_
 refine GS.opsNil (GS.seq ?_)
 obtain ⟨y2, h_7, hM⟩ := bind_of hM
 refine GS.region ?_
 iterate 3 refine X.q rfl ?_
 refine X.call (ok_ref03_CheckOrder h_7) rfl rfl rfl (.cons (.shut (n := 9) rfl) (.cons (.shut (n := 9) rfl) (.cons (.shut (n := 9) rfl) .nil))) ?_
 refine X.opW rfl rfl rfl rfl ?_
 refine X.op0W rfl rfl rfl (GS.opsNil (GS.seq ?_))
 obtain ⟨y3, h_8, hM⟩ := bind_of hM
 refine GS.region ?_
 iterate 4 refine X.q rfl ?_
 refine X.call (ok_hull_Order h_8) rfl rfl rfl (.cons (.shut (n := 9) rfl) (.cons (.shut (n := 9) rfl) (.cons (.shut (n := 9) rfl) (.cons (.shut (n := 9) rfl) .nil)))) ?_
 iterate 5 refine X.q rfl ?_
 refine GS.opsNil (GS.seq ?_)
 obtain ⟨y4, h_9, hM⟩ := bind_of hM
 refine GS.region ?_
 iterate 4 refine X.q rfl ?_
 refine X.call (ok_ref03_Order h_9) rfl rfl rfl (.cons (.shut (n := 9) rfl) (.cons (.shut (n := 9) rfl) (.cons (.shut (n := 9) rfl) (.cons (.shut (n := 9) rfl) .nil)))) ?_
 refine X.opW rfl rfl rfl rfl ?_
 refine X.op0W rfl rfl rfl (GS.opsNil ?_)
 iterate 2 refine GS.seq ?_
 obtain ⟨y5, h_10, hM⟩ := bind_of hM
 refine GS.region ?_
 refine X.mid [(1, (V.sl (List.map V.i from_))), (2, (V.sl (List.map V.i to))), (3, (V.i step)), (5, (V.ptr 0 0 0)), (15, (V.sl (List.map e_api_Drop y3.1))), (16, (V.i y3.2)), (95, (V.b (((((!y5) || (!decide (y1.2.1 = y2.At))) || (!decide (y1.2.2 = y2.E))) || (!decide (y3.2 = y4.E))) || (!decide ((y3.1.length : Int) = y4.N)))))] ?_ ?_
 ·intro hg
  refine X.split (!y5) (fun h_11 => ?_) (fun h_11 => ?_)
  ·iterate 3 refine X.q rfl ?_
   refine X.call (ok_ref03_SameInts h_10) rfl rfl rfl (.cons (.shut (n := 9) rfl) (.cons (.shut (n := 9) rfl) .nil)) ?_
   iterate 2 refine X.q rfl ?_
   iterate 4 refine X.off (X.off_f rfl rfl rfl h_11) rfl ?_
   refine X.opR rfl (X.pickor_t (y := !decide (y1.2.1 = y2.At)) rfl h_11 rfl) rfl ?_
   refine X.q rfl ?_
   iterate 4 refine X.off (X.off_f rfl rfl rfl (X.or_tt h_11)) rfl ?_
   refine X.opR rfl (X.pickor_t (y := !decide (y1.2.2 = y2.E)) rfl (X.or_tt h_11) rfl) rfl ?_
   refine X.q rfl ?_
   iterate 4 refine X.off (X.off_f rfl rfl rfl (X.or_tt (X.or_tt h_11))) rfl ?_
   refine X.opR rfl (X.pickor_t (y := !decide (y3.2 = y4.E)) rfl (X.or_tt (X.or_tt h_11)) rfl) rfl ?_
   refine X.q rfl ?_
   iterate 5 refine X.off (X.off_f rfl rfl rfl (X.or_tt (X.or_tt (X.or_tt h_11)))) rfl ?_
   refine X.opR rfl (X.pickor_t (y := !decide ((y3.1.length : Int) = y4.N)) rfl (X.or_tt (X.or_tt (X.or_tt h_11))) rfl) rfl (GS.opsNil ?_)
   exact X.norm _ hg rfl (sr rfl)
  refine X.split (((!y5) || (!decide (y1.2.1 = y2.At)))) (fun h_12 => ?_) (fun h_12 => ?_)
  ·iterate 3 refine X.q rfl ?_
   refine X.call (ok_ref03_SameInts h_10) rfl rfl rfl (.cons (.shut (n := 9) rfl) (.cons (.shut (n := 9) rfl) .nil)) ?_
   iterate 2 refine X.q rfl ?_
   iterate 4 refine X.opR (X.on_f rfl rfl rfl h_11) rfl rfl ?_
   refine X.opR rfl (X.pickor_f (y := !decide (y1.2.1 = y2.At)) rfl h_11 rfl) rfl ?_
   refine X.q rfl ?_
   iterate 4 refine X.off (X.off_f rfl rfl rfl h_12) rfl ?_
   refine X.opR rfl (X.pickor_t (y := !decide (y1.2.2 = y2.E)) rfl h_12 rfl) rfl ?_
   refine X.q rfl ?_
   iterate 4 refine X.off (X.off_f rfl rfl rfl (X.or_tt h_12)) rfl ?_
   refine X.opR rfl (X.pickor_t (y := !decide (y3.2 = y4.E)) rfl (X.or_tt h_12) rfl) rfl ?_
   refine X.q rfl ?_
   iterate 5 refine X.off (X.off_f rfl rfl rfl (X.or_tt (X.or_tt h_12))) rfl ?_
   refine X.opR rfl (X.pickor_t (y := !decide ((y3.1.length : Int) = y4.N)) rfl (X.or_tt (X.or_tt h_12)) rfl) rfl (GS.opsNil ?_)
   exact X.norm _ hg rfl (sr rfl)
  refine X.split ((((!y5) || (!decide (y1.2.1 = y2.At))) || (!decide (y1.2.2 = y2.E)))) (fun h_13 => ?_) (fun h_13 => ?_)
  ·iterate 3 refine X.q rfl ?_
   refine X.call (ok_ref03_SameInts h_10) rfl rfl rfl (.cons (.shut (n := 9) rfl) (.cons (.shut (n := 9) rfl) .nil)) ?_
   iterate 2 refine X.q rfl ?_
   iterate 4 refine X.opR (X.on_f rfl rfl rfl h_11) rfl rfl ?_
   refine X.opR rfl (X.pickor_f (y := !decide (y1.2.1 = y2.At)) rfl h_11 rfl) rfl ?_
   refine X.q rfl ?_
   iterate 4 refine X.opR (X.on_f rfl rfl rfl h_12) rfl rfl ?_
   refine X.opR rfl (X.pickor_f (y := !decide (y1.2.2 = y2.E)) rfl h_12 rfl) rfl ?_
   refine X.q rfl ?_
   iterate 4 refine X.off (X.off_f rfl rfl rfl h_13) rfl ?_
   refine X.opR rfl (X.pickor_t (y := !decide (y3.2 = y4.E)) rfl h_13 rfl) rfl ?_
   refine X.q rfl ?_
   iterate 5 refine X.off (X.off_f rfl rfl rfl (X.or_tt h_13)) rfl ?_
   refine X.opR rfl (X.pickor_t (y := !decide ((y3.1.length : Int) = y4.N)) rfl (X.or_tt h_13) rfl) rfl (GS.opsNil ?_)
   exact X.norm _ hg rfl (sr rfl)
  refine X.split (((((!y5) || (!decide (y1.2.1 = y2.At))) || (!decide (y1.2.2 = y2.E))) || (!decide (y3.2 = y4.E)))) (fun h_14 => ?_) (fun h_14 => ?_)
  ·iterate 3 refine X.q rfl ?_
   refine X.call (ok_ref03_SameInts h_10) rfl rfl rfl (.cons (.shut (n := 9) rfl) (.cons (.shut (n := 9) rfl) .nil)) ?_
   iterate 2 refine X.q rfl ?_
   iterate 4 refine X.opR (X.on_f rfl rfl rfl h_11) rfl rfl ?_
   refine X.opR rfl (X.pickor_f (y := !decide (y1.2.1 = y2.At)) rfl h_11 rfl) rfl ?_
   refine X.q rfl ?_
   iterate 4 refine X.opR (X.on_f rfl rfl rfl h_12) rfl rfl ?_
   refine X.opR rfl (X.pickor_f (y := !decide (y1.2.2 = y2.E)) rfl h_12 rfl) rfl ?_
   refine X.q rfl ?_
   iterate 4 refine X.opR (X.on_f rfl rfl rfl h_13) rfl rfl ?_
   refine X.opR rfl (X.pickor_f (y := !decide (y3.2 = y4.E)) rfl h_13 rfl) rfl ?_
   refine X.q rfl ?_
   iterate 5 refine X.off (X.off_f rfl rfl rfl h_14) rfl ?_
   refine X.opR rfl (X.pickor_t (y := !decide ((y3.1.length : Int) = y4.N)) rfl h_14 rfl) rfl (GS.opsNil ?_)
   exact X.norm _ hg rfl (sr rfl)
  iterate 3 refine X.q rfl ?_
  refine X.call (ok_ref03_SameInts h_10) rfl rfl rfl (.cons (.shut (n := 9) rfl) (.cons (.shut (n := 9) rfl) .nil)) ?_
  iterate 2 refine X.q rfl ?_
  iterate 4 refine X.opR (X.on_f rfl rfl rfl h_11) rfl rfl ?_
  refine X.opR rfl (X.pickor_f (y := !decide (y1.2.1 = y2.At)) rfl h_11 rfl) rfl ?_
  refine X.q rfl ?_
  iterate 4 refine X.opR (X.on_f rfl rfl rfl h_12) rfl rfl ?_
  refine X.opR rfl (X.pickor_f (y := !decide (y1.2.2 = y2.E)) rfl h_12 rfl) rfl ?_
  refine X.q rfl ?_
  iterate 4 refine X.opR (X.on_f rfl rfl rfl h_13) rfl rfl ?_
  refine X.opR rfl (X.pickor_f (y := !decide (y3.2 = y4.E)) rfl h_13 rfl) rfl ?_
  refine X.q rfl ?_
  refine X.opR (X.on_f rfl rfl rfl h_14) rfl rfl ?_
  refine X.opR (X.on_f rfl rfl rfl h_14) (X.lenF rfl rfl rfl) rfl ?_
  iterate 3 refine X.opR (X.on_f rfl rfl rfl h_14) rfl rfl ?_
  refine X.opR rfl (X.pickor_f (y := !decide ((y3.1.length : Int) = y4.N)) rfl h_14 rfl) rfl (GS.opsNil ?_)
  exact X.norm _ hg rfl (sr rfl)
 refine X.cond rfl (fun h_15 => ?_) (fun h_15 => ?_)
 ·replace hM := ite_t h_15 hM
  refine X.sq ?_
  refine X.q rfl (GS.opsNil ?_)
  cases hM
  exact GS.ret ⟨_, rfl, ⟨30, rfl⟩⟩
 replace hM := ite_f h_15 hM
 refine GS.skip (GS.seq (X.sq ?_))
 iterate 2 refine X.q rfl ?_
 refine GS.opsNil ?_
 refine X.cond rfl (fun h_16 => ?_) (fun h_16 => ?_)
 ·replace hM := ite_t h_16 hM
  refine GS.seq ?_
  obtain ⟨y6, h_17, hM⟩ := bind_of hM
  refine GS.region ?_
  refine X.call (ok_law03_sanity h_17) rfl rfl rfl .nil ?_
  refine X.q rfl (GS.opsNil ?_)
  cases hM
  exact GS.ret ⟨_, rfl, ⟨30, rfl⟩⟩
 replace hM := ite_f h_16 hM
 refine GS.skip (GS.seq (X.sq ?_))
 refine X.q rfl ?_
 refine X.opR rfl (X.lenF rfl rfl rfl) rfl ?_
 refine X.q rfl (GS.opsNil ?_)
 refine X.join (τ := Unit) (fun v => law03_HullOrders_j1 s from_ to y3 = some r) (fun v => ⟨[(1, (V.sl (List.map V.i from_))), (2, (V.sl (List.map V.i to))), (5, (V.ptr 0 0 0)), (15, (V.sl (List.map e_api_Drop y3.1)))], [.rows 11 [(e_api_Ship s)]], 0, none, 131⟩) ?_ ?_
 ·intro _ hM
  replace hM : law03_HullOrders_j1 s from_ to y3 = some r := hM
  unfold law03_HullOrders_j1 at hM
  refine GS.seq ?_
  obtain ⟨y7, h_18, hM⟩ := bind_of hM
  refine GS.region ?_
  iterate 3 refine X.q rfl ?_
  refine X.call (ok_ref03_CheckOrder h_18) rfl rfl rfl (.cons (.shut (n := 9) rfl) (.cons (.shut (n := 9) rfl) (.cons (.shut (n := 9) rfl) .nil))) ?_
  refine X.opW rfl rfl rfl rfl ?_
  refine X.op0W rfl rfl rfl (GS.opsNil (GS.seq ?_))
  obtain ⟨y8, h_19, hM⟩ := bind_of hM
  obtain ⟨y9, h_20, hM⟩ := gb_of hM
  refine GS.region ?_
  refine X.mid [(10, (V.b (((y8 && (decide (y7.E = 0))) && (decide (y7.At = (-1)))) && y9)))] ?_ ?_
  ·intro hg
   refine X.split (y8) (fun h_21 => ?_) (fun h_21 => ?_)
   ·refine X.split ((y8 && (decide (y7.E = 0)))) (fun h_22 => ?_) (fun h_22 => ?_)
    ·refine X.split (((y8 && (decide (y7.E = 0))) && (decide (y7.At = (-1))))) (fun h_23 => ?_) (fun h_23 => ?_)
     ·refine X.call (ok_law03_sanity h_19) rfl rfl rfl .nil ?_
      refine X.q rfl ?_
      iterate 3 refine X.opR (X.on_t rfl rfl rfl h_21) rfl rfl ?_
      refine X.opR rfl (X.pickand_t (y := decide (y7.E = 0)) rfl h_21 rfl) rfl ?_
      refine X.q rfl ?_
      iterate 3 refine X.opR (X.on_t rfl rfl rfl h_22) rfl rfl ?_
      refine X.opR rfl (X.pickand_t (y := decide (y7.At = (-1))) rfl h_22 rfl) rfl ?_
      refine X.q rfl ?_
      iterate 3 refine X.opR (X.on_t rfl rfl rfl h_23) rfl rfl ?_
      refine X.call (ok_ref03_SameInts (h_20 h_23)) (X.on_t rfl rfl rfl h_23) rfl rfl (.cons (.shut (n := 9) rfl) (.cons (.shut (n := 9) rfl) .nil)) ?_
      refine X.opR rfl (X.pickand_t (y := y9) rfl h_23 rfl) rfl ?_
      refine X.q rfl (GS.opsNil ?_)
      exact X.norm _ hg rfl (sr rfl)
     refine X.call (ok_law03_sanity h_19) rfl rfl rfl .nil ?_
     refine X.q rfl ?_
     iterate 3 refine X.opR (X.on_t rfl rfl rfl h_21) rfl rfl ?_
     refine X.opR rfl (X.pickand_t (y := decide (y7.E = 0)) rfl h_21 rfl) rfl ?_
     refine X.q rfl ?_
     iterate 3 refine X.opR (X.on_t rfl rfl rfl h_22) rfl rfl ?_
     refine X.opR rfl (X.pickand_t (y := decide (y7.At = (-1))) rfl h_22 rfl) rfl ?_
     refine X.q rfl ?_
     iterate 4 refine X.off (X.off_t rfl rfl rfl h_23) rfl ?_
     refine X.opR rfl (X.pickand_f (y := y9) rfl h_23 rfl) rfl ?_
     refine X.q rfl (GS.opsNil ?_)
     exact X.norm _ hg rfl (sr rfl)
    refine X.call (ok_law03_sanity h_19) rfl rfl rfl .nil ?_
    refine X.q rfl ?_
    iterate 3 refine X.opR (X.on_t rfl rfl rfl h_21) rfl rfl ?_
    refine X.opR rfl (X.pickand_t (y := decide (y7.E = 0)) rfl h_21 rfl) rfl ?_
    refine X.q rfl ?_
    iterate 3 refine X.off (X.off_t rfl rfl rfl h_22) rfl ?_
    refine X.opR rfl (X.pickand_f (y := decide (y7.At = (-1))) rfl h_22 rfl) rfl ?_
    refine X.q rfl ?_
    iterate 4 refine X.off (X.off_t rfl rfl rfl (X.and_ff h_22)) rfl ?_
    refine X.opR rfl (X.pickand_f (y := y9) rfl (X.and_ff h_22) rfl) rfl ?_
    refine X.q rfl (GS.opsNil ?_)
    exact X.norm _ hg rfl (sr rfl)
   refine X.call (ok_law03_sanity h_19) rfl rfl rfl .nil ?_
   refine X.q rfl ?_
   iterate 3 refine X.off (X.off_t rfl rfl rfl h_21) rfl ?_
   refine X.opR rfl (X.pickand_f (y := decide (y7.E = 0)) rfl h_21 rfl) rfl ?_
   refine X.q rfl ?_
   iterate 3 refine X.off (X.off_t rfl rfl rfl (X.and_ff h_21)) rfl ?_
   refine X.opR rfl (X.pickand_f (y := decide (y7.At = (-1))) rfl (X.and_ff h_21) rfl) rfl ?_
   refine X.q rfl ?_
   iterate 4 refine X.off (X.off_t rfl rfl rfl (X.and_ff (X.and_ff h_21))) rfl ?_
   refine X.opR rfl (X.pickand_f (y := y9) rfl (X.and_ff (X.and_ff h_21)) rfl) rfl ?_
   refine X.q rfl (GS.opsNil ?_)
   exact X.norm _ hg rfl (sr rfl)
  cases hM
  exact GS.ret ⟨_, rfl, ⟨30, rfl⟩⟩
 intro hj_1
 refine GS.block ?_
 refine X.gc [some 0] (X.loop (σ := Int) (fun v => ⟨[(1, (V.sl (List.map V.i from_))), (2, (V.sl (List.map V.i to))), (3, (V.i step)), (5, (V.ptr 0 0 0)), (15, (V.sl (List.map e_api_Drop y3.1))), (99, (V.sl (List.map e_api_Drop y3.1))), (100, (V.i (y3.1.length : Int))), (101, (V.i v))], [.rows 11 [(e_api_Ship s)]], 0, none, 131⟩) hM ?_ rfl) rfl rfl rfl (ga rfl rfl) (gb9 rfl rfl rfl gb_nil)
 intro x1 b_1 hM hc_2 hr_1
 rw [law03_HullOrders_b2] at hM
 refine X.sq ?_
 refine X.q rfl (GS.opsNil (GS.seq ?_))
 refine X.cond rfl (fun h_24 => ?_) (fun h_24 => ?_)
 ·replace hM := ite_t h_24 hM
  refine GS.skip (GS.seq (GS.block (GS.seq ?_)))
  obtain ⟨x, h_25, hM⟩ := bind_of hM
  refine GS.region ?_
  refine X.opR rfl (X.indexF (f := e_api_Drop) h_25 (fun _ => rfl) rfl rfl rfl rfl) rfl ?_
  refine X.opR rfl (X.loadF h_25 rfl rfl rfl) rfl ?_
  refine X.opW rfl rfl rfl rfl ?_
  refine X.op0W rfl rfl rfl (X.nq ?_)
  iterate 4 refine X.q rfl ?_
  refine GS.opsNil ?_
  refine X.cond rfl (fun h_26 => ?_) (fun h_26 => ?_)
  ·replace hM := ite_t h_26 hM
   refine X.sq ?_
   refine X.q rfl (GS.opsNil ?_)
   have hE := Option.some.inj hM
   replace hE := hr_1 _ hE.symm
   subst hE
   exact GS.ret ⟨_, rfl, ⟨30, rfl⟩⟩
  replace hM := ite_f h_26 hM
  refine GS.skip ?_
  refine GS.endB (GS.region ?_)
  refine X.opR rfl (X.addE rfl rfl) rfl ?_
  refine X.q rfl (GS.opsNil ?_)
  have hE := Option.some.inj hM
  exact X.gc [some 0] (hc_2 (w64 (x1 + 1)) hE.symm) rfl rfl rfl (ga rfl rfl) (gb9 rfl rfl rfl gb_nil)
 replace hM := ite_f h_24 hM
 refine GS.exit rfl ?_
 obtain ⟨y_1, hM, hy⟩ := map_of hM
 rw [hr_1 _ hy.symm] at hM
 exact X.gc [some 0] (hj_1 () hM) rfl rfl rfl (ga rfl rfl) (gb9 rfl rfl rfl gb_nil)

end Go.Proofs.YthfnbjoecocfaaaGreat
