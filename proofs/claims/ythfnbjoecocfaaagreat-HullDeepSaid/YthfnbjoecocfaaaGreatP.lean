/- The program's functions compute the plain ones. Conditions: none. Printed by a program (wip/tools/xg.py). -/
import Derived.Test.YthfnbjoecocfaaaGreatP2
set_option linter.unusedVariables false
set_option linter.unusedSimpArgs false
namespace Go.Proofs.YthfnbjoecocfaaaGreat
open Go Go.Am Go.Proofs Go.Mx

theorem ok_ref03_moment {s : api_Ship} {x : (List Int)} {r : Int} (hM : ref03_moment s x = some r) : Ct Tryz.prog 48 [(e_api_Ship s), (V.sl (List.map V.i x))] (V.i r) := by
 refine ct_of_gs CC_ok rfl ?_
 unfold ref03_moment at hM
 refine X.sq ?_
 refine X.opW rfl rfl rfl rfl ?_
 refine X.q rfl ?_
 refine GS.opsNil ?_
 refine GS.seq ?_
 obtain ⟨y, h_1, hM⟩ := bind_of hM
 obtain ⟨y1, h_2, hM⟩ := bind_of hM
 refine X.drawc (by kernel_rfl) rfl ?_
 iterate 4 refine X.cop rfl rfl rfl rfl ?_
 refine X.cop rfl (X.mulE rfl rfl) rfl rfl ?_
 refine X.cop rfl rfl rfl rfl ?_
 refine X.ccall (ok_ref03_levers h_1) rfl rfl rfl rfl (.cons (.shut (n := 9) rfl) (.cons (.shut (n := 9) rfl) .nil)) ?_
 refine X.cop rfl rfl rfl rfl ?_
 refine X.ccall (ok_ref03_value h_2) rfl rfl rfl rfl (.cons (.shut (n := 9) rfl) (.cons (.shut (n := 9) rfl) .nil)) ?_
 refine X.cop rfl (X.addE rfl rfl) rfl rfl ?_
 refine X.cop rfl rfl rfl rfl ?_
 refine X.cnil ?_
 refine X.norm [(4, (V.i (w64 ((w64 (s.Light * s.Lever)) + y1))))] ?_ rfl (sr rfl)
 have hE := Option.some.inj hM
 subst hE
 exact GS.ret ⟨_, rfl, ⟨30, rfl⟩⟩

theorem ok_ref03_floor {a : Int} {b : Int} {r : Int} (hM : ref03_floor a b = some r) : Ct Tryz.prog 133 [(V.i a), (V.i b)] (V.i r) := by
 refine ct_of_gs CC_ok rfl ?_
 unfold ref03_floor at hM
 refine X.sq ?_
 refine X.q rfl ?_
 refine GS.opsNil ?_
 refine GS.seq ?_
 obtain ⟨q, h_1, hM⟩ := bind_of hM
 refine GS.region ?_
 iterate 2 refine X.q rfl ?_
 refine X.opR rfl (X.quoE h_1 rfl rfl) rfl ?_
 refine X.q rfl ?_
 refine GS.opsNil ?_
 iterate 2 refine GS.seq ?_
 obtain ⟨q1, h_2, hM⟩ := bind_of hM
 refine GS.region ?_
 iterate 2 refine X.q rfl ?_
 refine X.opR rfl (X.remE h_2 rfl rfl) rfl ?_
 refine X.q rfl ?_
 refine GS.opsNil ?_
 refine X.join (τ := Int) (fun v => ref03_floor_j1 v = some r) (fun v => ⟨[(5, (V.i v))], [], 0, none, 16⟩) ?_ ?_
 ·intro q2 hM
  replace hM : ref03_floor_j1 q2 = some r := hM
  unfold ref03_floor_j1 at hM
  refine X.sq ?_
  iterate 2 refine X.q rfl ?_
  refine GS.opsNil ?_
  have hE := Option.some.inj hM
  subst hE
  exact GS.ret ⟨_, rfl, ⟨30, rfl⟩⟩
 intro hj_1
 refine X.cond rfl (fun h_3 => ?_) (fun h_3 => ?_)
 ·replace hM := ite_t h_3 hM
  refine GS.region ?_
  refine X.q rfl ?_
  refine X.opR rfl (X.subE rfl rfl) rfl ?_
  refine X.q rfl ?_
  refine GS.opsNil ?_
  exact X.gc [] (hj_1 (w64 (q - 1)) hM) rfl rfl rfl (ga rfl rfl) (gb_nil)
 replace hM := ite_f h_3 hM
 refine GS.skip ?_
 exact X.gc [] (hj_1 q hM) rfl rfl rfl (ga rfl rfl) (gb_nil)

theorem ok_ref03_ends {num : Int} {den : Int} {err : Int} {r : api_Span} (hM : ref03_ends num den err = some r) : Ct Tryz.prog 111 [(V.i num), (V.i den), (V.i err)] (e_api_Span r) := by
 refine ct_of_gs CC_ok rfl ?_
 unfold ref03_ends at hM
 refine X.sq ?_
 refine X.opW rfl rfl rfl rfl ?_
 refine GS.opsNil ?_
 refine GS.seq ?_
 obtain ⟨y, h_1, hM⟩ := bind_of hM
 obtain ⟨y1, h_2, hM⟩ := bind_of hM
 refine GS.region ?_
 iterate 3 refine X.q rfl ?_
 refine X.opR rfl (X.mulE rfl rfl) rfl ?_
 refine X.opR rfl (X.subE rfl rfl) rfl ?_
 refine X.q rfl ?_
 refine X.call (ok_ref03_floor h_1) rfl rfl rfl (.cons (.shut (n := 9) rfl) (.cons (.shut (n := 9) rfl) .nil)) ?_
 refine X.q rfl ?_
 refine X.opR rfl (X.negE rfl) rfl ?_
 iterate 2 refine X.q rfl ?_
 refine X.opR rfl (X.mulE rfl rfl) rfl ?_
 refine X.opR rfl (X.subE rfl rfl) rfl ?_
 refine X.q rfl ?_
 refine X.call (ok_ref03_floor h_2) rfl rfl rfl (.cons (.shut (n := 9) rfl) (.cons (.shut (n := 9) rfl) .nil)) ?_
 refine X.opR rfl (X.negE rfl) rfl ?_
 refine X.q rfl ?_
 refine X.op0W rfl rfl rfl ?_
 refine GS.opsNil ?_
 have hE := Option.some.inj hM
 subst hE
 exact GS.ret ⟨_, rfl, ⟨30, rfl⟩⟩

theorem ok_ref03_afloat {s : api_Ship} {x : (List Int)} {r : api_Draughts} (hM : ref03_afloat s x = some r) : Ct Tryz.prog 63 [(e_api_Ship s), (V.sl (List.map V.i x))] (e_api_Draughts r) := by
 refine ct_of_gs CC_ok rfl ?_
 unfold ref03_afloat at hM
 refine X.sq ?_
 iterate 2 refine X.opW rfl rfl rfl rfl ?_
 refine GS.opsNil ?_
 refine GS.seq ?_
 obtain ⟨y, h_1, hM⟩ := bind_of hM
 obtain ⟨y1, h_2, hM⟩ := bind_of hM
 refine X.draw (by kernel_rfl) ?_
 iterate 4 refine X.dop rfl rfl rfl rfl (by kernel_rfl) rfl rfl ?_
 refine X.dcall (ok_ref03_displacement h_1) rfl rfl rfl (by kernel_rfl) rfl (.cons (.shut (n := 9) rfl) (.cons (.shut (n := 9) rfl) .nil)) ?_
 refine X.dcall (ok_ref03_at h_2) rfl rfl rfl (by kernel_rfl) rfl (.cons (.shut (n := 9) rfl) (.cons (.shut (n := 9) rfl) .nil)) ?_
 refine X.dop rfl rfl rfl rfl (by kernel_rfl) rfl rfl ?_
 refine X.dop0 rfl rfl rfl rfl (by kernel_rfl) rfl ?_
 refine X.dnil ?_
 refine X.norm [(1, (V.sl (List.map V.i x))), (2, (V.ptr 0 0 0)), (4, (V.ptr 1 0 0)), (5, (V.ptr 2 0 0))] ?_ rfl (sr rfl)
 refine GS.seq ?_
 obtain ⟨y2, h_3, hM⟩ := bind_of hM
 refine GS.region ?_
 iterate 2 refine X.q rfl ?_
 refine X.call (ok_ref03_moment h_3) rfl rfl rfl (.cons (.shut (n := 9) rfl) (.cons (.shut (n := 9) rfl) .nil)) ?_
 refine X.q rfl ?_
 refine X.nq ?_
 iterate 2 refine X.q rfl ?_
 refine X.opR rfl (X.mulE rfl rfl) rfl ?_
 iterate 2 refine X.q rfl ?_
 refine X.opR rfl (X.mulE rfl rfl) rfl ?_
 refine X.q rfl ?_
 refine GS.opsNil ?_
 refine GS.seq ?_
 obtain ⟨y3, h_4, hM⟩ := bind_of hM
 obtain ⟨y4, h_5, hM⟩ := bind_of hM
 refine X.draw (by kernel_rfl) ?_
 iterate 2 refine X.dop rfl rfl rfl rfl (by kernel_rfl) rfl rfl ?_
 refine X.dop rfl (X.mulE rfl rfl) rfl rfl (by kernel_rfl) rfl rfl ?_
 iterate 2 refine X.dop rfl rfl rfl rfl (by kernel_rfl) rfl rfl ?_
 refine X.dop rfl (X.mulE rfl rfl) rfl rfl (by kernel_rfl) rfl rfl ?_
 iterate 3 refine X.dop rfl rfl rfl rfl (by kernel_rfl) rfl rfl ?_
 refine X.dop rfl (X.mulE rfl rfl) rfl rfl (by kernel_rfl) rfl rfl ?_
 refine X.dop rfl (X.addE rfl rfl) rfl rfl (by kernel_rfl) rfl rfl ?_
 iterate 4 refine X.dop rfl rfl rfl rfl (by kernel_rfl) rfl rfl ?_
 refine X.dcall (ok_ref03_ends h_4) rfl rfl rfl (by kernel_rfl) rfl (.cons (.shut (n := 9) rfl) (.cons (.shut (n := 9) rfl) (.cons (.shut (n := 9) rfl) .nil))) ?_
 iterate 2 refine X.dop rfl rfl rfl rfl (by kernel_rfl) rfl rfl ?_
 refine X.dop rfl (X.mulE rfl rfl) rfl rfl (by kernel_rfl) rfl rfl ?_
 iterate 2 refine X.dop rfl rfl rfl rfl (by kernel_rfl) rfl rfl ?_
 refine X.dop rfl (X.mulE rfl rfl) rfl rfl (by kernel_rfl) rfl rfl ?_
 iterate 3 refine X.dop rfl rfl rfl rfl (by kernel_rfl) rfl rfl ?_
 refine X.dop rfl (X.mulE rfl rfl) rfl rfl (by kernel_rfl) rfl rfl ?_
 refine X.dop rfl (X.subE rfl rfl) rfl rfl (by kernel_rfl) rfl rfl ?_
 iterate 4 refine X.dop rfl rfl rfl rfl (by kernel_rfl) rfl rfl ?_
 refine X.dcall (ok_ref03_ends h_5) rfl rfl rfl (by kernel_rfl) rfl (.cons (.shut (n := 9) rfl) (.cons (.shut (n := 9) rfl) (.cons (.shut (n := 9) rfl) .nil))) ?_
 refine X.dop rfl rfl rfl rfl (by kernel_rfl) rfl rfl ?_
 refine X.dop0 rfl rfl rfl rfl (by kernel_rfl) rfl ?_
 refine X.dnil ?_
 refine X.norm [(4, (V.ptr 1 0 0))] ?_ rfl (sr rfl)
 have hE := Option.some.inj hM
 subst hE
 exact GS.ret ⟨_, rfl, ⟨30, rfl⟩⟩

theorem ok_ref03_deep {s : api_Ship} {x : (List Int)} {r : Int} (hM : ref03_deep s x = some r) : Ct Tryz.prog 79 [(e_api_Ship s), (V.sl (List.map V.i x))] (V.i r) := by
 refine ct_of_gs CC_ok rfl ?_
 unfold ref03_deep at hM
 refine X.sq ?_
 refine X.opW rfl rfl rfl rfl ?_
 refine X.q rfl ?_
 refine GS.opsNil ?_
 refine GS.seq ?_
 obtain ⟨y, h_1, hM⟩ := bind_of hM
 refine GS.region ?_
 iterate 2 refine X.q rfl ?_
 refine X.call (ok_ref03_afloat h_1) rfl rfl rfl (.cons (.shut (n := 9) rfl) (.cons (.shut (n := 9) rfl) .nil)) ?_
 refine X.opW rfl rfl rfl rfl ?_
 refine X.op0W rfl rfl rfl ?_
 refine X.nq ?_
 iterate 6 refine X.q rfl ?_
 refine X.opR rfl (X.maxE rfl rfl) rfl ?_
 refine X.q rfl ?_
 refine GS.opsNil ?_
 have hE := Option.some.inj hM
 subst hE
 exact GS.ret ⟨_, rfl, ⟨30, rfl⟩⟩

theorem ok_ref03_Deepest {s : api_Ship} {l : api_Load} {r : ref03_Number} (hM : ref03_Deepest s l = some r) : Ct Tryz.prog 27 [(e_api_Ship s), (e_api_Load l)] (e_ref03_Number r) := by
 refine ct_of_gs CC_ok rfl ?_
 unfold ref03_Deepest at hM
 refine X.sq ?_
 iterate 3 refine X.opW rfl rfl rfl rfl ?_
 refine GS.opsNil ?_
 refine GS.seq ?_
 obtain ⟨y, h_1, hM⟩ := bind_of hM
 refine GS.region ?_
 iterate 2 refine X.q rfl ?_
 refine X.call (ok_ref03_CheckLoad h_1) rfl rfl rfl (.cons (.shut (n := 9) rfl) (.cons (.shut (n := 9) rfl) .nil)) ?_
 refine X.q rfl ?_
 refine GS.opsNil ?_
 refine GS.seq ?_
 refine X.sq ?_
 iterate 2 refine X.q rfl ?_
 refine GS.opsNil ?_
 refine X.cond rfl (fun h_2 => ?_) (fun h_2 => ?_)
 ·replace hM := ite_t h_2 hM
  refine X.sq ?_
  iterate 2 refine X.q rfl ?_
  refine X.op0W rfl rfl rfl ?_
  refine GS.opsNil ?_
  have hE := Option.some.inj hM
  subst hE
  exact GS.ret ⟨_, rfl, ⟨30, rfl⟩⟩
 replace hM := ite_f h_2 hM
 refine GS.skip ?_
 refine GS.seq ?_
 obtain ⟨y1, h_3, hM⟩ := bind_of hM
 refine GS.region ?_
 refine X.q rfl ?_
 refine X.call (ok_ref03_totals h_3) rfl rfl rfl (.cons (.shut (n := 9) rfl) .nil) ?_
 refine X.opW (H' := [.rows 11 [(e_api_Ship s)], .rows 3 [(e_api_Load l)], .rows 2 [(V.agg [(V.i 0), (V.i 0)])], .rows 2 [(V.agg [(V.i 0), (V.i 0)])]]) rfl rfl rfl rfl ?_
 refine X.op0W (H' := [.rows 11 [(e_api_Ship s)], .rows 3 [(e_api_Load l)], .rows 2 [(V.agg [(V.i 0), (V.i 0)])], .rows 2 [(e_api_Span y1)]]) rfl rfl rfl ?_
 refine GS.opsNil ?_
 refine GS.seq ?_
 obtain ⟨y2, h_4, hM⟩ := bind_of hM
 obtain ⟨y3, h_5, hM⟩ := bind_of hM
 obtain ⟨y4, h_6, hM⟩ := bind_of hM
 refine X.drawc (by kernel_rfl) rfl ?_
 iterate 4 refine X.cop rfl rfl rfl rfl ?_
 refine X.ccall (ok_ref03_levers h_4) rfl rfl rfl rfl (.cons (.shut (n := 9) rfl) (.cons (.shut (n := 9) rfl) .nil)) ?_
 iterate 2 refine X.cop rfl rfl rfl rfl ?_
 refine X.ccall (ok_ref03_Fill h_5) rfl rfl rfl rfl (.cons (.shut (n := 9) rfl) (.cons (.shut (n := 9) rfl) (.cons (.shut (n := 9) rfl) .nil))) ?_
 refine X.ccall (ok_ref03_deep h_6) rfl rfl rfl rfl (.cons (.shut (n := 9) rfl) (.cons (.shut (n := 9) rfl) .nil)) ?_
 refine X.cop rfl rfl rfl rfl ?_
 refine X.cnil ?_
 refine X.norm [(2, (V.ptr 0 0 0)), (3, (V.ptr 1 0 0)), (4, (V.ptr 2 0 0)), (6, (V.ptr 3 0 0)), (7, (V.i y4))] ?_ rfl (sr rfl)
 refine GS.seq ?_
 refine X.sq ?_
 iterate 3 refine X.q rfl ?_
 refine GS.opsNil ?_
 refine X.join (τ := Int) (fun v => ref03_Deepest_j1 v = some r) (fun v => ⟨[(4, (V.ptr 0 0 0)), (7, (V.i v))], [.rows 2 [(V.agg [(V.i 0), (V.i 0)])]], 0, none, 55⟩) ?_ ?_
 ·intro best hM
  replace hM : ref03_Deepest_j1 best = some r := hM
  unfold ref03_Deepest_j1 at hM
  refine X.sq ?_
  iterate 2 refine X.q rfl ?_
  refine X.op0W rfl rfl rfl ?_
  refine GS.opsNil ?_
  have hE := Option.some.inj hM
  subst hE
  exact GS.ret ⟨_, rfl, ⟨30, rfl⟩⟩
 intro hj_1
 refine GS.block ?_
 refine X.gc [some 0, some 1, some 2, some 3] (X.loop (σ := (Int × Int)) (fun v => ⟨[(2, (V.ptr 0 0 0)), (3, (V.ptr 1 0 0)), (4, (V.ptr 2 0 0)), (6, (V.ptr 3 0 0)), (7, (V.i v.1)), (8, (V.i v.2))], [.rows 11 [(e_api_Ship s)], .rows 3 [(e_api_Load l)], .rows 2 [(V.agg [(V.i 0), (V.i 0)])], .rows 2 [(e_api_Span y1)]], 0, none, 55⟩) hM ?_ rfl) rfl rfl rfl (ga rfl rfl) (gb9 rfl rfl rfl (gb9 rfl rfl rfl (gb9 rfl rfl rfl (gb9 rfl rfl rfl gb_nil))))
 rintro ⟨best1, n⟩ b_1 hM hc_2 hr_1
 rw [ref03_Deepest_b2] at hM
 refine GS.seq ?_
 refine X.sq ?_
 iterate 4 refine X.q rfl ?_
 refine GS.opsNil ?_
 refine X.cond rfl (fun h_7 => ?_) (fun h_7 => ?_)
 ·replace hM := ite_t h_7 hM
  refine GS.skip ?_
  refine GS.seq ?_
  refine GS.block ?_
  obtain ⟨y5, h_8, hM⟩ := bind_of hM
  obtain ⟨y6, h_9, hM⟩ := bind_of hM
  obtain ⟨y7, h_10, hM⟩ := bind_of hM
  obtain ⟨y8, h_11, hM⟩ := bind_of hM
  obtain ⟨y9, h_12, hM⟩ := bind_of hM
  obtain ⟨y10, h_13, hM⟩ := bind_of hM
  refine X.drawc (by kernel_rfl) rfl ?_
  iterate 5 refine X.cop rfl rfl rfl rfl ?_
  refine X.ccall (ok_ref03_levers h_8) rfl rfl rfl rfl (.cons (.shut (n := 9) rfl) (.cons (.shut (n := 9) rfl) .nil)) ?_
  refine X.cop rfl rfl rfl rfl ?_
  refine X.ccall (ok_ref03_Fill h_9) rfl rfl rfl rfl (.cons (.shut (n := 9) rfl) (.cons (.shut (n := 9) rfl) (.cons (.shut (n := 9) rfl) .nil))) ?_
  refine X.ccall (ok_ref03_deep h_10) rfl rfl rfl rfl (.cons (.shut (n := 9) rfl) (.cons (.shut (n := 9) rfl) .nil)) ?_
  iterate 4 refine X.cop rfl rfl rfl rfl ?_
  refine X.ccall (ok_ref03_levers h_11) rfl rfl rfl rfl (.cons (.shut (n := 9) rfl) (.cons (.shut (n := 9) rfl) .nil)) ?_
  refine X.cop rfl rfl rfl rfl ?_
  refine X.ccall (ok_ref03_Fill h_12) rfl rfl rfl rfl (.cons (.shut (n := 9) rfl) (.cons (.shut (n := 9) rfl) (.cons (.shut (n := 9) rfl) .nil))) ?_
  refine X.ccall (ok_ref03_deep h_13) rfl rfl rfl rfl (.cons (.shut (n := 9) rfl) (.cons (.shut (n := 9) rfl) .nil)) ?_
  refine X.cop rfl (X.max3E rfl rfl rfl) rfl rfl ?_
  refine X.cop rfl rfl rfl rfl ?_
  refine X.cnil ?_
  refine X.norm [(2, (V.ptr 0 0 0)), (3, (V.ptr 1 0 0)), (4, (V.ptr 2 0 0)), (6, (V.ptr 3 0 0)), (7, (V.i (max (max best1 y7) y10))), (8, (V.i n))] ?_ rfl (sr rfl)
  refine GS.endB ?_
  refine GS.region ?_
  refine X.q rfl ?_
  refine X.opR rfl (X.addE rfl rfl) rfl ?_
  refine X.q rfl ?_
  refine GS.opsNil ?_
  have hE := Option.some.inj hM
  exact X.gc [some 0, some 1, some 2, some 3] (hc_2 (max (max best1 y7) y10, w64 (n + 1)) hE.symm) rfl rfl rfl (ga rfl rfl) (gb9 rfl rfl rfl (gb9 rfl rfl rfl (gb9 rfl rfl rfl (gb9 rfl rfl rfl gb_nil))))
 replace hM := ite_f h_7 hM
 refine GS.exit rfl ?_
 obtain ⟨y_1, hM, hy⟩ := map_of hM
 rw [hr_1 _ hy.symm] at hM
 exact X.gc [some 2] (hj_1 best1 hM) rfl rfl rfl (ga rfl rfl) (gb9 rfl rfl rfl gb_nil)

theorem ok_hull_Clear {s : api_Ship} {l : api_Load} {depth : Int} {keel : Int} {r : Bool × Int} (hM : hull_Clear s l depth keel = some r) : Ct Tryz.prog 28 [(e_api_Ship s), (e_api_Load l), (V.i depth), (V.i keel)] (V.tup [(V.b r.1), (V.i r.2)]) := by
 refine ct_of_gs CC_ok rfl ?_
 unfold hull_Clear at hM
 refine X.sq ?_
 iterate 2 refine X.opW rfl rfl rfl rfl ?_
 iterate 2 refine X.q rfl ?_
 refine GS.opsNil ?_
 refine GS.seq ?_
 obtain ⟨y, h_1, hM⟩ := bind_of hM
 refine GS.region ?_
 iterate 2 refine X.q rfl ?_
 refine X.call (ok_hull_Deepest h_1) rfl rfl rfl (.cons (.shut (n := 9) rfl) (.cons (.shut (n := 9) rfl) .nil)) ?_
 iterate 7 refine X.q rfl ?_
 refine GS.opsNil ?_
 refine GS.seq ?_
 refine X.sq ?_
 iterate 2 refine X.q rfl ?_
 refine GS.opsNil ?_
 refine X.cond rfl (fun h_2 => ?_) (fun h_2 => ?_)
 ·replace hM := ite_t h_2 hM
  refine X.sq ?_
  iterate 3 refine X.q rfl ?_
  refine GS.opsNil ?_
  have hE := Option.some.inj hM
  subst hE
  exact GS.ret ⟨_, rfl, ⟨30, rfl⟩⟩
 replace hM := ite_f h_2 hM
 refine GS.skip ?_
 refine GS.seq ?_
 refine X.sq ?_
 refine X.mid [(2, (V.i depth)), (3, (V.i keel)), (10, (V.i y.1)), (30, (V.b ((!(hull_within depth 0 65536)) || (!(hull_within keel 0 5000)))))] ?_ ?_
 ·intro hg
  refine X.split (!(hull_within depth 0 65536)) (fun h_3 => ?_) (fun h_3 => ?_)
  ·refine X.q rfl ?_
   refine X.call (ok_hull_within depth 0 65536) rfl rfl rfl (.cons (.shut (n := 9) rfl) (.cons (.shut (n := 9) rfl) (.cons (.shut (n := 9) rfl) .nil))) ?_
   iterate 2 refine X.q rfl ?_
   iterate 3 refine X.off (X.off_f rfl rfl rfl h_3) rfl ?_
   refine X.opR rfl (X.pickor_t (y := !(hull_within keel 0 5000)) rfl h_3 rfl) rfl ?_
   refine GS.opsNil ?_
   exact X.norm _ hg rfl (sr rfl)
  refine X.q rfl ?_
  refine X.call (ok_hull_within depth 0 65536) rfl rfl rfl (.cons (.shut (n := 9) rfl) (.cons (.shut (n := 9) rfl) (.cons (.shut (n := 9) rfl) .nil))) ?_
  iterate 2 refine X.q rfl ?_
  refine X.opR (X.on_f rfl rfl rfl h_3) rfl rfl ?_
  refine X.call (ok_hull_within keel 0 5000) (X.on_f rfl rfl rfl h_3) rfl rfl (.cons (.shut (n := 9) rfl) (.cons (.shut (n := 9) rfl) (.cons (.shut (n := 9) rfl) .nil))) ?_
  refine X.opR (X.on_f rfl rfl rfl h_3) rfl rfl ?_
  refine X.opR rfl (X.pickor_f (y := !(hull_within keel 0 5000)) rfl h_3 rfl) rfl ?_
  refine GS.opsNil ?_
  exact X.norm _ hg rfl (sr rfl)
 refine X.cond rfl (fun h_4 => ?_) (fun h_4 => ?_)
 ·replace hM := ite_t h_4 hM
  refine X.sq ?_
  iterate 2 refine X.q rfl ?_
  refine GS.opsNil ?_
  have hE := Option.some.inj hM
  subst hE
  exact GS.ret ⟨_, rfl, ⟨30, rfl⟩⟩
 replace hM := ite_f h_4 hM
 refine GS.skip ?_
 refine X.sq ?_
 iterate 2 refine X.q rfl ?_
 refine X.opR rfl (X.addE rfl rfl) rfl ?_
 iterate 4 refine X.q rfl ?_
 refine GS.opsNil ?_
 have hE := Option.some.inj hM
 subst hE
 exact GS.ret ⟨_, rfl, ⟨30, rfl⟩⟩

theorem ok_ref03_Clear {s : api_Ship} {l : api_Load} {depth : Int} {keel : Int} {r : Bool × Int} (hM : ref03_Clear s l depth keel = some r) : Ct Tryz.prog 29 [(e_api_Ship s), (e_api_Load l), (V.i depth), (V.i keel)] (V.tup [(V.b r.1), (V.i r.2)]) := by
 refine ct_of_gs CC_ok rfl ?_
 unfold ref03_Clear at hM
 refine X.sq ?_
 iterate 2 refine X.opW rfl rfl rfl rfl ?_
 iterate 2 refine X.q rfl ?_
 refine GS.opsNil ?_
 refine GS.seq ?_
 obtain ⟨y, h_1, hM⟩ := bind_of hM
 refine GS.region ?_
 iterate 2 refine X.q rfl ?_
 refine X.call (ok_ref03_Deepest h_1) rfl rfl rfl (.cons (.shut (n := 9) rfl) (.cons (.shut (n := 9) rfl) .nil)) ?_
 refine X.opW rfl rfl rfl rfl ?_
 refine X.op0W rfl rfl rfl ?_
 refine GS.opsNil ?_
 refine GS.seq ?_
 refine X.sq ?_
 iterate 3 refine X.q rfl ?_
 refine GS.opsNil ?_
 refine X.cond rfl (fun h_2 => ?_) (fun h_2 => ?_)
 ·replace hM := ite_t h_2 hM
  refine GS.seq ?_
  refine X.drawc (by kernel_rfl) rfl ?_
  iterate 4 refine X.cop rfl rfl rfl rfl ?_
  refine X.cnil ?_
  refine X.norm [(8, (V.b false)), (9, (V.i y.E))] ?_ rfl (sr rfl)
  have hE := Option.some.inj hM
  subst hE
  exact GS.ret ⟨_, rfl, ⟨30, rfl⟩⟩
 replace hM := ite_f h_2 hM
 refine GS.skip ?_
 refine GS.seq ?_
 refine X.sq ?_
 refine X.mid [(2, (V.i depth)), (3, (V.i keel)), (10, (V.ptr 2 0 0)), (26, (V.b ((!(ref03_in depth 0 65536)) || (!(ref03_in keel 0 5000)))))] ?_ ?_
 ·intro hg
  refine X.split (!(ref03_in depth 0 65536)) (fun h_3 => ?_) (fun h_3 => ?_)
  ·refine X.q rfl ?_
   refine X.call (ok_ref03_in depth 0 65536) rfl rfl rfl (.cons (.shut (n := 9) rfl) (.cons (.shut (n := 9) rfl) (.cons (.shut (n := 9) rfl) .nil))) ?_
   iterate 2 refine X.q rfl ?_
   iterate 3 refine X.off (X.off_f rfl rfl rfl h_3) rfl ?_
   refine X.opR rfl (X.pickor_t (y := !(ref03_in keel 0 5000)) rfl h_3 rfl) rfl ?_
   refine GS.opsNil ?_
   exact X.norm _ hg rfl (sr rfl)
  refine X.q rfl ?_
  refine X.call (ok_ref03_in depth 0 65536) rfl rfl rfl (.cons (.shut (n := 9) rfl) (.cons (.shut (n := 9) rfl) (.cons (.shut (n := 9) rfl) .nil))) ?_
  iterate 2 refine X.q rfl ?_
  refine X.opR (X.on_f rfl rfl rfl h_3) rfl rfl ?_
  refine X.call (ok_ref03_in keel 0 5000) (X.on_f rfl rfl rfl h_3) rfl rfl (.cons (.shut (n := 9) rfl) (.cons (.shut (n := 9) rfl) (.cons (.shut (n := 9) rfl) .nil))) ?_
  refine X.opR (X.on_f rfl rfl rfl h_3) rfl rfl ?_
  refine X.opR rfl (X.pickor_f (y := !(ref03_in keel 0 5000)) rfl h_3 rfl) rfl ?_
  refine GS.opsNil ?_
  exact X.norm _ hg rfl (sr rfl)
 refine X.cond rfl (fun h_4 => ?_) (fun h_4 => ?_)
 ·replace hM := ite_t h_4 hM
  refine X.sq ?_
  iterate 2 refine X.q rfl ?_
  refine GS.opsNil ?_
  have hE := Option.some.inj hM
  subst hE
  exact GS.ret ⟨_, rfl, ⟨30, rfl⟩⟩
 replace hM := ite_f h_4 hM
 refine GS.skip ?_
 refine X.sq ?_
 iterate 3 refine X.q rfl ?_
 refine X.opR rfl (X.addE rfl rfl) rfl ?_
 iterate 4 refine X.q rfl ?_
 refine GS.opsNil ?_
 have hE := Option.some.inj hM
 subst hE
 exact GS.ret ⟨_, rfl, ⟨30, rfl⟩⟩

theorem ok_ref03_fits {l : api_Load} {x : (List Int)} {r : Bool} (hM : ref03_fits l x = some r) : Ct Tryz.prog 82 [(e_api_Load l), (V.sl (List.map V.i x))] (V.b r) := by
 refine ct_of_gs CC_ok rfl ?_
 unfold ref03_fits at hM
 refine X.sq ?_
 refine X.opW rfl rfl rfl rfl ?_
 refine X.q rfl ?_
 refine GS.opsNil ?_
 refine GS.seq ?_
 refine X.sq ?_
 refine X.q rfl ?_
 refine X.opR rfl (X.lenF rfl rfl rfl) rfl ?_
 iterate 2 refine X.q rfl ?_
 refine X.opR rfl (X.lenF rfl rfl rfl) rfl ?_
 refine X.q rfl ?_
 refine GS.opsNil ?_
 refine X.cond rfl (fun h_1 => ?_) (fun h_1 => ?_)
 ·replace hM := ite_t h_1 hM
  refine X.sq ?_
  refine X.q rfl ?_
  refine GS.opsNil ?_
  have hE := Option.some.inj hM
  subst hE
  exact GS.ret ⟨_, rfl, ⟨30, rfl⟩⟩
 replace hM := ite_f h_1 hM
 refine GS.skip ?_
 refine GS.seq ?_
 refine X.sq ?_
 refine X.q rfl ?_
 refine GS.opsNil ?_
 refine X.join (τ := Unit) (fun v => ref03_fits_j1 l x = some r) (fun v => ⟨[(1, (V.sl (List.map V.i x))), (2, (V.ptr 0 0 0))], [.rows 3 [(e_api_Load l)]], 0, none, 45⟩) ?_ ?_
 ·intro _ hM
  replace hM : ref03_fits_j1 l x = some r := hM
  unfold ref03_fits_j1 at hM
  refine GS.seq ?_
  obtain ⟨y, h_2, hM⟩ := bind_of hM
  refine X.drawc (by kernel_rfl) rfl ?_
  refine X.cop rfl rfl rfl rfl ?_
  refine X.ccall (ok_ref03_total h_2) rfl rfl rfl rfl (.cons (.shut (n := 9) rfl) .nil) ?_
  iterate 6 refine X.cop rfl rfl rfl rfl ?_
  refine X.ccall (ok_ref03_in y l.All.Lo l.All.Hi) rfl rfl rfl rfl (.cons (.shut (n := 9) rfl) (.cons (.shut (n := 9) rfl) (.cons (.shut (n := 9) rfl) .nil))) ?_
  refine X.cop rfl rfl rfl rfl ?_
  refine X.cnil ?_
  refine X.norm [(4, (V.b (ref03_in y l.All.Lo l.All.Hi)))] ?_ rfl (sr rfl)
  have hE := Option.some.inj hM
  subst hE
  exact GS.ret ⟨_, rfl, ⟨30, rfl⟩⟩
 intro hj_1
 refine GS.block ?_
 refine X.gc [some 0] (X.loop (σ := Int) (fun v => ⟨[(1, (V.sl (List.map V.i x))), (2, (V.ptr 0 0 0)), (5, (V.i v))], [.rows 3 [(e_api_Load l)]], 0, none, 45⟩) hM ?_ rfl) rfl rfl rfl (ga rfl rfl) (gb9 rfl rfl rfl gb_nil)
 intro i b_1 hM hc_2 hr_1
 rw [ref03_fits_b2] at hM
 refine GS.seq ?_
 refine X.sq ?_
 iterate 2 refine X.q rfl ?_
 refine X.opR rfl (X.lenF rfl rfl rfl) rfl ?_
 refine X.q rfl ?_
 refine GS.opsNil ?_
 refine X.cond rfl (fun h_3 => ?_) (fun h_3 => ?_)
 ·replace hM := ite_t h_3 hM
  refine GS.skip ?_
  refine GS.seq ?_
  refine GS.block ?_
  refine GS.seq ?_
  obtain ⟨x1, h_4, hM⟩ := bind_of hM
  obtain ⟨x2, h_5, hM⟩ := bind_of hM
  obtain ⟨x3, h_6, hM⟩ := bind_of hM
  refine X.drawc (by kernel_rfl) rfl ?_
  iterate 2 refine X.cop rfl rfl rfl rfl ?_
  refine X.cop rfl (X.indexF (f := V.i) h_4 (fun _ => rfl) rfl rfl rfl rfl) rfl rfl ?_
  refine X.cop rfl (X.loadF h_4 rfl rfl rfl) rfl rfl ?_
  iterate 3 refine X.cop rfl rfl rfl rfl ?_
  refine X.cop rfl (X.indexF (f := e_api_Span) h_5 (fun _ => rfl) rfl rfl rfl rfl) rfl rfl ?_
  refine X.cop rfl rfl rfl rfl ?_
  refine X.cop rfl (X.loadF h_5 rfl rfl rfl) rfl rfl ?_
  iterate 3 refine X.cop rfl rfl rfl rfl ?_
  refine X.cop rfl (X.indexF (f := e_api_Span) h_6 (fun _ => rfl) rfl rfl rfl rfl) rfl rfl ?_
  refine X.cop rfl rfl rfl rfl ?_
  refine X.cop rfl (X.loadF h_6 rfl rfl rfl) rfl rfl ?_
  refine X.ccall (ok_ref03_in x1 x2.Lo x3.Hi) rfl rfl rfl rfl (.cons (.shut (n := 9) rfl) (.cons (.shut (n := 9) rfl) (.cons (.shut (n := 9) rfl) .nil))) ?_
  refine X.cop rfl rfl rfl rfl ?_
  refine X.cnil ?_
  refine X.norm [(1, (V.sl (List.map V.i x))), (2, (V.ptr 0 0 0)), (5, (V.i i)), (35, (V.b (!(ref03_in x1 x2.Lo x3.Hi))))] ?_ rfl (sr rfl)
  refine X.cond rfl (fun h_7 => ?_) (fun h_7 => ?_)
  ·replace hM := ite_t h_7 hM
   refine X.sq ?_
   refine X.q rfl ?_
   refine GS.opsNil ?_
   have hE := Option.some.inj hM
   replace hE := hr_1 _ hE.symm
   subst hE
   exact GS.ret ⟨_, rfl, ⟨30, rfl⟩⟩
  replace hM := ite_f h_7 hM
  refine GS.skip ?_
  refine GS.endB ?_
  refine GS.region ?_
  refine X.q rfl ?_
  refine X.opR rfl (X.addE rfl rfl) rfl ?_
  refine X.q rfl ?_
  refine GS.opsNil ?_
  have hE := Option.some.inj hM
  exact X.gc [some 0] (hc_2 (w64 (i + 1)) hE.symm) rfl rfl rfl (ga rfl rfl) (gb9 rfl rfl rfl gb_nil)
 replace hM := ite_f h_3 hM
 refine GS.exit rfl ?_
 obtain ⟨y_1, hM, hy⟩ := map_of hM
 rw [hr_1 _ hy.symm] at hM
 exact X.gc [some 0] (hj_1 () hM) rfl rfl rfl (ga rfl rfl) (gb9 rfl rfl rfl gb_nil)

theorem ok_ref03_Lies {s : api_Ship} {l : api_Load} {x : (List Int)} {n : Int} {r : Bool} (hM : ref03_Lies s l x n = some r) : Ct Tryz.prog 30 [(e_api_Ship s), (e_api_Load l), (V.sl (List.map V.i x)), (V.i n)] (V.b r) := by
 refine ct_of_gs CC_ok rfl ?_
 unfold ref03_Lies at hM
 refine X.sq ?_
 iterate 2 refine X.opW rfl rfl rfl rfl ?_
 refine X.q rfl ?_
 refine GS.opsNil ?_
 refine GS.seq ?_
 obtain ⟨y, h_1, hM⟩ := bind_of hM
 refine GS.region ?_
 iterate 2 refine X.q rfl ?_
 refine X.call (ok_ref03_fits h_1) rfl rfl rfl (.cons (.shut (n := 9) rfl) (.cons (.shut (n := 9) rfl) .nil)) ?_
 refine X.q rfl ?_
 refine GS.opsNil ?_
 refine GS.seq ?_
 obtain ⟨y1, h_2, hM⟩ := gb_of hM
 refine GS.region ?_
 refine X.mid [(8, (V.b (y && (decide (y1 = n)))))] ?_ ?_
 ·intro hg
  refine X.split (y) (fun h_3 => ?_) (fun h_3 => ?_)
  ·iterate 2 refine X.q rfl ?_
   iterate 2 refine X.opR (X.on_t rfl rfl rfl h_3) rfl rfl ?_
   refine X.call (ok_ref03_deep (h_2 h_3)) (X.on_t rfl rfl rfl h_3) rfl rfl (.cons (.shut (n := 9) rfl) (.cons (.shut (n := 9) rfl) .nil)) ?_
   iterate 2 refine X.opR (X.on_t rfl rfl rfl h_3) rfl rfl ?_
   refine X.opR rfl (X.pickand_t (y := decide (y1 = n)) rfl h_3 rfl) rfl ?_
   refine X.q rfl ?_
   refine GS.opsNil ?_
   exact X.norm _ hg rfl (sr rfl)
  iterate 2 refine X.q rfl ?_
  iterate 5 refine X.off (X.off_t rfl rfl rfl h_3) rfl ?_
  refine X.opR rfl (X.pickand_f (y := decide (y1 = n)) rfl h_3 rfl) rfl ?_
  refine X.q rfl ?_
  refine GS.opsNil ?_
  exact X.norm _ hg rfl (sr rfl)
 have hE := Option.some.inj hM
 subst hE
 exact GS.ret ⟨_, rfl, ⟨30, rfl⟩⟩

set_option maxHeartbeats 4000000 in
theorem ok_law03_HullDeep {s : api_Ship} {l : api_Load} {depth : Int} {keel : Int} {r : Bool} (hM : law03_HullDeep s l depth keel = some r) : Ct Tryz.prog 5 [(e_api_Ship s), (e_api_Load l), (V.i depth), (V.i keel)] (V.b r) := by
 refine ct_of_gs CC_ok rfl ?_
 unfold law03_HullDeep at hM
 refine X.sq ?_
 iterate 2 refine X.opW rfl rfl rfl rfl ?_
 refine X.q rfl ?_
 refine GS.opsNil ?_
 refine GS.seq ?_
 refine X.sq ?_
 iterate 2 refine X.q rfl ?_
 refine X.call (ok_law03_short s l) rfl rfl rfl (.cons (.shut (n := 9) rfl) (.cons (.shut (n := 9) rfl) .nil)) ?_
 refine X.q rfl ?_
 refine GS.opsNil ?_
 refine X.cond rfl (fun h_1 => ?_) (fun h_1 => ?_)
 ·replace hM := ite_t h_1 hM
  refine GS.seq ?_
  obtain ⟨y, h_2, hM⟩ := bind_of hM
  refine GS.region ?_
  refine X.call (ok_law03_sanity h_2) rfl rfl rfl .nil ?_
  refine X.q rfl ?_
  refine GS.opsNil ?_
  have hE := Option.some.inj hM
  subst hE
  exact GS.ret ⟨_, rfl, ⟨30, rfl⟩⟩
 replace hM := ite_f h_1 hM
 refine GS.skip ?_
 refine GS.seq ?_
 obtain ⟨y1, h_3, hM⟩ := bind_of hM
 refine GS.region ?_
 iterate 2 refine X.q rfl ?_
 refine X.call (ok_hull_Deepest h_3) rfl rfl rfl (.cons (.shut (n := 9) rfl) (.cons (.shut (n := 9) rfl) .nil)) ?_
 iterate 7 refine X.q rfl ?_
 refine GS.opsNil ?_
 refine GS.seq ?_
 obtain ⟨y2, h_4, hM⟩ := bind_of hM
 refine GS.region ?_
 iterate 2 refine X.q rfl ?_
 refine X.call (ok_ref03_Deepest h_4) rfl rfl rfl (.cons (.shut (n := 9) rfl) (.cons (.shut (n := 9) rfl) .nil)) ?_
 refine X.opW rfl rfl rfl rfl ?_
 refine X.op0W rfl rfl rfl ?_
 refine GS.opsNil ?_
 refine GS.seq ?_
 obtain ⟨y3, h_5, hM⟩ := bind_of hM
 refine GS.region ?_
 iterate 4 refine X.q rfl ?_
 refine X.call (ok_hull_Clear h_5) rfl rfl rfl (.cons (.shut (n := 9) rfl) (.cons (.shut (n := 9) rfl) (.cons (.shut (n := 9) rfl) (.cons (.shut (n := 9) rfl) .nil)))) ?_
 iterate 5 refine X.q rfl ?_
 refine GS.opsNil ?_
 refine GS.seq ?_
 obtain ⟨y4, h_6, hM⟩ := bind_of hM
 refine GS.region ?_
 iterate 4 refine X.q rfl ?_
 refine X.call (ok_ref03_Clear h_6) rfl rfl rfl (.cons (.shut (n := 9) rfl) (.cons (.shut (n := 9) rfl) (.cons (.shut (n := 9) rfl) (.cons (.shut (n := 9) rfl) .nil)))) ?_
 iterate 5 refine X.q rfl ?_
 refine GS.opsNil ?_
 refine GS.seq ?_
 refine X.sq ?_
 refine X.mid [(4, (V.ptr 0 0 0)), (5, (V.ptr 1 0 0)), (9, (V.i y1.1)), (10, (V.sl (List.map V.i y1.2.1))), (11, (V.i y1.2.2)), (67, (V.b ((((!decide (y1.1 = y2.N)) || (!decide (y1.2.2 = y2.E))) || (!(y3.1 == y4.1))) || (!decide (y3.2 = y4.2)))))] ?_ ?_
 ·intro hg
  refine X.split (!decide (y1.1 = y2.N)) (fun h_7 => ?_) (fun h_7 => ?_)
  ·iterate 5 refine X.q rfl ?_
   iterate 4 refine X.off (X.off_f rfl rfl rfl h_7) rfl ?_
   refine X.opR rfl (X.pickor_t (y := !decide (y1.2.2 = y2.E)) rfl h_7 rfl) rfl ?_
   refine X.q rfl ?_
   iterate 3 refine X.off (X.off_f rfl rfl rfl (X.or_tt h_7)) rfl ?_
   refine X.opR rfl (X.pickor_t (y := !(y3.1 == y4.1)) rfl (X.or_tt h_7) rfl) rfl ?_
   refine X.q rfl ?_
   iterate 3 refine X.off (X.off_f rfl rfl rfl (X.or_tt (X.or_tt h_7))) rfl ?_
   refine X.opR rfl (X.pickor_t (y := !decide (y3.2 = y4.2)) rfl (X.or_tt (X.or_tt h_7)) rfl) rfl ?_
   refine GS.opsNil ?_
   exact X.norm _ hg rfl (sr rfl)
  refine X.split (((!decide (y1.1 = y2.N)) || (!decide (y1.2.2 = y2.E)))) (fun h_8 => ?_) (fun h_8 => ?_)
  ·iterate 5 refine X.q rfl ?_
   iterate 4 refine X.opR (X.on_f rfl rfl rfl h_7) rfl rfl ?_
   refine X.opR rfl (X.pickor_f (y := !decide (y1.2.2 = y2.E)) rfl h_7 rfl) rfl ?_
   refine X.q rfl ?_
   iterate 3 refine X.off (X.off_f rfl rfl rfl h_8) rfl ?_
   refine X.opR rfl (X.pickor_t (y := !(y3.1 == y4.1)) rfl h_8 rfl) rfl ?_
   refine X.q rfl ?_
   iterate 3 refine X.off (X.off_f rfl rfl rfl (X.or_tt h_8)) rfl ?_
   refine X.opR rfl (X.pickor_t (y := !decide (y3.2 = y4.2)) rfl (X.or_tt h_8) rfl) rfl ?_
   refine GS.opsNil ?_
   exact X.norm _ hg rfl (sr rfl)
  refine X.split ((((!decide (y1.1 = y2.N)) || (!decide (y1.2.2 = y2.E))) || (!(y3.1 == y4.1)))) (fun h_9 => ?_) (fun h_9 => ?_)
  ·iterate 5 refine X.q rfl ?_
   iterate 4 refine X.opR (X.on_f rfl rfl rfl h_7) rfl rfl ?_
   refine X.opR rfl (X.pickor_f (y := !decide (y1.2.2 = y2.E)) rfl h_7 rfl) rfl ?_
   refine X.q rfl ?_
   iterate 3 refine X.opR (X.on_f rfl rfl rfl h_8) rfl rfl ?_
   refine X.opR rfl (X.pickor_f (y := !(y3.1 == y4.1)) rfl h_8 rfl) rfl ?_
   refine X.q rfl ?_
   iterate 3 refine X.off (X.off_f rfl rfl rfl h_9) rfl ?_
   refine X.opR rfl (X.pickor_t (y := !decide (y3.2 = y4.2)) rfl h_9 rfl) rfl ?_
   refine GS.opsNil ?_
   exact X.norm _ hg rfl (sr rfl)
  iterate 5 refine X.q rfl ?_
  iterate 4 refine X.opR (X.on_f rfl rfl rfl h_7) rfl rfl ?_
  refine X.opR rfl (X.pickor_f (y := !decide (y1.2.2 = y2.E)) rfl h_7 rfl) rfl ?_
  refine X.q rfl ?_
  iterate 3 refine X.opR (X.on_f rfl rfl rfl h_8) rfl rfl ?_
  refine X.opR rfl (X.pickor_f (y := !(y3.1 == y4.1)) rfl h_8 rfl) rfl ?_
  refine X.q rfl ?_
  iterate 3 refine X.opR (X.on_f rfl rfl rfl h_9) rfl rfl ?_
  refine X.opR rfl (X.pickor_f (y := !decide (y3.2 = y4.2)) rfl h_9 rfl) rfl ?_
  refine GS.opsNil ?_
  exact X.norm _ hg rfl (sr rfl)
 refine X.cond rfl (fun h_10 => ?_) (fun h_10 => ?_)
 ·replace hM := ite_t h_10 hM
  refine X.sq ?_
  refine X.q rfl ?_
  refine GS.opsNil ?_
  have hE := Option.some.inj hM
  subst hE
  exact GS.ret ⟨_, rfl, ⟨30, rfl⟩⟩
 replace hM := ite_f h_10 hM
 refine GS.skip ?_
 refine GS.seq ?_
 obtain ⟨y5, h_11, hM⟩ := bind_of hM
 obtain ⟨y6, h_12, hM⟩ := gb_of hM
 refine GS.region ?_
 refine X.mid [(8, (V.b (y5 && (((!decide (y1.2.2 = 0)) && (decide ((y1.2.1.length : Int) = 0))) || ((decide (y1.2.2 = 0)) && y6)))))] ?_ ?_
 ·intro hg
  refine X.split (y5) (fun h_13 => ?_) (fun h_13 => ?_)
  ·refine X.split (!decide (y1.2.2 = 0)) (fun h_14 => ?_) (fun h_14 => ?_)
   ·refine X.split (((!decide (y1.2.2 = 0)) && (decide ((y1.2.1.length : Int) = 0)))) (fun h_15 => ?_) (fun h_15 => ?_)
    ·refine X.call (ok_law03_sanity h_11) rfl rfl rfl .nil ?_
     refine X.q rfl ?_
     iterate 3 refine X.opR (X.on_t rfl rfl rfl h_13) rfl rfl ?_
     refine X.opR (X.on_t rfl rfl rfl h_14) rfl rfl ?_
     refine X.opR (X.on_t rfl rfl rfl h_14) (X.lenF rfl rfl rfl) rfl ?_
     refine X.opR (X.on_t rfl rfl rfl h_14) rfl rfl ?_
     refine X.opR (X.on_t rfl rfl rfl h_13) (X.pickand_t (y := decide ((y1.2.1.length : Int) = 0)) rfl h_14 rfl) rfl ?_
     refine X.opR (X.on_t rfl rfl rfl h_13) rfl rfl ?_
     iterate 3 refine X.off (X.off_f rfl rfl rfl h_15) rfl ?_
     iterate 5 refine X.off rfl rfl ?_
     refine X.off (X.off_f rfl rfl rfl h_15) rfl ?_
     refine X.opR (X.on_t rfl rfl rfl h_13) (X.pickor_t (y := ((decide (y1.2.2 = 0)) && y6)) rfl h_15 rfl) rfl ?_
     refine X.opR rfl (X.pickand_t (y := (((!decide (y1.2.2 = 0)) && (decide ((y1.2.1.length : Int) = 0))) || ((decide (y1.2.2 = 0)) && y6))) rfl h_13 rfl) rfl ?_
     refine X.q rfl ?_
     refine GS.opsNil ?_
     exact X.norm _ hg rfl (sr rfl)
    refine X.split (decide (y1.2.2 = 0)) (fun h_16 => ?_) (fun h_16 => ?_)
    ·refine X.call (ok_law03_sanity h_11) rfl rfl rfl .nil ?_
     refine X.q rfl ?_
     iterate 3 refine X.opR (X.on_t rfl rfl rfl h_13) rfl rfl ?_
     refine X.opR (X.on_t rfl rfl rfl h_14) rfl rfl ?_
     refine X.opR (X.on_t rfl rfl rfl h_14) (X.lenF rfl rfl rfl) rfl ?_
     refine X.opR (X.on_t rfl rfl rfl h_14) rfl rfl ?_
     refine X.opR (X.on_t rfl rfl rfl h_13) (X.pickand_t (y := decide ((y1.2.1.length : Int) = 0)) rfl h_14 rfl) rfl ?_
     refine X.opR (X.on_t rfl rfl rfl h_13) rfl rfl ?_
     iterate 3 refine X.opR (X.on_f rfl rfl rfl h_15) rfl rfl ?_
     iterate 4 refine X.opR (X.on_t rfl rfl rfl h_16) rfl rfl ?_
     refine X.call (ok_ref03_Lies (h_12 (X.and_tt (X.and_tt h_13 (X.nt h_15)) h_16))) (X.on_t rfl rfl rfl h_16) rfl rfl (.cons (.shut (n := 9) rfl) (.cons (.shut (n := 9) rfl) (.cons (.shut (n := 9) rfl) (.cons (.shut (n := 9) rfl) .nil)))) ?_
     refine X.opR (X.on_f rfl rfl rfl h_15) (X.pickand_t (y := y6) rfl h_16 rfl) rfl ?_
     refine X.opR (X.on_t rfl rfl rfl h_13) (X.pickor_f (y := ((decide (y1.2.2 = 0)) && y6)) rfl h_15 rfl) rfl ?_
     refine X.opR rfl (X.pickand_t (y := (((!decide (y1.2.2 = 0)) && (decide ((y1.2.1.length : Int) = 0))) || ((decide (y1.2.2 = 0)) && y6))) rfl h_13 rfl) rfl ?_
     refine X.q rfl ?_
     refine GS.opsNil ?_
     exact X.norm _ hg rfl (sr rfl)
    refine X.call (ok_law03_sanity h_11) rfl rfl rfl .nil ?_
    refine X.q rfl ?_
    iterate 3 refine X.opR (X.on_t rfl rfl rfl h_13) rfl rfl ?_
    refine X.opR (X.on_t rfl rfl rfl h_14) rfl rfl ?_
    refine X.opR (X.on_t rfl rfl rfl h_14) (X.lenF rfl rfl rfl) rfl ?_
    refine X.opR (X.on_t rfl rfl rfl h_14) rfl rfl ?_
    refine X.opR (X.on_t rfl rfl rfl h_13) (X.pickand_t (y := decide ((y1.2.1.length : Int) = 0)) rfl h_14 rfl) rfl ?_
    refine X.opR (X.on_t rfl rfl rfl h_13) rfl rfl ?_
    iterate 3 refine X.opR (X.on_f rfl rfl rfl h_15) rfl rfl ?_
    iterate 5 refine X.off (X.off_t rfl rfl rfl h_16) rfl ?_
    refine X.opR (X.on_f rfl rfl rfl h_15) (X.pickand_f (y := y6) rfl h_16 rfl) rfl ?_
    refine X.opR (X.on_t rfl rfl rfl h_13) (X.pickor_f (y := ((decide (y1.2.2 = 0)) && y6)) rfl h_15 rfl) rfl ?_
    refine X.opR rfl (X.pickand_t (y := (((!decide (y1.2.2 = 0)) && (decide ((y1.2.1.length : Int) = 0))) || ((decide (y1.2.2 = 0)) && y6))) rfl h_13 rfl) rfl ?_
    refine X.q rfl ?_
    refine GS.opsNil ?_
    exact X.norm _ hg rfl (sr rfl)
   refine X.split (decide (y1.2.2 = 0)) (fun h_17 => ?_) (fun h_17 => ?_)
   ·refine X.call (ok_law03_sanity h_11) rfl rfl rfl .nil ?_
    refine X.q rfl ?_
    iterate 3 refine X.opR (X.on_t rfl rfl rfl h_13) rfl rfl ?_
    iterate 3 refine X.off (X.off_t rfl rfl rfl h_14) rfl ?_
    refine X.opR (X.on_t rfl rfl rfl h_13) (X.pickand_f (y := decide ((y1.2.1.length : Int) = 0)) rfl h_14 rfl) rfl ?_
    refine X.opR (X.on_t rfl rfl rfl h_13) rfl rfl ?_
    iterate 3 refine X.opR (X.on_f rfl rfl rfl (X.and_ff h_14)) rfl rfl ?_
    iterate 4 refine X.opR (X.on_t rfl rfl rfl h_17) rfl rfl ?_
    refine X.call (ok_ref03_Lies (h_12 (X.and_tt (X.and_tt h_13 (X.nt (X.and_ff h_14))) h_17))) (X.on_t rfl rfl rfl h_17) rfl rfl (.cons (.shut (n := 9) rfl) (.cons (.shut (n := 9) rfl) (.cons (.shut (n := 9) rfl) (.cons (.shut (n := 9) rfl) .nil)))) ?_
    refine X.opR (X.on_f rfl rfl rfl (X.and_ff h_14)) (X.pickand_t (y := y6) rfl h_17 rfl) rfl ?_
    refine X.opR (X.on_t rfl rfl rfl h_13) (X.pickor_f (y := ((decide (y1.2.2 = 0)) && y6)) rfl (X.and_ff h_14) rfl) rfl ?_
    refine X.opR rfl (X.pickand_t (y := (((!decide (y1.2.2 = 0)) && (decide ((y1.2.1.length : Int) = 0))) || ((decide (y1.2.2 = 0)) && y6))) rfl h_13 rfl) rfl ?_
    refine X.q rfl ?_
    refine GS.opsNil ?_
    exact X.norm _ hg rfl (sr rfl)
   refine X.call (ok_law03_sanity h_11) rfl rfl rfl .nil ?_
   refine X.q rfl ?_
   iterate 3 refine X.opR (X.on_t rfl rfl rfl h_13) rfl rfl ?_
   iterate 3 refine X.off (X.off_t rfl rfl rfl h_14) rfl ?_
   refine X.opR (X.on_t rfl rfl rfl h_13) (X.pickand_f (y := decide ((y1.2.1.length : Int) = 0)) rfl h_14 rfl) rfl ?_
   refine X.opR (X.on_t rfl rfl rfl h_13) rfl rfl ?_
   iterate 3 refine X.opR (X.on_f rfl rfl rfl (X.and_ff h_14)) rfl rfl ?_
   iterate 5 refine X.off (X.off_t rfl rfl rfl h_17) rfl ?_
   refine X.opR (X.on_f rfl rfl rfl (X.and_ff h_14)) (X.pickand_f (y := y6) rfl h_17 rfl) rfl ?_
   refine X.opR (X.on_t rfl rfl rfl h_13) (X.pickor_f (y := ((decide (y1.2.2 = 0)) && y6)) rfl (X.and_ff h_14) rfl) rfl ?_
   refine X.opR rfl (X.pickand_t (y := (((!decide (y1.2.2 = 0)) && (decide ((y1.2.1.length : Int) = 0))) || ((decide (y1.2.2 = 0)) && y6))) rfl h_13 rfl) rfl ?_
   refine X.q rfl ?_
   refine GS.opsNil ?_
   exact X.norm _ hg rfl (sr rfl)
  refine X.call (ok_law03_sanity h_11) rfl rfl rfl .nil ?_
  refine X.q rfl ?_
  iterate 3 refine X.off (X.off_t rfl rfl rfl h_13) rfl ?_
  iterate 3 refine X.off rfl rfl ?_
  iterate 2 refine X.off (X.off_t rfl rfl rfl h_13) rfl ?_
  iterate 9 refine X.off rfl rfl ?_
  refine X.off (X.off_t rfl rfl rfl h_13) rfl ?_
  refine X.opR rfl (X.pickand_f (y := (((!decide (y1.2.2 = 0)) && (decide ((y1.2.1.length : Int) = 0))) || ((decide (y1.2.2 = 0)) && y6))) rfl h_13 rfl) rfl ?_
  refine X.q rfl ?_
  refine GS.opsNil ?_
  exact X.norm _ hg rfl (sr rfl)
 have hE := Option.some.inj hM
 subst hE
 exact GS.ret ⟨_, rfl, ⟨30, rfl⟩⟩

end Go.Proofs.YthfnbjoecocfaaaGreat
