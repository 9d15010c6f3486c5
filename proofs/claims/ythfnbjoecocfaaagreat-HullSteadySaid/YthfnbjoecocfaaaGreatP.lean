/- The program's functions compute the plain ones. Conditions: none. Printed by a program (wip/tools/xg.py). -/
import Derived.Test.YthfnbjoecocfaaaGreatP2
set_option linter.unusedVariables false
set_option linter.unusedSimpArgs false
namespace Go.Proofs.YthfnbjoecocfaaaGreat
open Go Go.Am Go.Proofs Go.Mx

theorem ok_ref03_Tips {s : api_Ship} {l : api_Load} {x : (List Int)} {t : ref03_Tipsy} {r : Bool} (hM : ref03_Tips s l x t = some r) : Ct Tryz.prog 34 [(e_api_Ship s), (e_api_Load l), (V.sl (List.map V.i x)), (e_ref03_Tipsy t)] (V.b r) := by
 refine ct_of_gs CC_ok rfl ?_
 unfold ref03_Tips at hM
 refine X.sq ?_
 iterate 3 refine X.opW rfl rfl rfl rfl ?_
 refine X.q rfl ?_
 refine GS.opsNil ?_
 refine GS.seq ?_
 obtain ⟨y, h_1, hM⟩ := bind_of hM
 refine GS.region ?_
 iterate 2 refine X.q rfl ?_
 refine X.call (ok_ref03_fits h_1) rfl rfl rfl (.cons (.shut (n := 9) rfl) (.cons (.shut (n := 9) rfl) .nil)) ?_
 refine X.q rfl ?_
 refine GS.opsNil ?_
 refine GS.seq ?_
 refine X.sq ?_
 iterate 2 refine X.q rfl ?_
 refine GS.opsNil ?_
 refine X.cond rfl (fun h_2 => ?_) (fun h_2 => ?_)
 ·replace hM := ite_t h_2 hM
  refine X.sq ?_
  refine X.q rfl ?_
  refine GS.opsNil ?_
  have hE := Option.some.inj hM
  subst hE
  exact GS.ret ⟨_, rfl, ⟨30, rfl⟩⟩
 replace hM := ite_f h_2 hM
 refine GS.skip ?_
 refine GS.seq ?_
 obtain ⟨y1, h_3, hM⟩ := bind_of hM
 refine GS.region ?_
 iterate 2 refine X.q rfl ?_
 refine X.call (ok_ref03_steady h_3) rfl rfl rfl (.cons (.shut (n := 9) rfl) (.cons (.shut (n := 9) rfl) .nil)) ?_
 refine X.q rfl ?_
 refine GS.opsNil ?_
 refine GS.seq ?_
 obtain ⟨y2, h_4, hM⟩ := gb_of hM
 obtain ⟨y3, h_5, hM⟩ := gb_of hM
 refine X.mid [(8, (V.b (((!y1) && (decide (y2 = t.Total))) && (decide (y3 = t.Rise)))))] ?_ ?_
 ·intro hg
  refine X.split (!y1) (fun h_6 => ?_) (fun h_6 => ?_)
  ·refine X.split (((!y1) && (decide (y2 = t.Total)))) (fun h_7 => ?_) (fun h_7 => ?_)
   ·refine X.drawc (by kernel_rfl) rfl ?_
    iterate 3 refine X.cop rfl rfl rfl rfl ?_
    refine X.cop (X.on_t rfl rfl rfl h_6) rfl rfl rfl ?_
    refine X.ccall (ok_ref03_total (h_4 h_6)) (X.on_t rfl rfl rfl h_6) rfl rfl rfl (.cons (.shut (n := 9) rfl) .nil) ?_
    iterate 3 refine X.cop (X.on_t rfl rfl rfl h_6) rfl rfl rfl ?_
    refine X.cop rfl (X.pickand_t (y := decide (y2 = t.Total)) rfl h_6 rfl) rfl rfl ?_
    refine X.cop rfl rfl rfl rfl ?_
    iterate 2 refine X.cop (X.on_t rfl rfl rfl h_7) rfl rfl rfl ?_
    refine X.ccall (ok_ref03_rise (h_5 h_7)) (X.on_t rfl rfl rfl h_7) rfl rfl rfl (.cons (.shut (n := 9) rfl) (.cons (.shut (n := 9) rfl) .nil)) ?_
    iterate 3 refine X.cop (X.on_t rfl rfl rfl h_7) rfl rfl rfl ?_
    refine X.cop rfl (X.pickand_t (y := decide (y3 = t.Rise)) rfl h_7 rfl) rfl rfl ?_
    refine X.cop rfl rfl rfl rfl ?_
    refine X.cnil ?_
    exact X.norm _ hg rfl (sr rfl)
   refine X.drawc (by kernel_rfl) rfl ?_
   iterate 3 refine X.cop rfl rfl rfl rfl ?_
   refine X.cop (X.on_t rfl rfl rfl h_6) rfl rfl rfl ?_
   refine X.ccall (ok_ref03_total (h_4 h_6)) (X.on_t rfl rfl rfl h_6) rfl rfl rfl (.cons (.shut (n := 9) rfl) .nil) ?_
   iterate 3 refine X.cop (X.on_t rfl rfl rfl h_6) rfl rfl rfl ?_
   refine X.cop rfl (X.pickand_t (y := decide (y2 = t.Total)) rfl h_6 rfl) rfl rfl ?_
   refine X.cop rfl rfl rfl rfl ?_
   iterate 6 refine X.coff (X.off_t rfl rfl rfl h_7) rfl rfl ?_
   refine X.cop rfl (X.pickand_f (y := decide (y3 = t.Rise)) rfl h_7 rfl) rfl rfl ?_
   refine X.cop rfl rfl rfl rfl ?_
   refine X.cnil ?_
   exact X.norm _ hg rfl (sr rfl)
  refine X.drawc (by kernel_rfl) rfl ?_
  iterate 3 refine X.cop rfl rfl rfl rfl ?_
  iterate 5 refine X.coff (X.off_t rfl rfl rfl h_6) rfl rfl ?_
  refine X.cop rfl (X.pickand_f (y := decide (y2 = t.Total)) rfl h_6 rfl) rfl rfl ?_
  refine X.cop rfl rfl rfl rfl ?_
  iterate 6 refine X.coff (X.off_t rfl rfl rfl (X.and_ff h_6)) rfl rfl ?_
  refine X.cop rfl (X.pickand_f (y := decide (y3 = t.Rise)) rfl (X.and_ff h_6) rfl) rfl rfl ?_
  refine X.cop rfl rfl rfl rfl ?_
  refine X.cnil ?_
  exact X.norm _ hg rfl (sr rfl)
 have hE := Option.some.inj hM
 subst hE
 exact GS.ret ⟨_, rfl, ⟨30, rfl⟩⟩

theorem ok_ref03_shows {s : api_Ship} {l : api_Load} {n : Int} {price : Int} {r : Bool} (hM : ref03_shows s l n price = some r) : Ct Tryz.prog 88 [(e_api_Ship s), (e_api_Load l), (V.i n), (V.i price)] (V.b r) := by
 refine ct_of_gs CC_ok rfl ?_
 unfold ref03_shows at hM
 refine X.sq ?_
 iterate 2 refine X.opW rfl rfl rfl rfl ?_
 refine X.q rfl ?_
 refine X.nq ?_
 iterate 3 refine X.q rfl ?_
 refine X.opR rfl (X.addE rfl rfl) rfl ?_
 refine X.q rfl ?_
 refine GS.opsNil ?_
 refine GS.seq ?_
 obtain ⟨y, h_1, hM⟩ := bind_of hM
 refine GS.region ?_
 iterate 3 refine X.q rfl ?_
 refine X.call (ok_ref03_at h_1) rfl rfl rfl (.cons (.shut (n := 9) rfl) (.cons (.shut (n := 9) rfl) .nil)) ?_
 refine X.opW rfl rfl rfl rfl ?_
 refine X.op0W rfl rfl rfl ?_
 refine X.nq ?_
 iterate 4 refine X.q rfl ?_
 refine X.opR rfl (X.mulE rfl rfl) rfl ?_
 iterate 2 refine X.q rfl ?_
 refine X.opR rfl (X.mulE rfl rfl) rfl ?_
 refine X.opR rfl (X.addE rfl rfl) rfl ?_
 refine X.q rfl ?_
 refine GS.opsNil ?_
 refine GS.seq ?_
 obtain ⟨y1, h_2, hM⟩ := bind_of hM
 refine GS.region ?_
 refine X.q rfl ?_
 refine X.call (ok_ref03_heights h_2) rfl rfl rfl (.cons (.shut (n := 9) rfl) .nil) ?_
 refine X.q rfl ?_
 refine GS.opsNil ?_
 refine GS.seq ?_
 refine X.sq ?_
 refine X.q rfl ?_
 refine GS.opsNil ?_
 refine X.join (τ := Int) (fun v => ref03_shows_j1 s n y v = some r) (fun v => ⟨[(4, (V.ptr 0 0 0)), (9, (V.i (w64 (s.Light + n)))), (10, (V.ptr 1 0 0)), (11, (V.i v))], [.rows 11 [(e_api_Ship s)], .rows 2 [(e_api_Frac y)]], 0, none, 88⟩) ?_ ?_
 ·intro most hM
  replace hM : ref03_shows_j1 s n y most = some r := hM
  unfold ref03_shows_j1 at hM
  refine X.sq ?_
  iterate 7 refine X.q rfl ?_
  refine X.opR rfl (X.addE rfl rfl) rfl ?_
  iterate 2 refine X.q rfl ?_
  refine X.opR rfl (X.mulE rfl rfl) rfl ?_
  refine X.opR rfl (X.subE rfl rfl) rfl ?_
  refine X.q rfl ?_
  refine X.opR rfl (X.mulE rfl rfl) rfl ?_
  iterate 3 refine X.q rfl ?_
  refine X.opR rfl (X.mulE rfl rfl) rfl ?_
  iterate 2 refine X.q rfl ?_
  refine GS.opsNil ?_
  have hE := Option.some.inj hM
  subst hE
  exact GS.ret ⟨_, rfl, ⟨30, rfl⟩⟩
 intro hj_1
 refine GS.block ?_
 refine X.gc [some 0, some 1, some 2] (X.loop (σ := (Int × Int)) (fun v => ⟨[(3, (V.i price)), (4, (V.ptr 0 0 0)), (5, (V.ptr 1 0 0)), (9, (V.i (w64 (s.Light + n)))), (10, (V.ptr 2 0 0)), (11, (V.i v.1)), (12, (V.sl (List.map V.i y1))), (13, (V.i v.2))], [.rows 11 [(e_api_Ship s)], .rows 3 [(e_api_Load l)], .rows 2 [(e_api_Frac y)]], 0, none, 88⟩) hM ?_ rfl) rfl rfl rfl (ga rfl rfl) (gb9 rfl rfl rfl (gb9 rfl rfl rfl (gb9 rfl rfl rfl gb_nil)))
 rintro ⟨most1, i⟩ b_1 hM hc_2 hr_1
 rw [ref03_shows_b2] at hM
 refine GS.seq ?_
 refine X.sq ?_
 iterate 3 refine X.q rfl ?_
 refine X.opR rfl (X.lenF rfl rfl rfl) rfl ?_
 refine X.q rfl ?_
 refine GS.opsNil ?_
 refine X.cond rfl (fun h_3 => ?_) (fun h_3 => ?_)
 ·replace hM := ite_t h_3 hM
  refine GS.skip ?_
  refine GS.seq ?_
  refine GS.block ?_
  obtain ⟨x, h_4, hM⟩ := bind_of hM
  obtain ⟨x1, h_5, hM⟩ := bind_of hM
  obtain ⟨x2, h_6, hM⟩ := bind_of hM
  obtain ⟨x3, h_7, hM⟩ := bind_of hM
  refine X.drawc (by kernel_rfl) rfl ?_
  iterate 3 refine X.cop rfl rfl rfl rfl ?_
  refine X.cop rfl (X.indexF (f := V.i) h_4 (fun _ => rfl) rfl rfl rfl rfl) rfl rfl ?_
  refine X.cop rfl (X.loadF h_4 rfl rfl rfl) rfl rfl ?_
  refine X.cop rfl rfl rfl rfl ?_
  refine X.cop rfl (X.subE rfl rfl) rfl rfl ?_
  iterate 3 refine X.cop rfl rfl rfl rfl ?_
  refine X.cop rfl (X.indexF (f := e_api_Span) h_5 (fun _ => rfl) rfl rfl rfl rfl) rfl rfl ?_
  refine X.cop rfl rfl rfl rfl ?_
  refine X.cop rfl (X.loadF h_5 rfl rfl rfl) rfl rfl ?_
  refine X.cop rfl (X.mulE rfl rfl) rfl rfl ?_
  iterate 2 refine X.cop rfl rfl rfl rfl ?_
  refine X.cop rfl (X.indexF (f := V.i) h_6 (fun _ => rfl) rfl rfl rfl rfl) rfl rfl ?_
  refine X.cop rfl (X.loadF h_6 rfl rfl rfl) rfl rfl ?_
  refine X.cop rfl rfl rfl rfl ?_
  refine X.cop rfl (X.subE rfl rfl) rfl rfl ?_
  iterate 3 refine X.cop rfl rfl rfl rfl ?_
  refine X.cop rfl (X.indexF (f := e_api_Span) h_7 (fun _ => rfl) rfl rfl rfl rfl) rfl rfl ?_
  refine X.cop rfl rfl rfl rfl ?_
  refine X.cop rfl (X.loadF h_7 rfl rfl rfl) rfl rfl ?_
  refine X.cop rfl (X.mulE rfl rfl) rfl rfl ?_
  refine X.cop rfl (X.maxE rfl rfl) rfl rfl ?_
  refine X.cop rfl (X.addE rfl rfl) rfl rfl ?_
  refine X.cop rfl rfl rfl rfl ?_
  refine X.cnil ?_
  refine X.norm [(3, (V.i price)), (4, (V.ptr 0 0 0)), (5, (V.ptr 1 0 0)), (9, (V.i (w64 (s.Light + n)))), (10, (V.ptr 2 0 0)), (11, (V.i (w64 (most1 + (max (w64 ((w64 (x - price)) * x1.Lo)) (w64 ((w64 (x2 - price)) * x3.Hi))))))), (12, (V.sl (List.map V.i y1))), (13, (V.i i))] ?_ rfl (sr rfl)
  refine GS.endB ?_
  refine GS.region ?_
  refine X.q rfl ?_
  refine X.opR rfl (X.addE rfl rfl) rfl ?_
  refine X.q rfl ?_
  refine GS.opsNil ?_
  have hE := Option.some.inj hM
  exact X.gc [some 0, some 1, some 2] (hc_2 (w64 (most1 + (max (w64 ((w64 (x - price)) * x1.Lo)) (w64 ((w64 (x2 - price)) * x3.Hi)))), w64 (i + 1)) hE.symm) rfl rfl rfl (ga rfl rfl) (gb9 rfl rfl rfl (gb9 rfl rfl rfl (gb9 rfl rfl rfl gb_nil)))
 replace hM := ite_f h_3 hM
 refine GS.exit rfl ?_
 obtain ⟨y_1, hM, hy⟩ := map_of hM
 rw [hr_1 _ hy.symm] at hM
 exact X.gc [some 0, some 2] (hj_1 most1 hM) rfl rfl rfl (ga rfl rfl) (gb9 rfl rfl rfl (gb9 rfl rfl rfl gb_nil))

set_option maxHeartbeats 4000000 in
theorem ok_ref03_CheckSteady {s : api_Ship} {l : api_Load} {parts : (List api_Part)} {r : Int} (hM : ref03_CheckSteady s l parts = some r) : Ct Tryz.prog 35 [(e_api_Ship s), (e_api_Load l), (V.sl (List.map e_api_Part parts))] (V.i r) := by
 refine ct_of_gs CC_ok rfl ?_
 unfold ref03_CheckSteady at hM
 refine X.sq ?_
 iterate 2 refine X.opW rfl rfl rfl rfl ?_
 refine X.q rfl ?_
 refine GS.opsNil ?_
 refine GS.seq ?_
 obtain ⟨y, h_1, hM⟩ := bind_of hM
 refine GS.region ?_
 iterate 2 refine X.q rfl ?_
 refine X.call (ok_ref03_CheckLoad h_1) rfl rfl rfl (.cons (.shut (n := 9) rfl) (.cons (.shut (n := 9) rfl) .nil)) ?_
 refine X.q rfl ?_
 refine GS.opsNil ?_
 refine GS.seq ?_
 refine X.sq ?_
 iterate 2 refine X.q rfl ?_
 refine GS.opsNil ?_
 refine X.cond rfl (fun h_2 => ?_) (fun h_2 => ?_)
 ·replace hM := ite_t h_2 hM
  refine X.sq ?_
  iterate 2 refine X.q rfl ?_
  refine GS.opsNil ?_
  have hE := Option.some.inj hM
  subst hE
  exact GS.ret ⟨_, rfl, ⟨30, rfl⟩⟩
 replace hM := ite_f h_2 hM
 refine GS.skip ?_
 refine GS.seq ?_
 refine X.sq ?_
 refine X.q rfl ?_
 refine X.opR rfl (X.lenF rfl rfl rfl) rfl ?_
 refine X.q rfl ?_
 refine GS.opsNil ?_
 refine X.cond rfl (fun h_3 => ?_) (fun h_3 => ?_)
 ·replace hM := ite_t h_3 hM
  refine X.sq ?_
  refine X.q rfl ?_
  refine GS.opsNil ?_
  have hE := Option.some.inj hM
  subst hE
  exact GS.ret ⟨_, rfl, ⟨30, rfl⟩⟩
 replace hM := ite_f h_3 hM
 refine GS.skip ?_
 refine GS.seq ?_
 obtain ⟨y1, h_4, hM⟩ := bind_of hM
 refine GS.region ?_
 refine X.q rfl ?_
 refine X.call (ok_ref03_totals h_4) rfl rfl rfl (.cons (.shut (n := 9) rfl) .nil) ?_
 refine X.opW rfl rfl rfl rfl ?_
 refine X.op0W rfl rfl rfl ?_
 refine X.nq ?_
 iterate 3 refine X.q rfl ?_
 refine GS.opsNil ?_
 refine GS.seq ?_
 refine X.sq ?_
 refine X.q rfl ?_
 refine GS.opsNil ?_
 refine X.join (τ := Int) (fun v => ref03_CheckSteady_j1 y1 v = some r) (fun v => ⟨[(8, (V.ptr 0 0 0)), (9, (V.i v))], [.rows 2 [(e_api_Span y1)]], 0, none, 92⟩) ?_ ?_
 ·intro next hM
  replace hM : ref03_CheckSteady_j1 y1 next = some r := hM
  unfold ref03_CheckSteady_j1 at hM
  refine GS.seq ?_
  refine X.sq ?_
  iterate 3 refine X.q rfl ?_
  refine X.opR rfl (X.addE rfl rfl) rfl ?_
  refine X.q rfl ?_
  refine GS.opsNil ?_
  refine X.cond rfl (fun h_5 => ?_) (fun h_5 => ?_)
  ·replace hM := ite_t h_5 hM
   refine X.sq ?_
   refine X.q rfl ?_
   refine GS.opsNil ?_
   have hE := Option.some.inj hM
   subst hE
   exact GS.ret ⟨_, rfl, ⟨30, rfl⟩⟩
  replace hM := ite_f h_5 hM
  refine GS.skip ?_
  refine X.sq ?_
  refine X.q rfl ?_
  refine GS.opsNil ?_
  have hE := Option.some.inj hM
  subst hE
  exact GS.ret ⟨_, rfl, ⟨30, rfl⟩⟩
 intro hj_1
 refine GS.block ?_
 refine X.gc [some 0, some 1, some 2] (X.loop (σ := (Int × Int)) (fun v => ⟨[(2, (V.sl (List.map e_api_Part parts))), (3, (V.ptr 0 0 0)), (4, (V.ptr 1 0 0)), (8, (V.ptr 2 0 0)), (9, (V.i v.1)), (10, (V.i v.2))], [.rows 11 [(e_api_Ship s)], .rows 3 [(e_api_Load l)], .rows 2 [(e_api_Span y1)]], 0, none, 92⟩) hM ?_ rfl) rfl rfl rfl (ga rfl rfl) (gb9 rfl rfl rfl (gb9 rfl rfl rfl (gb9 rfl rfl rfl gb_nil)))
 rintro ⟨next1, i⟩ b_1 hM hc_2 hr_1
 rw [ref03_CheckSteady_b2] at hM
 refine GS.seq ?_
 refine X.sq ?_
 iterate 2 refine X.q rfl ?_
 refine X.opR rfl (X.lenF rfl rfl rfl) rfl ?_
 refine X.q rfl ?_
 refine GS.opsNil ?_
 refine X.cond rfl (fun h_6 => ?_) (fun h_6 => ?_)
 ·replace hM := ite_t h_6 hM
  refine GS.skip ?_
  refine GS.seq ?_
  refine GS.block ?_
  refine GS.seq ?_
  obtain ⟨x, h_7, hM⟩ := bind_of hM
  refine GS.region ?_
  iterate 2 refine X.q rfl ?_
  refine X.opR rfl (X.indexF (f := e_api_Part) h_7 (fun _ => rfl) rfl rfl rfl rfl) rfl ?_
  refine X.opR rfl (X.loadF h_7 rfl rfl rfl) rfl ?_
  refine X.opW (H' := [.rows 11 [(e_api_Ship s)], .rows 3 [(e_api_Load l)], .rows 2 [(e_api_Span y1)], .rows 3 [(V.agg [(V.i 0), (V.i 0), (V.i 0)])]]) rfl rfl rfl rfl ?_
  refine X.op0W (H' := [.rows 11 [(e_api_Ship s)], .rows 3 [(e_api_Load l)], .rows 2 [(e_api_Span y1)], .rows 3 [(e_api_Part x)]]) rfl rfl rfl ?_
  refine GS.opsNil ?_
  refine GS.seq ?_
  refine X.sq ?_
  refine X.mid [(2, (V.sl (List.map e_api_Part parts))), (3, (V.ptr 0 0 0)), (4, (V.ptr 1 0 0)), (8, (V.ptr 2 0 0)), (10, (V.i i)), (11, (V.ptr 3 0 0)), (64, (V.b ((((!decide (x.Totals.Lo = next1)) || (decide (x.Totals.Hi < x.Totals.Lo))) || (decide (y1.Hi < x.Totals.Hi))) || (!(ref03_in x.Price (-1048576) 1048576)))))] ?_ ?_
  ·intro hg
   refine X.split (!decide (x.Totals.Lo = next1)) (fun h_8 => ?_) (fun h_8 => ?_)
   ·iterate 6 refine X.q rfl ?_
    iterate 7 refine X.off (X.off_f rfl rfl rfl h_8) rfl ?_
    refine X.opR rfl (X.pickor_t (y := decide (x.Totals.Hi < x.Totals.Lo)) rfl h_8 rfl) rfl ?_
    refine X.q rfl ?_
    iterate 6 refine X.off (X.off_f rfl rfl rfl (X.or_tt h_8)) rfl ?_
    refine X.opR rfl (X.pickor_t (y := decide (y1.Hi < x.Totals.Hi)) rfl (X.or_tt h_8) rfl) rfl ?_
    refine X.q rfl ?_
    iterate 4 refine X.off (X.off_f rfl rfl rfl (X.or_tt (X.or_tt h_8))) rfl ?_
    refine X.opR rfl (X.pickor_t (y := !(ref03_in x.Price (-1048576) 1048576)) rfl (X.or_tt (X.or_tt h_8)) rfl) rfl ?_
    refine GS.opsNil ?_
    exact X.norm _ hg rfl (sr rfl)
   refine X.split (((!decide (x.Totals.Lo = next1)) || (decide (x.Totals.Hi < x.Totals.Lo)))) (fun h_9 => ?_) (fun h_9 => ?_)
   ·iterate 6 refine X.q rfl ?_
    iterate 7 refine X.opR (X.on_f rfl rfl rfl h_8) rfl rfl ?_
    refine X.opR rfl (X.pickor_f (y := decide (x.Totals.Hi < x.Totals.Lo)) rfl h_8 rfl) rfl ?_
    refine X.q rfl ?_
    iterate 6 refine X.off (X.off_f rfl rfl rfl h_9) rfl ?_
    refine X.opR rfl (X.pickor_t (y := decide (y1.Hi < x.Totals.Hi)) rfl h_9 rfl) rfl ?_
    refine X.q rfl ?_
    iterate 4 refine X.off (X.off_f rfl rfl rfl (X.or_tt h_9)) rfl ?_
    refine X.opR rfl (X.pickor_t (y := !(ref03_in x.Price (-1048576) 1048576)) rfl (X.or_tt h_9) rfl) rfl ?_
    refine GS.opsNil ?_
    exact X.norm _ hg rfl (sr rfl)
   refine X.split ((((!decide (x.Totals.Lo = next1)) || (decide (x.Totals.Hi < x.Totals.Lo))) || (decide (y1.Hi < x.Totals.Hi)))) (fun h_10 => ?_) (fun h_10 => ?_)
   ·iterate 6 refine X.q rfl ?_
    iterate 7 refine X.opR (X.on_f rfl rfl rfl h_8) rfl rfl ?_
    refine X.opR rfl (X.pickor_f (y := decide (x.Totals.Hi < x.Totals.Lo)) rfl h_8 rfl) rfl ?_
    refine X.q rfl ?_
    iterate 6 refine X.opR (X.on_f rfl rfl rfl h_9) rfl rfl ?_
    refine X.opR rfl (X.pickor_f (y := decide (y1.Hi < x.Totals.Hi)) rfl h_9 rfl) rfl ?_
    refine X.q rfl ?_
    iterate 4 refine X.off (X.off_f rfl rfl rfl h_10) rfl ?_
    refine X.opR rfl (X.pickor_t (y := !(ref03_in x.Price (-1048576) 1048576)) rfl h_10 rfl) rfl ?_
    refine GS.opsNil ?_
    exact X.norm _ hg rfl (sr rfl)
   iterate 6 refine X.q rfl ?_
   iterate 7 refine X.opR (X.on_f rfl rfl rfl h_8) rfl rfl ?_
   refine X.opR rfl (X.pickor_f (y := decide (x.Totals.Hi < x.Totals.Lo)) rfl h_8 rfl) rfl ?_
   refine X.q rfl ?_
   iterate 6 refine X.opR (X.on_f rfl rfl rfl h_9) rfl rfl ?_
   refine X.opR rfl (X.pickor_f (y := decide (y1.Hi < x.Totals.Hi)) rfl h_9 rfl) rfl ?_
   refine X.q rfl ?_
   iterate 2 refine X.opR (X.on_f rfl rfl rfl h_10) rfl rfl ?_
   refine X.call (ok_ref03_in x.Price (-1048576) 1048576) (X.on_f rfl rfl rfl h_10) rfl rfl (.cons (.shut (n := 9) rfl) (.cons (.shut (n := 9) rfl) (.cons (.shut (n := 9) rfl) .nil))) ?_
   refine X.opR (X.on_f rfl rfl rfl h_10) rfl rfl ?_
   refine X.opR rfl (X.pickor_f (y := !(ref03_in x.Price (-1048576) 1048576)) rfl h_10 rfl) rfl ?_
   refine GS.opsNil ?_
   exact X.norm _ hg rfl (sr rfl)
  refine X.cond rfl (fun h_11 => ?_) (fun h_11 => ?_)
  ·replace hM := ite_t h_11 hM
   refine X.sq ?_
   refine X.q rfl ?_
   refine GS.opsNil ?_
   have hE := Option.some.inj hM
   replace hE := hr_1 _ hE.symm
   subst hE
   exact GS.ret ⟨_, rfl, ⟨30, rfl⟩⟩
  replace hM := ite_f h_11 hM
  refine GS.skip ?_
  refine GS.seq ?_
  refine X.sq ?_
  iterate 4 refine X.q rfl ?_
  refine GS.opsNil ?_
  refine X.join (τ := Unit) (fun v => ref03_CheckSteady_j3 i x = some b_1) (fun v => ⟨[(2, (V.sl (List.map e_api_Part parts))), (3, (V.ptr 0 0 0)), (4, (V.ptr 1 0 0)), (8, (V.ptr 2 0 0)), (10, (V.i i)), (11, (V.ptr 3 0 0))], [.rows 11 [(e_api_Ship s)], .rows 3 [(e_api_Load l)], .rows 2 [(e_api_Span y1)], .rows 3 [(e_api_Part x)]], 0, none, 92⟩) ?_ ?_
  ·intro _ hM
   replace hM : ref03_CheckSteady_j3 i x = some b_1 := hM
   unfold ref03_CheckSteady_j3 at hM
   refine GS.region ?_
   iterate 3 refine X.q rfl ?_
   refine X.opR rfl (X.addE rfl rfl) rfl ?_
   refine X.q rfl ?_
   refine GS.opsNil ?_
   refine GS.endB ?_
   refine GS.region ?_
   refine X.q rfl ?_
   refine X.opR rfl (X.addE rfl rfl) rfl ?_
   refine X.q rfl ?_
   refine GS.opsNil ?_
   have hE := Option.some.inj hM
   exact X.gc [some 0, some 1, some 2] (hc_2 (w64 (x.Totals.Hi + 1), w64 (i + 1)) hE.symm) rfl rfl rfl (ga rfl rfl) (gb9 rfl rfl rfl (gb9 rfl rfl rfl (gb9 rfl rfl rfl gb_nil)))
  intro hj_3
  refine GS.block ?_
  refine X.gc [some 0, some 1, some 2, some 3] (X.loop (σ := Int) (fun v => ⟨[(2, (V.sl (List.map e_api_Part parts))), (3, (V.ptr 0 0 0)), (4, (V.ptr 1 0 0)), (8, (V.ptr 2 0 0)), (10, (V.i i)), (11, (V.ptr 3 0 0)), (12, (V.i v))], [.rows 11 [(e_api_Ship s)], .rows 3 [(e_api_Load l)], .rows 2 [(e_api_Span y1)], .rows 3 [(e_api_Part x)]], 0, none, 92⟩) hM ?_ rfl) rfl rfl rfl (ga rfl rfl) (gb9 rfl rfl rfl (gb9 rfl rfl rfl (gb9 rfl rfl rfl (gb9 rfl rfl rfl gb_nil))))
  intro n b_2 hM hc_4 hr_2
  rw [ref03_CheckSteady_b4] at hM
  refine GS.seq ?_
  refine X.sq ?_
  iterate 5 refine X.q rfl ?_
  refine GS.opsNil ?_
  refine X.cond rfl (fun h_12 => ?_) (fun h_12 => ?_)
  ·replace hM := ite_t h_12 hM
   refine GS.skip ?_
   refine GS.seq ?_
   refine GS.block ?_
   refine GS.seq ?_
   obtain ⟨y2, h_13, hM⟩ := bind_of hM
   refine GS.region ?_
   iterate 5 refine X.q rfl ?_
   refine X.call (ok_ref03_shows h_13) rfl rfl rfl (.cons (.shut (n := 9) rfl) (.cons (.shut (n := 9) rfl) (.cons (.shut (n := 9) rfl) (.cons (.shut (n := 9) rfl) .nil)))) ?_
   refine X.q rfl ?_
   refine X.nq ?_
   iterate 2 refine X.q rfl ?_
   refine GS.opsNil ?_
   refine X.cond rfl (fun h_14 => ?_) (fun h_14 => ?_)
   ·replace hM := ite_t h_14 hM
    refine X.sq ?_
    refine X.q rfl ?_
    refine GS.opsNil ?_
    have hE := Option.some.inj hM
    replace hE := hr_2 _ hE.symm
    replace hE := hr_1 _ hE.symm
    subst hE
    exact GS.ret ⟨_, rfl, ⟨30, rfl⟩⟩
   replace hM := ite_f h_14 hM
   refine GS.skip ?_
   refine GS.endB ?_
   refine GS.region ?_
   refine X.q rfl ?_
   refine X.opR rfl (X.addE rfl rfl) rfl ?_
   refine X.q rfl ?_
   refine GS.opsNil ?_
   have hE := Option.some.inj hM
   exact X.gc [some 0, some 1, some 2, some 3] (hc_4 (w64 (n + 1)) hE.symm) rfl rfl rfl (ga rfl rfl) (gb9 rfl rfl rfl (gb9 rfl rfl rfl (gb9 rfl rfl rfl (gb9 rfl rfl rfl gb_nil))))
  replace hM := ite_f h_12 hM
  refine GS.exit rfl ?_
  obtain ⟨y_2, hM, hy⟩ := map_of hM
  rw [hr_2 _ hy.symm] at hM
  exact X.gc [some 0, some 1, some 2, some 3] (hj_3 () hM) rfl rfl rfl (ga rfl rfl) (gb9 rfl rfl rfl (gb9 rfl rfl rfl (gb9 rfl rfl rfl (gb9 rfl rfl rfl gb_nil))))
 replace hM := ite_f h_6 hM
 refine GS.exit rfl ?_
 obtain ⟨y_1, hM, hy⟩ := map_of hM
 rw [hr_1 _ hy.symm] at hM
 exact X.gc [some 2] (hj_1 next1 hM) rfl rfl rfl (ga rfl rfl) (gb9 rfl rfl rfl gb_nil)

theorem ok_hull_shows {s : api_Ship} {l : api_Load} {price : Int} {total : Int} {r : Bool} (hM : hull_shows s l price total = some r) : Ct Tryz.prog 90 [(e_api_Ship s), (e_api_Load l), (V.i price), (V.i total)] (V.b r) := by
 refine ct_of_gs CC_ok rfl ?_
 unfold hull_shows at hM
 refine X.sq ?_
 iterate 2 refine X.opW rfl rfl rfl rfl ?_
 refine X.q rfl ?_
 refine GS.opsNil ?_
 refine GS.seq ?_
 obtain ⟨y, h_1, hM⟩ := bind_of hM
 refine GS.region ?_
 iterate 2 refine X.q rfl ?_
 refine X.call (ok_hull_spare h_1) rfl rfl rfl (.cons (.shut (n := 9) rfl) (.cons (.shut (n := 9) rfl) .nil)) ?_
 iterate 5 refine X.q rfl ?_
 refine GS.opsNil ?_
 refine GS.seq ?_
 obtain ⟨y1, h_2, hM⟩ := bind_of hM
 obtain ⟨y2, h_3, hM⟩ := bind_of hM
 refine X.drawc (by kernel_rfl) rfl ?_
 iterate 5 refine X.cop rfl rfl rfl rfl ?_
 refine X.cop rfl (X.mulE rfl rfl) rfl rfl ?_
 iterate 2 refine X.cop rfl rfl rfl rfl ?_
 refine X.ccall (ok_hull_heights h_2) rfl rfl rfl rfl (.cons (.shut (n := 9) rfl) .nil) ?_
 iterate 4 refine X.cop rfl rfl rfl rfl ?_
 refine X.ccall (ok_hull_bound h_3) rfl rfl rfl rfl (.cons (.shut (n := 9) rfl) (.cons (.shut (n := 9) rfl) (.cons (.shut (n := 9) rfl) (.cons (.shut (n := 9) rfl) .nil)))) ?_
 refine X.cop rfl (X.addE rfl rfl) rfl rfl ?_
 refine X.cop rfl rfl rfl rfl ?_
 refine X.cop rfl (X.mulE rfl rfl) rfl rfl ?_
 iterate 2 refine X.cop rfl rfl rfl rfl ?_
 refine X.cnil ?_
 refine X.norm [(8, (V.b (decide ((w64 ((w64 ((w64 (s.Light * s.Height)) + y2)) * y.2)) ≤ y.1))))] ?_ rfl (sr rfl)
 have hE := Option.some.inj hM
 subst hE
 exact GS.ret ⟨_, rfl, ⟨30, rfl⟩⟩

set_option maxHeartbeats 4000000 in
theorem ok_hull_CheckSteady {s : api_Ship} {l : api_Load} {parts : (List api_Part)} {r : Int} (hM : hull_CheckSteady s l parts = some r) : Ct Tryz.prog 36 [(e_api_Ship s), (e_api_Load l), (V.sl (List.map e_api_Part parts))] (V.i r) := by
 refine ct_of_gs CC_ok rfl ?_
 unfold hull_CheckSteady at hM
 refine X.sq ?_
 iterate 2 refine X.opW rfl rfl rfl rfl ?_
 refine X.q rfl ?_
 refine GS.opsNil ?_
 iterate 2 refine GS.seq ?_
 obtain ⟨y, h_1, hM⟩ := bind_of hM
 refine GS.region ?_
 iterate 2 refine X.q rfl ?_
 refine X.call (ok_hull_CheckLoad h_1) rfl rfl rfl (.cons (.shut (n := 9) rfl) (.cons (.shut (n := 9) rfl) .nil)) ?_
 refine X.q rfl ?_
 refine X.nq ?_
 iterate 2 refine X.q rfl ?_
 refine GS.opsNil ?_
 refine X.cond rfl (fun h_2 => ?_) (fun h_2 => ?_)
 ·replace hM := ite_t h_2 hM
  refine X.sq ?_
  iterate 2 refine X.q rfl ?_
  refine GS.opsNil ?_
  have hE := Option.some.inj hM
  subst hE
  exact GS.ret ⟨_, rfl, ⟨30, rfl⟩⟩
 replace hM := ite_f h_2 hM
 refine GS.skip ?_
 refine GS.seq ?_
 refine X.sq ?_
 refine X.q rfl ?_
 refine X.opR rfl (X.lenF rfl rfl rfl) rfl ?_
 refine X.q rfl ?_
 refine GS.opsNil ?_
 refine X.cond rfl (fun h_3 => ?_) (fun h_3 => ?_)
 ·replace hM := ite_t h_3 hM
  refine X.sq ?_
  refine X.q rfl ?_
  refine GS.opsNil ?_
  have hE := Option.some.inj hM
  subst hE
  exact GS.ret ⟨_, rfl, ⟨30, rfl⟩⟩
 replace hM := ite_f h_3 hM
 refine GS.skip ?_
 refine GS.seq ?_
 obtain ⟨y1, h_4, hM⟩ := bind_of hM
 refine GS.region ?_
 refine X.q rfl ?_
 refine X.call (ok_hull_totals h_4) rfl rfl rfl (.cons (.shut (n := 9) rfl) .nil) ?_
 refine X.opW rfl rfl rfl rfl ?_
 refine X.op0W rfl rfl rfl ?_
 refine X.nq ?_
 iterate 3 refine X.q rfl ?_
 refine GS.opsNil ?_
 refine GS.seq ?_
 refine X.sq ?_
 refine X.q rfl ?_
 refine X.opR rfl (X.lenF rfl rfl rfl) rfl ?_
 refine X.q rfl ?_
 refine GS.opsNil ?_
 refine X.join (τ := Int) (fun v => hull_CheckSteady_j1 y1 v = some r) (fun v => ⟨[(8, (V.ptr 0 0 0)), (9, (V.i v))], [.rows 2 [(e_api_Span y1)]], 0, none, 80⟩) ?_ ?_
 ·intro next hM
  replace hM : hull_CheckSteady_j1 y1 next = some r := hM
  unfold hull_CheckSteady_j1 at hM
  refine GS.seq ?_
  refine X.sq ?_
  iterate 3 refine X.q rfl ?_
  refine X.opR rfl (X.addE rfl rfl) rfl ?_
  refine X.q rfl ?_
  refine GS.opsNil ?_
  refine X.cond rfl (fun h_5 => ?_) (fun h_5 => ?_)
  ·replace hM := ite_t h_5 hM
   refine X.sq ?_
   refine X.q rfl ?_
   refine GS.opsNil ?_
   have hE := Option.some.inj hM
   subst hE
   exact GS.ret ⟨_, rfl, ⟨30, rfl⟩⟩
  replace hM := ite_f h_5 hM
  refine GS.skip ?_
  refine X.sq ?_
  refine X.q rfl ?_
  refine GS.opsNil ?_
  have hE := Option.some.inj hM
  subst hE
  exact GS.ret ⟨_, rfl, ⟨30, rfl⟩⟩
 intro hj_1
 refine GS.block ?_
 refine X.gc [some 0, some 1, some 2] (X.loop (σ := (Int × Int)) (fun v => ⟨[(3, (V.ptr 0 0 0)), (4, (V.ptr 1 0 0)), (8, (V.ptr 2 0 0)), (9, (V.i v.1)), (26, (V.sl (List.map e_api_Part parts))), (27, (V.i (parts.length : Int))), (28, (V.i v.2))], [.rows 11 [(e_api_Ship s)], .rows 3 [(e_api_Load l)], .rows 2 [(e_api_Span y1)]], 0, none, 80⟩) hM ?_ rfl) rfl rfl rfl (ga rfl rfl) (gb9 rfl rfl rfl (gb9 rfl rfl rfl (gb9 rfl rfl rfl gb_nil)))
 rintro ⟨next1, x1⟩ b_1 hM hc_2 hr_1
 rw [hull_CheckSteady_b2] at hM
 refine X.sq ?_
 refine X.q rfl ?_
 refine GS.opsNil ?_
 refine GS.seq ?_
 refine X.cond rfl (fun h_6 => ?_) (fun h_6 => ?_)
 ·replace hM := ite_t h_6 hM
  refine GS.skip ?_
  refine GS.seq ?_
  refine GS.block ?_
  refine GS.seq ?_
  obtain ⟨x, h_7, hM⟩ := bind_of hM
  refine GS.region ?_
  refine X.opR rfl (X.indexF (f := e_api_Part) h_7 (fun _ => rfl) rfl rfl rfl rfl) rfl ?_
  refine X.opR rfl (X.loadF h_7 rfl rfl rfl) rfl ?_
  refine X.opW (H' := [.rows 11 [(e_api_Ship s)], .rows 3 [(e_api_Load l)], .rows 2 [(e_api_Span y1)], .rows 3 [(V.agg [(V.i 0), (V.i 0), (V.i 0)])]]) rfl rfl rfl rfl ?_
  refine X.op0W (H' := [.rows 11 [(e_api_Ship s)], .rows 3 [(e_api_Load l)], .rows 2 [(e_api_Span y1)], .rows 3 [(e_api_Part x)]]) rfl rfl rfl ?_
  refine GS.opsNil ?_
  refine GS.seq ?_
  refine X.sq ?_
  refine X.mid [(3, (V.ptr 0 0 0)), (4, (V.ptr 1 0 0)), (8, (V.ptr 2 0 0)), (11, (V.ptr 3 0 0)), (26, (V.sl (List.map e_api_Part parts))), (27, (V.i (parts.length : Int))), (28, (V.i x1)), (52, (V.b (((!decide (x.Totals.Lo = next1)) || (!(hull_within x.Totals.Hi next1 y1.Hi))) || (!(hull_within x.Price (-1048576) 1048576)))))] ?_ ?_
  ·intro hg
   refine X.split (!decide (x.Totals.Lo = next1)) (fun h_8 => ?_) (fun h_8 => ?_)
   ·iterate 6 refine X.q rfl ?_
    iterate 8 refine X.off (X.off_f rfl rfl rfl h_8) rfl ?_
    refine X.opR rfl (X.pickor_t (y := !(hull_within x.Totals.Hi next1 y1.Hi)) rfl h_8 rfl) rfl ?_
    refine X.q rfl ?_
    iterate 4 refine X.off (X.off_f rfl rfl rfl (X.or_tt h_8)) rfl ?_
    refine X.opR rfl (X.pickor_t (y := !(hull_within x.Price (-1048576) 1048576)) rfl (X.or_tt h_8) rfl) rfl ?_
    refine GS.opsNil ?_
    exact X.norm _ hg rfl (sr rfl)
   refine X.split (((!decide (x.Totals.Lo = next1)) || (!(hull_within x.Totals.Hi next1 y1.Hi)))) (fun h_9 => ?_) (fun h_9 => ?_)
   ·iterate 6 refine X.q rfl ?_
    iterate 6 refine X.opR (X.on_f rfl rfl rfl h_8) rfl rfl ?_
    refine X.call (ok_hull_within x.Totals.Hi next1 y1.Hi) (X.on_f rfl rfl rfl h_8) rfl rfl (.cons (.shut (n := 9) rfl) (.cons (.shut (n := 9) rfl) (.cons (.shut (n := 9) rfl) .nil))) ?_
    refine X.opR (X.on_f rfl rfl rfl h_8) rfl rfl ?_
    refine X.opR rfl (X.pickor_f (y := !(hull_within x.Totals.Hi next1 y1.Hi)) rfl h_8 rfl) rfl ?_
    refine X.q rfl ?_
    iterate 4 refine X.off (X.off_f rfl rfl rfl h_9) rfl ?_
    refine X.opR rfl (X.pickor_t (y := !(hull_within x.Price (-1048576) 1048576)) rfl h_9 rfl) rfl ?_
    refine GS.opsNil ?_
    exact X.norm _ hg rfl (sr rfl)
   iterate 6 refine X.q rfl ?_
   iterate 6 refine X.opR (X.on_f rfl rfl rfl h_8) rfl rfl ?_
   refine X.call (ok_hull_within x.Totals.Hi next1 y1.Hi) (X.on_f rfl rfl rfl h_8) rfl rfl (.cons (.shut (n := 9) rfl) (.cons (.shut (n := 9) rfl) (.cons (.shut (n := 9) rfl) .nil))) ?_
   refine X.opR (X.on_f rfl rfl rfl h_8) rfl rfl ?_
   refine X.opR rfl (X.pickor_f (y := !(hull_within x.Totals.Hi next1 y1.Hi)) rfl h_8 rfl) rfl ?_
   refine X.q rfl ?_
   iterate 2 refine X.opR (X.on_f rfl rfl rfl h_9) rfl rfl ?_
   refine X.call (ok_hull_within x.Price (-1048576) 1048576) (X.on_f rfl rfl rfl h_9) rfl rfl (.cons (.shut (n := 9) rfl) (.cons (.shut (n := 9) rfl) (.cons (.shut (n := 9) rfl) .nil))) ?_
   refine X.opR (X.on_f rfl rfl rfl h_9) rfl rfl ?_
   refine X.opR rfl (X.pickor_f (y := !(hull_within x.Price (-1048576) 1048576)) rfl h_9 rfl) rfl ?_
   refine GS.opsNil ?_
   exact X.norm _ hg rfl (sr rfl)
  refine X.cond rfl (fun h_10 => ?_) (fun h_10 => ?_)
  ·replace hM := ite_t h_10 hM
   refine X.sq ?_
   refine X.q rfl ?_
   refine GS.opsNil ?_
   have hE := Option.some.inj hM
   replace hE := hr_1 _ hE.symm
   subst hE
   exact GS.ret ⟨_, rfl, ⟨30, rfl⟩⟩
  replace hM := ite_f h_10 hM
  refine GS.skip ?_
  refine GS.seq ?_
  refine X.sq ?_
  iterate 4 refine X.q rfl ?_
  refine GS.opsNil ?_
  refine X.join (τ := Unit) (fun v => hull_CheckSteady_j3 x1 x = some b_1) (fun v => ⟨[(3, (V.ptr 0 0 0)), (4, (V.ptr 1 0 0)), (8, (V.ptr 2 0 0)), (11, (V.ptr 3 0 0)), (26, (V.sl (List.map e_api_Part parts))), (27, (V.i (parts.length : Int))), (28, (V.i x1))], [.rows 11 [(e_api_Ship s)], .rows 3 [(e_api_Load l)], .rows 2 [(e_api_Span y1)], .rows 3 [(e_api_Part x)]], 0, none, 80⟩) ?_ ?_
  ·intro _ hM
   replace hM : hull_CheckSteady_j3 x1 x = some b_1 := hM
   unfold hull_CheckSteady_j3 at hM
   refine GS.region ?_
   iterate 3 refine X.q rfl ?_
   refine X.opR rfl (X.addE rfl rfl) rfl ?_
   refine X.q rfl ?_
   refine GS.opsNil ?_
   refine GS.endB ?_
   refine GS.region ?_
   refine X.opR rfl (X.addE rfl rfl) rfl ?_
   refine X.q rfl ?_
   refine GS.opsNil ?_
   have hE := Option.some.inj hM
   exact X.gc [some 0, some 1, some 2] (hc_2 (w64 (x.Totals.Hi + 1), w64 (x1 + 1)) hE.symm) rfl rfl rfl (ga rfl rfl) (gb9 rfl rfl rfl (gb9 rfl rfl rfl (gb9 rfl rfl rfl gb_nil)))
  intro hj_3
  refine GS.block ?_
  refine X.gc [some 0, some 1, some 2, some 3] (X.loop (σ := Int) (fun v => ⟨[(3, (V.ptr 0 0 0)), (4, (V.ptr 1 0 0)), (8, (V.ptr 2 0 0)), (11, (V.ptr 3 0 0)), (12, (V.i v)), (26, (V.sl (List.map e_api_Part parts))), (27, (V.i (parts.length : Int))), (28, (V.i x1))], [.rows 11 [(e_api_Ship s)], .rows 3 [(e_api_Load l)], .rows 2 [(e_api_Span y1)], .rows 3 [(e_api_Part x)]], 0, none, 80⟩) hM ?_ rfl) rfl rfl rfl (ga rfl rfl) (gb9 rfl rfl rfl (gb9 rfl rfl rfl (gb9 rfl rfl rfl (gb9 rfl rfl rfl gb_nil))))
  intro t b_2 hM hc_4 hr_2
  rw [hull_CheckSteady_b4] at hM
  refine GS.seq ?_
  refine X.sq ?_
  iterate 5 refine X.q rfl ?_
  refine GS.opsNil ?_
  refine X.cond rfl (fun h_11 => ?_) (fun h_11 => ?_)
  ·replace hM := ite_t h_11 hM
   refine GS.skip ?_
   refine GS.seq ?_
   refine GS.block ?_
   refine GS.seq ?_
   obtain ⟨y2, h_12, hM⟩ := bind_of hM
   refine GS.region ?_
   iterate 5 refine X.q rfl ?_
   refine X.call (ok_hull_shows h_12) rfl rfl rfl (.cons (.shut (n := 9) rfl) (.cons (.shut (n := 9) rfl) (.cons (.shut (n := 9) rfl) (.cons (.shut (n := 9) rfl) .nil)))) ?_
   refine X.q rfl ?_
   refine GS.opsNil ?_
   refine X.cond rfl (fun h_13 => ?_) (fun h_13 => ?_)
   ·replace hM := ite_t h_13 hM
    refine X.sq ?_
    refine X.q rfl ?_
    refine GS.opsNil ?_
    have hE := Option.some.inj hM
    replace hE := hr_2 _ hE.symm
    replace hE := hr_1 _ hE.symm
    subst hE
    exact GS.ret ⟨_, rfl, ⟨30, rfl⟩⟩
   replace hM := ite_f h_13 hM
   refine GS.skip ?_
   refine GS.endB ?_
   refine GS.region ?_
   refine X.q rfl ?_
   refine X.opR rfl (X.addE rfl rfl) rfl ?_
   refine X.q rfl ?_
   refine GS.opsNil ?_
   have hE := Option.some.inj hM
   exact X.gc [some 0, some 1, some 2, some 3] (hc_4 (w64 (t + 1)) hE.symm) rfl rfl rfl (ga rfl rfl) (gb9 rfl rfl rfl (gb9 rfl rfl rfl (gb9 rfl rfl rfl (gb9 rfl rfl rfl gb_nil))))
  replace hM := ite_f h_11 hM
  refine GS.exit rfl ?_
  obtain ⟨y_2, hM, hy⟩ := map_of hM
  rw [hr_2 _ hy.symm] at hM
  exact X.gc [some 0, some 1, some 2, some 3] (hj_3 () hM) rfl rfl rfl (ga rfl rfl) (gb9 rfl rfl rfl (gb9 rfl rfl rfl (gb9 rfl rfl rfl (gb9 rfl rfl rfl gb_nil))))
 replace hM := ite_f h_6 hM
 refine GS.exit rfl ?_
 obtain ⟨y_1, hM, hy⟩ := map_of hM
 rw [hr_1 _ hy.symm] at hM
 exact X.gc [some 2] (hj_1 next1 hM) rfl rfl rfl (ga rfl rfl) (gb9 rfl rfl rfl gb_nil)

set_option maxHeartbeats 4000000 in
theorem ok_law03_HullSteady {s : api_Ship} {l : api_Load} {r : Bool} (hM : law03_HullSteady s l = some r) : Ct Tryz.prog 6 [(e_api_Ship s), (e_api_Load l)] (V.b r) := by
 refine ct_of_gs CC_ok rfl ?_
 unfold law03_HullSteady at hM
 refine X.sq ?_
 iterate 2 refine X.opW rfl rfl rfl rfl ?_
 refine X.q rfl ?_
 refine GS.opsNil ?_
 refine GS.seq ?_
 refine X.sq ?_
 iterate 2 refine X.q rfl ?_
 refine X.call (ok_law03_short s l) rfl rfl rfl (.cons (.shut (n := 9) rfl) (.cons (.shut (n := 9) rfl) .nil)) ?_
 refine X.q rfl ?_
 refine GS.opsNil ?_
 refine X.cond rfl (fun h_1 => ?_) (fun h_1 => ?_)
 ·replace hM := ite_t h_1 hM
  refine GS.seq ?_
  obtain ⟨y, h_2, hM⟩ := bind_of hM
  refine GS.region ?_
  refine X.call (ok_law03_sanity h_2) rfl rfl rfl .nil ?_
  refine X.q rfl ?_
  refine GS.opsNil ?_
  have hE := Option.some.inj hM
  subst hE
  exact GS.ret ⟨_, rfl, ⟨30, rfl⟩⟩
 replace hM := ite_f h_1 hM
 refine GS.skip ?_
 refine GS.seq ?_
 obtain ⟨y1, h_3, hM⟩ := bind_of hM
 refine GS.region ?_
 iterate 2 refine X.q rfl ?_
 refine X.call (ok_hull_Steady h_3) rfl rfl rfl (.cons (.shut (n := 9) rfl) (.cons (.shut (n := 9) rfl) .nil)) ?_
 iterate 7 refine X.q rfl ?_
 refine GS.opsNil ?_
 refine GS.seq ?_
 obtain ⟨y2, h_4, hM⟩ := bind_of hM
 refine GS.region ?_
 iterate 2 refine X.q rfl ?_
 refine X.call (ok_ref03_Steady h_4) rfl rfl rfl (.cons (.shut (n := 9) rfl) (.cons (.shut (n := 9) rfl) .nil)) ?_
 refine X.opW rfl rfl rfl rfl ?_
 refine X.op0W rfl rfl rfl ?_
 refine GS.opsNil ?_
 refine GS.seq ?_
 obtain ⟨y3, h_5, hM⟩ := bind_of hM
 refine GS.region ?_
 iterate 2 refine X.q rfl ?_
 refine X.call (ok_hull_Prove h_5) rfl rfl rfl (.cons (.shut (n := 9) rfl) (.cons (.shut (n := 9) rfl) .nil)) ?_
 iterate 5 refine X.q rfl ?_
 refine GS.opsNil ?_
 refine GS.seq ?_
 refine X.sq ?_
 refine X.mid [(2, (V.ptr 0 0 0)), (3, (V.ptr 1 0 0)), (5, (V.sl (List.map V.i y1.1))), (6, (V.b y1.2.1)), (7, (V.i y1.2.2)), (8, (V.ptr 2 0 0)), (9, (V.sl (List.map e_api_Part y3.1))), (10, (V.i y3.2)), (45, (V.b ((!decide (y1.2.2 = y2.E)) || ((decide (y1.2.2 = 0)) && (y1.2.1 == y2.Is)))))] ?_ ?_
 ·intro hg
  refine X.split (!decide (y1.2.2 = y2.E)) (fun h_6 => ?_) (fun h_6 => ?_)
  ·iterate 5 refine X.q rfl ?_
   iterate 3 refine X.off (X.off_f rfl rfl rfl h_6) rfl ?_
   iterate 4 refine X.off rfl rfl ?_
   refine X.off (X.off_f rfl rfl rfl h_6) rfl ?_
   refine X.opR rfl (X.pickor_t (y := ((decide (y1.2.2 = 0)) && (y1.2.1 == y2.Is))) rfl h_6 rfl) rfl ?_
   refine GS.opsNil ?_
   exact X.norm _ hg rfl (sr rfl)
  refine X.split (decide (y1.2.2 = 0)) (fun h_7 => ?_) (fun h_7 => ?_)
  ·iterate 5 refine X.q rfl ?_
   iterate 3 refine X.opR (X.on_f rfl rfl rfl h_6) rfl rfl ?_
   iterate 4 refine X.opR (X.on_t rfl rfl rfl h_7) rfl rfl ?_
   refine X.opR (X.on_f rfl rfl rfl h_6) (X.pickand_t (y := (y1.2.1 == y2.Is)) rfl h_7 rfl) rfl ?_
   refine X.opR rfl (X.pickor_f (y := ((decide (y1.2.2 = 0)) && (y1.2.1 == y2.Is))) rfl h_6 rfl) rfl ?_
   refine GS.opsNil ?_
   exact X.norm _ hg rfl (sr rfl)
  iterate 5 refine X.q rfl ?_
  iterate 3 refine X.opR (X.on_f rfl rfl rfl h_6) rfl rfl ?_
  iterate 4 refine X.off (X.off_t rfl rfl rfl h_7) rfl ?_
  refine X.opR (X.on_f rfl rfl rfl h_6) (X.pickand_f (y := (y1.2.1 == y2.Is)) rfl h_7 rfl) rfl ?_
  refine X.opR rfl (X.pickor_f (y := ((decide (y1.2.2 = 0)) && (y1.2.1 == y2.Is))) rfl h_6 rfl) rfl ?_
  refine GS.opsNil ?_
  exact X.norm _ hg rfl (sr rfl)
 refine X.cond rfl (fun h_8 => ?_) (fun h_8 => ?_)
 ·replace hM := ite_t h_8 hM
  refine X.sq ?_
  refine X.q rfl ?_
  refine GS.opsNil ?_
  have hE := Option.some.inj hM
  subst hE
  exact GS.ret ⟨_, rfl, ⟨30, rfl⟩⟩
 replace hM := ite_f h_8 hM
 refine GS.skip ?_
 refine GS.seq ?_
 refine X.sq ?_
 iterate 2 refine X.q rfl ?_
 refine GS.opsNil ?_
 refine X.cond rfl (fun h_9 => ?_) (fun h_9 => ?_)
 ·replace hM := ite_t h_9 hM
  refine GS.seq ?_
  obtain ⟨y4, h_10, hM⟩ := bind_of hM
  refine GS.region ?_
  refine X.mid [(4, (V.b ((((y4 && (!y1.2.1)) && (decide ((y1.1.length : Int) = 0))) && (decide (y3.2 = y1.2.2))) && (decide ((y3.1.length : Int) = 0)))))] ?_ ?_
  ·intro hg
   refine X.split (y4) (fun h_11 => ?_) (fun h_11 => ?_)
   ·refine X.split ((y4 && (!y1.2.1))) (fun h_12 => ?_) (fun h_12 => ?_)
    ·refine X.split (((y4 && (!y1.2.1)) && (decide ((y1.1.length : Int) = 0)))) (fun h_13 => ?_) (fun h_13 => ?_)
     ·refine X.split ((((y4 && (!y1.2.1)) && (decide ((y1.1.length : Int) = 0))) && (decide (y3.2 = y1.2.2)))) (fun h_14 => ?_) (fun h_14 => ?_)
      ·refine X.call (ok_law03_sanity h_10) rfl rfl rfl .nil ?_
       refine X.q rfl ?_
       iterate 2 refine X.opR (X.on_t rfl rfl rfl h_11) rfl rfl ?_
       refine X.opR rfl (X.pickand_t (y := !y1.2.1) rfl h_11 rfl) rfl ?_
       refine X.q rfl ?_
       refine X.opR (X.on_t rfl rfl rfl h_12) rfl rfl ?_
       refine X.opR (X.on_t rfl rfl rfl h_12) (X.lenF rfl rfl rfl) rfl ?_
       refine X.opR (X.on_t rfl rfl rfl h_12) rfl rfl ?_
       refine X.opR rfl (X.pickand_t (y := decide ((y1.1.length : Int) = 0)) rfl h_12 rfl) rfl ?_
       refine X.q rfl ?_
       iterate 3 refine X.opR (X.on_t rfl rfl rfl h_13) rfl rfl ?_
       refine X.opR rfl (X.pickand_t (y := decide (y3.2 = y1.2.2)) rfl h_13 rfl) rfl ?_
       refine X.q rfl ?_
       refine X.opR (X.on_t rfl rfl rfl h_14) rfl rfl ?_
       refine X.opR (X.on_t rfl rfl rfl h_14) (X.lenF rfl rfl rfl) rfl ?_
       refine X.opR (X.on_t rfl rfl rfl h_14) rfl rfl ?_
       refine X.opR rfl (X.pickand_t (y := decide ((y3.1.length : Int) = 0)) rfl h_14 rfl) rfl ?_
       refine X.q rfl ?_
       refine GS.opsNil ?_
       exact X.norm _ hg rfl (sr rfl)
      refine X.call (ok_law03_sanity h_10) rfl rfl rfl .nil ?_
      refine X.q rfl ?_
      iterate 2 refine X.opR (X.on_t rfl rfl rfl h_11) rfl rfl ?_
      refine X.opR rfl (X.pickand_t (y := !y1.2.1) rfl h_11 rfl) rfl ?_
      refine X.q rfl ?_
      refine X.opR (X.on_t rfl rfl rfl h_12) rfl rfl ?_
      refine X.opR (X.on_t rfl rfl rfl h_12) (X.lenF rfl rfl rfl) rfl ?_
      refine X.opR (X.on_t rfl rfl rfl h_12) rfl rfl ?_
      refine X.opR rfl (X.pickand_t (y := decide ((y1.1.length : Int) = 0)) rfl h_12 rfl) rfl ?_
      refine X.q rfl ?_
      iterate 3 refine X.opR (X.on_t rfl rfl rfl h_13) rfl rfl ?_
      refine X.opR rfl (X.pickand_t (y := decide (y3.2 = y1.2.2)) rfl h_13 rfl) rfl ?_
      refine X.q rfl ?_
      iterate 3 refine X.off (X.off_t rfl rfl rfl h_14) rfl ?_
      refine X.opR rfl (X.pickand_f (y := decide ((y3.1.length : Int) = 0)) rfl h_14 rfl) rfl ?_
      refine X.q rfl ?_
      refine GS.opsNil ?_
      exact X.norm _ hg rfl (sr rfl)
     refine X.call (ok_law03_sanity h_10) rfl rfl rfl .nil ?_
     refine X.q rfl ?_
     iterate 2 refine X.opR (X.on_t rfl rfl rfl h_11) rfl rfl ?_
     refine X.opR rfl (X.pickand_t (y := !y1.2.1) rfl h_11 rfl) rfl ?_
     refine X.q rfl ?_
     refine X.opR (X.on_t rfl rfl rfl h_12) rfl rfl ?_
     refine X.opR (X.on_t rfl rfl rfl h_12) (X.lenF rfl rfl rfl) rfl ?_
     refine X.opR (X.on_t rfl rfl rfl h_12) rfl rfl ?_
     refine X.opR rfl (X.pickand_t (y := decide ((y1.1.length : Int) = 0)) rfl h_12 rfl) rfl ?_
     refine X.q rfl ?_
     iterate 3 refine X.off (X.off_t rfl rfl rfl h_13) rfl ?_
     refine X.opR rfl (X.pickand_f (y := decide (y3.2 = y1.2.2)) rfl h_13 rfl) rfl ?_
     refine X.q rfl ?_
     iterate 3 refine X.off (X.off_t rfl rfl rfl (X.and_ff h_13)) rfl ?_
     refine X.opR rfl (X.pickand_f (y := decide ((y3.1.length : Int) = 0)) rfl (X.and_ff h_13) rfl) rfl ?_
     refine X.q rfl ?_
     refine GS.opsNil ?_
     exact X.norm _ hg rfl (sr rfl)
    refine X.call (ok_law03_sanity h_10) rfl rfl rfl .nil ?_
    refine X.q rfl ?_
    iterate 2 refine X.opR (X.on_t rfl rfl rfl h_11) rfl rfl ?_
    refine X.opR rfl (X.pickand_t (y := !y1.2.1) rfl h_11 rfl) rfl ?_
    refine X.q rfl ?_
    iterate 3 refine X.off (X.off_t rfl rfl rfl h_12) rfl ?_
    refine X.opR rfl (X.pickand_f (y := decide ((y1.1.length : Int) = 0)) rfl h_12 rfl) rfl ?_
    refine X.q rfl ?_
    iterate 3 refine X.off (X.off_t rfl rfl rfl (X.and_ff h_12)) rfl ?_
    refine X.opR rfl (X.pickand_f (y := decide (y3.2 = y1.2.2)) rfl (X.and_ff h_12) rfl) rfl ?_
    refine X.q rfl ?_
    iterate 3 refine X.off (X.off_t rfl rfl rfl (X.and_ff (X.and_ff h_12))) rfl ?_
    refine X.opR rfl (X.pickand_f (y := decide ((y3.1.length : Int) = 0)) rfl (X.and_ff (X.and_ff h_12)) rfl) rfl ?_
    refine X.q rfl ?_
    refine GS.opsNil ?_
    exact X.norm _ hg rfl (sr rfl)
   refine X.call (ok_law03_sanity h_10) rfl rfl rfl .nil ?_
   refine X.q rfl ?_
   iterate 2 refine X.off (X.off_t rfl rfl rfl h_11) rfl ?_
   refine X.opR rfl (X.pickand_f (y := !y1.2.1) rfl h_11 rfl) rfl ?_
   refine X.q rfl ?_
   iterate 3 refine X.off (X.off_t rfl rfl rfl (X.and_ff h_11)) rfl ?_
   refine X.opR rfl (X.pickand_f (y := decide ((y1.1.length : Int) = 0)) rfl (X.and_ff h_11) rfl) rfl ?_
   refine X.q rfl ?_
   iterate 3 refine X.off (X.off_t rfl rfl rfl (X.and_ff (X.and_ff h_11))) rfl ?_
   refine X.opR rfl (X.pickand_f (y := decide (y3.2 = y1.2.2)) rfl (X.and_ff (X.and_ff h_11)) rfl) rfl ?_
   refine X.q rfl ?_
   iterate 3 refine X.off (X.off_t rfl rfl rfl (X.and_ff (X.and_ff (X.and_ff h_11)))) rfl ?_
   refine X.opR rfl (X.pickand_f (y := decide ((y3.1.length : Int) = 0)) rfl (X.and_ff (X.and_ff (X.and_ff h_11))) rfl) rfl ?_
   refine X.q rfl ?_
   refine GS.opsNil ?_
   exact X.norm _ hg rfl (sr rfl)
  have hE := Option.some.inj hM
  subst hE
  exact GS.ret ⟨_, rfl, ⟨30, rfl⟩⟩
 replace hM := ite_f h_9 hM
 refine GS.skip ?_
 refine GS.seq ?_
 refine X.sq ?_
 iterate 2 refine X.q rfl ?_
 refine GS.opsNil ?_
 refine X.cond rfl (fun h_15 => ?_) (fun h_15 => ?_)
 ·replace hM := ite_t h_15 hM
  refine GS.seq ?_
  obtain ⟨y5, h_16, hM⟩ := bind_of hM
  obtain ⟨y6, h_17, hM⟩ := gb_of hM
  refine GS.region ?_
  refine X.mid [(4, (V.b (((y5 && y6) && (decide (y3.2 = 4))) && (decide ((y3.1.length : Int) = 0)))))] ?_ ?_
  ·intro hg
   refine X.split (y5) (fun h_18 => ?_) (fun h_18 => ?_)
   ·refine X.split ((y5 && y6)) (fun h_19 => ?_) (fun h_19 => ?_)
    ·refine X.split (((y5 && y6) && (decide (y3.2 = 4)))) (fun h_20 => ?_) (fun h_20 => ?_)
     ·refine X.call (ok_law03_sanity h_16) rfl rfl rfl .nil ?_
      refine X.q rfl ?_
      iterate 4 refine X.opR (X.on_t rfl rfl rfl h_18) rfl rfl ?_
      refine X.call (ok_ref03_Tips (h_17 h_18)) (X.on_t rfl rfl rfl h_18) rfl rfl (.cons (.shut (n := 9) rfl) (.cons (.shut (n := 9) rfl) (.cons (.shut (n := 9) rfl) (.cons (.shut (n := 9) rfl) .nil)))) ?_
      refine X.opR rfl (X.pickand_t (y := y6) rfl h_18 rfl) rfl ?_
      refine X.q rfl ?_
      iterate 2 refine X.opR (X.on_t rfl rfl rfl h_19) rfl rfl ?_
      refine X.opR rfl (X.pickand_t (y := decide (y3.2 = 4)) rfl h_19 rfl) rfl ?_
      refine X.q rfl ?_
      refine X.opR (X.on_t rfl rfl rfl h_20) rfl rfl ?_
      refine X.opR (X.on_t rfl rfl rfl h_20) (X.lenF rfl rfl rfl) rfl ?_
      refine X.opR (X.on_t rfl rfl rfl h_20) rfl rfl ?_
      refine X.opR rfl (X.pickand_t (y := decide ((y3.1.length : Int) = 0)) rfl h_20 rfl) rfl ?_
      refine X.q rfl ?_
      refine GS.opsNil ?_
      exact X.norm _ hg rfl (sr rfl)
     refine X.call (ok_law03_sanity h_16) rfl rfl rfl .nil ?_
     refine X.q rfl ?_
     iterate 4 refine X.opR (X.on_t rfl rfl rfl h_18) rfl rfl ?_
     refine X.call (ok_ref03_Tips (h_17 h_18)) (X.on_t rfl rfl rfl h_18) rfl rfl (.cons (.shut (n := 9) rfl) (.cons (.shut (n := 9) rfl) (.cons (.shut (n := 9) rfl) (.cons (.shut (n := 9) rfl) .nil)))) ?_
     refine X.opR rfl (X.pickand_t (y := y6) rfl h_18 rfl) rfl ?_
     refine X.q rfl ?_
     iterate 2 refine X.opR (X.on_t rfl rfl rfl h_19) rfl rfl ?_
     refine X.opR rfl (X.pickand_t (y := decide (y3.2 = 4)) rfl h_19 rfl) rfl ?_
     refine X.q rfl ?_
     iterate 3 refine X.off (X.off_t rfl rfl rfl h_20) rfl ?_
     refine X.opR rfl (X.pickand_f (y := decide ((y3.1.length : Int) = 0)) rfl h_20 rfl) rfl ?_
     refine X.q rfl ?_
     refine GS.opsNil ?_
     exact X.norm _ hg rfl (sr rfl)
    refine X.call (ok_law03_sanity h_16) rfl rfl rfl .nil ?_
    refine X.q rfl ?_
    iterate 4 refine X.opR (X.on_t rfl rfl rfl h_18) rfl rfl ?_
    refine X.call (ok_ref03_Tips (h_17 h_18)) (X.on_t rfl rfl rfl h_18) rfl rfl (.cons (.shut (n := 9) rfl) (.cons (.shut (n := 9) rfl) (.cons (.shut (n := 9) rfl) (.cons (.shut (n := 9) rfl) .nil)))) ?_
    refine X.opR rfl (X.pickand_t (y := y6) rfl h_18 rfl) rfl ?_
    refine X.q rfl ?_
    iterate 2 refine X.off (X.off_t rfl rfl rfl h_19) rfl ?_
    refine X.opR rfl (X.pickand_f (y := decide (y3.2 = 4)) rfl h_19 rfl) rfl ?_
    refine X.q rfl ?_
    iterate 3 refine X.off (X.off_t rfl rfl rfl (X.and_ff h_19)) rfl ?_
    refine X.opR rfl (X.pickand_f (y := decide ((y3.1.length : Int) = 0)) rfl (X.and_ff h_19) rfl) rfl ?_
    refine X.q rfl ?_
    refine GS.opsNil ?_
    exact X.norm _ hg rfl (sr rfl)
   refine X.call (ok_law03_sanity h_16) rfl rfl rfl .nil ?_
   refine X.q rfl ?_
   iterate 5 refine X.off (X.off_t rfl rfl rfl h_18) rfl ?_
   refine X.opR rfl (X.pickand_f (y := y6) rfl h_18 rfl) rfl ?_
   refine X.q rfl ?_
   iterate 2 refine X.off (X.off_t rfl rfl rfl (X.and_ff h_18)) rfl ?_
   refine X.opR rfl (X.pickand_f (y := decide (y3.2 = 4)) rfl (X.and_ff h_18) rfl) rfl ?_
   refine X.q rfl ?_
   iterate 3 refine X.off (X.off_t rfl rfl rfl (X.and_ff (X.and_ff h_18))) rfl ?_
   refine X.opR rfl (X.pickand_f (y := decide ((y3.1.length : Int) = 0)) rfl (X.and_ff (X.and_ff h_18)) rfl) rfl ?_
   refine X.q rfl ?_
   refine GS.opsNil ?_
   exact X.norm _ hg rfl (sr rfl)
  have hE := Option.some.inj hM
  subst hE
  exact GS.ret ⟨_, rfl, ⟨30, rfl⟩⟩
 replace hM := ite_f h_15 hM
 refine GS.skip ?_
 refine GS.seq ?_
 obtain ⟨y7, h_21, hM⟩ := bind_of hM
 obtain ⟨y8, h_22, hM⟩ := gb_of hM
 obtain ⟨y9, h_23, hM⟩ := gb_of hM
 refine GS.region ?_
 refine X.mid [(4, (V.b ((((y7 && (decide ((y1.1.length : Int) = 0))) && (decide (y3.2 = 0))) && (decide (y8 = 0))) && (decide (y9 = 0)))))] ?_ ?_
 ·intro hg
  refine X.split (y7) (fun h_24 => ?_) (fun h_24 => ?_)
  ·refine X.split ((y7 && (decide ((y1.1.length : Int) = 0)))) (fun h_25 => ?_) (fun h_25 => ?_)
   ·refine X.split (((y7 && (decide ((y1.1.length : Int) = 0))) && (decide (y3.2 = 0)))) (fun h_26 => ?_) (fun h_26 => ?_)
    ·refine X.split ((((y7 && (decide ((y1.1.length : Int) = 0))) && (decide (y3.2 = 0))) && (decide (y8 = 0)))) (fun h_27 => ?_) (fun h_27 => ?_)
     ·refine X.call (ok_law03_sanity h_21) rfl rfl rfl .nil ?_
      refine X.q rfl ?_
      refine X.opR (X.on_t rfl rfl rfl h_24) rfl rfl ?_
      refine X.opR (X.on_t rfl rfl rfl h_24) (X.lenF rfl rfl rfl) rfl ?_
      refine X.opR (X.on_t rfl rfl rfl h_24) rfl rfl ?_
      refine X.opR rfl (X.pickand_t (y := decide ((y1.1.length : Int) = 0)) rfl h_24 rfl) rfl ?_
      refine X.q rfl ?_
      iterate 2 refine X.opR (X.on_t rfl rfl rfl h_25) rfl rfl ?_
      refine X.opR rfl (X.pickand_t (y := decide (y3.2 = 0)) rfl h_25 rfl) rfl ?_
      refine X.q rfl ?_
      iterate 3 refine X.opR (X.on_t rfl rfl rfl h_26) rfl rfl ?_
      refine X.call (ok_ref03_CheckSteady (h_22 h_26)) (X.on_t rfl rfl rfl h_26) rfl rfl (.cons (.shut (n := 9) rfl) (.cons (.shut (n := 9) rfl) (.cons (.shut (n := 9) rfl) .nil))) ?_
      refine X.opR (X.on_t rfl rfl rfl h_26) rfl rfl ?_
      refine X.opR rfl (X.pickand_t (y := decide (y8 = 0)) rfl h_26 rfl) rfl ?_
      refine X.q rfl ?_
      iterate 3 refine X.opR (X.on_t rfl rfl rfl h_27) rfl rfl ?_
      refine X.call (ok_hull_CheckSteady (h_23 h_27)) (X.on_t rfl rfl rfl h_27) rfl rfl (.cons (.shut (n := 9) rfl) (.cons (.shut (n := 9) rfl) (.cons (.shut (n := 9) rfl) .nil))) ?_
      refine X.opR (X.on_t rfl rfl rfl h_27) rfl rfl ?_
      refine X.opR rfl (X.pickand_t (y := decide (y9 = 0)) rfl h_27 rfl) rfl ?_
      refine X.q rfl ?_
      refine GS.opsNil ?_
      exact X.norm _ hg rfl (sr rfl)
     refine X.call (ok_law03_sanity h_21) rfl rfl rfl .nil ?_
     refine X.q rfl ?_
     refine X.opR (X.on_t rfl rfl rfl h_24) rfl rfl ?_
     refine X.opR (X.on_t rfl rfl rfl h_24) (X.lenF rfl rfl rfl) rfl ?_
     refine X.opR (X.on_t rfl rfl rfl h_24) rfl rfl ?_
     refine X.opR rfl (X.pickand_t (y := decide ((y1.1.length : Int) = 0)) rfl h_24 rfl) rfl ?_
     refine X.q rfl ?_
     iterate 2 refine X.opR (X.on_t rfl rfl rfl h_25) rfl rfl ?_
     refine X.opR rfl (X.pickand_t (y := decide (y3.2 = 0)) rfl h_25 rfl) rfl ?_
     refine X.q rfl ?_
     iterate 3 refine X.opR (X.on_t rfl rfl rfl h_26) rfl rfl ?_
     refine X.call (ok_ref03_CheckSteady (h_22 h_26)) (X.on_t rfl rfl rfl h_26) rfl rfl (.cons (.shut (n := 9) rfl) (.cons (.shut (n := 9) rfl) (.cons (.shut (n := 9) rfl) .nil))) ?_
     refine X.opR (X.on_t rfl rfl rfl h_26) rfl rfl ?_
     refine X.opR rfl (X.pickand_t (y := decide (y8 = 0)) rfl h_26 rfl) rfl ?_
     refine X.q rfl ?_
     iterate 5 refine X.off (X.off_t rfl rfl rfl h_27) rfl ?_
     refine X.opR rfl (X.pickand_f (y := decide (y9 = 0)) rfl h_27 rfl) rfl ?_
     refine X.q rfl ?_
     refine GS.opsNil ?_
     exact X.norm _ hg rfl (sr rfl)
    refine X.call (ok_law03_sanity h_21) rfl rfl rfl .nil ?_
    refine X.q rfl ?_
    refine X.opR (X.on_t rfl rfl rfl h_24) rfl rfl ?_
    refine X.opR (X.on_t rfl rfl rfl h_24) (X.lenF rfl rfl rfl) rfl ?_
    refine X.opR (X.on_t rfl rfl rfl h_24) rfl rfl ?_
    refine X.opR rfl (X.pickand_t (y := decide ((y1.1.length : Int) = 0)) rfl h_24 rfl) rfl ?_
    refine X.q rfl ?_
    iterate 2 refine X.opR (X.on_t rfl rfl rfl h_25) rfl rfl ?_
    refine X.opR rfl (X.pickand_t (y := decide (y3.2 = 0)) rfl h_25 rfl) rfl ?_
    refine X.q rfl ?_
    iterate 5 refine X.off (X.off_t rfl rfl rfl h_26) rfl ?_
    refine X.opR rfl (X.pickand_f (y := decide (y8 = 0)) rfl h_26 rfl) rfl ?_
    refine X.q rfl ?_
    iterate 5 refine X.off (X.off_t rfl rfl rfl (X.and_ff h_26)) rfl ?_
    refine X.opR rfl (X.pickand_f (y := decide (y9 = 0)) rfl (X.and_ff h_26) rfl) rfl ?_
    refine X.q rfl ?_
    refine GS.opsNil ?_
    exact X.norm _ hg rfl (sr rfl)
   refine X.call (ok_law03_sanity h_21) rfl rfl rfl .nil ?_
   refine X.q rfl ?_
   refine X.opR (X.on_t rfl rfl rfl h_24) rfl rfl ?_
   refine X.opR (X.on_t rfl rfl rfl h_24) (X.lenF rfl rfl rfl) rfl ?_
   refine X.opR (X.on_t rfl rfl rfl h_24) rfl rfl ?_
   refine X.opR rfl (X.pickand_t (y := decide ((y1.1.length : Int) = 0)) rfl h_24 rfl) rfl ?_
   refine X.q rfl ?_
   iterate 2 refine X.off (X.off_t rfl rfl rfl h_25) rfl ?_
   refine X.opR rfl (X.pickand_f (y := decide (y3.2 = 0)) rfl h_25 rfl) rfl ?_
   refine X.q rfl ?_
   iterate 5 refine X.off (X.off_t rfl rfl rfl (X.and_ff h_25)) rfl ?_
   refine X.opR rfl (X.pickand_f (y := decide (y8 = 0)) rfl (X.and_ff h_25) rfl) rfl ?_
   refine X.q rfl ?_
   iterate 5 refine X.off (X.off_t rfl rfl rfl (X.and_ff (X.and_ff h_25))) rfl ?_
   refine X.opR rfl (X.pickand_f (y := decide (y9 = 0)) rfl (X.and_ff (X.and_ff h_25)) rfl) rfl ?_
   refine X.q rfl ?_
   refine GS.opsNil ?_
   exact X.norm _ hg rfl (sr rfl)
  refine X.call (ok_law03_sanity h_21) rfl rfl rfl .nil ?_
  refine X.q rfl ?_
  iterate 3 refine X.off (X.off_t rfl rfl rfl h_24) rfl ?_
  refine X.opR rfl (X.pickand_f (y := decide ((y1.1.length : Int) = 0)) rfl h_24 rfl) rfl ?_
  refine X.q rfl ?_
  iterate 2 refine X.off (X.off_t rfl rfl rfl (X.and_ff h_24)) rfl ?_
  refine X.opR rfl (X.pickand_f (y := decide (y3.2 = 0)) rfl (X.and_ff h_24) rfl) rfl ?_
  refine X.q rfl ?_
  iterate 5 refine X.off (X.off_t rfl rfl rfl (X.and_ff (X.and_ff h_24))) rfl ?_
  refine X.opR rfl (X.pickand_f (y := decide (y8 = 0)) rfl (X.and_ff (X.and_ff h_24)) rfl) rfl ?_
  refine X.q rfl ?_
  iterate 5 refine X.off (X.off_t rfl rfl rfl (X.and_ff (X.and_ff (X.and_ff h_24)))) rfl ?_
  refine X.opR rfl (X.pickand_f (y := decide (y9 = 0)) rfl (X.and_ff (X.and_ff (X.and_ff h_24))) rfl) rfl ?_
  refine X.q rfl ?_
  refine GS.opsNil ?_
  exact X.norm _ hg rfl (sr rfl)
 have hE := Option.some.inj hM
 subst hE
 exact GS.ret ⟨_, rfl, ⟨30, rfl⟩⟩

end Go.Proofs.YthfnbjoecocfaaaGreat
