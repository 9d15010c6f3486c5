/- The program's functions compute the plain ones. Conditions: none. Printed by a program (wip/tools/xg.py). -/
import Derived.Test.YtbmojhkipnnmlaaGreatP1
set_option linter.unusedVariables false
set_option linter.unusedSimpArgs false
namespace Go.Proofs.YtbmojhkipnnmlaaGreat
open Go Go.Am Go.Proofs Go.Mx
theorem ok_hull_afloat {s : api_Ship} {x : (List Int)} {r : api_Draughts} (hM : hull_afloat s x = some r) : Ct Tryz.prog 50 [(e_api_Ship s), (V.sl (List.map V.i x))] (e_api_Draughts r) := by
 refine ct_of_gs CC_ok rfl ?_
 unfold hull_afloat at hM
 refine X.sq ?_
 iterate 3 refine X.opW rfl rfl rfl rfl ?_
 refine GS.opsNil (GS.seq ?_)
 obtain ⟨y, h_1, hM⟩ := bind_of hM
 obtain ⟨y1, h_2, hM⟩ := bind_of hM
 refine X.draw (by kernel_rfl) ?_
 iterate 6 refine X.dop rfl rfl rfl rfl (by kernel_rfl) rfl rfl ?_
 refine X.dcall (ok_hull_sum h_1) rfl rfl rfl (by kernel_rfl) rfl (.cons (.shut (n := 9) rfl) .nil) ?_
 refine X.dop rfl (X.addE rfl rfl) rfl rfl (by kernel_rfl) rfl rfl ?_
 refine X.dcall (ok_hull_table_at h_2) rfl rfl rfl (by kernel_rfl) rfl (.cons (.shut (n := 9) rfl) (.cons (.shut (n := 9) rfl) .nil)) ?_
 iterate 5 refine X.dop rfl rfl rfl rfl (by kernel_rfl) rfl rfl ?_
 iterate 2 refine X.dop0 rfl rfl rfl rfl (by kernel_rfl) rfl ?_
 refine X.dnil ?_
 refine X.norm [(2, (V.ptr 0 0 0)), (3, (V.ptr 1 0 0)), (4, (V.ptr 2 0 0)), (5, (V.ptr 3 0 0)), (6, (V.ptr 4 0 0))] ?_ rfl (sr rfl)
 refine X.sq (X.q rfl (X.q rfl ?_))
 refine GS.opsNil (GS.seq ?_)
 obtain ⟨y2, h_3, hM⟩ := bind_of hM
 obtain ⟨y3, h_4, hM⟩ := bind_of hM
 refine GS.region (X.q rfl ?_)
 refine X.callF (ok_hull_afloat_1 h_3) rfl rfl rfl (m := 9) rfl (.cons (.shut (n := 9) rfl) (.cons (FR.arg ⟨30, rfl⟩) (.cons (FR.arg ⟨30, rfl⟩) (.cons (FR.arg ⟨30, rfl⟩) (.cons (FR.arg ⟨30, rfl⟩) .nil))))) (X.q rfl ?_)
 refine X.callF (ok_hull_afloat_1 h_4) rfl rfl rfl (m := 9) rfl (.cons (.shut (n := 9) rfl) (.cons (FR.arg ⟨30, rfl⟩) (.cons (FR.arg ⟨30, rfl⟩) (.cons (FR.arg ⟨30, rfl⟩) (.cons (FR.arg ⟨30, rfl⟩) .nil))))) (X.q rfl ?_)
 refine X.op0W (H' := [.rows 11 [(e_api_Ship s)], .rows 1 [(V.sl (List.map V.i x))], .rows 4 [(V.agg [(V.i y2.Lo), (V.i y2.Hi), (V.i y3.Lo), (V.i y3.Hi)])], .rows 1 [(V.i y1.1)], .rows 1 [(V.i y1.2)]]) rfl rfl rfl (GS.opsNil ?_)
 cases hM
 exact GS.ret ⟨_, rfl, ⟨30, rfl⟩⟩
theorem ok_hull_Afloat {s : api_Ship} {x : (List Int)} {r : api_Draughts × Int} (hM : hull_Afloat s x = some r) : Ct Tryz.prog 13 [(e_api_Ship s), (V.sl (List.map V.i x))] (V.tup [(e_api_Draughts r.1), (V.i r.2)]) := by
 refine ct_of_gs CC_ok rfl ?_
 unfold hull_Afloat at hM
 refine X.sq ?_
 iterate 2 refine X.opW rfl rfl rfl rfl ?_
 refine X.q rfl (GS.opsNil ?_)
 iterate 2 refine GS.seq ?_
 obtain ⟨y, h_1, hM⟩ := bind_of hM
 refine GS.region (X.q rfl (X.q rfl ?_))
 refine GS.bldF rfl rfl rfl rfl ?_
 refine X.call (ok_hull_loaded h_1) rfl rfl rfl (.cons (.shut (n := 9) rfl) (.cons (.shut (n := 9) rfl) .nil)) (X.q rfl (X.nq (X.q rfl (X.q rfl ?_))))
 refine GS.opsNil ?_
 refine X.cond rfl (fun h_2 => ?_) (fun h_2 => ?_)
 ·replace hM := ite_t h_2 hM
  refine X.sq (X.q rfl (X.q rfl ?_))
  refine X.op0W rfl rfl rfl (X.q rfl (GS.opsNil ?_))
  cases hM
  exact GS.ret ⟨_, rfl, ⟨30, rfl⟩⟩
 replace hM := ite_f h_2 hM
 refine GS.skip (GS.seq ?_)
 obtain ⟨y1, h_3, hM⟩ := bind_of hM
 refine GS.region (X.q rfl (X.q rfl ?_))
 refine X.call (ok_hull_afloat h_3) rfl rfl rfl (.cons (.shut (n := 9) rfl) (.cons (.shut (n := 9) rfl) .nil)) ?_
 refine X.op0W rfl rfl rfl (X.q rfl (GS.opsNil ?_))
 cases hM
 exact GS.ret ⟨_, rfl, ⟨30, rfl⟩⟩
theorem ok_hull_Narrow {s : api_Ship} {l : api_Load} {r : api_Load × Int} (hM : hull_Narrow s l = some r) : Ct Tryz.prog 14 [(e_api_Ship s), (e_api_Load l)] (V.tup [(e_api_Load r.1), (V.i r.2)]) := by
 refine ct_of_gs CC_ok rfl ?_
 unfold hull_Narrow at hM
 refine X.sq ?_
 iterate 3 refine X.opW rfl rfl rfl rfl ?_
 refine X.q rfl (GS.opsNil ?_)
 iterate 2 refine GS.seq ?_
 obtain ⟨y, h_1, hM⟩ := bind_of hM
 refine GS.region (X.q rfl (X.q rfl ?_))
 refine X.call (ok_hull_CheckLoad h_1) rfl rfl rfl (.cons (.shut (n := 9) rfl) (.cons (.shut (n := 9) rfl) .nil)) (X.q rfl (X.nq (X.q rfl (X.q rfl ?_))))
 refine GS.opsNil ?_
 refine X.cond rfl (fun h_2 => ?_) (fun h_2 => ?_)
 ·replace hM := ite_t h_2 hM
  refine X.sq (X.q rfl (X.q rfl ?_))
  refine X.op0W rfl rfl rfl (X.q rfl (GS.opsNil ?_))
  cases hM
  exact GS.ret ⟨_, rfl, ⟨30, rfl⟩⟩
 replace hM := ite_f h_2 hM
 refine GS.skip (GS.seq ?_)
 obtain ⟨y1, h_3, hM⟩ := bind_of hM
 refine GS.region (X.q rfl (X.q rfl ?_))
 refine X.call (ok_hull_sums h_3) rfl rfl rfl (.cons (.shut (n := 9) rfl) .nil) ?_
 refine X.opW (H' := [.rows 11 [(e_api_Ship s)], .rows 3 [(e_api_Load l)], .rows 3 [(V.agg [V.nil, (V.i 0), (V.i 0)])], .rows 2 [(V.agg [(V.i 0), (V.i 0)])]]) rfl rfl rfl rfl ?_
 refine X.op0W (H' := [.rows 11 [(e_api_Ship s)], .rows 3 [(e_api_Load l)], .rows 3 [(V.agg [V.nil, (V.i 0), (V.i 0)])], .rows 2 [(e_api_Span y1)]]) rfl rfl rfl (GS.opsNil (GS.seq ?_))
 obtain ⟨y2, h_4, hM⟩ := bind_of hM
 refine GS.region (X.q rfl ?_)
 refine X.call (ok_hull_totals h_4) rfl rfl rfl (.cons (.shut (n := 9) rfl) .nil) (X.q rfl ?_)
 refine X.opW (H' := [.rows 11 [(e_api_Ship s)], .rows 3 [(e_api_Load l)], .rows 3 [(V.agg [V.nil, (V.i 0), (V.i 0)])], .rows 2 [(e_api_Span y1)], .rows 3 [(V.agg [V.nil, (V.i 0), (V.i 0)])]]) rfl rfl rfl rfl ?_
 refine X.op0W (H' := [.rows 11 [(e_api_Ship s)], .rows 3 [(e_api_Load l)], .rows 3 [(V.agg [V.nil, (V.i 0), (V.i 0)])], .rows 2 [(e_api_Span y1)], .rows 3 [(V.agg [V.nil, (V.i y2.Lo), (V.i y2.Hi)])]]) rfl rfl rfl (GS.opsNil (GS.seq (X.sq (X.q rfl (X.q rfl ?_)))))
 refine X.opR rfl (X.lenF rfl rfl rfl) rfl (X.q rfl (GS.opsNil ?_))
 refine X.join (τ := (List api_Span)) (fun v => hull_Narrow_j1 y2 v = some r) (fun v => ⟨[(4, (V.ptr 0 0 0)), (8, (V.ptr 1 0 0))], [.rows 3 [(V.agg [V.nil, (V.i 0), (V.i 0)])], .rows 3 [(V.agg [(ovl 2 v), (V.i y2.Lo), (V.i y2.Hi)])], obl 2 e_api_Span v], 0, none, 63⟩) ?_ ?_
 ·intro l1 hM
  replace hM : hull_Narrow_j1 y2 l1 = some r := hM
  unfold hull_Narrow_j1 at hM
  refine X.sq (X.q rfl ?_)
  refine X.op0W rfl (v := undefV) (wr := [(0, .rows 3 [(V.agg [(ovl 2 l1), (V.i y2.Lo), (V.i y2.Hi)])])]) (by rcases X.ovl_or (z := true) 2 l1 with h0 | ⟨n0, h0⟩ <;> simp only [h0] <;> rfl) rfl (X.q rfl (GS.opsNil ?_))
  have hE := Option.some.inj hM
  subst hE
  exact GS.ret ⟨_, rfl, FR.tup (.cons (FR.agg (.cons (FR.ovl (f := e_api_Span) (l := l1) 9 rfl rfl (fun _ => rfl)) (.cons ⟨30, rfl⟩ (.cons ⟨30, rfl⟩ .nil)))) (.cons ⟨30, rfl⟩ .nil))⟩
 intro hj_1
 refine GS.block ?_
 refine X.gc [some 1, some 2, some 3, some 4, none] (X.loop (σ := (Int × (List api_Span))) (fun v => ⟨[(3, (V.ptr 0 0 0)), (4, (V.ptr 1 0 0)), (7, (V.ptr 2 0 0)), (8, (V.ptr 3 0 0)), (25, (V.sl (List.map e_api_Span l.Holds))), (26, (V.i (l.Holds.length : Int))), (27, (V.i v.1))], [.rows 3 [(e_api_Load l)], .rows 3 [(V.agg [V.nil, (V.i 0), (V.i 0)])], .rows 2 [(e_api_Span y1)], .rows 3 [(V.agg [(ovl 4 v.2), (V.i y2.Lo), (V.i y2.Hi)])], obl 2 e_api_Span v.2], 0, none, 63⟩) hM ?_ rfl) rfl rfl rfl (ga rfl rfl) (gb9 rfl rfl rfl (gb9 rfl rfl rfl (gb9 rfl rfl rfl (gb9 rfl rfl rfl (gb_pad' rfl gb_nil)))))
 rintro ⟨x1, l3⟩ b_1 hM hc_2 hr_1
 rw [hull_Narrow_b2] at hM
 refine X.sq (X.q rfl (GS.opsNil (GS.seq ?_)))
 refine X.cond rfl (fun h_5 => ?_) (fun h_5 => ?_)
 ·replace hM := ite_t h_5 hM
  refine GS.skip (GS.seq (GS.block (GS.seq ?_)))
  obtain ⟨x, h_6, hM⟩ := bind_of hM
  refine GS.region ?_
  refine X.opR rfl (X.indexF (f := e_api_Span) h_6 (fun _ => rfl) rfl rfl rfl rfl) rfl ?_
  refine X.opR rfl (X.loadF h_6 rfl rfl rfl) rfl ?_
  refine X.opW (H' := [.rows 3 [(e_api_Load l)], .rows 3 [(V.agg [V.nil, (V.i 0), (V.i 0)])], .rows 2 [(e_api_Span y1)], .rows 3 [(V.agg [(ovl 4 l3), (V.i y2.Lo), (V.i y2.Hi)])], obl 2 e_api_Span l3, .rows 2 [(V.agg [(V.i 0), (V.i 0)])]]) rfl rfl rfl rfl ?_
  refine X.op0W (H' := [.rows 3 [(e_api_Load l)], .rows 3 [(V.agg [V.nil, (V.i 0), (V.i 0)])], .rows 2 [(e_api_Span y1)], .rows 3 [(V.agg [(ovl 4 l3), (V.i y2.Lo), (V.i y2.Hi)])], obl 2 e_api_Span l3, .rows 2 [(e_api_Span x)]]) rfl rfl rfl (GS.opsNil ?_)
  obtain ⟨l2, h_7, hM⟩ := bind_of hM
  refine X.draw (by kernel_rfl) ?_
  iterate 11 refine X.dop rfl rfl rfl rfl (by kernel_rfl) rfl rfl ?_
  iterate 2 refine X.dop rfl (X.subE rfl rfl) rfl rfl (by kernel_rfl) rfl rfl ?_
  refine X.dcall (ok_hull_greater_int x.Lo (w64 (l.All.Lo - (w64 (y1.Hi - x.Hi))))) rfl rfl rfl (by kernel_rfl) rfl (.cons (.shut (n := 9) rfl) (.cons (.shut (n := 9) rfl) .nil)) ?_
  iterate 9 refine X.dop rfl rfl rfl rfl (by kernel_rfl) rfl rfl ?_
  iterate 2 refine X.dop rfl (X.subE rfl rfl) rfl rfl (by kernel_rfl) rfl rfl ?_
  refine X.dop rfl (X.minE rfl rfl) rfl rfl (by kernel_rfl) rfl rfl ?_
  iterate 2 refine X.dop rfl rfl rfl rfl (by kernel_rfl) rfl rfl ?_
  refine X.dappN (f := e_api_Span) h_7 (fun _ => rfl) (by rfl) (by rfl) (by rfl) (by rfl) (by rfl) (by rfl) (by rfl) (by rfl) (by rfl) (by rfl) (by rfl) (by exact rfl) (by rfl) (by rfl) (by kernel_rfl) (by rfl) (by rfl) ?_
  refine X.dop rfl rfl rfl rfl (by kernel_rfl) rfl rfl ?_
  refine X.dop0 rfl rfl rfl rfl (by kernel_rfl) rfl ?_
  refine X.dnil ?_
  refine X.norm [(3, (V.ptr 0 0 0)), (4, (V.ptr 1 0 0)), (7, (V.ptr 2 0 0)), (8, (V.ptr 3 0 0)), (25, (V.sl (List.map e_api_Span l.Holds))), (26, (V.i (l.Holds.length : Int))), (27, (V.i x1))] ?_ rfl (sr rfl)
  refine GS.endB (GS.region ?_)
  refine X.opR rfl (X.addE rfl rfl) rfl (X.q rfl (GS.opsNil ?_))
  have hE := Option.some.inj hM
  exact X.gc [some 0, some 1, some 2, some 3, some 7] (hc_2 (w64 (x1 + 1), l2) hE.symm) rfl rfl rfl (ga rfl rfl) (gb9 rfl rfl rfl (gb9 rfl rfl rfl (gb9 rfl rfl rfl (gb_box rfl rfl (rn_agg (.cons (rv_ne (app_ne h_7) rfl) (.cons ⟨9, rfl⟩ (.cons ⟨9, rfl⟩ .nil)))) (gb_obl' 9 (app_ne h_7) rfl rfl (fun _ => rfl) gb_nil)))))
 replace hM := ite_f h_5 hM
 refine GS.exit rfl ?_
 obtain ⟨y_1, hM, hy⟩ := map_of hM
 rw [hr_1 _ hy.symm] at hM
 exact X.gc [some 1, some 3, some 4] (hj_1 l3 hM) rfl rfl rfl (ga rfl rfl) (gb9 rfl rfl rfl (gb_box rfl rfl (rn_agg (.cons (rn_ovl rfl) (.cons ⟨9, rfl⟩ (.cons ⟨9, rfl⟩ .nil)))) (gb_obl 9 rfl rfl (fun _ => rfl) gb_nil)))
abbrev e_api_Range (x : api_Range) : V := .agg [(V.i x.Lo.Num), (V.i x.Lo.Den), (V.i x.Hi.Num), (V.i x.Hi.Den)]
theorem ok_curve_plus (f : api_Frac) (n : Int) : Ct Tryz.prog 57 [(e_api_Frac f), (V.i n)] (e_api_Frac (curve_plus f n)) := by
 refine ct_of_gs CC_ok rfl ?_
 generalize hM : curve_plus f n = r
 unfold curve_plus at hM
 refine X.sq ?_
 iterate 2 refine X.opW rfl rfl rfl rfl ?_
 refine X.nq ?_
 iterate 5 refine X.q rfl ?_
 refine X.opR rfl (X.mulE rfl rfl) rfl ?_
 refine X.opR rfl (X.addE rfl rfl) rfl (X.q rfl (X.q rfl (X.q rfl ?_)))
 refine X.op0W rfl rfl rfl (GS.opsNil ?_)
 subst hM
 exact GS.ret ⟨_, rfl, ⟨30, rfl⟩⟩
theorem ok_curve_Values {c : api_Curve} {x : Int} {r : api_Range × Int} (hM : curve_Values c x = some r) : Ct Tryz.prog 16 [(e_api_Curve c), (V.i x)] (V.tup [(e_api_Range r.1), (V.i r.2)]) := by
 refine ct_of_gs CC_ok rfl ?_
 unfold curve_Values at hM
 refine X.sq ?_
 iterate 2 refine X.opW rfl rfl rfl rfl ?_
 refine X.q rfl (GS.opsNil (GS.seq ?_))
 obtain ⟨y, h_1, hM⟩ := bind_of hM
 refine GS.region (X.q rfl (X.q rfl ?_))
 refine X.call (ok_curve_Value h_1) rfl rfl rfl (.cons (.shut (n := 9) rfl) (.cons (.shut (n := 9) rfl) .nil)) (X.q rfl (X.q rfl (X.q rfl ?_)))
 refine X.opW rfl rfl rfl rfl ?_
 refine X.op0W rfl rfl rfl (X.q rfl (GS.opsNil (GS.seq (X.sq (X.q rfl (X.q rfl ?_))))))
 refine GS.opsNil ?_
 refine X.cond rfl (fun h_2 => ?_) (fun h_2 => ?_)
 ·replace hM := ite_t h_2 hM
  refine X.sq (X.q rfl (X.q rfl ?_))
  refine X.op0W rfl rfl rfl (X.q rfl (GS.opsNil ?_))
  cases hM
  exact GS.ret ⟨_, rfl, ⟨30, rfl⟩⟩
 replace hM := ite_f h_2 hM
 refine GS.skip (GS.seq ?_)
 refine X.draw (by kernel_rfl) ?_
 iterate 3 refine X.dop rfl rfl rfl rfl (by kernel_rfl) rfl rfl ?_
 refine X.dop rfl (X.negE rfl) rfl rfl (by kernel_rfl) rfl rfl ?_
 refine X.dcall (ok_curve_plus y.1 (w64 (0 - c.Err))) rfl rfl rfl (by kernel_rfl) rfl (.cons (.shut (n := 9) rfl) (.cons (.shut (n := 9) rfl) .nil)) ?_
 iterate 3 refine X.dop rfl rfl rfl rfl (by kernel_rfl) rfl rfl ?_
 refine X.dcall (ok_curve_plus y.1 c.Err) rfl rfl rfl (by kernel_rfl) rfl (.cons (.shut (n := 9) rfl) (.cons (.shut (n := 9) rfl) .nil)) ?_
 refine X.dop rfl rfl rfl rfl (by kernel_rfl) rfl rfl ?_
 refine X.dop0 rfl rfl rfl rfl (by kernel_rfl) rfl ?_
 refine X.dop rfl rfl rfl rfl (by kernel_rfl) rfl rfl ?_
 refine X.dnil ?_
 refine X.norm [(4, (V.ptr 1 0 0)), (5, (V.i 0))] ?_ rfl (sr rfl)
 cases hM
 exact GS.ret ⟨_, rfl, ⟨30, rfl⟩⟩
theorem ok_top_rounds (a : api_Draughts) (r_ : api_Range) : Ct Tryz.prog 17 [(e_api_Draughts a), (e_api_Range r_)] (V.b (top_rounds a r_)) := by
 refine ct_of_gs CC_ok rfl ?_
 generalize hM : top_rounds a r_ = r
 unfold top_rounds at hM
 refine X.sq ?_
 iterate 2 refine X.opW rfl rfl rfl rfl ?_
 refine X.q rfl (GS.opsNil (GS.seq ?_))
 refine X.drawc (by kernel_rfl) rfl ?_
 iterate 6 refine X.cop rfl rfl rfl rfl ?_
 refine X.cop rfl (X.addE rfl rfl) rfl rfl ?_
 iterate 6 refine X.cop rfl rfl rfl rfl ?_
 refine X.cop rfl (X.addE rfl rfl) rfl rfl ?_
 iterate 2 refine X.cop rfl rfl rfl rfl ?_
 refine X.cnil ?_
 refine X.norm [(3, (V.ptr 1 0 0)), (5, (V.i (w64 (a.Fore.Lo + a.Aft.Lo)))), (6, (V.i (w64 (a.Fore.Hi + a.Aft.Hi))))] ?_ rfl (sr rfl)
 refine X.sq ?_
 refine X.mid [(4, (V.b ((((decide ((w64 ((w64 (a.Fore.Lo + a.Aft.Lo)) * r_.Lo.Den)) ≤ (w64 (2 * r_.Lo.Num)))) && (decide ((w64 (2 * r_.Lo.Num)) < (w64 ((w64 ((w64 (a.Fore.Lo + a.Aft.Lo)) + 2)) * r_.Lo.Den))))) && (decide ((w64 (2 * r_.Hi.Num)) ≤ (w64 ((w64 (a.Fore.Hi + a.Aft.Hi)) * r_.Hi.Den))))) && (decide ((w64 ((w64 ((w64 (a.Fore.Hi + a.Aft.Hi)) - 2)) * r_.Hi.Den)) < (w64 (2 * r_.Hi.Num)))))))] ?_ ?_
 ·intro hg
  refine X.split (decide ((w64 ((w64 (a.Fore.Lo + a.Aft.Lo)) * r_.Lo.Den)) ≤ (w64 (2 * r_.Lo.Num)))) (fun h_1 => ?_) (fun h_1 => ?_)
  ·refine X.split (((decide ((w64 ((w64 (a.Fore.Lo + a.Aft.Lo)) * r_.Lo.Den)) ≤ (w64 (2 * r_.Lo.Num)))) && (decide ((w64 (2 * r_.Lo.Num)) < (w64 ((w64 ((w64 (a.Fore.Lo + a.Aft.Lo)) + 2)) * r_.Lo.Den)))))) (fun h_2 => ?_) (fun h_2 => ?_)
   ·refine X.split ((((decide ((w64 ((w64 (a.Fore.Lo + a.Aft.Lo)) * r_.Lo.Den)) ≤ (w64 (2 * r_.Lo.Num)))) && (decide ((w64 (2 * r_.Lo.Num)) < (w64 ((w64 ((w64 (a.Fore.Lo + a.Aft.Lo)) + 2)) * r_.Lo.Den))))) && (decide ((w64 (2 * r_.Hi.Num)) ≤ (w64 ((w64 (a.Fore.Hi + a.Aft.Hi)) * r_.Hi.Den)))))) (fun h_3 => ?_) (fun h_3 => ?_)
    ·iterate 4 refine X.q rfl ?_
     refine X.opR rfl (X.mulE rfl rfl) rfl (X.q rfl (X.q rfl (X.q rfl ?_)))
     refine X.opR rfl (X.mulE rfl rfl) rfl (X.q rfl (X.q rfl ?_))
     refine X.opR (X.on_t rfl rfl rfl h_1) rfl rfl ?_
     refine X.opR (X.on_t rfl rfl rfl h_1) (X.addE rfl rfl) rfl ?_
     iterate 3 refine X.opR (X.on_t rfl rfl rfl h_1) rfl rfl ?_
     refine X.opR (X.on_t rfl rfl rfl h_1) (X.mulE rfl rfl) rfl ?_
     iterate 3 refine X.opR (X.on_t rfl rfl rfl h_1) rfl rfl ?_
     refine X.opR (X.on_t rfl rfl rfl h_1) (X.mulE rfl rfl) rfl ?_
     refine X.opR (X.on_t rfl rfl rfl h_1) rfl rfl ?_
     refine X.opR rfl (X.pickand_t (y := decide ((w64 (2 * r_.Lo.Num)) < (w64 ((w64 ((w64 (a.Fore.Lo + a.Aft.Lo)) + 2)) * r_.Lo.Den)))) rfl h_1 rfl) rfl (X.q rfl ?_)
     iterate 4 refine X.opR (X.on_t rfl rfl rfl h_2) rfl rfl ?_
     refine X.opR (X.on_t rfl rfl rfl h_2) (X.mulE rfl rfl) rfl ?_
     iterate 3 refine X.opR (X.on_t rfl rfl rfl h_2) rfl rfl ?_
     refine X.opR (X.on_t rfl rfl rfl h_2) (X.mulE rfl rfl) rfl ?_
     refine X.opR (X.on_t rfl rfl rfl h_2) rfl rfl ?_
     refine X.opR rfl (X.pickand_t (y := decide ((w64 (2 * r_.Hi.Num)) ≤ (w64 ((w64 (a.Fore.Hi + a.Aft.Hi)) * r_.Hi.Den)))) rfl h_2 rfl) rfl (X.q rfl ?_)
     refine X.opR (X.on_t rfl rfl rfl h_3) rfl rfl ?_
     refine X.opR (X.on_t rfl rfl rfl h_3) (X.subE rfl rfl) rfl ?_
     iterate 3 refine X.opR (X.on_t rfl rfl rfl h_3) rfl rfl ?_
     refine X.opR (X.on_t rfl rfl rfl h_3) (X.mulE rfl rfl) rfl ?_
     iterate 3 refine X.opR (X.on_t rfl rfl rfl h_3) rfl rfl ?_
     refine X.opR (X.on_t rfl rfl rfl h_3) (X.mulE rfl rfl) rfl ?_
     refine X.opR (X.on_t rfl rfl rfl h_3) rfl rfl ?_
     refine X.opR rfl (X.pickand_t (y := decide ((w64 ((w64 ((w64 (a.Fore.Hi + a.Aft.Hi)) - 2)) * r_.Hi.Den)) < (w64 (2 * r_.Hi.Num)))) rfl h_3 rfl) rfl (X.q rfl (GS.opsNil ?_))
     exact X.norm _ hg rfl (sr rfl)
    iterate 4 refine X.q rfl ?_
    refine X.opR rfl (X.mulE rfl rfl) rfl (X.q rfl (X.q rfl (X.q rfl ?_)))
    refine X.opR rfl (X.mulE rfl rfl) rfl (X.q rfl (X.q rfl ?_))
    refine X.opR (X.on_t rfl rfl rfl h_1) rfl rfl ?_
    refine X.opR (X.on_t rfl rfl rfl h_1) (X.addE rfl rfl) rfl ?_
    iterate 3 refine X.opR (X.on_t rfl rfl rfl h_1) rfl rfl ?_
    refine X.opR (X.on_t rfl rfl rfl h_1) (X.mulE rfl rfl) rfl ?_
    iterate 3 refine X.opR (X.on_t rfl rfl rfl h_1) rfl rfl ?_
    refine X.opR (X.on_t rfl rfl rfl h_1) (X.mulE rfl rfl) rfl ?_
    refine X.opR (X.on_t rfl rfl rfl h_1) rfl rfl ?_
    refine X.opR rfl (X.pickand_t (y := decide ((w64 (2 * r_.Lo.Num)) < (w64 ((w64 ((w64 (a.Fore.Lo + a.Aft.Lo)) + 2)) * r_.Lo.Den)))) rfl h_1 rfl) rfl (X.q rfl ?_)
    iterate 4 refine X.opR (X.on_t rfl rfl rfl h_2) rfl rfl ?_
    refine X.opR (X.on_t rfl rfl rfl h_2) (X.mulE rfl rfl) rfl ?_
    iterate 3 refine X.opR (X.on_t rfl rfl rfl h_2) rfl rfl ?_
    refine X.opR (X.on_t rfl rfl rfl h_2) (X.mulE rfl rfl) rfl ?_
    refine X.opR (X.on_t rfl rfl rfl h_2) rfl rfl ?_
    refine X.opR rfl (X.pickand_t (y := decide ((w64 (2 * r_.Hi.Num)) ≤ (w64 ((w64 (a.Fore.Hi + a.Aft.Hi)) * r_.Hi.Den)))) rfl h_2 rfl) rfl (X.q rfl ?_)
    iterate 11 refine X.off (X.off_t rfl rfl rfl h_3) rfl ?_
    refine X.opR rfl (X.pickand_f (y := decide ((w64 ((w64 ((w64 (a.Fore.Hi + a.Aft.Hi)) - 2)) * r_.Hi.Den)) < (w64 (2 * r_.Hi.Num)))) rfl h_3 rfl) rfl (X.q rfl (GS.opsNil ?_))
    exact X.norm _ hg rfl (sr rfl)
   iterate 4 refine X.q rfl ?_
   refine X.opR rfl (X.mulE rfl rfl) rfl (X.q rfl (X.q rfl (X.q rfl ?_)))
   refine X.opR rfl (X.mulE rfl rfl) rfl (X.q rfl (X.q rfl ?_))
   refine X.opR (X.on_t rfl rfl rfl h_1) rfl rfl ?_
   refine X.opR (X.on_t rfl rfl rfl h_1) (X.addE rfl rfl) rfl ?_
   iterate 3 refine X.opR (X.on_t rfl rfl rfl h_1) rfl rfl ?_
   refine X.opR (X.on_t rfl rfl rfl h_1) (X.mulE rfl rfl) rfl ?_
   iterate 3 refine X.opR (X.on_t rfl rfl rfl h_1) rfl rfl ?_
   refine X.opR (X.on_t rfl rfl rfl h_1) (X.mulE rfl rfl) rfl ?_
   refine X.opR (X.on_t rfl rfl rfl h_1) rfl rfl ?_
   refine X.opR rfl (X.pickand_t (y := decide ((w64 (2 * r_.Lo.Num)) < (w64 ((w64 ((w64 (a.Fore.Lo + a.Aft.Lo)) + 2)) * r_.Lo.Den)))) rfl h_1 rfl) rfl (X.q rfl ?_)
   iterate 10 refine X.off (X.off_t rfl rfl rfl h_2) rfl ?_
   refine X.opR rfl (X.pickand_f (y := decide ((w64 (2 * r_.Hi.Num)) ≤ (w64 ((w64 (a.Fore.Hi + a.Aft.Hi)) * r_.Hi.Den)))) rfl h_2 rfl) rfl (X.q rfl ?_)
   iterate 11 refine X.off (X.off_t rfl rfl rfl (X.and_ff h_2)) rfl ?_
   refine X.opR rfl (X.pickand_f (y := decide ((w64 ((w64 ((w64 (a.Fore.Hi + a.Aft.Hi)) - 2)) * r_.Hi.Den)) < (w64 (2 * r_.Hi.Num)))) rfl (X.and_ff h_2) rfl) rfl (X.q rfl (GS.opsNil ?_))
   exact X.norm _ hg rfl (sr rfl)
  iterate 4 refine X.q rfl ?_
  refine X.opR rfl (X.mulE rfl rfl) rfl (X.q rfl (X.q rfl (X.q rfl ?_)))
  refine X.opR rfl (X.mulE rfl rfl) rfl (X.q rfl (X.q rfl ?_))
  iterate 11 refine X.off (X.off_t rfl rfl rfl h_1) rfl ?_
  refine X.opR rfl (X.pickand_f (y := decide ((w64 (2 * r_.Lo.Num)) < (w64 ((w64 ((w64 (a.Fore.Lo + a.Aft.Lo)) + 2)) * r_.Lo.Den)))) rfl h_1 rfl) rfl (X.q rfl ?_)
  iterate 10 refine X.off (X.off_t rfl rfl rfl (X.and_ff h_1)) rfl ?_
  refine X.opR rfl (X.pickand_f (y := decide ((w64 (2 * r_.Hi.Num)) ≤ (w64 ((w64 (a.Fore.Hi + a.Aft.Hi)) * r_.Hi.Den)))) rfl (X.and_ff h_1) rfl) rfl (X.q rfl ?_)
  iterate 11 refine X.off (X.off_t rfl rfl rfl (X.and_ff (X.and_ff h_1))) rfl ?_
  refine X.opR rfl (X.pickand_f (y := decide ((w64 ((w64 ((w64 (a.Fore.Hi + a.Aft.Hi)) - 2)) * r_.Hi.Den)) < (w64 (2 * r_.Hi.Num)))) rfl (X.and_ff (X.and_ff h_1)) rfl) rfl (X.q rfl (GS.opsNil ?_))
  exact X.norm _ hg rfl (sr rfl)
 subst hM
 exact GS.ret ⟨_, rfl, ⟨30, rfl⟩⟩
theorem ok_top_scores {s : api_Ship} {n : api_Load} {r : api_Span} (hM : top_scores s n = some r) : Ct Tryz.prog 19 [(e_api_Ship s), (e_api_Load n)] (e_api_Span r) := by
 refine ct_of_gs CC_ok rfl ?_
 unfold top_scores at hM
 refine X.sq ?_
 iterate 3 refine X.opW rfl rfl rfl rfl ?_
 refine GS.opsNil (GS.seq ?_)
 obtain ⟨q, h_1, hM⟩ := bind_of hM
 obtain ⟨q1, h_2, hM⟩ := bind_of hM
 refine GS.region ?_
 iterate 5 refine X.q rfl ?_
 refine X.opR rfl (X.addE rfl rfl) rfl ?_
 refine X.opR rfl (X.quoE h_1 rfl rfl) rfl ?_
 iterate 5 refine X.q rfl ?_
 iterate 2 refine X.opR rfl (X.addE rfl rfl) rfl ?_
 refine X.opR rfl (X.subE rfl rfl) rfl ?_
 refine X.opR rfl (X.quoE h_2 rfl rfl) rfl (X.q rfl ?_)
 refine X.op0W rfl rfl rfl (GS.opsNil ?_)
 cases hM
 exact GS.ret ⟨_, rfl, ⟨30, rfl⟩⟩
theorem ok_curve_checked {l : (List api_Curve)} {r : Int} (hM : curve_checked l = some r) : Ct Tryz.prog 116 [(V.sl (List.map e_api_Curve l))] (V.i r) := by
 refine ct_of_gs CC_ok rfl ?_
 unfold curve_checked at hM
 refine X.sq (X.q rfl (GS.opsNil (GS.seq (X.sq (X.q rfl ?_)))))
 refine X.opR rfl (X.lenF rfl rfl rfl) rfl (X.q rfl (GS.opsNil ?_))
 refine X.join (τ := Unit) (fun v => curve_checked_j1 = some r) (fun v => ⟨[], [], 0, none, 18⟩) ?_ ?_
 ·intro _ hM
  replace hM : curve_checked_j1 = some r := hM
  unfold curve_checked_j1 at hM
  refine X.sq (X.q rfl (GS.opsNil ?_))
  cases hM
  exact GS.ret ⟨_, rfl, ⟨30, rfl⟩⟩
 intro hj_1
 refine GS.block ?_
 refine X.gc [] (X.loop (σ := Int) (fun v => ⟨[(6, (V.sl (List.map e_api_Curve l))), (7, (V.i (l.length : Int))), (8, (V.i v))], [], 0, none, 18⟩) hM ?_ rfl) rfl rfl rfl (ga rfl rfl) (gb_nil)
 intro x1 b_1 hM hc_2 hr_1
 rw [curve_checked_b2] at hM
 refine X.sq (X.q rfl (GS.opsNil (GS.seq ?_)))
 refine X.cond rfl (fun h_1 => ?_) (fun h_1 => ?_)
 ·replace hM := ite_t h_1 hM
  refine GS.skip (GS.seq (GS.block (GS.seq ?_)))
  obtain ⟨x, h_2, hM⟩ := bind_of hM
  refine GS.region ?_
  refine X.opR rfl (X.indexF (f := e_api_Curve) h_2 (fun _ => rfl) rfl rfl rfl rfl) rfl ?_
  refine X.opR rfl (X.loadF h_2 rfl rfl rfl) rfl ?_
  refine X.opW rfl rfl rfl rfl ?_
  refine X.op0W rfl rfl rfl (GS.opsNil (GS.seq ?_))
  obtain ⟨y, h_3, hM⟩ := bind_of hM
  refine GS.region (X.q rfl ?_)
  refine X.call (ok_curve_Check h_3) rfl rfl rfl (.cons (.shut (n := 9) rfl) .nil) (X.q rfl (X.nq (X.q rfl (X.q rfl ?_))))
  refine GS.opsNil ?_
  refine X.cond rfl (fun h_4 => ?_) (fun h_4 => ?_)
  ·replace hM := ite_t h_4 hM
   refine X.sq (X.q rfl (X.q rfl ?_))
   refine GS.opsNil ?_
   have hE := Option.some.inj hM
   replace hE := hr_1 _ hE.symm
   subst hE
   exact GS.ret ⟨_, rfl, ⟨30, rfl⟩⟩
  replace hM := ite_f h_4 hM
  refine GS.skip ?_
  refine GS.endB (GS.region ?_)
  refine X.opR rfl (X.addE rfl rfl) rfl (X.q rfl (GS.opsNil ?_))
  have hE := Option.some.inj hM
  exact X.gc [] (hc_2 (w64 (x1 + 1)) hE.symm) rfl rfl rfl (ga rfl rfl) (gb_nil)
 replace hM := ite_f h_1 hM
 refine GS.exit rfl ?_
 obtain ⟨y_1, hM, hy⟩ := map_of hM
 rw [hr_1 _ hy.symm] at hM
 exact X.gc [] (hj_1 () hM) rfl rfl rfl (gk_nil) (gb_nil)
theorem ok_curve_shared {l : (List api_Curve)} {r : api_Span} (hM : curve_shared l = some r) : Ct Tryz.prog 117 [(V.sl (List.map e_api_Curve l))] (e_api_Span r) := by
 refine ct_of_gs CC_ok rfl ?_
 unfold curve_shared at hM
 refine X.sq ?_
 refine X.opW rfl rfl rfl rfl (X.nq (X.q rfl ?_))
 refine X.opW rfl rfl rfl rfl ?_
 refine X.op0W rfl rfl rfl (GS.opsNil (GS.seq (X.sq (X.q rfl ?_))))
 refine X.opR rfl (X.lenF rfl rfl rfl) rfl (X.q rfl (GS.opsNil ?_))
 refine X.join (τ := Int × Int) (fun v => curve_shared_j1 v.1 v.2 = some r) (fun v => ⟨[(2, (V.ptr 0 0 0)), (3, (V.ptr 1 0 0))], [.rows 2 [(V.agg [(V.i 0), (V.i 0)])], .rows 2 [(V.agg [(V.i v.1), (V.i v.2)])]], 0, none, 29⟩) ?_ ?_
 ·rintro ⟨Lo, Hi⟩ hM
  replace hM : curve_shared_j1 Lo Hi = some r := hM
  unfold curve_shared_j1 at hM
  refine X.sq (X.q rfl ?_)
  refine X.op0W rfl rfl rfl (GS.opsNil ?_)
  cases hM
  exact GS.ret ⟨_, rfl, ⟨30, rfl⟩⟩
 intro hj_1
 refine GS.block ?_
 refine X.gc [some 0, some 1] (X.loop (σ := (Int × Int × Int)) (fun v => ⟨[(2, (V.ptr 0 0 0)), (3, (V.ptr 1 0 0)), (8, (V.sl (List.map e_api_Curve l))), (9, (V.i (l.length : Int))), (10, (V.i v.1))], [.rows 2 [(V.agg [(V.i 0), (V.i 0)])], .rows 2 [(V.agg [(V.i v.2.1), (V.i v.2.2)])]], 0, none, 29⟩) hM ?_ rfl) rfl rfl rfl (ga rfl rfl) (gb9 rfl rfl rfl (gb9 rfl rfl rfl gb_nil))
 rintro ⟨x1, Lo1, Hi1⟩ b_1 hM hc_2 hr_1
 rw [curve_shared_b2] at hM
 refine X.sq (X.q rfl (GS.opsNil (GS.seq ?_)))
 refine X.cond rfl (fun h_1 => ?_) (fun h_1 => ?_)
 ·replace hM := ite_t h_1 hM
  refine GS.skip (GS.seq (GS.block (GS.seq ?_)))
  obtain ⟨x, h_2, hM⟩ := bind_of hM
  refine GS.region ?_
  refine X.opR rfl (X.indexF (f := e_api_Curve) h_2 (fun _ => rfl) rfl rfl rfl rfl) rfl ?_
  refine X.opR rfl (X.loadF h_2 rfl rfl rfl) rfl ?_
  refine X.opW rfl rfl rfl rfl ?_
  refine X.op0W rfl rfl rfl (GS.opsNil (GS.seq ?_))
  obtain ⟨y, h_3, hM⟩ := bind_of hM
  refine GS.region (X.q rfl ?_)
  refine X.call (ok_curve_domain h_3) rfl rfl rfl (.cons (.shut (n := 9) rfl) .nil) ?_
  refine X.opW (H' := [.rows 2 [(V.agg [(V.i 0), (V.i 0)])], .rows 2 [(V.agg [(V.i Lo1), (V.i Hi1)])], .rows 2 [(e_api_Curve x)], .rows 2 [(V.agg [(V.i 0), (V.i 0)])]]) rfl rfl rfl rfl ?_
  refine X.op0W (H' := [.rows 2 [(V.agg [(V.i 0), (V.i 0)])], .rows 2 [(V.agg [(V.i Lo1), (V.i Hi1)])], .rows 2 [(e_api_Curve x)], .rows 2 [(e_api_Span y)]]) rfl rfl rfl (X.mq ?_)
  iterate 4 refine X.q rfl ?_
  refine X.opR rfl (X.maxE rfl rfl) rfl ?_
  iterate 4 refine X.q rfl ?_
  refine X.opR rfl (X.minE rfl rfl) rfl (X.q rfl ?_)
  refine X.op0W (H' := [.rows 2 [(V.agg [(V.i 0), (V.i 0)])], .rows 2 [(V.agg [(V.i (max Lo1 y.Lo)), (V.i (min Hi1 y.Hi))])], .rows 2 [(e_api_Curve x)], .rows 2 [(e_api_Span y)]]) rfl rfl rfl (GS.opsNil ?_)
  refine GS.endB (GS.region ?_)
  refine X.opR rfl (X.addE rfl rfl) rfl (X.q rfl (GS.opsNil ?_))
  have hE := Option.some.inj hM
  exact X.gc [some 0, some 1] (hc_2 (w64 (x1 + 1), max Lo1 y.Lo, min Hi1 y.Hi) hE.symm) rfl rfl rfl (ga rfl rfl) (gb9 rfl rfl rfl (gb9 rfl rfl rfl gb_nil))
 replace hM := ite_f h_1 hM
 refine GS.exit rfl ?_
 obtain ⟨y_1, hM, hy⟩ := map_of hM
 rw [hr_1 _ hy.symm] at hM
 exact X.gc [some 0, some 1] (hj_1 (Lo1, Hi1) hM) rfl rfl rfl (ga rfl rfl) (gb9 rfl rfl rfl (gb9 rfl rfl rfl gb_nil))
theorem ok_curve_spanned {s : api_Span} {l : (List api_Curve)} {r : Int} (hM : curve_spanned s l = some r) : Ct Tryz.prog 58 [(e_api_Span s), (V.sl (List.map e_api_Curve l))] (V.i r) := by
 refine ct_of_gs CC_ok rfl ?_
 unfold curve_spanned at hM
 refine X.sq ?_
 refine X.opW rfl rfl rfl rfl (X.q rfl (GS.opsNil ?_))
 iterate 2 refine GS.seq ?_
 obtain ⟨y, h_1, hM⟩ := bind_of hM
 refine GS.region (X.q rfl ?_)
 refine X.call (ok_curve_checked h_1) rfl rfl rfl (.cons (.shut (n := 9) rfl) .nil) (X.q rfl (X.nq (X.q rfl (X.q rfl ?_))))
 refine GS.opsNil ?_
 refine X.cond rfl (fun h_2 => ?_) (fun h_2 => ?_)
 ·replace hM := ite_t h_2 hM
  refine X.sq (X.q rfl (X.q rfl ?_))
  refine GS.opsNil ?_
  cases hM
  exact GS.ret ⟨_, rfl, ⟨30, rfl⟩⟩
 replace hM := ite_f h_2 hM
 refine GS.skip (GS.seq (X.sq ?_))
 iterate 5 refine X.q rfl ?_
 refine GS.opsNil ?_
 refine X.cond rfl (fun h_3 => ?_) (fun h_3 => ?_)
 ·replace hM := ite_t h_3 hM
  refine X.sq (X.q rfl (GS.opsNil ?_))
  cases hM
  exact GS.ret ⟨_, rfl, ⟨30, rfl⟩⟩
 replace hM := ite_f h_3 hM
 refine GS.skip ?_
 iterate 2 refine GS.seq ?_
 obtain ⟨y1, h_4, hM⟩ := bind_of hM
 refine GS.region (X.q rfl ?_)
 refine X.call (ok_curve_shared h_4) rfl rfl rfl (.cons (.shut (n := 9) rfl) .nil) ?_
 refine X.opW rfl rfl rfl rfl ?_
 refine X.op0W rfl rfl rfl (X.nq ?_)
 refine X.mid [(30, (V.b ((decide (s.Lo < y1.Lo)) || (decide (y1.Hi < s.Hi)))))] ?_ ?_
 ·intro hg
  refine X.split (decide (s.Lo < y1.Lo)) (fun h_5 => ?_) (fun h_5 => ?_)
  ·iterate 6 refine X.q rfl ?_
   iterate 5 refine X.off (X.off_f rfl rfl rfl h_5) rfl ?_
   refine X.opR rfl (X.pickor_t (y := decide (y1.Hi < s.Hi)) rfl h_5 rfl) rfl (GS.opsNil ?_)
   exact X.norm _ hg rfl (sr rfl)
  iterate 6 refine X.q rfl ?_
  iterate 5 refine X.opR (X.on_f rfl rfl rfl h_5) rfl rfl ?_
  refine X.opR rfl (X.pickor_f (y := decide (y1.Hi < s.Hi)) rfl h_5 rfl) rfl (GS.opsNil ?_)
  exact X.norm _ hg rfl (sr rfl)
 refine X.cond rfl (fun h_6 => ?_) (fun h_6 => ?_)
 ·replace hM := ite_t h_6 hM
  refine X.sq (X.q rfl (GS.opsNil ?_))
  cases hM
  exact GS.ret ⟨_, rfl, ⟨30, rfl⟩⟩
 replace hM := ite_f h_6 hM
 refine GS.skip (X.sq (X.q rfl (GS.opsNil ?_)))
 cases hM
 exact GS.ret ⟨_, rfl, ⟨30, rfl⟩⟩
abbrev e_api_Peak (x : api_Peak) : V := .agg [(V.i x.Lo.Num), (V.i x.Lo.Den), (V.i x.Hi.Num), (V.i x.Hi.Den), (V.i x.AtLo), (V.i x.AtHi)]
set_option maxHeartbeats 4000000 in
theorem ok_curve_corners {s : api_Span} {l : (List api_Curve)} {r : (List Int)} (hM : curve_corners s l = some r) : Ct Tryz.prog 60 [(e_api_Span s), (V.sl (List.map e_api_Curve l))] (V.sl (List.map V.i r)) := by
 refine ct_of_gs CC_ok rfl ?_
 unfold curve_corners at hM
 refine X.sq ?_
 refine X.opW rfl rfl rfl rfl (X.q rfl (X.nq ?_))
 iterate 4 refine X.q rfl ?_
 refine X.opW rfl rfl rfl rfl (X.q rfl (GS.opsNil (GS.seq (X.sq (X.q rfl ?_)))))
 refine X.opR rfl (X.lenF rfl rfl rfl) rfl (X.q rfl (GS.opsNil ?_))
 refine X.join (τ := (List Int)) (fun v => curve_corners_j1 v = some r) (fun v => ⟨[(5, (V.osl 0 0 (List.length v)))], [.rows 1 (List.map V.i v)], 0, none, 46⟩) ?_ ?_
 ·intro l1 hM
  replace hM : curve_corners_j1 l1 = some r := hM
  unfold curve_corners_j1 at hM
  refine GS.seq ?_
  obtain ⟨l2, h_1, hM⟩ := bind_of hM
  refine GS.region (X.q rfl ?_)
  refine X.norm [(5, (V.osl 0 0 (List.length l1))), (42, (V.osl 0 0 (List.length l1)))] ?_ rfl (sr rfl)
  refine X.sortInt (z := false) h_1 sort_C sort_nil (fun _ _ _ h => h) (K' := [(5, (V.osl 0 0 (List.length l2))), (42, (V.osl 0 0 (List.length l2)))]) (H' := [.rows 1 (List.map V.i l2)]) rfl rfl rfl rfl rfl rfl ?_ ?_ ?_
  ·first | rfl | rw [X.ovlz_len (srtO_len h_1)] | simp only [ovl, X.ovlz_len (srtO_len h_1)] | simp only [srtO_len h_1]
  ·first | rfl | (simp only [hput]; rfl)
  refine X.nq (X.q rfl ?_)
  refine X.joinO (τ := (List Int)) (fun v => curve_corners_j2 v = some r) (fun v => ⟨[(45, (V.sl (List.map V.i v)))], [], 0, none, 46⟩) ?_ ?_
  ·intro x hM
   replace hM : curve_corners_j2 x = some r := hM
   unfold curve_corners_j2 at hM
   refine X.q rfl (GS.opsNil ?_)
   cases hM
   exact GS.ret ⟨_, rfl, ⟨30, rfl⟩⟩
  intro hj_2
  refine X.inl rfl rfl rfl rfl (X.sq (X.q rfl (GS.opsNil (GS.seq (X.sq (X.q rfl ?_))))))
  refine X.opR rfl (X.lenO (l := l2) rfl rfl rfl) rfl (X.q rfl (GS.opsNil ?_))
  refine X.cond rfl (fun h_2 => ?_) (fun h_2 => ?_)
  ·replace hM := ite_t h_2 hM
   refine X.sq (X.q rfl (X.q rfl ?_))
   refine GS.opsNil ?_
   refine GS.ret ⟨_, rfl, ?_⟩
   refine X.norm (H' := [.rows 1 (List.map V.i l2)]) [(45, (V.osl 0 0 (List.length l2)))] ?_ rfl (sr rfl)
   refine X.freezeAt (z := false) (f := V.i) (l := l2) (es := 1) 45 rfl rfl rfl rfl (fun _ => rfl) ?_
   exact X.gc [] (hj_2 l2 hM) rfl rfl rfl (ga rfl rfl) (gb_nil)
  replace hM := ite_f h_2 hM
  refine GS.skip (GS.seq (X.sq (X.q rfl (GS.opsNil ?_))))
  refine X.join (τ := Unit) (fun v => curve_corners_j3 l2 = some r) (fun v => ⟨[(0, (V.osl 0 0 (List.length l2)))], [.rows 1 (List.map V.i l2)], 0, none, 61⟩) ?_ ?_
  ·intro _ hM
   replace hM : curve_corners_j3 l2 = some r := hM
   unfold curve_corners_j3 at hM
   refine X.sq (X.q rfl (X.q rfl ?_))
   refine GS.opsNil ?_
   refine GS.ret ⟨_, rfl, ?_⟩
   refine X.norm (H' := [.rows 1 (List.map V.i l2)]) [(45, (V.osl 0 0 (List.length l2)))] ?_ rfl (sr rfl)
   refine X.freezeAt (z := false) (f := V.i) (l := l2) (es := 1) 45 rfl rfl rfl rfl (fun _ => rfl) ?_
   exact X.gc [] (hj_2 l2 hM) rfl rfl rfl (ga rfl rfl) (gb_nil)
  intro hj_3
  refine GS.block ?_
  refine X.gc [] (X.loop (σ := Int) (fun v => ⟨[(0, (V.osl 0 0 (List.length l2))), (3, (V.i v))], [.rows 1 (List.map V.i l2)], 0, none, 61⟩) hM ?_ rfl) rfl rfl rfl (ga rfl rfl) (gb_rows 9 rfl rfl (fun _ => rfl) gb_nil)
  intro k3 b_1 hM hc_4 hr_1
  rw [curve_corners_b4] at hM
  refine GS.seq (X.sq (X.q rfl (X.q rfl ?_)))
  refine X.opR rfl (X.lenO (l := l2) rfl rfl rfl) rfl (X.q rfl (GS.opsNil ?_))
  refine X.cond rfl (fun h_3 => ?_) (fun h_3 => ?_)
  ·replace hM := ite_t h_3 hM
   refine GS.skip (GS.seq (GS.block (GS.seq ?_)))
   obtain ⟨x1, h_4, hM⟩ := bind_of hM
   obtain ⟨x2, h_5, hM⟩ := bind_of hM
   refine X.drawc (by kernel_rfl) rfl ?_
   iterate 2 refine X.cop rfl rfl rfl rfl ?_
   refine X.cop rfl (X.indexO h_4 rfl rfl rfl rfl rfl) rfl rfl ?_
   refine X.cop rfl (X.loadO h_4 rfl rfl rfl rfl) rfl rfl ?_
   iterate 2 refine X.cop rfl rfl rfl rfl ?_
   refine X.cop rfl (X.subE rfl rfl) rfl rfl ?_
   refine X.cop rfl (X.indexO h_5 rfl rfl rfl rfl rfl) rfl rfl ?_
   refine X.cop rfl (X.loadO h_5 rfl rfl rfl rfl) rfl rfl ?_
   refine X.cop rfl rfl rfl rfl ?_
   refine X.cnil ?_
   refine X.norm [(0, (V.osl 0 0 (List.length l2))), (3, (V.i k3)), (25, (V.b (decide (x1 = x2))))] ?_ rfl (sr rfl)
   refine X.cond rfl (fun h_6 => ?_) (fun h_6 => ?_)
   ·replace hM := ite_t h_6 hM
    refine GS.seq ?_
    obtain ⟨a, h_7, hM⟩ := bind_of hM
    refine GS.region (X.q rfl (X.q rfl ?_))
    refine X.opR rfl (X.sliceQ (f := V.i) (l := l2) (a := 0) h_7 rfl rfl rfl rfl rfl rfl (X.boundA_int rfl)) rfl (X.q rfl (GS.opsNil (GS.seq (X.sq (X.q rfl (GS.opsNil ?_))))))
    refine X.join (τ := Int × (List Int)) (fun v => curve_corners_j5 v.1 v.2 = some b_1) (fun v => ⟨[(0, (V.osl 0 0 (List.length v.2))), (3, (V.i v.1))], [.rows 1 (List.map V.i v.2)], 0, none, 61⟩) ?_ ?_
    ·rintro ⟨k, l3⟩ hM
     replace hM : curve_corners_j5 k l3 = some b_1 := hM
     unfold curve_corners_j5 at hM
     refine GS.seq ?_
     obtain ⟨l4, h_8, hM⟩ := bind_of hM
     obtain ⟨l5, h_9, hM⟩ := bind_of hM
     refine GS.region (X.q rfl (X.q rfl ?_))
     refine X.opR rfl (X.sliceN (z := false) (f := V.i) (l := l3) h_8 rfl rfl rfl rfl rfl rfl (X.boundA_int rfl) rfl) rfl ?_
     refine X.clearU (f := V.i) (l := l3) (l' := l5) (H' := [.rows 1 (List.map V.i l5)]) 0 h_9 h_8 rfl rfl rfl rfl rfl rfl rfl rfl rfl rfl rfl (GS.opsNil (GS.seq ?_))
     obtain ⟨l6, h_10, hM⟩ := bind_of hM
     refine GS.region (X.q rfl (X.q rfl ?_))
     refine X.opR rfl (X.sliceN (z := false) (f := V.i) (l := l5) h_10 rfl rfl rfl rfl rfl rfl rfl (X.boundA_int rfl)) rfl (X.q rfl (GS.opsNil ?_))
     refine GS.ret ⟨_, rfl, ?_⟩
     refine X.norm (H' := [.rows 1 (List.map V.i l5)]) [(45, (ovs false 0 l5 l6 0))] ?_ rfl (sr rfl)
     refine X.freezeSub (z := false) (f := V.i) (l := l5) (r := l6) 45 h_10 rfl rfl rfl rfl (fun _ => rfl) ?_
     obtain ⟨y_1, hM, hy⟩ := map_of hM
     rw [hr_1 _ hy.symm] at hM
     exact X.gc [] (hj_2 l6 hM) rfl rfl rfl (ga rfl rfl) (gb_nil)
    intro hj_5
    refine GS.block ?_
    refine X.gc [] (X.loop (σ := (Int × Int × (List Int))) (fun v => ⟨[(0, (V.osl 0 0 (List.length v.2.2))), (3, (V.i v.1)), (4, (oqv 0 v.2.2 a)), (5, (V.i v.2.1))], [.rows 1 (List.map V.i v.2.2)], 0, none, 61⟩) hM ?_ rfl) rfl rfl rfl (ga rfl rfl) (gb_rows 9 rfl rfl (fun _ => rfl) gb_nil)
    rintro ⟨k2, k21, l8⟩ b_2 hM hc_6 hr_2
    rw [curve_corners_b6] at hM
    refine GS.seq (X.sq (X.q rfl (X.q rfl ?_)))
    refine X.opR rfl (X.lenQ rfl rfl rfl) rfl (X.q rfl (GS.opsNil ?_))
    refine X.cond rfl (fun h_11 => ?_) (fun h_11 => ?_)
    ·replace hM := ite_t h_11 hM
     refine GS.skip (GS.seq ?_)
     refine X.join (τ := Int × (List Int)) (fun v => curve_corners_j7 k21 v.1 v.2 = some b_2) (fun v => ⟨[(0, (V.osl 0 0 (List.length v.2))), (3, (V.i v.1)), (4, (oqv 0 v.2 a)), (5, (V.i k21))], [.rows 1 (List.map V.i v.2)], 0, none, 61⟩) ?_ ?_
     ·rintro ⟨k1, l7⟩ hM
      replace hM : curve_corners_j7 k21 k1 l7 = some b_2 := hM
      unfold curve_corners_j7 at hM
      refine GS.region (X.q rfl ?_)
      refine X.opR rfl (X.addE rfl rfl) rfl (X.q rfl (GS.opsNil ?_))
      have hE := Option.some.inj hM
      exact X.gc [] (hc_6 (k1, w64 (k21 + 1), l7) hE.symm) rfl rfl rfl (ga rfl rfl) (gb_rows 9 rfl rfl (fun _ => rfl) gb_nil)
     intro hj_7
     refine GS.block (GS.seq ?_)
     obtain ⟨x3, h_12, hM⟩ := bind_of hM
     obtain ⟨x4, h_13, hM⟩ := bind_of hM
     refine X.drawc (by kernel_rfl) rfl ?_
     iterate 2 refine X.cop rfl rfl rfl rfl ?_
     refine X.cop rfl (X.indexQ (f := V.i) h_12 rfl rfl rfl rfl rfl) rfl rfl ?_
     refine X.cop rfl (X.loadO (X.ix_drop h_12) rfl rfl rfl rfl) rfl rfl ?_
     iterate 2 refine X.cop rfl rfl rfl rfl ?_
     refine X.cop rfl (X.subE rfl rfl) rfl rfl ?_
     refine X.cop rfl (X.indexQ (f := V.i) h_13 rfl rfl rfl rfl rfl) rfl rfl ?_
     refine X.cop rfl (X.loadO (X.ix_drop h_13) rfl rfl rfl rfl) rfl rfl ?_
     refine X.cop rfl rfl rfl rfl ?_
     refine X.cnil ?_
     refine X.norm [(0, (V.osl 0 0 (List.length l8))), (3, (V.i k2)), (4, (oqv 0 l8 a)), (5, (V.i k21)), (44, (V.b (!decide (x3 = x4))))] ?_ rfl (sr rfl)
     refine X.cond rfl (fun h_14 => ?_) (fun h_14 => ?_)
     ·replace hM := ite_t h_14 hM
      refine GS.seq ?_
      obtain ⟨x5, h_15, hM⟩ := bind_of hM
      obtain ⟨x6, h_16, hM⟩ := bind_of hM
      refine GS.region ?_
      iterate 4 refine X.q rfl ?_
      refine X.opR rfl (X.indexQ (f := V.i) h_15 rfl rfl rfl rfl rfl) rfl ?_
      refine X.opR rfl (X.loadO (X.ix_drop h_15) rfl rfl rfl rfl) rfl ?_
      refine X.opR rfl (X.indexO h_16 rfl rfl rfl rfl rfl) rfl ?_
      refine X.op0W rfl (X.storeO (b := x5) h_16 rfl rfl rfl rfl rfl rfl rfl) rfl (X.mq (X.q rfl ?_))
      refine X.opR rfl (X.addE rfl rfl) rfl (X.q rfl (GS.opsNil ?_))
      refine GS.endB ?_
      exact X.gc [] (hj_7 (w64 (k2 + 1), (put l8 k2 x5)) hM) rfl rfl rfl (gk_cons rfl (rv_eq X.osl_put ⟨9, rfl⟩) (gk_cons rfl ⟨9, rfl⟩ (gk_cons rfl (rv_eq X.oqv_put ⟨9, rfl⟩) (ga rfl rfl)))) (gb_rows 9 rfl rfl (fun _ => rfl) gb_nil)
     replace hM := ite_f h_14 hM
     refine GS.skip ?_
     refine GS.endB ?_
     exact X.gc [] (hj_7 (k2, l8) hM) rfl rfl rfl (ga rfl rfl) (gb_rows 9 rfl rfl (fun _ => rfl) gb_nil)
    replace hM := ite_f h_11 hM
    refine GS.exit rfl ?_
    obtain ⟨y_2, hM, hy⟩ := map_of hM
    rw [hr_2 _ hy.symm] at hM
    exact X.gc [] (hj_5 (k2, l8) hM) rfl rfl rfl (ga rfl rfl) (gb_rows 9 rfl rfl (fun _ => rfl) gb_nil)
   replace hM := ite_f h_6 hM
   refine GS.skip ?_
   refine GS.endB (GS.region (X.q rfl ?_))
   refine X.opR rfl (X.addE rfl rfl) rfl (X.q rfl (GS.opsNil ?_))
   have hE := Option.some.inj hM
   exact X.gc [] (hc_4 (w64 (k3 + 1)) hE.symm) rfl rfl rfl (ga rfl rfl) (gb_rows 9 rfl rfl (fun _ => rfl) gb_nil)
  replace hM := ite_f h_3 hM
  refine GS.exit rfl ?_
  obtain ⟨y_1, hM, hy⟩ := map_of hM
  rw [hr_1 _ hy.symm] at hM
  exact X.gc [] (hj_3 () hM) rfl rfl rfl (ga rfl rfl) (gb_rows 9 rfl rfl (fun _ => rfl) gb_nil)
 intro hj_1
 refine GS.block ?_
 refine X.gc [some 0, some 1] (X.loop (σ := (Int × (List Int))) (fun v => ⟨[(2, (V.ptr 0 0 0)), (5, (V.osl 1 0 (List.length v.2))), (15, (V.sl (List.map e_api_Curve l))), (16, (V.i (l.length : Int))), (17, (V.i v.1))], [.rows 2 [(e_api_Span s)], .rows 1 (List.map V.i v.2)], 0, none, 46⟩) hM ?_ rfl) rfl rfl rfl (ga rfl rfl) (gb9 rfl rfl rfl (gb_rows 9 rfl rfl (fun _ => rfl) gb_nil))
 rintro ⟨x10, l13⟩ b_1 hM hc_8 hr_1
 rw [curve_corners_b8] at hM
 refine X.sq (X.q rfl (GS.opsNil (GS.seq ?_)))
 refine X.cond rfl (fun h_17 => ?_) (fun h_17 => ?_)
 ·replace hM := ite_t h_17 hM
  refine GS.skip (GS.seq (GS.block (GS.seq ?_)))
  obtain ⟨x7, h_18, hM⟩ := bind_of hM
  refine GS.region ?_
  refine X.opR rfl (X.indexF (f := e_api_Curve) h_18 (fun _ => rfl) rfl rfl rfl rfl) rfl ?_
  refine X.opR rfl (X.loadF h_18 rfl rfl rfl) rfl ?_
  refine X.opW rfl rfl rfl rfl ?_
  refine X.op0W rfl rfl rfl (X.nq (X.q rfl (X.q rfl ?_)))
  refine X.opR rfl (X.lenF rfl rfl rfl) rfl (X.q rfl (GS.opsNil ?_))
  refine X.join (τ := (List Int)) (fun v => curve_corners_j9 x10 v = some b_1) (fun v => ⟨[(2, (V.ptr 0 0 0)), (5, (V.osl 1 0 (List.length v))), (15, (V.sl (List.map e_api_Curve l))), (16, (V.i (l.length : Int))), (17, (V.i x10))], [.rows 2 [(e_api_Span s)], .rows 1 (List.map V.i v)], 0, none, 46⟩) ?_ ?_
  ·intro l9 hM
   replace hM : curve_corners_j9 x10 l9 = some b_1 := hM
   unfold curve_corners_j9 at hM
   refine GS.endB (GS.region ?_)
   refine X.opR rfl (X.addE rfl rfl) rfl (X.q rfl (GS.opsNil ?_))
   have hE := Option.some.inj hM
   exact X.gc [some 0, some 1] (hc_8 (w64 (x10 + 1), l9) hE.symm) rfl rfl rfl (ga rfl rfl) (gb9 rfl rfl rfl (gb_rows 9 rfl rfl (fun _ => rfl) gb_nil))
  intro hj_9
  refine GS.block ?_
  refine X.gc [some 0, some 1] (X.loop (σ := (Int × (List Int))) (fun v => ⟨[(2, (V.ptr 0 0 0)), (5, (V.osl 1 0 (List.length v.2))), (15, (V.sl (List.map e_api_Curve l))), (16, (V.i (l.length : Int))), (17, (V.i x10)), (22, (V.sl (List.map e_api_Knot x7.Knots))), (23, (V.i (x7.Knots.length : Int))), (24, (V.i v.1))], [.rows 2 [(e_api_Span s)], .rows 1 (List.map V.i v.2)], 0, none, 46⟩) hM ?_ rfl) rfl rfl rfl (ga rfl rfl) (gb9 rfl rfl rfl (gb_rows 9 rfl rfl (fun _ => rfl) gb_nil))
  rintro ⟨x9, l12⟩ b_2 hM hc_10 hr_2
  rw [curve_corners_b10] at hM
  refine X.sq (X.q rfl (GS.opsNil (GS.seq ?_)))
  refine X.cond rfl (fun h_19 => ?_) (fun h_19 => ?_)
  ·replace hM := ite_t h_19 hM
   refine GS.skip (GS.seq ?_)
   refine X.join (τ := (List Int)) (fun v => curve_corners_j11 x9 v = some b_2) (fun v => ⟨[(2, (V.ptr 0 0 0)), (5, (V.osl 1 0 (List.length v))), (15, (V.sl (List.map e_api_Curve l))), (16, (V.i (l.length : Int))), (17, (V.i x10)), (22, (V.sl (List.map e_api_Knot x7.Knots))), (23, (V.i (x7.Knots.length : Int))), (24, (V.i x9))], [.rows 2 [(e_api_Span s)], .rows 1 (List.map V.i v)], 0, none, 46⟩) ?_ ?_
   ·intro l10 hM
    replace hM : curve_corners_j11 x9 l10 = some b_2 := hM
    unfold curve_corners_j11 at hM
    refine GS.region ?_
    refine X.opR rfl (X.addE rfl rfl) rfl (X.q rfl (GS.opsNil ?_))
    have hE := Option.some.inj hM
    exact X.gc [some 0, some 1] (hc_10 (w64 (x9 + 1), l10) hE.symm) rfl rfl rfl (ga rfl rfl) (gb9 rfl rfl rfl (gb_rows 9 rfl rfl (fun _ => rfl) gb_nil))
   intro hj_11
   refine GS.block (GS.seq ?_)
   obtain ⟨x8, h_20, hM⟩ := bind_of hM
   refine GS.region ?_
   refine X.opR rfl (X.indexF (f := e_api_Knot) h_20 (fun _ => rfl) rfl rfl rfl rfl) rfl ?_
   refine X.opR rfl (X.loadF h_20 rfl rfl rfl) rfl ?_
   refine X.opW rfl rfl rfl rfl ?_
   refine X.op0W rfl rfl rfl (X.nq ?_)
   iterate 6 refine X.q rfl ?_
   refine X.call (ok_curve_within x8.X s.Lo s.Hi) rfl rfl rfl (.cons (.shut (n := 9) rfl) (.cons (.shut (n := 9) rfl) (.cons (.shut (n := 9) rfl) .nil))) (GS.opsNil ?_)
   refine X.cond rfl (fun h_21 => ?_) (fun h_21 => ?_)
   ·replace hM := ite_t h_21 hM
    obtain ⟨l11, h_22, hM⟩ := bind_of hM
    refine GS.region (X.q rfl (X.q rfl (X.q rfl ?_)))
    refine X.opW (H' := [.rows 2 [(e_api_Span s)], .rows 1 (List.map V.i l12), .rows 2 [(e_api_Knot x8)], .rows 1 (List.map V.i ([x8.X]))]) rfl rfl rfl rfl ?_
    refine X.opW (H' := [.rows 2 [(e_api_Span s)], .dead, .rows 2 [(e_api_Knot x8)], .rows 1 (List.map V.i ([x8.X])), .rows 1 (List.map V.i l11)]) rfl (X.appO (f := V.i) h_22 (fun _ => rfl) rfl rfl rfl rfl rfl rfl rfl rfl rfl rfl) rfl rfl (X.q rfl (GS.opsNil ?_))
    refine GS.endB ?_
    exact X.gc [some 0, some 4] (hj_11 l11 hM) rfl rfl rfl (ga rfl rfl) (gb9 rfl rfl rfl (gb_rows 9 rfl rfl (fun _ => rfl) gb_nil))
   replace hM := ite_f h_21 hM
   refine GS.skip ?_
   refine GS.endB ?_
   exact X.gc [some 0, some 1] (hj_11 l12 hM) rfl rfl rfl (ga rfl rfl) (gb9 rfl rfl rfl (gb_rows 9 rfl rfl (fun _ => rfl) gb_nil))
  replace hM := ite_f h_19 hM
  refine GS.exit rfl ?_
  obtain ⟨y_2, hM, hy⟩ := map_of hM
  rw [hr_2 _ hy.symm] at hM
  exact X.gc [some 0, some 1] (hj_9 l12 hM) rfl rfl rfl (ga rfl rfl) (gb9 rfl rfl rfl (gb_rows 9 rfl rfl (fun _ => rfl) gb_nil))
 replace hM := ite_f h_17 hM
 refine GS.exit rfl ?_
 obtain ⟨y_1, hM, hy⟩ := map_of hM
 rw [hr_1 _ hy.symm] at hM
 exact X.gc [some 1] (hj_1 l13 hM) rfl rfl rfl (ga rfl rfl) (gb_rows 9 rfl rfl (fun _ => rfl) gb_nil)
theorem ok_curve_Over_1 {x : Int} {c : api_Curve} {r : api_Frac} (hM : curve_Over_1 x c = some r) : Ct Tryz.prog 61 [(V.i x), (V.fptr [(e_api_Curve c)] 0 0)] (e_api_Frac r) := by
 refine ct_of_gs CC_ok rfl ?_
 unfold curve_Over_1 at hM
 refine X.sq ?_
 refine X.opW rfl rfl rfl rfl (GS.opsNil (GS.seq ?_))
 obtain ⟨y, h_1, hM⟩ := bind_of hM
 refine GS.region (X.q rfl (X.q rfl ?_))
 refine X.call (ok_curve_value h_1) rfl rfl rfl (.cons (.shut (n := 9) rfl) (.cons (.shut (n := 9) rfl) .nil)) ?_
 refine X.op0W rfl rfl rfl (GS.opsNil ?_)
 cases hM
 exact GS.ret ⟨_, rfl, ⟨30, rfl⟩⟩
abbrev e_curve_spot (x : curve_spot) : V := .agg [(V.i x.at_), (V.i x.v.Num), (V.i x.v.Den)]
theorem ok_curve_order (a : api_Frac) (b : api_Frac) : Ct Tryz.prog 199 [(e_api_Frac a), (e_api_Frac b)] (V.i (curve_order a b)) := by
 refine ct_of_gs CC_ok rfl ?_
 generalize hM : curve_order a b = r
 unfold curve_order at hM
 refine X.sq ?_
 iterate 2 refine X.opW rfl rfl rfl rfl ?_
 refine X.q rfl (X.nq ?_)
 iterate 4 refine X.q rfl ?_
 refine X.opR rfl (X.mulE rfl rfl) rfl ?_
 iterate 4 refine X.q rfl ?_
 refine X.opR rfl (X.mulE rfl rfl) rfl ?_
 refine X.call (ok_cmp_Compare_int (w64 (a.Num * b.Den)) (w64 (b.Num * a.Den))) rfl rfl rfl (.cons (.shut (n := 9) rfl) (.cons (.shut (n := 9) rfl) .nil)) (X.q rfl (GS.opsNil ?_))
 subst hM
 exact GS.ret ⟨_, rfl, ⟨30, rfl⟩⟩
theorem ok_curve_peak_1 (a : curve_spot) (b : curve_spot) : Ct Tryz.prog 198 [(e_curve_spot a), (e_curve_spot b)] (V.b (curve_peak_1 a b)) := by
 refine ct_of_gs CC_ok rfl ?_
 generalize hM : curve_peak_1 a b = r
 unfold curve_peak_1 at hM
 refine X.sq ?_
 iterate 2 refine X.opW rfl rfl rfl rfl ?_
 refine X.q rfl (X.nq ?_)
 iterate 4 refine X.q rfl ?_
 refine X.call (ok_curve_order a.v b.v) rfl rfl rfl (.cons (.shut (n := 9) rfl) (.cons (.shut (n := 9) rfl) .nil)) (X.q rfl (X.q rfl ?_))
 refine GS.opsNil ?_
 subst hM
 exact GS.ret ⟨_, rfl, ⟨30, rfl⟩⟩
theorem ok_curve_extreme_curve_spot__curve_peak_1 {l : (List curve_spot)} {r : curve_spot × Int} (hM : curve_extreme_curve_spot__curve_peak_1 l = some r) : Ct Tryz.prog 197 [(V.sl (List.map e_curve_spot l)), (V.fn 198 [])] (V.tup [(e_curve_spot r.1), (V.i r.2)]) := by
 refine ct_of_gs CC_ok rfl ?_
 unfold curve_extreme_curve_spot__curve_peak_1 at hM
 refine X.sq ?_
 refine X.opW rfl rfl rfl rfl (X.q rfl (X.nq ?_))
 refine X.opW rfl rfl rfl rfl (X.nq (X.q rfl (GS.opsNil (GS.seq (X.sq (X.q rfl ?_))))))
 refine X.opR rfl (X.lenF rfl rfl rfl) rfl (X.q rfl (GS.opsNil ?_))
 refine X.join (τ := Int × Int × Int × Int) (fun v => curve_extreme_curve_spot__curve_peak_1_j1 v.1 v.2.1 v.2.2.1 v.2.2.2 = some r) (fun v => ⟨[(4, (V.ptr 0 0 0)), (6, (V.ptr 1 0 0)), (7, (V.i v.1))], [.rows 3 [(V.agg [(V.i 0), (V.i 0), (V.i 0)])], .rows 3 [(V.agg [(V.i v.2.1), (V.i v.2.2.1), (V.i v.2.2.2)])]], 0, none, 30⟩) ?_ ?_
 ·rintro ⟨at_, at_1, Num, Den⟩ hM
  replace hM : curve_extreme_curve_spot__curve_peak_1_j1 at_ at_1 Num Den = some r := hM
  unfold curve_extreme_curve_spot__curve_peak_1_j1 at hM
  refine X.sq (X.q rfl (X.q rfl ?_))
  refine X.op0W rfl rfl rfl (X.q rfl (GS.opsNil ?_))
  cases hM
  exact GS.ret ⟨_, rfl, ⟨30, rfl⟩⟩
 intro hj_1
 refine GS.block ?_
 refine X.gc [some 0, some 1] (X.loop (σ := (Int × Int × Int × Int × Int)) (fun v => ⟨[(1, (V.fn 198 [])), (4, (V.ptr 0 0 0)), (6, (V.ptr 1 0 0)), (7, (V.i v.1)), (10, (V.sl (List.map e_curve_spot l))), (11, (V.i (l.length : Int))), (12, (V.i v.2.1))], [.rows 3 [(V.agg [(V.i 0), (V.i 0), (V.i 0)])], .rows 3 [(V.agg [(V.i v.2.2.1), (V.i v.2.2.2.1), (V.i v.2.2.2.2)])]], 0, none, 30⟩) hM ?_ rfl) rfl rfl rfl (ga rfl rfl) (gb9 rfl rfl rfl (gb9 rfl rfl rfl gb_nil))
 rintro ⟨at_4, x1, at_5, Num2, Den2⟩ b_1 hM hc_2 hr_1
 rw [curve_extreme_curve_spot__curve_peak_1_b2] at hM
 refine X.sq (X.q rfl (GS.opsNil (GS.seq ?_)))
 refine X.cond rfl (fun h_1 => ?_) (fun h_1 => ?_)
 ·replace hM := ite_t h_1 hM
  refine GS.skip (GS.seq ?_)
  refine X.join (τ := Int × Int × Int × Int) (fun v => curve_extreme_curve_spot__curve_peak_1_j3 x1 v.1 v.2.1 v.2.2.1 v.2.2.2 = some b_1) (fun v => ⟨[(1, (V.fn 198 [])), (4, (V.ptr 0 0 0)), (6, (V.ptr 1 0 0)), (7, (V.i v.1)), (10, (V.sl (List.map e_curve_spot l))), (11, (V.i (l.length : Int))), (12, (V.i x1))], [.rows 3 [(V.agg [(V.i 0), (V.i 0), (V.i 0)])], .rows 3 [(V.agg [(V.i v.2.1), (V.i v.2.2.1), (V.i v.2.2.2)])]], 0, none, 30⟩) ?_ ?_
  ·rintro ⟨at_2, at_3, Num1, Den1⟩ hM
   replace hM : curve_extreme_curve_spot__curve_peak_1_j3 x1 at_2 at_3 Num1 Den1 = some b_1 := hM
   unfold curve_extreme_curve_spot__curve_peak_1_j3 at hM
   refine GS.region ?_
   refine X.opR rfl (X.addE rfl rfl) rfl (X.q rfl (GS.opsNil ?_))
   have hE := Option.some.inj hM
   exact X.gc [some 0, some 1] (hc_2 (at_2, w64 (x1 + 1), at_3, Num1, Den1) hE.symm) rfl rfl rfl (ga rfl rfl) (gb9 rfl rfl rfl (gb9 rfl rfl rfl gb_nil))
  intro hj_3
  refine GS.block (GS.seq ?_)
  obtain ⟨x, h_2, hM⟩ := bind_of hM
  refine GS.region (X.q rfl ?_)
  refine X.opR rfl (X.indexF (f := e_curve_spot) h_2 (fun _ => rfl) rfl rfl rfl rfl) rfl ?_
  refine X.opR rfl (X.loadF h_2 rfl rfl rfl) rfl ?_
  refine X.opW rfl rfl rfl rfl (X.q rfl ?_)
  refine X.op0W rfl rfl rfl (X.nq ?_)
  refine X.mid [(1, (V.fn 198 [])), (4, (V.ptr 0 0 0)), (6, (V.ptr 1 0 0)), (7, (V.i at_4)), (8, (V.i x1)), (9, (V.ptr 2 0 0)), (10, (V.sl (List.map e_curve_spot l))), (11, (V.i (l.length : Int))), (12, (V.i x1)), (24, (V.b ((decide (at_4 < 0)) || (curve_peak_1 x (⟨at_5, (⟨Num2, Den2⟩ : api_Frac)⟩ : curve_spot)))))] ?_ ?_
  ·intro hg
   refine X.split (decide (at_4 < 0)) (fun h_3 => ?_) (fun h_3 => ?_)
   ·iterate 3 refine X.q rfl ?_
    iterate 4 refine X.off (X.off_f rfl rfl rfl h_3) rfl ?_
    refine X.opR rfl (X.pickor_t (y := (curve_peak_1 x (⟨at_5, (⟨Num2, Den2⟩ : api_Frac)⟩ : curve_spot))) rfl h_3 rfl) rfl (GS.opsNil ?_)
    exact X.norm _ hg rfl (sr rfl)
   iterate 3 refine X.q rfl ?_
   iterate 3 refine X.opR (X.on_f rfl rfl rfl h_3) rfl rfl ?_
   refine X.call (ok_curve_peak_1 x (⟨at_5, (⟨Num2, Den2⟩ : api_Frac)⟩ : curve_spot)) (X.on_f rfl rfl rfl h_3) rfl rfl (.cons (.shut (n := 9) rfl) (.cons (.shut (n := 9) rfl) .nil)) ?_
   refine X.opR rfl (X.pickor_f (y := (curve_peak_1 x (⟨at_5, (⟨Num2, Den2⟩ : api_Frac)⟩ : curve_spot))) rfl h_3 rfl) rfl (GS.opsNil ?_)
   exact X.norm _ hg rfl (sr rfl)
  refine X.cond rfl (fun h_4 => ?_) (fun h_4 => ?_)
  ·replace hM := ite_t h_4 hM
   refine GS.region (X.q rfl (X.q rfl ?_))
   refine X.op0W rfl rfl rfl (X.q rfl (GS.opsNil ?_))
   refine GS.endB ?_
   exact X.gc [some 0, some 1] (hj_3 (x1, x.at_, x.v.Num, x.v.Den) hM) rfl rfl rfl (ga rfl rfl) (gb9 rfl rfl rfl (gb9 rfl rfl rfl gb_nil))
  replace hM := ite_f h_4 hM
  refine GS.skip ?_
  refine GS.endB ?_
  exact X.gc [some 0, some 1] (hj_3 (at_4, at_5, Num2, Den2) hM) rfl rfl rfl (ga rfl rfl) (gb9 rfl rfl rfl (gb9 rfl rfl rfl gb_nil))
 replace hM := ite_f h_1 hM
 refine GS.exit rfl ?_
 obtain ⟨y_1, hM, hy⟩ := map_of hM
 rw [hr_1 _ hy.symm] at hM
 exact X.gc [some 0, some 1] (hj_1 (at_4, at_5, Num2, Den2) hM) rfl rfl rfl (ga rfl rfl) (gb9 rfl rfl rfl (gb9 rfl rfl rfl gb_nil))
theorem ok_curve_peak_2 (a : curve_spot) (b : curve_spot) : Ct Tryz.prog 200 [(e_curve_spot a), (e_curve_spot b)] (V.b (curve_peak_2 a b)) := by
 refine ct_of_gs CC_ok rfl ?_
 generalize hM : curve_peak_2 a b = r
 unfold curve_peak_2 at hM
 refine X.sq ?_
 iterate 2 refine X.opW rfl rfl rfl rfl ?_
 refine X.q rfl (X.nq ?_)
 iterate 4 refine X.q rfl ?_
 refine X.call (ok_curve_order a.v b.v) rfl rfl rfl (.cons (.shut (n := 9) rfl) (.cons (.shut (n := 9) rfl) .nil)) (X.q rfl (X.q rfl ?_))
 refine GS.opsNil ?_
 subst hM
 exact GS.ret ⟨_, rfl, ⟨30, rfl⟩⟩
theorem ok_curve_extreme_curve_spot__curve_peak_2 {l : (List curve_spot)} {r : curve_spot × Int} (hM : curve_extreme_curve_spot__curve_peak_2 l = some r) : Ct Tryz.prog 197 [(V.sl (List.map e_curve_spot l)), (V.fn 200 [])] (V.tup [(e_curve_spot r.1), (V.i r.2)]) := by
 refine ct_of_gs CC_ok rfl ?_
 unfold curve_extreme_curve_spot__curve_peak_2 at hM
 refine X.sq ?_
 refine X.opW rfl rfl rfl rfl (X.q rfl (X.nq ?_))
 refine X.opW rfl rfl rfl rfl (X.nq (X.q rfl (GS.opsNil (GS.seq (X.sq (X.q rfl ?_))))))
 refine X.opR rfl (X.lenF rfl rfl rfl) rfl (X.q rfl (GS.opsNil ?_))
 refine X.join (τ := Int × Int × Int × Int) (fun v => curve_extreme_curve_spot__curve_peak_2_j1 v.1 v.2.1 v.2.2.1 v.2.2.2 = some r) (fun v => ⟨[(4, (V.ptr 0 0 0)), (6, (V.ptr 1 0 0)), (7, (V.i v.1))], [.rows 3 [(V.agg [(V.i 0), (V.i 0), (V.i 0)])], .rows 3 [(V.agg [(V.i v.2.1), (V.i v.2.2.1), (V.i v.2.2.2)])]], 0, none, 30⟩) ?_ ?_
 ·rintro ⟨at_, at_1, Num, Den⟩ hM
  replace hM : curve_extreme_curve_spot__curve_peak_2_j1 at_ at_1 Num Den = some r := hM
  unfold curve_extreme_curve_spot__curve_peak_2_j1 at hM
  refine X.sq (X.q rfl (X.q rfl ?_))
  refine X.op0W rfl rfl rfl (X.q rfl (GS.opsNil ?_))
  cases hM
  exact GS.ret ⟨_, rfl, ⟨30, rfl⟩⟩
 intro hj_1
 refine GS.block ?_
 refine X.gc [some 0, some 1] (X.loop (σ := (Int × Int × Int × Int × Int)) (fun v => ⟨[(1, (V.fn 200 [])), (4, (V.ptr 0 0 0)), (6, (V.ptr 1 0 0)), (7, (V.i v.1)), (10, (V.sl (List.map e_curve_spot l))), (11, (V.i (l.length : Int))), (12, (V.i v.2.1))], [.rows 3 [(V.agg [(V.i 0), (V.i 0), (V.i 0)])], .rows 3 [(V.agg [(V.i v.2.2.1), (V.i v.2.2.2.1), (V.i v.2.2.2.2)])]], 0, none, 30⟩) hM ?_ rfl) rfl rfl rfl (ga rfl rfl) (gb9 rfl rfl rfl (gb9 rfl rfl rfl gb_nil))
 rintro ⟨at_4, x1, at_5, Num2, Den2⟩ b_1 hM hc_2 hr_1
 rw [curve_extreme_curve_spot__curve_peak_2_b2] at hM
 refine X.sq (X.q rfl (GS.opsNil (GS.seq ?_)))
 refine X.cond rfl (fun h_1 => ?_) (fun h_1 => ?_)
 ·replace hM := ite_t h_1 hM
  refine GS.skip (GS.seq ?_)
  refine X.join (τ := Int × Int × Int × Int) (fun v => curve_extreme_curve_spot__curve_peak_2_j3 x1 v.1 v.2.1 v.2.2.1 v.2.2.2 = some b_1) (fun v => ⟨[(1, (V.fn 200 [])), (4, (V.ptr 0 0 0)), (6, (V.ptr 1 0 0)), (7, (V.i v.1)), (10, (V.sl (List.map e_curve_spot l))), (11, (V.i (l.length : Int))), (12, (V.i x1))], [.rows 3 [(V.agg [(V.i 0), (V.i 0), (V.i 0)])], .rows 3 [(V.agg [(V.i v.2.1), (V.i v.2.2.1), (V.i v.2.2.2)])]], 0, none, 30⟩) ?_ ?_
  ·rintro ⟨at_2, at_3, Num1, Den1⟩ hM
   replace hM : curve_extreme_curve_spot__curve_peak_2_j3 x1 at_2 at_3 Num1 Den1 = some b_1 := hM
   unfold curve_extreme_curve_spot__curve_peak_2_j3 at hM
   refine GS.region ?_
   refine X.opR rfl (X.addE rfl rfl) rfl (X.q rfl (GS.opsNil ?_))
   have hE := Option.some.inj hM
   exact X.gc [some 0, some 1] (hc_2 (at_2, w64 (x1 + 1), at_3, Num1, Den1) hE.symm) rfl rfl rfl (ga rfl rfl) (gb9 rfl rfl rfl (gb9 rfl rfl rfl gb_nil))
  intro hj_3
  refine GS.block (GS.seq ?_)
  obtain ⟨x, h_2, hM⟩ := bind_of hM
  refine GS.region (X.q rfl ?_)
  refine X.opR rfl (X.indexF (f := e_curve_spot) h_2 (fun _ => rfl) rfl rfl rfl rfl) rfl ?_
  refine X.opR rfl (X.loadF h_2 rfl rfl rfl) rfl ?_
  refine X.opW rfl rfl rfl rfl (X.q rfl ?_)
  refine X.op0W rfl rfl rfl (X.nq ?_)
  refine X.mid [(1, (V.fn 200 [])), (4, (V.ptr 0 0 0)), (6, (V.ptr 1 0 0)), (7, (V.i at_4)), (8, (V.i x1)), (9, (V.ptr 2 0 0)), (10, (V.sl (List.map e_curve_spot l))), (11, (V.i (l.length : Int))), (12, (V.i x1)), (24, (V.b ((decide (at_4 < 0)) || (curve_peak_2 x (⟨at_5, (⟨Num2, Den2⟩ : api_Frac)⟩ : curve_spot)))))] ?_ ?_
  ·intro hg
   refine X.split (decide (at_4 < 0)) (fun h_3 => ?_) (fun h_3 => ?_)
   ·iterate 3 refine X.q rfl ?_
    iterate 4 refine X.off (X.off_f rfl rfl rfl h_3) rfl ?_
    refine X.opR rfl (X.pickor_t (y := (curve_peak_2 x (⟨at_5, (⟨Num2, Den2⟩ : api_Frac)⟩ : curve_spot))) rfl h_3 rfl) rfl (GS.opsNil ?_)
    exact X.norm _ hg rfl (sr rfl)
   iterate 3 refine X.q rfl ?_
   iterate 3 refine X.opR (X.on_f rfl rfl rfl h_3) rfl rfl ?_
   refine X.call (ok_curve_peak_2 x (⟨at_5, (⟨Num2, Den2⟩ : api_Frac)⟩ : curve_spot)) (X.on_f rfl rfl rfl h_3) rfl rfl (.cons (.shut (n := 9) rfl) (.cons (.shut (n := 9) rfl) .nil)) ?_
   refine X.opR rfl (X.pickor_f (y := (curve_peak_2 x (⟨at_5, (⟨Num2, Den2⟩ : api_Frac)⟩ : curve_spot))) rfl h_3 rfl) rfl (GS.opsNil ?_)
   exact X.norm _ hg rfl (sr rfl)
  refine X.cond rfl (fun h_4 => ?_) (fun h_4 => ?_)
  ·replace hM := ite_t h_4 hM
   refine GS.region (X.q rfl (X.q rfl ?_))
   refine X.op0W rfl rfl rfl (X.q rfl (GS.opsNil ?_))
   refine GS.endB ?_
   exact X.gc [some 0, some 1] (hj_3 (x1, x.at_, x.v.Num, x.v.Den) hM) rfl rfl rfl (ga rfl rfl) (gb9 rfl rfl rfl (gb9 rfl rfl rfl gb_nil))
  replace hM := ite_f h_4 hM
  refine GS.skip ?_
  refine GS.endB ?_
  exact X.gc [some 0, some 1] (hj_3 (at_4, at_5, Num2, Den2) hM) rfl rfl rfl (ga rfl rfl) (gb9 rfl rfl rfl (gb9 rfl rfl rfl gb_nil))
 replace hM := ite_f h_1 hM
 refine GS.exit rfl ?_
 obtain ⟨y_1, hM, hy⟩ := map_of hM
 rw [hr_1 _ hy.symm] at hM
 exact X.gc [some 0, some 1] (hj_1 (at_4, at_5, Num2, Den2) hM) rfl rfl rfl (ga rfl rfl) (gb9 rfl rfl rfl (gb9 rfl rfl rfl gb_nil))
theorem ok_curve_peak {l : (List curve_spot)} {r : api_Peak} (hM : curve_peak l = some r) : Ct Tryz.prog 118 [(V.sl (List.map e_curve_spot l))] (e_api_Peak r) := by
 refine ct_of_gs CC_ok rfl ?_
 unfold curve_peak at hM
 refine X.sq ?_
 refine X.opW rfl rfl rfl rfl (GS.opsNil (GS.seq ?_))
 obtain ⟨y, h_1, hM⟩ := bind_of hM
 refine GS.region (X.q rfl ?_)
 refine X.call (ok_curve_extreme_curve_spot__curve_peak_1 h_1) rfl rfl rfl (.cons (.shut (n := 9) rfl) (.cons (.shut (n := 9) rfl) .nil)) (X.q rfl (X.q rfl (X.q rfl ?_)))
 refine X.opW rfl rfl rfl rfl ?_
 refine X.op0W rfl rfl rfl (X.q rfl (GS.opsNil (GS.seq ?_)))
 obtain ⟨y1, h_2, hM⟩ := bind_of hM
 refine GS.region (X.q rfl ?_)
 refine X.call (ok_curve_extreme_curve_spot__curve_peak_2 h_2) rfl rfl rfl (.cons (.shut (n := 9) rfl) (.cons (.shut (n := 9) rfl) .nil)) (X.q rfl (X.q rfl (X.q rfl ?_)))
 refine X.opW rfl rfl rfl rfl ?_
 refine X.op0W rfl rfl rfl (X.q rfl (X.nq ?_))
 iterate 9 refine X.q rfl ?_
 refine X.op0W rfl rfl rfl (GS.opsNil ?_)
 cases hM
 exact GS.ret ⟨_, rfl, ⟨30, rfl⟩⟩
theorem ok_curve_over__curve_Over_1 {at_ : (List Int)} {c : api_Curve} {r : api_Peak} (hM : curve_over__curve_Over_1 at_ c = some r) : Ct Tryz.prog 59 [(V.sl (List.map V.i at_)), (V.fn 61 [(V.fptr [(e_api_Curve c)] 0 0)])] (e_api_Peak r) := by
 refine ct_of_gs CC_ok rfl ?_
 unfold curve_over__curve_Over_1 at hM
 refine X.sq ?_
 refine X.opW rfl rfl rfl rfl (X.nq (X.q rfl (GS.opsNil (GS.seq (X.sq (X.q rfl ?_))))))
 refine X.opR rfl (X.lenF rfl rfl rfl) rfl (X.q rfl (GS.opsNil ?_))
 refine X.join (τ := (List curve_spot)) (fun v => curve_over__curve_Over_1_j1 v = some r) (fun v => ⟨[(4, (V.ptr 0 0 0)), (5, (ovl 1 v))], [.rows 6 [(V.agg [(V.i 0), (V.i 0), (V.i 0), (V.i 0), (V.i 0), (V.i 0)])], obl 3 e_curve_spot v], 0, none, 25⟩) ?_ ?_
 ·intro l hM
  replace hM : curve_over__curve_Over_1_j1 l = some r := hM
  unfold curve_over__curve_Over_1_j1 at hM
  refine GS.seq ?_
  obtain ⟨y, h_1, hM⟩ := bind_of hM
  refine GS.region (X.q rfl ?_)
  refine X.callF (ok_curve_peak h_1) rfl rfl rfl (m := 9) rfl (.cons (FR.arg (FR.ovl (f := e_curve_spot) (l := l) 9 rfl rfl (fun _ => rfl))) .nil) ?_
  refine X.op0W rfl rfl rfl (GS.opsNil ?_)
  cases hM
  exact GS.ret ⟨_, rfl, ⟨30, rfl⟩⟩
 intro hj_1
 refine GS.block ?_
 refine X.gc [some 0, none] (X.loop (σ := (Int × (List curve_spot))) (fun v => ⟨[(1, (V.fn 61 [(V.fptr [(e_api_Curve c)] 0 0)])), (4, (V.ptr 0 0 0)), (5, (ovl 1 v.2)), (8, (V.sl (List.map V.i at_))), (9, (V.i (at_.length : Int))), (10, (V.i v.1))], [.rows 6 [(V.agg [(V.i 0), (V.i 0), (V.i 0), (V.i 0), (V.i 0), (V.i 0)])], obl 3 e_curve_spot v.2], 0, none, 25⟩) hM ?_ rfl) rfl rfl rfl (ga rfl rfl) (gb9 rfl rfl rfl (gb_pad' rfl gb_nil))
 rintro ⟨x1, l2⟩ b_1 hM hc_2 hr_1
 rw [curve_over__curve_Over_1_b2] at hM
 refine X.sq (X.q rfl (GS.opsNil (GS.seq ?_)))
 refine X.cond rfl (fun h_2 => ?_) (fun h_2 => ?_)
 ·replace hM := ite_t h_2 hM
  refine GS.skip (GS.seq (GS.block (GS.seq ?_)))
  obtain ⟨x, h_3, hM⟩ := bind_of hM
  refine GS.region ?_
  refine X.opR rfl (X.indexF (f := V.i) h_3 (fun _ => rfl) rfl rfl rfl rfl) rfl ?_
  refine X.opR rfl (X.loadF h_3 rfl rfl rfl) rfl (X.q rfl (GS.opsNil ?_))
  obtain ⟨y1, h_4, hM⟩ := bind_of hM
  obtain ⟨l1, h_5, hM⟩ := bind_of hM
  refine GS.region ?_
  iterate 4 refine X.q rfl ?_
  refine X.call (ok_curve_Over_1 h_4) rfl rfl rfl (.cons (.shut (n := 9) rfl) (.cons (.shut (n := 9) rfl) .nil)) (X.q rfl ?_)
  refine X.opW rfl rfl rfl rfl ?_
  refine X.appN (f := e_curve_spot) h_5 (fun _ => rfl) (by rfl) (by rfl) (by rfl) (by rfl) (by rfl) (by rfl) (by rfl) (by rfl) (by rfl) (by rfl) (by rfl) (by exact rfl) (by rfl) (by rfl) (X.q rfl (GS.opsNil ?_))
  refine GS.endB (GS.region ?_)
  refine X.opR rfl (X.addE rfl rfl) rfl (X.q rfl (GS.opsNil ?_))
  have hE := Option.some.inj hM
  exact X.gc [some 0, some 3] (hc_2 (w64 (x1 + 1), l1) hE.symm) rfl rfl rfl (gk_cons rfl ⟨9, rfl⟩ (gk_cons rfl ⟨9, rfl⟩ (gk_cons rfl (rv_ne (app_ne h_5) rfl) (ga rfl rfl)))) (gb9 rfl rfl rfl (gb_obl' 9 (app_ne h_5) rfl rfl (fun _ => rfl) gb_nil))
 replace hM := ite_f h_2 hM
 refine GS.exit rfl ?_
 obtain ⟨y_1, hM, hy⟩ := map_of hM
 rw [hr_1 _ hy.symm] at hM
 exact X.gc [some 0, some 1] (hj_1 l2 hM) rfl rfl rfl (gk_cons rfl ⟨9, rfl⟩ (gk_cons rfl (rn_ovl rfl) gk_nil)) (gb9 rfl rfl rfl (gb_obl 9 rfl rfl (fun _ => rfl) gb_nil))
theorem ok_curve_Over {c : api_Curve} {s : api_Span} {r : api_Peak × Int} (hM : curve_Over c s = some r) : Ct Tryz.prog 18 [(e_api_Curve c), (e_api_Span s)] (V.tup [(e_api_Peak r.1), (V.i r.2)]) := by
 refine ct_of_gs CC_ok rfl ?_
 unfold curve_Over at hM
 refine X.sq ?_
 iterate 3 refine X.opW rfl rfl rfl rfl ?_
 refine X.q rfl (GS.opsNil ?_)
 iterate 2 refine GS.seq ?_
 obtain ⟨y, h_1, hM⟩ := bind_of hM
 refine GS.region (X.q rfl (X.q rfl ?_))
 refine GS.bldF rfl rfl rfl rfl ?_
 refine X.call (ok_curve_spanned h_1) rfl rfl rfl (.cons (.shut (n := 9) rfl) (.cons (.shut (n := 9) rfl) .nil)) (X.q rfl (X.nq (X.q rfl (X.q rfl ?_))))
 refine GS.opsNil ?_
 refine X.cond rfl (fun h_2 => ?_) (fun h_2 => ?_)
 ·replace hM := ite_t h_2 hM
  refine X.sq (X.q rfl (X.q rfl ?_))
  refine X.op0W rfl rfl rfl (X.q rfl (GS.opsNil ?_))
  cases hM
  exact GS.ret ⟨_, rfl, ⟨30, rfl⟩⟩
 replace hM := ite_f h_2 hM
 refine GS.skip (GS.seq ?_)
 obtain ⟨y1, h_3, hM⟩ := bind_of hM
 obtain ⟨y2, h_4, hM⟩ := bind_of hM
 refine GS.region (X.q rfl (X.q rfl ?_))
 refine GS.bldF rfl rfl rfl rfl ?_
 refine X.call (ok_curve_corners h_3) rfl rfl rfl (.cons (.shut (n := 9) rfl) (.cons (.shut (n := 9) rfl) .nil)) (X.q rfl ?_)
 refine X.callF (ok_curve_over__curve_Over_1 h_4) rfl rfl rfl (m := 9) rfl (.cons (.shut (n := 9) rfl) (.cons (FR.arg ⟨30, rfl⟩) .nil)) ?_
 refine X.op0W rfl rfl rfl (X.q rfl (GS.opsNil ?_))
 cases hM
 exact GS.ret ⟨_, rfl, ⟨30, rfl⟩⟩
theorem ok_hull_asked_1 (w : Int) : Ct Tryz.prog 208 [(V.i w)] (V.b (hull_asked_1 w)) := by
 refine ct_of_gs CC_ok rfl ?_
 generalize hM : hull_asked_1 w = r
 unfold hull_asked_1 at hM
 refine X.sq (X.q rfl (X.nq (X.q rfl ?_)))
 refine X.call (ok_hull_within w (-1048576) 1048576) rfl rfl rfl (.cons (.shut (n := 9) rfl) (.cons (.shut (n := 9) rfl) (.cons (.shut (n := 9) rfl) .nil))) (X.q rfl (X.q rfl ?_))
 refine GS.opsNil ?_
 subst hM
 exact GS.ret ⟨_, rfl, ⟨30, rfl⟩⟩
theorem ok_slices_IndexFunc_int__hull_asked_1 {s : (List Int)} {r : Int} (hM : slices_IndexFunc_int__hull_asked_1 s = some r) : Ct Tryz.prog 227 [(V.sl (List.map V.i s)), (V.fn 208 [])] (V.i r) := by
 refine ct_of_gs CC_ok rfl ?_
 unfold slices_IndexFunc_int__hull_asked_1 at hM
 refine X.sq (X.q rfl (GS.opsNil (GS.seq (X.sq (X.q rfl ?_)))))
 refine X.opR rfl (X.lenF rfl rfl rfl) rfl (X.q rfl (GS.opsNil ?_))
 refine X.join (τ := Unit) (fun v => slices_IndexFunc_int__hull_asked_1_j1 = some r) (fun v => ⟨[], [], 0, none, 19⟩) ?_ ?_
 ·intro _ hM
  replace hM : slices_IndexFunc_int__hull_asked_1_j1 = some r := hM
  unfold slices_IndexFunc_int__hull_asked_1_j1 at hM
  refine X.sq (X.q rfl (GS.opsNil ?_))
  cases hM
  exact GS.ret ⟨_, rfl, ⟨30, rfl⟩⟩
 intro hj_1
 refine GS.block ?_
 refine X.gc [] (X.loop (σ := Int) (fun v => ⟨[(0, (V.sl (List.map V.i s))), (1, (V.fn 208 [])), (7, (V.i (s.length : Int))), (8, (V.i v))], [], 0, none, 19⟩) hM ?_ rfl) rfl rfl rfl (ga rfl rfl) (gb_nil)
 intro x1 b_1 hM hc_2 hr_1
 rw [slices_IndexFunc_int__hull_asked_1_b2] at hM
 refine X.sq (X.q rfl (GS.opsNil (GS.seq ?_)))
 refine X.cond rfl (fun h_1 => ?_) (fun h_1 => ?_)
 ·replace hM := ite_t h_1 hM
  refine GS.skip (GS.seq (GS.block (X.sq (X.q rfl (X.q rfl ?_)))))
  refine GS.opsNil (GS.seq ?_)
  obtain ⟨x, h_2, hM⟩ := bind_of hM
  refine GS.region (X.q rfl (X.q rfl (X.q rfl ?_)))
  refine X.opR rfl (X.indexF (f := V.i) h_2 (fun _ => rfl) rfl rfl rfl rfl) rfl ?_
  refine X.opR rfl (X.loadF h_2 rfl rfl rfl) rfl ?_
  refine X.call (ok_hull_asked_1 x) rfl rfl rfl (.cons (.shut (n := 9) rfl) .nil) (GS.opsNil ?_)
  refine X.cond rfl (fun h_3 => ?_) (fun h_3 => ?_)
  ·replace hM := ite_t h_3 hM
   refine X.sq (X.q rfl (X.q rfl ?_))
   refine GS.opsNil ?_
   have hE := Option.some.inj hM
   replace hE := hr_1 _ hE.symm
   subst hE
   exact GS.ret ⟨_, rfl, ⟨30, rfl⟩⟩
  replace hM := ite_f h_3 hM
  refine GS.skip ?_
  refine GS.endB (GS.region ?_)
  refine X.opR rfl (X.addE rfl rfl) rfl (X.q rfl (GS.opsNil ?_))
  have hE := Option.some.inj hM
  exact X.gc [] (hc_2 (w64 (x1 + 1)) hE.symm) rfl rfl rfl (ga rfl rfl) (gb_nil)
 replace hM := ite_f h_1 hM
 refine GS.exit rfl ?_
 obtain ⟨y_1, hM, hy⟩ := map_of hM
 rw [hr_1 _ hy.symm] at hM
 exact X.gc [] (hj_1 () hM) rfl rfl rfl (gk_nil) (gb_nil)
theorem ok_slices_ContainsFunc_int__hull_asked_1 {s : (List Int)} {r : Bool} (hM : slices_ContainsFunc_int__hull_asked_1 s = some r) : Ct Tryz.prog 163 [(V.sl (List.map V.i s)), (V.fn 208 [])] (V.b r) := by
 refine ct_of_gs CC_ok rfl ?_
 unfold slices_ContainsFunc_int__hull_asked_1 at hM
 refine X.sq (X.q rfl (GS.opsNil (GS.seq ?_)))
 obtain ⟨y, h_1, hM⟩ := bind_of hM
 refine GS.region (X.q rfl (X.q rfl ?_))
 refine X.call (ok_slices_IndexFunc_int__hull_asked_1 h_1) rfl rfl rfl (.cons (.shut (n := 9) rfl) (.cons (.shut (n := 9) rfl) .nil)) (X.q rfl (X.q rfl ?_))
 refine GS.opsNil ?_
 cases hM
 exact GS.ret ⟨_, rfl, ⟨30, rfl⟩⟩
theorem ok_hull_asked {s : api_Ship} {l : api_Load} {form : (List Int)} {r : Int} (hM : hull_asked s l form = some r) : Ct Tryz.prog 125 [(e_api_Ship s), (e_api_Load l), (V.sl (List.map V.i form))] (V.i r) := by
 refine ct_of_gs CC_ok rfl ?_
 unfold hull_asked at hM
 refine X.sq ?_
 iterate 2 refine X.opW rfl rfl rfl rfl ?_
 refine X.q rfl (GS.opsNil ?_)
 iterate 2 refine GS.seq ?_
 obtain ⟨y, h_1, hM⟩ := bind_of hM
 refine GS.region (X.q rfl (X.q rfl ?_))
 refine X.call (ok_hull_CheckLoad h_1) rfl rfl rfl (.cons (.shut (n := 9) rfl) (.cons (.shut (n := 9) rfl) .nil)) (X.q rfl (X.nq (X.q rfl (X.q rfl ?_))))
 refine GS.opsNil ?_
 refine X.cond rfl (fun h_2 => ?_) (fun h_2 => ?_)
 ·replace hM := ite_t h_2 hM
  refine X.sq (X.q rfl (X.q rfl ?_))
  refine GS.opsNil ?_
  cases hM
  exact GS.ret ⟨_, rfl, ⟨30, rfl⟩⟩
 replace hM := ite_f h_2 hM
 refine GS.skip ?_
 iterate 2 refine GS.seq ?_
 obtain ⟨y1, h_3, hM⟩ := gb_of hM
 refine GS.region ?_
 refine X.mid [(23, (V.b ((!decide ((form.length : Int) = (s.Holds.length : Int))) || y1)))] ?_ ?_
 ·intro hg
  refine X.split (!decide ((form.length : Int) = (s.Holds.length : Int))) (fun h_4 => ?_) (fun h_4 => ?_)
  ·refine X.q rfl ?_
   refine X.opR rfl (X.lenF rfl rfl rfl) rfl (X.q rfl (X.q rfl ?_))
   refine X.opR rfl (X.lenF rfl rfl rfl) rfl (X.q rfl (X.q rfl ?_))
   iterate 2 refine X.off (X.off_f rfl rfl rfl h_4) rfl ?_
   refine X.opR rfl (X.pickor_t (y := y1) rfl h_4 rfl) rfl (GS.opsNil ?_)
   exact X.norm _ hg rfl (sr rfl)
  refine X.q rfl ?_
  refine X.opR rfl (X.lenF rfl rfl rfl) rfl (X.q rfl (X.q rfl ?_))
  refine X.opR rfl (X.lenF rfl rfl rfl) rfl (X.q rfl (X.q rfl ?_))
  refine X.opR (X.on_f rfl rfl rfl h_4) rfl rfl ?_
  refine X.call (ok_slices_ContainsFunc_int__hull_asked_1 (h_3 (X.nt h_4))) (X.on_f rfl rfl rfl h_4) rfl rfl (.cons (.shut (n := 9) rfl) (.cons (.shut (n := 9) rfl) .nil)) ?_
  refine X.opR rfl (X.pickor_f (y := y1) rfl h_4 rfl) rfl (GS.opsNil ?_)
  exact X.norm _ hg rfl (sr rfl)
 refine X.cond rfl (fun h_5 => ?_) (fun h_5 => ?_)
 ·replace hM := ite_t h_5 hM
  refine X.sq (X.q rfl (GS.opsNil ?_))
  cases hM
  exact GS.ret ⟨_, rfl, ⟨30, rfl⟩⟩
 replace hM := ite_f h_5 hM
 refine GS.skip (X.sq (X.q rfl (GS.opsNil ?_)))
 cases hM
 exact GS.ret ⟨_, rfl, ⟨30, rfl⟩⟩
abbrev e_api_Price (x : api_Price) : V := .agg [(V.i x.Value), (V.sl (List.map V.i x.Loading)), (V.i x.Price)]
theorem ok_hull_bound {l : api_Load} {form : (List Int)} {price : Int} {t : api_Span} {r : Int} (hM : hull_bound l form price t = some r) : Ct Tryz.prog 209 [(e_api_Load l), (V.sl (List.map V.i form)), (V.i price), (e_api_Span t)] (V.i r) := by
 refine ct_of_gs CC_ok rfl ?_
 unfold hull_bound at hM
 refine X.sq ?_
 iterate 2 refine X.opW rfl rfl rfl rfl ?_
 refine X.q rfl (X.nq (X.q rfl (X.q rfl (X.q rfl ?_))))
 refine X.opR rfl (X.mulE rfl rfl) rfl (X.q rfl (X.q rfl (X.q rfl ?_)))
 refine X.opR rfl (X.mulE rfl rfl) rfl ?_
 refine X.call (ok_hull_greater_int (w64 (price * t.Lo)) (w64 (price * t.Hi))) rfl rfl rfl (.cons (.shut (n := 9) rfl) (.cons (.shut (n := 9) rfl) .nil)) (X.q rfl (GS.opsNil (GS.seq (X.sq (X.q rfl ?_)))))
 refine X.opR rfl (X.lenF rfl rfl rfl) rfl (X.q rfl (GS.opsNil ?_))
 refine X.join (τ := Int) (fun v => hull_bound_j1 v = some r) (fun v => ⟨[(9, (V.i v))], [], 0, none, 53⟩) ?_ ?_
 ·intro n hM
  replace hM : hull_bound_j1 n = some r := hM
  unfold hull_bound_j1 at hM
  refine X.sq (X.q rfl (X.q rfl ?_))
  refine GS.opsNil ?_
  cases hM
  exact GS.ret ⟨_, rfl, ⟨30, rfl⟩⟩
 intro hj_1
 refine GS.block ?_
 refine X.gc [some 0] (X.loop (σ := (Int × Int)) (fun v => ⟨[(2, (V.i price)), (4, (V.ptr 0 0 0)), (9, (V.i v.1)), (21, (V.sl (List.map V.i form))), (22, (V.i (form.length : Int))), (23, (V.i v.2))], [.rows 3 [(e_api_Load l)]], 0, none, 53⟩) hM ?_ rfl) rfl rfl rfl (ga rfl rfl) (gb9 rfl rfl rfl gb_nil)
 rintro ⟨n1, x3⟩ b_1 hM hc_2 hr_1
 rw [hull_bound_b2] at hM
 refine X.sq (X.q rfl (GS.opsNil (GS.seq ?_)))
 refine X.cond rfl (fun h_1 => ?_) (fun h_1 => ?_)
 ·replace hM := ite_t h_1 hM
  refine GS.skip (GS.seq (GS.block (GS.seq ?_)))
  obtain ⟨x, h_2, hM⟩ := bind_of hM
  refine GS.region (X.q rfl ?_)
  refine X.opR rfl (X.indexF (f := V.i) h_2 (fun _ => rfl) rfl rfl rfl rfl) rfl ?_
  refine X.opR rfl (X.loadF h_2 rfl rfl rfl) rfl (X.q rfl (X.q rfl ?_))
  refine GS.opsNil ?_
  obtain ⟨x1, h_3, hM⟩ := bind_of hM
  obtain ⟨x2, h_4, hM⟩ := bind_of hM
  refine X.drawc (by kernel_rfl) rfl ?_
  iterate 3 refine X.cop rfl rfl rfl rfl ?_
  refine X.cop rfl (X.subE rfl rfl) rfl rfl ?_
  iterate 3 refine X.cop rfl rfl rfl rfl ?_
  refine X.cop rfl (X.indexF (f := e_api_Span) h_3 (fun _ => rfl) rfl rfl rfl rfl) rfl rfl ?_
  refine X.cop rfl rfl rfl rfl ?_
  refine X.cop rfl (X.loadF h_3 rfl rfl rfl) rfl rfl ?_
  refine X.cop rfl (X.mulE rfl rfl) rfl rfl ?_
  iterate 2 refine X.cop rfl rfl rfl rfl ?_
  refine X.cop rfl (X.subE rfl rfl) rfl rfl ?_
  iterate 3 refine X.cop rfl rfl rfl rfl ?_
  refine X.cop rfl (X.indexF (f := e_api_Span) h_4 (fun _ => rfl) rfl rfl rfl rfl) rfl rfl ?_
  refine X.cop rfl rfl rfl rfl ?_
  refine X.cop rfl (X.loadF h_4 rfl rfl rfl) rfl rfl ?_
  refine X.cop rfl (X.mulE rfl rfl) rfl rfl ?_
  refine X.ccall (ok_hull_greater_int (w64 ((w64 (x - price)) * x1.Lo)) (w64 ((w64 (x - price)) * x2.Hi))) rfl rfl rfl rfl (.cons (.shut (n := 9) rfl) (.cons (.shut (n := 9) rfl) .nil)) ?_
  refine X.cop rfl (X.addE rfl rfl) rfl rfl ?_
  refine X.cop rfl rfl rfl rfl ?_
  refine X.cnil ?_
  refine X.norm [(2, (V.i price)), (4, (V.ptr 0 0 0)), (9, (V.i (w64 (n1 + (hull_greater_int (w64 ((w64 (x - price)) * x1.Lo)) (w64 ((w64 (x - price)) * x2.Hi))))))), (21, (V.sl (List.map V.i form))), (22, (V.i (form.length : Int))), (23, (V.i x3))] ?_ rfl (sr rfl)
  refine GS.endB (GS.region ?_)
  refine X.opR rfl (X.addE rfl rfl) rfl (X.q rfl (GS.opsNil ?_))
  have hE := Option.some.inj hM
  exact X.gc [some 0] (hc_2 (w64 (n1 + (hull_greater_int (w64 ((w64 (x - price)) * x1.Lo)) (w64 ((w64 (x - price)) * x2.Hi)))), w64 (x3 + 1)) hE.symm) rfl rfl rfl (ga rfl rfl) (gb9 rfl rfl rfl gb_nil)
 replace hM := ite_f h_1 hM
 refine GS.exit rfl ?_
 obtain ⟨y_1, hM, hy⟩ := map_of hM
 rw [hr_1 _ hy.symm] at hM
 exact X.gc [] (hj_1 n1 hM) rfl rfl rfl (ga rfl rfl) (gb_nil)
theorem ok_hull_priced {l : api_Load} {form : (List Int)} {t : api_Span} {r : Int} (hM : hull_priced l form t = some r) : Ct Tryz.prog 127 [(e_api_Load l), (V.sl (List.map V.i form)), (e_api_Span t)] (V.i r) := by
 refine ct_of_gs CC_ok rfl ?_
 unfold hull_priced at hM
 refine X.sq ?_
 iterate 2 refine X.opW rfl rfl rfl rfl ?_
 refine X.q rfl (X.nq (X.q rfl (GS.opsNil (GS.seq (X.sq (X.q rfl ?_))))))
 refine X.opR rfl (X.lenF rfl rfl rfl) rfl (X.q rfl (GS.opsNil ?_))
 refine X.join (τ := Int) (fun v => hull_priced_j1 v = some r) (fun v => ⟨[(7, (V.i v))], [], 0, none, 30⟩) ?_ ?_
 ·intro p hM
  replace hM : hull_priced_j1 p = some r := hM
  unfold hull_priced_j1 at hM
  refine X.sq (X.q rfl (X.q rfl ?_))
  refine GS.opsNil ?_
  cases hM
  exact GS.ret ⟨_, rfl, ⟨30, rfl⟩⟩
 intro hj_1
 refine GS.block ?_
 refine X.gc [some 0, some 1] (X.loop (σ := (Int × Int)) (fun v => ⟨[(1, (V.sl (List.map V.i form))), (3, (V.ptr 0 0 0)), (5, (V.ptr 1 0 0)), (7, (V.i v.1)), (10, (V.sl (List.map V.i form))), (11, (V.i (form.length : Int))), (12, (V.i v.2))], [.rows 3 [(e_api_Load l)], .rows 2 [(e_api_Span t)]], 0, none, 30⟩) hM ?_ rfl) rfl rfl rfl (ga rfl rfl) (gb9 rfl rfl rfl (gb9 rfl rfl rfl gb_nil))
 rintro ⟨p2, x1⟩ b_1 hM hc_2 hr_1
 rw [hull_priced_b2] at hM
 refine X.sq (X.q rfl (GS.opsNil (GS.seq ?_)))
 refine X.cond rfl (fun h_1 => ?_) (fun h_1 => ?_)
 ·replace hM := ite_t h_1 hM
  refine GS.skip (GS.seq ?_)
  refine X.join (τ := Int) (fun v => hull_priced_j3 x1 v = some b_1) (fun v => ⟨[(1, (V.sl (List.map V.i form))), (3, (V.ptr 0 0 0)), (5, (V.ptr 1 0 0)), (7, (V.i v)), (10, (V.sl (List.map V.i form))), (11, (V.i (form.length : Int))), (12, (V.i x1))], [.rows 3 [(e_api_Load l)], .rows 2 [(e_api_Span t)]], 0, none, 30⟩) ?_ ?_
  ·intro p1 hM
   replace hM : hull_priced_j3 x1 p1 = some b_1 := hM
   unfold hull_priced_j3 at hM
   refine GS.region ?_
   refine X.opR rfl (X.addE rfl rfl) rfl (X.q rfl (GS.opsNil ?_))
   have hE := Option.some.inj hM
   exact X.gc [some 0, some 1] (hc_2 (p1, w64 (x1 + 1)) hE.symm) rfl rfl rfl (ga rfl rfl) (gb9 rfl rfl rfl (gb9 rfl rfl rfl gb_nil))
  intro hj_3
  refine GS.block (GS.seq ?_)
  obtain ⟨x, h_2, hM⟩ := bind_of hM
  refine GS.region ?_
  refine X.opR rfl (X.indexF (f := V.i) h_2 (fun _ => rfl) rfl rfl rfl rfl) rfl ?_
  refine X.opR rfl (X.loadF h_2 rfl rfl rfl) rfl (X.q rfl (GS.opsNil (GS.seq ?_)))
  obtain ⟨y, h_3, hM⟩ := bind_of hM
  obtain ⟨y1, h_4, hM⟩ := bind_of hM
  refine X.drawc (by kernel_rfl) rfl ?_
  iterate 4 refine X.cop rfl rfl rfl rfl ?_
  refine X.ccall (ok_hull_bound h_3) rfl rfl rfl rfl (.cons (.shut (n := 9) rfl) (.cons (.shut (n := 9) rfl) (.cons (.shut (n := 9) rfl) (.cons (.shut (n := 9) rfl) .nil)))) ?_
  iterate 4 refine X.cop rfl rfl rfl rfl ?_
  refine X.ccall (ok_hull_bound h_4) rfl rfl rfl rfl (.cons (.shut (n := 9) rfl) (.cons (.shut (n := 9) rfl) (.cons (.shut (n := 9) rfl) (.cons (.shut (n := 9) rfl) .nil)))) ?_
  refine X.cop rfl rfl rfl rfl ?_
  refine X.cnil ?_
  refine X.norm [(1, (V.sl (List.map V.i form))), (3, (V.ptr 0 0 0)), (5, (V.ptr 1 0 0)), (7, (V.i p2)), (9, (V.i x)), (10, (V.sl (List.map V.i form))), (11, (V.i (form.length : Int))), (12, (V.i x1)), (26, (V.b (decide (y < y1))))] ?_ rfl (sr rfl)
  refine X.cond rfl (fun h_5 => ?_) (fun h_5 => ?_)
  ·replace hM := ite_t h_5 hM
   refine GS.region (X.q rfl (X.q rfl ?_))
   refine GS.opsNil ?_
   refine GS.endB ?_
   exact X.gc [some 0, some 1] (hj_3 x hM) rfl rfl rfl (ga rfl rfl) (gb9 rfl rfl rfl (gb9 rfl rfl rfl gb_nil))
  replace hM := ite_f h_5 hM
  refine GS.skip ?_
  refine GS.endB ?_
  exact X.gc [some 0, some 1] (hj_3 p2 hM) rfl rfl rfl (ga rfl rfl) (gb9 rfl rfl rfl (gb9 rfl rfl rfl gb_nil))
 replace hM := ite_f h_1 hM
 refine GS.exit rfl ?_
 obtain ⟨y_1, hM, hy⟩ := map_of hM
 rw [hr_1 _ hy.symm] at hM
 exact X.gc [] (hj_1 p2 hM) rfl rfl rfl (ga rfl rfl) (gb_nil)
theorem ok_hull_Most {s : api_Ship} {l : api_Load} {form : (List Int)} {r : api_Price × Int} (hM : hull_Most s l form = some r) : Ct Tryz.prog 63 [(e_api_Ship s), (e_api_Load l), (V.sl (List.map V.i form))] (V.tup [(e_api_Price r.1), (V.i r.2)]) := by
 refine ct_of_gs CC_ok rfl ?_
 unfold hull_Most at hM
 refine X.sq ?_
 iterate 3 refine X.opW rfl rfl rfl rfl ?_
 refine X.q rfl (GS.opsNil ?_)
 iterate 2 refine GS.seq ?_
 obtain ⟨y, h_1, hM⟩ := bind_of hM
 refine GS.region (X.q rfl (X.q rfl (X.q rfl ?_)))
 refine X.call (ok_hull_asked h_1) rfl rfl rfl (.cons (.shut (n := 9) rfl) (.cons (.shut (n := 9) rfl) (.cons (.shut (n := 9) rfl) .nil))) (X.q rfl (X.nq (X.q rfl (X.q rfl ?_))))
 refine GS.opsNil ?_
 refine X.cond rfl (fun h_2 => ?_) (fun h_2 => ?_)
 ·replace hM := ite_t h_2 hM
  refine X.sq (X.q rfl (X.q rfl ?_))
  refine X.op0W rfl rfl rfl (X.q rfl (GS.opsNil ?_))
  cases hM
  exact GS.ret ⟨_, rfl, ⟨30, rfl⟩⟩
 replace hM := ite_f h_2 hM
 refine GS.skip (GS.seq ?_)
 obtain ⟨y1, h_3, hM⟩ := bind_of hM
 refine GS.region (X.q rfl ?_)
 refine X.call (ok_hull_totals h_3) rfl rfl rfl (.cons (.shut (n := 9) rfl) .nil) (X.q rfl (X.q rfl ?_))
 refine GS.opsNil (GS.seq (X.sq (X.q rfl ?_)))
 refine X.opR rfl (X.lenF rfl rfl rfl) rfl (X.q rfl (GS.opsNil ?_))
 refine X.join (τ := Int) (fun v => hull_Most_j1 l form v = some r) (fun v => ⟨[(2, (V.sl (List.map V.i form))), (4, (V.ptr 0 0 0)), (6, (V.ptr 1 0 0)), (9, (V.i v))], [.rows 3 [(e_api_Load l)], .rows 3 [(V.agg [(V.i 0), V.nil, (V.i 0)])]], 0, none, 70⟩) ?_ ?_
 ·intro up hM
  replace hM : hull_Most_j1 l form up = some r := hM
  unfold hull_Most_j1 at hM
  refine GS.seq ?_
  obtain ⟨y2, h_4, hM⟩ := bind_of hM
  obtain ⟨y3, h_5, hM⟩ := bind_of hM
  refine X.drawc (by kernel_rfl) rfl ?_
  iterate 4 refine X.cop rfl rfl rfl rfl ?_
  refine X.ccall (ok_hull_totals h_4) rfl rfl rfl rfl (.cons (.shut (n := 9) rfl) .nil) ?_
  refine X.cop rfl rfl rfl rfl ?_
  refine X.cop rfl (X.minE rfl rfl) rfl rfl ?_
  refine X.ccall (ok_hull_best h_5) rfl rfl rfl rfl (.cons (.shut (n := 9) rfl) (.cons (.shut (n := 9) rfl) (.cons (.shut (n := 9) rfl) .nil))) ?_
  refine X.cop rfl rfl rfl rfl ?_
  refine X.cnil ?_
  refine X.norm [(2, (V.sl (List.map V.i form))), (4, (V.ptr 0 0 0)), (6, (V.ptr 1 0 0)), (12, (V.sl (List.map V.i y3)))] ?_ rfl (sr rfl)
  refine GS.seq ?_
  obtain ⟨y4, h_6, hM⟩ := bind_of hM
  obtain ⟨y5, h_7, hM⟩ := bind_of hM
  refine X.draw (by kernel_rfl) ?_
  iterate 2 refine X.dop rfl rfl rfl rfl (by kernel_rfl) rfl rfl ?_
  refine X.dcall (ok_hull_value h_6) rfl rfl rfl (by kernel_rfl) rfl (.cons (.shut (n := 9) rfl) (.cons (.shut (n := 9) rfl) .nil)) ?_
  iterate 5 refine X.dop rfl rfl rfl rfl (by kernel_rfl) rfl rfl ?_
  refine X.dcall (ok_hull_priced h_7) rfl rfl rfl (by kernel_rfl) rfl (.cons (.shut (n := 9) rfl) (.cons (.shut (n := 9) rfl) (.cons (.shut (n := 9) rfl) .nil))) ?_
  refine X.dop rfl rfl rfl rfl (by kernel_rfl) rfl rfl ?_
  refine X.dop0 rfl rfl rfl rfl (by kernel_rfl) rfl ?_
  refine X.dop rfl rfl rfl rfl (by kernel_rfl) rfl rfl ?_
  refine X.dnil ?_
  refine X.norm [(6, (V.ptr 1 0 0)), (7, (V.i 0))] ?_ rfl (sr rfl)
  cases hM
  exact GS.ret ⟨_, rfl, ⟨30, rfl⟩⟩
 intro hj_1
 refine GS.block ?_
 refine X.gc [some 1, some 2] (X.loop (σ := (Int × Int)) (fun v => ⟨[(2, (V.sl (List.map V.i form))), (4, (V.ptr 0 0 0)), (6, (V.ptr 1 0 0)), (9, (V.i v.1)), (24, (V.sl (List.map V.i form))), (25, (V.i (form.length : Int))), (26, (V.i v.2))], [.rows 3 [(e_api_Load l)], .rows 3 [(V.agg [(V.i 0), V.nil, (V.i 0)])]], 0, none, 70⟩) hM ?_ rfl) rfl rfl rfl (ga rfl rfl) (gb9 rfl rfl rfl (gb9 rfl rfl rfl gb_nil))
 rintro ⟨up2, x3⟩ b_1 hM hc_2 hr_1
 rw [hull_Most_b2] at hM
 refine X.sq (X.q rfl (GS.opsNil (GS.seq ?_)))
 refine X.cond rfl (fun h_8 => ?_) (fun h_8 => ?_)
 ·replace hM := ite_t h_8 hM
  refine GS.skip (GS.seq ?_)
  refine X.join (τ := Int) (fun v => hull_Most_j3 x3 v = some b_1) (fun v => ⟨[(2, (V.sl (List.map V.i form))), (4, (V.ptr 0 0 0)), (6, (V.ptr 1 0 0)), (9, (V.i v)), (24, (V.sl (List.map V.i form))), (25, (V.i (form.length : Int))), (26, (V.i x3))], [.rows 3 [(e_api_Load l)], .rows 3 [(V.agg [(V.i 0), V.nil, (V.i 0)])]], 0, none, 70⟩) ?_ ?_
  ·intro up1 hM
   replace hM : hull_Most_j3 x3 up1 = some b_1 := hM
   unfold hull_Most_j3 at hM
   refine GS.region ?_
   refine X.opR rfl (X.addE rfl rfl) rfl (X.q rfl (GS.opsNil ?_))
   have hE := Option.some.inj hM
   exact X.gc [some 0, some 1] (hc_2 (up1, w64 (x3 + 1)) hE.symm) rfl rfl rfl (ga rfl rfl) (gb9 rfl rfl rfl (gb9 rfl rfl rfl gb_nil))
  intro hj_3
  refine GS.block (GS.seq ?_)
  obtain ⟨x, h_9, hM⟩ := bind_of hM
  refine GS.region (X.q rfl ?_)
  refine X.opR rfl (X.indexF (f := V.i) h_9 (fun _ => rfl) rfl rfl rfl rfl) rfl ?_
  refine X.opR rfl (X.loadF h_9 rfl rfl rfl) rfl (X.q rfl (X.q rfl ?_))
  refine X.nq (X.q rfl (X.q rfl ?_))
  refine GS.opsNil ?_
  refine X.cond rfl (fun h_10 => ?_) (fun h_10 => ?_)
  ·replace hM := ite_t h_10 hM
   obtain ⟨x1, h_11, hM⟩ := bind_of hM
   obtain ⟨y6, h_12, hM⟩ := bind_of hM
   obtain ⟨y7, h_13, hM⟩ := bind_of hM
   obtain ⟨x2, h_14, hM⟩ := bind_of hM
   refine X.drawc (by kernel_rfl) rfl ?_
   iterate 4 refine X.cop rfl rfl rfl rfl ?_
   refine X.cop rfl (X.indexF (f := e_api_Span) h_11 (fun _ => rfl) rfl rfl rfl rfl) rfl rfl ?_
   refine X.cop rfl rfl rfl rfl ?_
   refine X.cop rfl (X.loadF h_11 rfl rfl rfl) rfl rfl ?_
   iterate 3 refine X.cop rfl rfl rfl rfl ?_
   refine X.ccall (ok_hull_totals h_12) rfl rfl rfl rfl (.cons (.shut (n := 9) rfl) .nil) ?_
   refine X.cop rfl rfl rfl rfl ?_
   refine X.ccall (ok_hull_best h_13) rfl rfl rfl rfl (.cons (.shut (n := 9) rfl) (.cons (.shut (n := 9) rfl) (.cons (.shut (n := 9) rfl) .nil))) ?_
   refine X.cop rfl rfl rfl rfl ?_
   refine X.cop rfl (X.indexF (f := V.i) h_14 (fun _ => rfl) rfl rfl rfl rfl) rfl rfl ?_
   refine X.cop rfl (X.loadF h_14 rfl rfl rfl) rfl rfl ?_
   refine X.cop rfl (X.subE rfl rfl) rfl rfl ?_
   refine X.cop rfl (X.addE rfl rfl) rfl rfl ?_
   refine X.cop rfl rfl rfl rfl ?_
   refine X.cnil ?_
   refine X.norm [(2, (V.sl (List.map V.i form))), (4, (V.ptr 0 0 0)), (6, (V.ptr 1 0 0)), (9, (V.i (w64 (up2 + (w64 (x1.Hi - x2)))))), (24, (V.sl (List.map V.i form))), (25, (V.i (form.length : Int))), (26, (V.i x3))] ?_ rfl (sr rfl)
   refine GS.endB ?_
   exact X.gc [some 0, some 1] (hj_3 (w64 (up2 + (w64 (x1.Hi - x2)))) hM) rfl rfl rfl (ga rfl rfl) (gb9 rfl rfl rfl (gb9 rfl rfl rfl gb_nil))
  replace hM := ite_f h_10 hM
  refine GS.skip ?_
  refine GS.endB ?_
  exact X.gc [some 0, some 1] (hj_3 up2 hM) rfl rfl rfl (ga rfl rfl) (gb9 rfl rfl rfl (gb9 rfl rfl rfl gb_nil))
 replace hM := ite_f h_8 hM
 refine GS.exit rfl ?_
 obtain ⟨y_1, hM, hy⟩ := map_of hM
 rw [hr_1 _ hy.symm] at hM
 exact X.gc [some 0, some 1] (hj_1 up2 hM) rfl rfl rfl (ga rfl rfl) (gb9 rfl rfl rfl (gb9 rfl rfl rfl gb_nil))
theorem ok_top_surely {s : api_Ship} {l : api_Load} {n : api_Load} {low : api_Frac} {r : Bool} (hM : top_surely s l n low = some r) : Ct Tryz.prog 21 [(e_api_Ship s), (e_api_Load l), (e_api_Load n), (e_api_Frac low)] (V.b r) := by
 refine ct_of_gs CC_ok rfl ?_
 unfold top_surely at hM
 refine X.sq ?_
 iterate 3 refine X.opW rfl rfl rfl rfl ?_
 refine X.opW (H' := [.rows 11 [(e_api_Ship s)], .rows 3 [(e_api_Load l)], .rows 3 [(e_api_Load n)], .rows 2 [(e_api_Frac low)]]) rfl rfl rfl rfl (X.q rfl (X.nq (X.q rfl (GS.opsNil (GS.seq (X.sq (X.q rfl (X.q rfl ?_))))))))
 refine X.opR rfl (X.lenF rfl rfl rfl) rfl (X.q rfl (GS.opsNil ?_))
 refine X.join (τ := (List Int)) (fun v => top_surely_j1 s l n low v = some r) (fun v => ⟨[(4, (V.ptr 0 0 0)), (5, (V.ptr 1 0 0)), (6, (V.ptr 2 0 0)), (7, (V.ptr 3 0 0)), (9, (ovl 4 v))], [.rows 11 [(e_api_Ship s)], .rows 3 [(e_api_Load l)], .rows 3 [(e_api_Load n)], .rows 2 [(e_api_Frac low)], obl 1 V.i v], 0, none, 75⟩) ?_ ?_
 ·intro l1 hM
  replace hM : top_surely_j1 s l n low l1 = some r := hM
  unfold top_surely_j1 at hM
  refine GS.seq ?_
  obtain ⟨y, h_1, hM⟩ := bind_of hM
  refine GS.region (X.q rfl (X.q rfl (X.q rfl ?_)))
  refine X.callF (v := (V.tup [(V.agg [(V.i y.1.Value), V.uns, (V.i y.1.Price)]), (V.i y.2)])) (Ct.mask (ok_hull_Most h_1)) rfl rfl rfl (m := 9) rfl (.cons (.shut (n := 9) rfl) (.cons (.shut (n := 9) rfl) (.cons (FR.arg (FR.ovl (f := V.i) (l := l1) 9 rfl rfl (fun _ => rfl))) .nil))) (X.q rfl (X.q rfl (X.q rfl ?_)))
  refine X.opW (H' := [.rows 11 [(e_api_Ship s)], .rows 3 [(e_api_Load l)], .rows 3 [(e_api_Load n)], .rows 2 [(e_api_Frac low)], obl 1 V.i l1, .rows 3 [(V.agg [(V.i 0), V.nil, (V.i 0)])]]) rfl rfl rfl rfl ?_
  refine X.op0W (H' := [.rows 11 [(e_api_Ship s)], .rows 3 [(e_api_Load l)], .rows 3 [(e_api_Load n)], .rows 2 [(e_api_Frac low)], obl 1 V.i l1, .rows 3 [(V.agg [(V.i y.1.Value), V.uns, (V.i y.1.Price)])]]) rfl rfl rfl (X.q rfl (X.nq ?_))
  iterate 7 refine X.q rfl ?_
  refine X.opR rfl (X.addE rfl rfl) rfl (X.q rfl (X.q rfl ?_))
  refine X.opR rfl (X.mulE rfl rfl) rfl ?_
  refine X.opR rfl (X.subE rfl rfl) rfl (X.q rfl (X.q rfl (X.q rfl ?_)))
  refine X.opW (H' := [.rows 11 [(e_api_Ship s)], .rows 3 [(e_api_Load l)], .rows 3 [(e_api_Load n)], .rows 2 [(e_api_Frac low)], obl 1 V.i l1, .rows 3 [(V.agg [(V.i y.1.Value), V.uns, (V.i y.1.Price)])], .rows 2 [(V.agg [(V.i 0), (V.i 0)])]]) rfl rfl rfl rfl ?_
  refine X.op0W (H' := [.rows 11 [(e_api_Ship s)], .rows 3 [(e_api_Load l)], .rows 3 [(e_api_Load n)], .rows 2 [(e_api_Frac low)], obl 1 V.i l1, .rows 3 [(V.agg [(V.i y.1.Value), V.uns, (V.i y.1.Price)])], .rows 2 [(V.agg [(V.i (w64 (low.Num - (w64 ((w64 (s.Mtac.Err + s.Least)) * low.Den))))), (V.i low.Den)])]]) rfl rfl rfl (X.nq ?_)
  refine X.mid [(8, (V.b ((decide (y.2 = 0)) && (decide ((w64 ((w64 ((w64 (s.Light * s.Height)) + y.1.Value)) * low.Den)) ≤ (w64 ((w64 (low.Num - (w64 ((w64 (s.Mtac.Err + s.Least)) * low.Den)))) * (w64 (s.Light + n.All.Lo)))))))))] ?_ ?_
  ·intro hg
   refine X.split (decide (y.2 = 0)) (fun h_2 => ?_) (fun h_2 => ?_)
   ·iterate 3 refine X.q rfl ?_
    iterate 4 refine X.opR (X.on_t rfl rfl rfl h_2) rfl rfl ?_
    refine X.opR (X.on_t rfl rfl rfl h_2) (X.mulE rfl rfl) rfl ?_
    iterate 2 refine X.opR (X.on_t rfl rfl rfl h_2) rfl rfl ?_
    refine X.opR (X.on_t rfl rfl rfl h_2) (X.addE rfl rfl) rfl ?_
    iterate 2 refine X.opR (X.on_t rfl rfl rfl h_2) rfl rfl ?_
    refine X.opR (X.on_t rfl rfl rfl h_2) (X.mulE rfl rfl) rfl ?_
    iterate 7 refine X.opR (X.on_t rfl rfl rfl h_2) rfl rfl ?_
    refine X.opR (X.on_t rfl rfl rfl h_2) (X.addE rfl rfl) rfl ?_
    refine X.opR (X.on_t rfl rfl rfl h_2) (X.mulE rfl rfl) rfl ?_
    refine X.opR (X.on_t rfl rfl rfl h_2) rfl rfl ?_
    refine X.opR rfl (X.pickand_t (y := decide ((w64 ((w64 ((w64 (s.Light * s.Height)) + y.1.Value)) * low.Den)) ≤ (w64 ((w64 (low.Num - (w64 ((w64 (s.Mtac.Err + s.Least)) * low.Den)))) * (w64 (s.Light + n.All.Lo)))))) rfl h_2 rfl) rfl (X.q rfl (GS.opsNil ?_))
    exact X.norm _ hg rfl (sr rfl)
   iterate 3 refine X.q rfl ?_
   iterate 21 refine X.off (X.off_t rfl rfl rfl h_2) rfl ?_
   refine X.opR rfl (X.pickand_f (y := decide ((w64 ((w64 ((w64 (s.Light * s.Height)) + y.1.Value)) * low.Den)) ≤ (w64 ((w64 (low.Num - (w64 ((w64 (s.Mtac.Err + s.Least)) * low.Den)))) * (w64 (s.Light + n.All.Lo)))))) rfl h_2 rfl) rfl (X.q rfl (GS.opsNil ?_))
   exact X.norm _ hg rfl (sr rfl)
  cases hM
  exact GS.ret ⟨_, rfl, ⟨30, rfl⟩⟩
 intro hj_1
 refine GS.block ?_
 refine X.gc [some 0, some 1, some 2, some 3, none] (X.loop (σ := (Int × (List Int))) (fun v => ⟨[(4, (V.ptr 0 0 0)), (5, (V.ptr 1 0 0)), (6, (V.ptr 2 0 0)), (7, (V.ptr 3 0 0)), (9, (ovl 4 v.2)), (16, (V.sl (List.map e_api_Hold s.Holds))), (17, (V.i (s.Holds.length : Int))), (18, (V.i v.1))], [.rows 11 [(e_api_Ship s)], .rows 3 [(e_api_Load l)], .rows 3 [(e_api_Load n)], .rows 2 [(e_api_Frac low)], obl 1 V.i v.2], 0, none, 75⟩) hM ?_ rfl) rfl rfl rfl (ga rfl rfl) (gb9 rfl rfl rfl (gb9 rfl rfl rfl (gb9 rfl rfl rfl (gb9 rfl rfl rfl (gb_pad' rfl gb_nil)))))
 rintro ⟨x1, l3⟩ b_1 hM hc_2 hr_1
 rw [top_surely_b2] at hM
 refine X.sq (X.q rfl (GS.opsNil (GS.seq ?_)))
 refine X.cond rfl (fun h_3 => ?_) (fun h_3 => ?_)
 ·replace hM := ite_t h_3 hM
  refine GS.skip (GS.seq (GS.block (GS.seq ?_)))
  obtain ⟨x, h_4, hM⟩ := bind_of hM
  refine GS.region ?_
  refine X.opR rfl (X.indexF (f := e_api_Hold) h_4 (fun _ => rfl) rfl rfl rfl rfl) rfl ?_
  refine X.opR rfl (X.loadF h_4 rfl rfl rfl) rfl ?_
  refine X.opW (H' := [.rows 11 [(e_api_Ship s)], .rows 3 [(e_api_Load l)], .rows 3 [(e_api_Load n)], .rows 2 [(e_api_Frac low)], obl 1 V.i l3, .rows 4 [(V.agg [(V.i 0), (V.i 0), (V.i 0), (V.i 0)])]]) rfl rfl rfl rfl ?_
  refine X.op0W (H' := [.rows 11 [(e_api_Ship s)], .rows 3 [(e_api_Load l)], .rows 3 [(e_api_Load n)], .rows 2 [(e_api_Frac low)], obl 1 V.i l3, .rows 4 [(e_api_Hold x)]]) rfl rfl rfl (GS.opsNil ?_)
  obtain ⟨l2, h_5, hM⟩ := bind_of hM
  refine GS.region (X.q rfl (X.q rfl (X.q rfl ?_)))
  refine X.opW (H' := [.rows 11 [(e_api_Ship s)], .rows 3 [(e_api_Load l)], .rows 3 [(e_api_Load n)], .rows 2 [(e_api_Frac low)], obl 1 V.i l3, .rows 4 [(e_api_Hold x)], .rows 1 (List.map V.i ([x.Height]))]) rfl rfl rfl rfl ?_
  refine X.appN (f := V.i) h_5 (fun _ => rfl) (by rfl) (by rfl) (by rfl) (by rfl) (by rfl) (by rfl) (by rfl) (by rfl) (by rfl) (by rfl) (by rfl) (by exact rfl) (by rfl) (by rfl) (X.q rfl (GS.opsNil ?_))
  refine GS.endB (GS.region ?_)
  refine X.opR rfl (X.addE rfl rfl) rfl (X.q rfl (GS.opsNil ?_))
  have hE := Option.some.inj hM
  exact X.gc [some 0, some 1, some 2, some 3, some 7] (hc_2 (w64 (x1 + 1), l2) hE.symm) rfl rfl rfl (gk_cons rfl ⟨9, rfl⟩ (gk_cons rfl ⟨9, rfl⟩ (gk_cons rfl ⟨9, rfl⟩ (gk_cons rfl ⟨9, rfl⟩ (gk_cons rfl (rv_ne (app_ne h_5) rfl) (ga rfl rfl)))))) (gb9 rfl rfl rfl (gb9 rfl rfl rfl (gb9 rfl rfl rfl (gb9 rfl rfl rfl (gb_obl' 9 (app_ne h_5) rfl rfl (fun _ => rfl) gb_nil)))))
 replace hM := ite_f h_3 hM
 refine GS.exit rfl ?_
 obtain ⟨y_1, hM, hy⟩ := map_of hM
 rw [hr_1 _ hy.symm] at hM
 exact X.gc [some 0, some 1, some 2, some 3, some 4] (hj_1 l3 hM) rfl rfl rfl (gk_cons rfl ⟨9, rfl⟩ (gk_cons rfl ⟨9, rfl⟩ (gk_cons rfl ⟨9, rfl⟩ (gk_cons rfl ⟨9, rfl⟩ (gk_cons rfl (rn_ovl rfl) gk_nil))))) (gb9 rfl rfl rfl (gb9 rfl rfl rfl (gb9 rfl rfl rfl (gb9 rfl rfl rfl (gb_obl 9 rfl rfl (fun _ => rfl) gb_nil)))))
theorem ok_hull_Gravity {s : api_Ship} {x : (List Int)} {r : api_Frac × Int} (hM : hull_Gravity s x = some r) : Ct Tryz.prog 22 [(e_api_Ship s), (V.sl (List.map V.i x))] (V.tup [(e_api_Frac r.1), (V.i r.2)]) := by
 refine ct_of_gs CC_ok rfl ?_
 unfold hull_Gravity at hM
 refine X.sq ?_
 iterate 2 refine X.opW rfl rfl rfl rfl ?_
 refine X.q rfl (GS.opsNil ?_)
 iterate 2 refine GS.seq ?_
 obtain ⟨y, h_1, hM⟩ := bind_of hM
 refine GS.region (X.q rfl (X.q rfl ?_))
 refine GS.bldF rfl rfl rfl rfl ?_
 refine X.call (ok_hull_loaded h_1) rfl rfl rfl (.cons (.shut (n := 9) rfl) (.cons (.shut (n := 9) rfl) .nil)) (X.q rfl (X.nq (X.q rfl (X.q rfl ?_))))
 refine GS.opsNil ?_
 refine X.cond rfl (fun h_2 => ?_) (fun h_2 => ?_)
 ·replace hM := ite_t h_2 hM
  refine X.sq (X.q rfl (X.q rfl ?_))
  refine X.op0W rfl rfl rfl (X.q rfl (GS.opsNil ?_))
  cases hM
  exact GS.ret ⟨_, rfl, ⟨30, rfl⟩⟩
 replace hM := ite_f h_2 hM
 refine GS.skip (GS.seq ?_)
 obtain ⟨y1, h_3, hM⟩ := bind_of hM
 obtain ⟨y2, h_4, hM⟩ := bind_of hM
 obtain ⟨y3, h_5, hM⟩ := bind_of hM
 refine X.draw (by kernel_rfl) ?_
 iterate 2 refine X.dop rfl rfl rfl rfl (by kernel_rfl) rfl rfl ?_
 refine X.dcall (ok_hull_rise h_3) rfl rfl rfl (by kernel_rfl) rfl (.cons (.shut (n := 9) rfl) (.cons (.shut (n := 9) rfl) .nil)) ?_
 iterate 3 refine X.dop rfl rfl rfl rfl (by kernel_rfl) rfl rfl ?_
 refine X.dcall (ok_hull_sum h_4) rfl rfl rfl (by kernel_rfl) rfl (.cons (.shut (n := 9) rfl) .nil) ?_
 refine X.dop rfl (X.addE rfl rfl) rfl rfl (by kernel_rfl) rfl rfl ?_
 refine X.dcall (ok_hull_low h_5) rfl rfl rfl (by kernel_rfl) rfl (.cons (.shut (n := 9) rfl) (.cons (.shut (n := 9) rfl) .nil)) ?_
 refine X.dop0 rfl rfl rfl rfl (by kernel_rfl) rfl ?_
 refine X.dop rfl rfl rfl rfl (by kernel_rfl) rfl rfl ?_
 refine X.dnil ?_
 refine X.norm [(4, (V.ptr 1 0 0)), (5, (V.i 0))] ?_ rfl (sr rfl)
 cases hM
 exact GS.ret ⟨_, rfl, ⟨30, rfl⟩⟩
set_option maxHeartbeats 4000000 in
theorem ok_top_TopShipsAreTheirTables {s : api_Ship} {l : api_Load} {by_ : (List Int)} {r : Bool} (hM : top_TopShipsAreTheirTables s l by_ = some r) : Ct Tryz.prog 3 [(e_api_Ship s), (e_api_Load l), (V.sl (List.map (fun x => V.lit (.int .u16 x)) by_))] (V.b r) := by
 refine ct_of_gs CC_ok rfl ?_
 unfold top_TopShipsAreTheirTables at hM
 refine X.sq ?_
 iterate 2 refine X.opW rfl rfl rfl rfl ?_
 refine X.q rfl (GS.opsNil ?_)
 iterate 2 refine GS.seq ?_
 obtain ⟨y, h_1, hM⟩ := gb_of hM
 refine GS.region ?_
 refine X.mid [(2, (V.sl (List.map (fun x => V.lit (.int .u16 x)) by_))), (3, (V.ptr 0 0 0)), (4, (V.ptr 1 0 0)), (38, (V.b ((!(top_slight s l)) || (!decide (y = 0)))))] ?_ ?_
 ·intro hg
  refine X.split (!(top_slight s l)) (fun h_2 => ?_) (fun h_2 => ?_)
  ·iterate 2 refine X.q rfl ?_
   refine X.call (ok_top_slight s l) rfl rfl rfl (.cons (.shut (n := 9) rfl) (.cons (.shut (n := 9) rfl) .nil)) (X.q rfl (X.q rfl ?_))
   iterate 4 refine X.off (X.off_f rfl rfl rfl h_2) rfl ?_
   refine X.opR rfl (X.pickor_t (y := !decide (y = 0)) rfl h_2 rfl) rfl (GS.opsNil ?_)
   exact X.norm _ hg rfl (sr rfl)
  refine X.q rfl (X.q rfl ?_)
  refine X.call (ok_top_slight s l) rfl rfl rfl (.cons (.shut (n := 9) rfl) (.cons (.shut (n := 9) rfl) .nil)) (X.q rfl (X.q rfl ?_))
  iterate 2 refine X.opR (X.on_f rfl rfl rfl h_2) rfl rfl ?_
  refine X.call (ok_hull_CheckLoad (h_1 (X.nt h_2))) (X.on_f rfl rfl rfl h_2) rfl rfl (.cons (.shut (n := 9) rfl) (.cons (.shut (n := 9) rfl) .nil)) ?_
  refine X.opR (X.on_f rfl rfl rfl h_2) rfl rfl ?_
  refine X.opR rfl (X.pickor_f (y := !decide (y = 0)) rfl h_2 rfl) rfl (GS.opsNil ?_)
  exact X.norm _ hg rfl (sr rfl)
 refine X.cond rfl (fun h_3 => ?_) (fun h_3 => ?_)
 ·replace hM := ite_t h_3 hM
  refine GS.seq ?_
  obtain ⟨y1, h_4, hM⟩ := bind_of hM
  refine GS.region ?_
  refine X.call (ok_top_floating h_4) rfl rfl rfl .nil (X.q rfl (GS.opsNil ?_))
  cases hM
  exact GS.ret ⟨_, rfl, ⟨30, rfl⟩⟩
 replace hM := ite_f h_3 hM
 refine GS.skip (GS.seq ?_)
 obtain ⟨y2, h_5, hM⟩ := bind_of hM
 refine GS.region (X.q rfl (X.q rfl ?_))
 refine X.own (own_law03_Inside h_5) (fun z_1 => (V.tup [(ovlz z_1 2 y2.1), (V.b y2.2)])) rfl rfl rfl (.cons (.shut (n := 9) rfl) (.cons (.shut (n := 9) rfl) .nil)) rfl (fun _ => ⟨_, (X.rn_tup2 (X.rn_ovl rfl) rfl)⟩) (fun _ => ⟨_, X.rnB_obl 9 (fun _ => rfl)⟩) (fun z_1 => ?_)
 iterate 5 refine X.q rfl ?_
 refine GS.opsNil ?_
 iterate 2 refine GS.seq ?_
 obtain ⟨y3, h_6, hM⟩ := gb_of hM
 refine GS.region ?_
 refine X.mid [(3, (V.ptr 0 0 0)), (4, (V.ptr 1 0 0)), (7, (ovlz z_1 2 y2.1)), (54, (V.b ((!y2.2) || (!y3))))] ?_ ?_
 ·intro hg
  refine X.split (!y2.2) (fun h_7 => ?_) (fun h_7 => ?_)
  ·iterate 3 refine X.q rfl ?_
   iterate 5 refine X.off (X.off_f rfl rfl rfl h_7) rfl ?_
   refine X.opR rfl (X.pickor_t (y := !y3) rfl h_7 rfl) rfl (GS.opsNil ?_)
   exact X.norm _ hg rfl (sr rfl)
  iterate 3 refine X.q rfl ?_
  iterate 3 refine X.opR (X.on_f rfl rfl rfl h_7) rfl rfl ?_
  refine X.callF (ok_hull_Fits (h_6 (X.nt h_7))) (X.on_f rfl rfl rfl h_7) rfl rfl (m := 9) rfl (.cons (.shut (n := 9) rfl) (.cons (.shut (n := 9) rfl) (.cons (FR.arg (FR.ovl (f := V.i) (l := y2.1) 9 rfl rfl (fun _ => rfl))) .nil))) ?_
  refine X.opR (X.on_f rfl rfl rfl h_7) rfl rfl ?_
  refine X.opR rfl (X.pickor_f (y := !y3) rfl h_7 rfl) rfl (GS.opsNil ?_)
  exact X.norm _ hg rfl (sr rfl)
 refine X.cond rfl (fun h_8 => ?_) (fun h_8 => ?_)
 ·replace hM := ite_t h_8 hM
  refine X.sq (X.q rfl (GS.opsNil ?_))
  cases hM
  exact GS.ret ⟨_, rfl, ⟨30, rfl⟩⟩
 replace hM := ite_f h_8 hM
 refine GS.skip (GS.seq ?_)
 obtain ⟨y4, h_9, hM⟩ := bind_of hM
 refine GS.region (X.q rfl (X.q rfl ?_))
 refine X.callF (ok_hull_Displacement h_9) rfl rfl rfl (m := 9) rfl (.cons (.shut (n := 9) rfl) (.cons (FR.arg (FR.ovl (f := V.i) (l := y2.1) 9 rfl rfl (fun _ => rfl))) .nil)) ?_
 iterate 5 refine X.q rfl ?_
 refine GS.opsNil (GS.seq ?_)
 obtain ⟨y5, h_10, hM⟩ := bind_of hM
 refine GS.region (X.q rfl (X.q rfl ?_))
 refine X.call (ok_hull_Meta h_10) rfl rfl rfl (.cons (.shut (n := 9) rfl) (.cons (.shut (n := 9) rfl) .nil)) (X.q rfl (X.q rfl (X.q rfl ?_)))
 refine X.opW (H' := [.rows 11 [(e_api_Ship s)], .rows 3 [(e_api_Load l)], oblz z_1 1 V.i y2.1, .rows 2 [(V.agg [(V.i 0), (V.i 0)])]]) rfl rfl rfl rfl ?_
 refine X.op0W (H' := [.rows 11 [(e_api_Ship s)], .rows 3 [(e_api_Load l)], oblz z_1 1 V.i y2.1, .rows 2 [(e_api_Frac y5.1)]]) rfl rfl rfl (X.q rfl (GS.opsNil (GS.seq ?_)))
 obtain ⟨y6, h_11, hM⟩ := bind_of hM
 refine GS.region (X.q rfl (X.q rfl ?_))
 refine X.callF (ok_hull_Afloat h_11) rfl rfl rfl (m := 9) rfl (.cons (.shut (n := 9) rfl) (.cons (FR.arg (FR.ovl (f := V.i) (l := y2.1) 9 rfl rfl (fun _ => rfl))) .nil)) (X.q rfl (X.q rfl (X.q rfl ?_)))
 refine X.opW (H' := [.rows 11 [(e_api_Ship s)], .rows 3 [(e_api_Load l)], oblz z_1 1 V.i y2.1, .rows 2 [(e_api_Frac y5.1)], .rows 4 [(V.agg [(V.i 0), (V.i 0), (V.i 0), (V.i 0)])]]) rfl rfl rfl rfl ?_
 refine X.op0W (H' := [.rows 11 [(e_api_Ship s)], .rows 3 [(e_api_Load l)], oblz z_1 1 V.i y2.1, .rows 2 [(e_api_Frac y5.1)], .rows 4 [(e_api_Draughts y6.1)]]) rfl rfl rfl (X.q rfl (GS.opsNil (GS.seq ?_)))
 obtain ⟨y7, h_12, hM⟩ := bind_of hM
 refine GS.region (X.q rfl (X.q rfl ?_))
 refine X.call (ok_hull_Narrow h_12) rfl rfl rfl (.cons (.shut (n := 9) rfl) (.cons (.shut (n := 9) rfl) .nil)) (X.q rfl (X.q rfl (X.q rfl ?_)))
 refine X.opW (H' := [.rows 11 [(e_api_Ship s)], .rows 3 [(e_api_Load l)], oblz z_1 1 V.i y2.1, .rows 2 [(e_api_Frac y5.1)], .rows 4 [(e_api_Draughts y6.1)], .rows 3 [(V.agg [V.nil, (V.i 0), (V.i 0)])]]) rfl rfl rfl rfl ?_
 refine X.op0W (H' := [.rows 11 [(e_api_Ship s)], .rows 3 [(e_api_Load l)], oblz z_1 1 V.i y2.1, .rows 2 [(e_api_Frac y5.1)], .rows 4 [(e_api_Draughts y6.1)], .rows 3 [(e_api_Load y7.1)]]) rfl rfl rfl (X.q rfl (GS.opsNil (GS.seq (X.sq ?_))))
 refine X.mid [(3, (V.ptr 0 0 0)), (4, (V.ptr 1 0 0)), (7, (ovlz z_1 2 y2.1)), (9, (V.i y4.1)), (11, (V.ptr 3 0 0)), (13, (V.ptr 4 0 0)), (15, (V.ptr 5 0 0)), (92, (V.b ((((!decide (y4.2 = 0)) || (!decide (y5.2 = 0))) || (!decide (y6.2 = 0))) || (!decide (y7.2 = 0)))))] ?_ ?_
 ·intro hg
  refine X.split (!decide (y4.2 = 0)) (fun h_13 => ?_) (fun h_13 => ?_)
  ·iterate 3 refine X.q rfl ?_
   iterate 2 refine X.off (X.off_f rfl rfl rfl h_13) rfl ?_
   refine X.opR rfl (X.pickor_t (y := !decide (y5.2 = 0)) rfl h_13 rfl) rfl (X.q rfl ?_)
   iterate 2 refine X.off (X.off_f rfl rfl rfl (X.or_tt h_13)) rfl ?_
   refine X.opR rfl (X.pickor_t (y := !decide (y6.2 = 0)) rfl (X.or_tt h_13) rfl) rfl (X.q rfl ?_)
   iterate 2 refine X.off (X.off_f rfl rfl rfl (X.or_tt (X.or_tt h_13))) rfl ?_
   refine X.opR rfl (X.pickor_t (y := !decide (y7.2 = 0)) rfl (X.or_tt (X.or_tt h_13)) rfl) rfl (GS.opsNil ?_)
   exact X.norm _ hg rfl (sr rfl)
  refine X.split (((!decide (y4.2 = 0)) || (!decide (y5.2 = 0)))) (fun h_14 => ?_) (fun h_14 => ?_)
  ·iterate 3 refine X.q rfl ?_
   iterate 2 refine X.opR (X.on_f rfl rfl rfl h_13) rfl rfl ?_
   refine X.opR rfl (X.pickor_f (y := !decide (y5.2 = 0)) rfl h_13 rfl) rfl (X.q rfl ?_)
   iterate 2 refine X.off (X.off_f rfl rfl rfl h_14) rfl ?_
   refine X.opR rfl (X.pickor_t (y := !decide (y6.2 = 0)) rfl h_14 rfl) rfl (X.q rfl ?_)
   iterate 2 refine X.off (X.off_f rfl rfl rfl (X.or_tt h_14)) rfl ?_
   refine X.opR rfl (X.pickor_t (y := !decide (y7.2 = 0)) rfl (X.or_tt h_14) rfl) rfl (GS.opsNil ?_)
   exact X.norm _ hg rfl (sr rfl)
  refine X.split ((((!decide (y4.2 = 0)) || (!decide (y5.2 = 0))) || (!decide (y6.2 = 0)))) (fun h_15 => ?_) (fun h_15 => ?_)
  ·iterate 3 refine X.q rfl ?_
   iterate 2 refine X.opR (X.on_f rfl rfl rfl h_13) rfl rfl ?_
   refine X.opR rfl (X.pickor_f (y := !decide (y5.2 = 0)) rfl h_13 rfl) rfl (X.q rfl ?_)
   iterate 2 refine X.opR (X.on_f rfl rfl rfl h_14) rfl rfl ?_
   refine X.opR rfl (X.pickor_f (y := !decide (y6.2 = 0)) rfl h_14 rfl) rfl (X.q rfl ?_)
   iterate 2 refine X.off (X.off_f rfl rfl rfl h_15) rfl ?_
   refine X.opR rfl (X.pickor_t (y := !decide (y7.2 = 0)) rfl h_15 rfl) rfl (GS.opsNil ?_)
   exact X.norm _ hg rfl (sr rfl)
  iterate 3 refine X.q rfl ?_
  iterate 2 refine X.opR (X.on_f rfl rfl rfl h_13) rfl rfl ?_
  refine X.opR rfl (X.pickor_f (y := !decide (y5.2 = 0)) rfl h_13 rfl) rfl (X.q rfl ?_)
  iterate 2 refine X.opR (X.on_f rfl rfl rfl h_14) rfl rfl ?_
  refine X.opR rfl (X.pickor_f (y := !decide (y6.2 = 0)) rfl h_14 rfl) rfl (X.q rfl ?_)
  iterate 2 refine X.opR (X.on_f rfl rfl rfl h_15) rfl rfl ?_
  refine X.opR rfl (X.pickor_f (y := !decide (y7.2 = 0)) rfl h_15 rfl) rfl (GS.opsNil ?_)
  exact X.norm _ hg rfl (sr rfl)
 refine X.cond rfl (fun h_16 => ?_) (fun h_16 => ?_)
 ·replace hM := ite_t h_16 hM
  refine X.sq (X.q rfl (GS.opsNil ?_))
  cases hM
  exact GS.ret ⟨_, rfl, ⟨30, rfl⟩⟩
 replace hM := ite_f h_16 hM
 refine GS.skip ?_
 iterate 2 refine GS.seq ?_
 obtain ⟨q, h_17, hM⟩ := bind_of hM
 refine GS.region (X.q rfl ?_)
 refine X.opR rfl (X.remE h_17 rfl rfl) rfl (X.q rfl (GS.opsNil ?_))
 refine X.join (τ := Unit) (fun v => top_TopShipsAreTheirTables_j1 s l y2 y5 y7 = some r) (fun v => ⟨[(3, (V.ptr 0 0 0)), (4, (V.ptr 1 0 0)), (7, (ovlz z_1 2 y2.1)), (11, (V.ptr 3 0 0)), (15, (V.ptr 4 0 0))], [.rows 11 [(e_api_Ship s)], .rows 3 [(e_api_Load l)], oblz z_1 1 V.i y2.1, .rows 2 [(e_api_Frac y5.1)], .rows 3 [(e_api_Load y7.1)]], 0, none, 237⟩) ?_ ?_
 ·intro _ hM
  replace hM : top_TopShipsAreTheirTables_j1 s l y2 y5 y7 = some r := hM
  unfold top_TopShipsAreTheirTables_j1 at hM
  refine GS.seq ?_
  obtain ⟨y8, h_18, hM⟩ := bind_of hM
  obtain ⟨y9, h_19, hM⟩ := bind_of hM
  refine X.draw (by kernel_rfl) ?_
  iterate 4 refine X.dop rfl rfl rfl rfl (by kernel_rfl) rfl rfl ?_
  refine X.dcall (ok_top_scores h_18) rfl rfl rfl (by kernel_rfl) rfl (.cons (.shut (n := 9) rfl) (.cons (.shut (n := 9) rfl) .nil)) ?_
  refine X.dcall (ok_curve_Over h_19) rfl rfl rfl (by kernel_rfl) rfl (.cons (.shut (n := 9) rfl) (.cons (.shut (n := 9) rfl) .nil)) ?_
  iterate 4 refine X.dop rfl rfl rfl rfl (by kernel_rfl) rfl rfl ?_
  refine X.dop0 rfl rfl rfl rfl (by kernel_rfl) rfl ?_
  refine X.dop rfl rfl rfl rfl (by kernel_rfl) rfl rfl ?_
  refine X.dnil ?_
  refine X.norm [(3, (V.ptr 0 0 0)), (4, (V.ptr 1 0 0)), (7, (ovlz z_1 2 y2.1)), (11, (V.ptr 3 0 0)), (15, (V.ptr 4 0 0)), (21, (V.ptr 5 0 0)), (22, (V.i y9.2))] ?_ rfl (sr rfl)
  refine GS.seq (X.sq ?_)
  refine X.mid [(3, (V.ptr 0 0 0)), (4, (V.ptr 1 0 0)), (7, (ovlz z_1 2 y2.1)), (15, (V.ptr 4 0 0)), (21, (V.ptr 5 0 0)), (169, (V.b (((!decide (y9.2 = 0)) || (decide ((w64 (y5.1.Num * y9.1.Lo.Den)) < (w64 (y9.1.Lo.Num * y5.1.Den))))) || (decide ((w64 (y9.1.Hi.Num * y5.1.Den)) < (w64 (y5.1.Num * y9.1.Hi.Den)))))))] ?_ ?_
  ·intro hg
   refine X.split (!decide (y9.2 = 0)) (fun h_20 => ?_) (fun h_20 => ?_)
   ·iterate 3 refine X.q rfl ?_
    iterate 13 refine X.off (X.off_f rfl rfl rfl h_20) rfl ?_
    refine X.opR rfl (X.pickor_t (y := decide ((w64 (y5.1.Num * y9.1.Lo.Den)) < (w64 (y9.1.Lo.Num * y5.1.Den)))) rfl h_20 rfl) rfl (X.q rfl ?_)
    iterate 13 refine X.off (X.off_f rfl rfl rfl (X.or_tt h_20)) rfl ?_
    refine X.opR rfl (X.pickor_t (y := decide ((w64 (y9.1.Hi.Num * y5.1.Den)) < (w64 (y5.1.Num * y9.1.Hi.Den)))) rfl (X.or_tt h_20) rfl) rfl (GS.opsNil ?_)
    exact X.norm _ hg rfl (sr rfl)
   refine X.split (((!decide (y9.2 = 0)) || (decide ((w64 (y5.1.Num * y9.1.Lo.Den)) < (w64 (y9.1.Lo.Num * y5.1.Den)))))) (fun h_21 => ?_) (fun h_21 => ?_)
   ·iterate 3 refine X.q rfl ?_
    iterate 5 refine X.opR (X.on_f rfl rfl rfl h_20) rfl rfl ?_
    refine X.opR (X.on_f rfl rfl rfl h_20) (X.mulE rfl rfl) rfl ?_
    iterate 5 refine X.opR (X.on_f rfl rfl rfl h_20) rfl rfl ?_
    refine X.opR (X.on_f rfl rfl rfl h_20) (X.mulE rfl rfl) rfl ?_
    refine X.opR (X.on_f rfl rfl rfl h_20) rfl rfl ?_
    refine X.opR rfl (X.pickor_f (y := decide ((w64 (y5.1.Num * y9.1.Lo.Den)) < (w64 (y9.1.Lo.Num * y5.1.Den)))) rfl h_20 rfl) rfl (X.q rfl ?_)
    iterate 13 refine X.off (X.off_f rfl rfl rfl h_21) rfl ?_
    refine X.opR rfl (X.pickor_t (y := decide ((w64 (y9.1.Hi.Num * y5.1.Den)) < (w64 (y5.1.Num * y9.1.Hi.Den)))) rfl h_21 rfl) rfl (GS.opsNil ?_)
    exact X.norm _ hg rfl (sr rfl)
   iterate 3 refine X.q rfl ?_
   iterate 5 refine X.opR (X.on_f rfl rfl rfl h_20) rfl rfl ?_
   refine X.opR (X.on_f rfl rfl rfl h_20) (X.mulE rfl rfl) rfl ?_
   iterate 5 refine X.opR (X.on_f rfl rfl rfl h_20) rfl rfl ?_
   refine X.opR (X.on_f rfl rfl rfl h_20) (X.mulE rfl rfl) rfl ?_
   refine X.opR (X.on_f rfl rfl rfl h_20) rfl rfl ?_
   refine X.opR rfl (X.pickor_f (y := decide ((w64 (y5.1.Num * y9.1.Lo.Den)) < (w64 (y9.1.Lo.Num * y5.1.Den)))) rfl h_20 rfl) rfl (X.q rfl ?_)
   iterate 5 refine X.opR (X.on_f rfl rfl rfl h_21) rfl rfl ?_
   refine X.opR (X.on_f rfl rfl rfl h_21) (X.mulE rfl rfl) rfl ?_
   iterate 5 refine X.opR (X.on_f rfl rfl rfl h_21) rfl rfl ?_
   refine X.opR (X.on_f rfl rfl rfl h_21) (X.mulE rfl rfl) rfl ?_
   refine X.opR (X.on_f rfl rfl rfl h_21) rfl rfl ?_
   refine X.opR rfl (X.pickor_f (y := decide ((w64 (y9.1.Hi.Num * y5.1.Den)) < (w64 (y5.1.Num * y9.1.Hi.Den)))) rfl h_21 rfl) rfl (GS.opsNil ?_)
   exact X.norm _ hg rfl (sr rfl)
  refine X.cond rfl (fun h_22 => ?_) (fun h_22 => ?_)
  ·replace hM := ite_t h_22 hM
   refine X.sq (X.q rfl (GS.opsNil ?_))
   cases hM
   exact GS.ret ⟨_, rfl, ⟨30, rfl⟩⟩
  replace hM := ite_f h_22 hM
  refine GS.skip (GS.seq ?_)
  obtain ⟨y10, h_23, hM⟩ := bind_of hM
  refine GS.region (X.q rfl (X.q rfl ?_))
  refine X.call (ok_hull_Steady h_23) rfl rfl rfl (.cons (.shut (n := 9) rfl) (.cons (.shut (n := 9) rfl) .nil)) ?_
  iterate 7 refine X.q rfl ?_
  refine GS.opsNil ?_
  iterate 2 refine GS.seq ?_
  obtain ⟨y11, h_24, hM⟩ := gb_of hM
  refine GS.region ?_
  refine X.mid [(3, (V.ptr 0 0 0)), (7, (ovlz z_1 2 y2.1)), (21, (V.ptr 5 0 0)), (24, (V.b y10.2.1)), (190, (V.b ((!decide (y10.2.2 = 0)) || ((!y10.2.1) && y11))))] ?_ ?_
  ·intro hg
   refine X.split (!decide (y10.2.2 = 0)) (fun h_25 => ?_) (fun h_25 => ?_)
   ·iterate 3 refine X.q rfl ?_
    iterate 3 refine X.off (X.off_f rfl rfl rfl h_25) rfl ?_
    iterate 6 refine X.off rfl rfl ?_
    refine X.off (X.off_f rfl rfl rfl h_25) rfl ?_
    refine X.opR rfl (X.pickor_t (y := ((!y10.2.1) && y11)) rfl h_25 rfl) rfl (GS.opsNil ?_)
    exact X.norm _ hg rfl (sr rfl)
   refine X.split (!y10.2.1) (fun h_26 => ?_) (fun h_26 => ?_)
   ·iterate 3 refine X.q rfl ?_
    iterate 3 refine X.opR (X.on_f rfl rfl rfl h_25) rfl rfl ?_
    iterate 5 refine X.opR (X.on_t rfl rfl rfl h_26) rfl rfl ?_
    refine X.call (ok_top_surely (h_24 (X.and_tt (X.nt h_25) h_26))) (X.on_t rfl rfl rfl h_26) rfl rfl (.cons (.shut (n := 9) rfl) (.cons (.shut (n := 9) rfl) (.cons (.shut (n := 9) rfl) (.cons (.shut (n := 9) rfl) .nil)))) ?_
    refine X.opR (X.on_f rfl rfl rfl h_25) (X.pickand_t (y := y11) rfl h_26 rfl) rfl ?_
    refine X.opR rfl (X.pickor_f (y := ((!y10.2.1) && y11)) rfl h_25 rfl) rfl (GS.opsNil ?_)
    exact X.norm _ hg rfl (sr rfl)
   iterate 3 refine X.q rfl ?_
   iterate 3 refine X.opR (X.on_f rfl rfl rfl h_25) rfl rfl ?_
   iterate 6 refine X.off (X.off_t rfl rfl rfl h_26) rfl ?_
   refine X.opR (X.on_f rfl rfl rfl h_25) (X.pickand_f (y := y11) rfl h_26 rfl) rfl ?_
   refine X.opR rfl (X.pickor_f (y := ((!y10.2.1) && y11)) rfl h_25 rfl) rfl (GS.opsNil ?_)
   exact X.norm _ hg rfl (sr rfl)
  refine X.cond rfl (fun h_27 => ?_) (fun h_27 => ?_)
  ·replace hM := ite_t h_27 hM
   refine X.sq (X.q rfl (GS.opsNil ?_))
   cases hM
   exact GS.ret ⟨_, rfl, ⟨30, rfl⟩⟩
  replace hM := ite_f h_27 hM
  refine GS.skip (GS.seq ?_)
  obtain ⟨y12, h_28, hM⟩ := bind_of hM
  refine GS.region (X.q rfl (X.q rfl ?_))
  refine X.callF (ok_hull_Gravity h_28) rfl rfl rfl (m := 9) rfl (.cons (.shut (n := 9) rfl) (.cons (FR.arg (FR.ovl (f := V.i) (l := y2.1) 9 rfl rfl (fun _ => rfl))) .nil)) (X.q rfl (X.q rfl (X.q rfl ?_)))
  refine X.opW (H' := [.rows 11 [(e_api_Ship s)], .rows 3 [(e_api_Load l)], oblz z_1 1 V.i y2.1, .rows 2 [(e_api_Frac y5.1)], .rows 3 [(e_api_Load y7.1)], .rows 6 [(e_api_Peak y9.1)], .rows 2 [(V.agg [(V.i 0), (V.i 0)])]]) rfl rfl rfl rfl ?_
  refine X.op0W (H' := [.rows 11 [(e_api_Ship s)], .rows 3 [(e_api_Load l)], oblz z_1 1 V.i y2.1, .rows 2 [(e_api_Frac y5.1)], .rows 3 [(e_api_Load y7.1)], .rows 6 [(e_api_Peak y9.1)], .rows 2 [(e_api_Frac y12.1)]]) rfl rfl rfl (X.q rfl (X.nq ?_))
  iterate 8 refine X.q rfl ?_
  refine X.opR rfl (X.addE rfl rfl) rfl (X.q rfl (X.q rfl (X.q rfl ?_)))
  refine X.opR rfl (X.mulE rfl rfl) rfl ?_
  refine X.opR rfl (X.subE rfl rfl) rfl ?_
  iterate 4 refine X.q rfl ?_
  refine X.opW (H' := [.rows 11 [(e_api_Ship s)], .rows 3 [(e_api_Load l)], oblz z_1 1 V.i y2.1, .rows 2 [(e_api_Frac y5.1)], .rows 3 [(e_api_Load y7.1)], .rows 6 [(e_api_Peak y9.1)], .rows 2 [(e_api_Frac y12.1)], .rows 2 [(V.agg [(V.i 0), (V.i 0)])]]) rfl rfl rfl rfl ?_
  refine X.op0W (H' := [.rows 11 [(e_api_Ship s)], .rows 3 [(e_api_Load l)], oblz z_1 1 V.i y2.1, .rows 2 [(e_api_Frac y5.1)], .rows 3 [(e_api_Load y7.1)], .rows 6 [(e_api_Peak y9.1)], .rows 2 [(e_api_Frac y12.1)], .rows 2 [(V.agg [(V.i (w64 (y9.1.Hi.Num - (w64 ((w64 (s.Mtac.Err + s.Least)) * y9.1.Hi.Den))))), (V.i y9.1.Hi.Den)])]]) rfl rfl rfl (GS.opsNil (GS.seq ?_))
  obtain ⟨y13, h_29, hM⟩ := bind_of hM
  refine GS.region ?_
  refine X.mid [(6, (V.b ((y13 && (decide (y12.2 = 0))) && ((!y10.2.1) || (decide ((w64 (y12.1.Num * y9.1.Hi.Den)) ≤ (w64 ((w64 (y9.1.Hi.Num - (w64 ((w64 (s.Mtac.Err + s.Least)) * y9.1.Hi.Den)))) * y12.1.Den))))))))] ?_ ?_
  ·intro hg
   refine X.split (y13) (fun h_30 => ?_) (fun h_30 => ?_)
   ·refine X.split ((y13 && (decide (y12.2 = 0)))) (fun h_31 => ?_) (fun h_31 => ?_)
    ·refine X.split (!y10.2.1) (fun h_32 => ?_) (fun h_32 => ?_)
     ·refine X.call (ok_top_floating h_29) rfl rfl rfl .nil (X.q rfl ?_)
      iterate 2 refine X.opR (X.on_t rfl rfl rfl h_30) rfl rfl ?_
      refine X.opR rfl (X.pickand_t (y := decide (y12.2 = 0)) rfl h_30 rfl) rfl (X.q rfl ?_)
      iterate 3 refine X.opR (X.on_t rfl rfl rfl h_31) rfl rfl ?_
      iterate 11 refine X.off (X.off_f rfl rfl rfl h_32) rfl ?_
      refine X.opR (X.on_t rfl rfl rfl h_31) (X.pickor_t (y := decide ((w64 (y12.1.Num * y9.1.Hi.Den)) ≤ (w64 ((w64 (y9.1.Hi.Num - (w64 ((w64 (s.Mtac.Err + s.Least)) * y9.1.Hi.Den)))) * y12.1.Den)))) rfl h_32 rfl) rfl ?_
      refine X.opR rfl (X.pickand_t (y := ((!y10.2.1) || (decide ((w64 (y12.1.Num * y9.1.Hi.Den)) ≤ (w64 ((w64 (y9.1.Hi.Num - (w64 ((w64 (s.Mtac.Err + s.Least)) * y9.1.Hi.Den)))) * y12.1.Den)))))) rfl h_31 rfl) rfl (X.q rfl (GS.opsNil ?_))
      exact X.norm _ hg rfl (sr rfl)
     refine X.call (ok_top_floating h_29) rfl rfl rfl .nil (X.q rfl ?_)
     iterate 2 refine X.opR (X.on_t rfl rfl rfl h_30) rfl rfl ?_
     refine X.opR rfl (X.pickand_t (y := decide (y12.2 = 0)) rfl h_30 rfl) rfl (X.q rfl ?_)
     iterate 3 refine X.opR (X.on_t rfl rfl rfl h_31) rfl rfl ?_
     iterate 4 refine X.opR (X.on_f rfl rfl rfl h_32) rfl rfl ?_
     refine X.opR (X.on_f rfl rfl rfl h_32) (X.mulE rfl rfl) rfl ?_
     iterate 4 refine X.opR (X.on_f rfl rfl rfl h_32) rfl rfl ?_
     refine X.opR (X.on_f rfl rfl rfl h_32) (X.mulE rfl rfl) rfl ?_
     refine X.opR (X.on_f rfl rfl rfl h_32) rfl rfl ?_
     refine X.opR (X.on_t rfl rfl rfl h_31) (X.pickor_f (y := decide ((w64 (y12.1.Num * y9.1.Hi.Den)) ≤ (w64 ((w64 (y9.1.Hi.Num - (w64 ((w64 (s.Mtac.Err + s.Least)) * y9.1.Hi.Den)))) * y12.1.Den)))) rfl h_32 rfl) rfl ?_
     refine X.opR rfl (X.pickand_t (y := ((!y10.2.1) || (decide ((w64 (y12.1.Num * y9.1.Hi.Den)) ≤ (w64 ((w64 (y9.1.Hi.Num - (w64 ((w64 (s.Mtac.Err + s.Least)) * y9.1.Hi.Den)))) * y12.1.Den)))))) rfl h_31 rfl) rfl (X.q rfl (GS.opsNil ?_))
     exact X.norm _ hg rfl (sr rfl)
    refine X.call (ok_top_floating h_29) rfl rfl rfl .nil (X.q rfl ?_)
    iterate 2 refine X.opR (X.on_t rfl rfl rfl h_30) rfl rfl ?_
    refine X.opR rfl (X.pickand_t (y := decide (y12.2 = 0)) rfl h_30 rfl) rfl (X.q rfl ?_)
    iterate 3 refine X.off (X.off_t rfl rfl rfl h_31) rfl ?_
    iterate 11 refine X.off rfl rfl ?_
    refine X.off (X.off_t rfl rfl rfl h_31) rfl ?_
    refine X.opR rfl (X.pickand_f (y := ((!y10.2.1) || (decide ((w64 (y12.1.Num * y9.1.Hi.Den)) ≤ (w64 ((w64 (y9.1.Hi.Num - (w64 ((w64 (s.Mtac.Err + s.Least)) * y9.1.Hi.Den)))) * y12.1.Den)))))) rfl h_31 rfl) rfl (X.q rfl (GS.opsNil ?_))
    exact X.norm _ hg rfl (sr rfl)
   refine X.call (ok_top_floating h_29) rfl rfl rfl .nil (X.q rfl ?_)
   iterate 2 refine X.off (X.off_t rfl rfl rfl h_30) rfl ?_
   refine X.opR rfl (X.pickand_f (y := decide (y12.2 = 0)) rfl h_30 rfl) rfl (X.q rfl ?_)
   iterate 3 refine X.off (X.off_t rfl rfl rfl (X.and_ff h_30)) rfl ?_
   iterate 11 refine X.off rfl rfl ?_
   refine X.off (X.off_t rfl rfl rfl (X.and_ff h_30)) rfl ?_
   refine X.opR rfl (X.pickand_f (y := ((!y10.2.1) || (decide ((w64 (y12.1.Num * y9.1.Hi.Den)) ≤ (w64 ((w64 (y9.1.Hi.Num - (w64 ((w64 (s.Mtac.Err + s.Least)) * y9.1.Hi.Den)))) * y12.1.Den)))))) rfl (X.and_ff h_30) rfl) rfl (X.q rfl (GS.opsNil ?_))
   exact X.norm _ hg rfl (sr rfl)
  cases hM
  exact GS.ret ⟨_, rfl, ⟨30, rfl⟩⟩
 intro hj_1
 refine X.cond rfl (fun h_33 => ?_) (fun h_33 => ?_)
 ·replace hM := ite_t h_33 hM
  refine GS.seq ?_
  obtain ⟨q1, h_34, hM⟩ := bind_of hM
  obtain ⟨y14, h_35, hM⟩ := bind_of hM
  refine GS.region (X.q rfl (X.q rfl (X.q rfl ?_)))
  refine X.opR rfl (X.quoE h_34 rfl rfl) rfl ?_
  refine X.call (ok_curve_Value h_35) rfl rfl rfl (.cons (.shut (n := 9) rfl) (.cons (.shut (n := 9) rfl) .nil)) (X.q rfl (X.q rfl (X.q rfl ?_)))
  refine X.opW (H' := [.rows 11 [(e_api_Ship s)], .rows 3 [(e_api_Load l)], oblz z_1 1 V.i y2.1, .rows 2 [(e_api_Frac y5.1)], .rows 4 [(e_api_Draughts y6.1)], .rows 3 [(e_api_Load y7.1)], .rows 2 [(V.agg [(V.i 0), (V.i 0)])]]) rfl rfl rfl rfl ?_
  refine X.op0W (H' := [.rows 11 [(e_api_Ship s)], .rows 3 [(e_api_Load l)], oblz z_1 1 V.i y2.1, .rows 2 [(e_api_Frac y5.1)], .rows 4 [(e_api_Draughts y6.1)], .rows 3 [(e_api_Load y7.1)], .rows 2 [(e_api_Frac y14.1)]]) rfl rfl rfl (X.q rfl (GS.opsNil (GS.seq ?_)))
  obtain ⟨q2, h_36, hM⟩ := bind_of hM
  obtain ⟨y15, h_37, hM⟩ := bind_of hM
  refine GS.region (X.q rfl (X.q rfl (X.q rfl ?_)))
  refine X.opR rfl (X.quoE h_36 rfl rfl) rfl ?_
  refine X.call (ok_curve_Values h_37) rfl rfl rfl (.cons (.shut (n := 9) rfl) (.cons (.shut (n := 9) rfl) .nil)) (X.q rfl (X.q rfl (X.q rfl ?_)))
  refine X.opW (H' := [.rows 11 [(e_api_Ship s)], .rows 3 [(e_api_Load l)], oblz z_1 1 V.i y2.1, .rows 2 [(e_api_Frac y5.1)], .rows 4 [(e_api_Draughts y6.1)], .rows 3 [(e_api_Load y7.1)], .rows 2 [(e_api_Frac y14.1)], .rows 4 [(V.agg [(V.i 0), (V.i 0), (V.i 0), (V.i 0)])]]) rfl rfl rfl rfl ?_
  refine X.op0W (H' := [.rows 11 [(e_api_Ship s)], .rows 3 [(e_api_Load l)], oblz z_1 1 V.i y2.1, .rows 2 [(e_api_Frac y5.1)], .rows 4 [(e_api_Draughts y6.1)], .rows 3 [(e_api_Load y7.1)], .rows 2 [(e_api_Frac y14.1)], .rows 4 [(e_api_Range y15.1)]]) rfl rfl rfl (X.q rfl (X.nq ?_))
  refine X.mid [(3, (V.ptr 0 0 0)), (4, (V.ptr 1 0 0)), (7, (ovlz z_1 2 y2.1)), (11, (V.ptr 3 0 0)), (15, (V.ptr 5 0 0)), (128, (V.b ((((!decide (y14.2 = 0)) || (!decide (y15.2 = 0))) || (!decide (y14.1 = y5.1))) || (!(top_rounds y6.1 y15.1)))))] ?_ ?_
  ·intro hg
   refine X.split (!decide (y14.2 = 0)) (fun h_38 => ?_) (fun h_38 => ?_)
   ·iterate 3 refine X.q rfl ?_
    iterate 2 refine X.off (X.off_f rfl rfl rfl h_38) rfl ?_
    refine X.opR rfl (X.pickor_t (y := !decide (y15.2 = 0)) rfl h_38 rfl) rfl (X.q rfl ?_)
    iterate 3 refine X.off (X.off_f rfl rfl rfl (X.or_tt h_38)) rfl ?_
    refine X.opR rfl (X.pickor_t (y := !decide (y14.1 = y5.1)) rfl (X.or_tt h_38) rfl) rfl (X.q rfl ?_)
    iterate 4 refine X.off (X.off_f rfl rfl rfl (X.or_tt (X.or_tt h_38))) rfl ?_
    refine X.opR rfl (X.pickor_t (y := !(top_rounds y6.1 y15.1)) rfl (X.or_tt (X.or_tt h_38)) rfl) rfl (GS.opsNil ?_)
    exact X.norm _ hg rfl (sr rfl)
   refine X.split (((!decide (y14.2 = 0)) || (!decide (y15.2 = 0)))) (fun h_39 => ?_) (fun h_39 => ?_)
   ·iterate 3 refine X.q rfl ?_
    iterate 2 refine X.opR (X.on_f rfl rfl rfl h_38) rfl rfl ?_
    refine X.opR rfl (X.pickor_f (y := !decide (y15.2 = 0)) rfl h_38 rfl) rfl (X.q rfl ?_)
    iterate 3 refine X.off (X.off_f rfl rfl rfl h_39) rfl ?_
    refine X.opR rfl (X.pickor_t (y := !decide (y14.1 = y5.1)) rfl h_39 rfl) rfl (X.q rfl ?_)
    iterate 4 refine X.off (X.off_f rfl rfl rfl (X.or_tt h_39)) rfl ?_
    refine X.opR rfl (X.pickor_t (y := !(top_rounds y6.1 y15.1)) rfl (X.or_tt h_39) rfl) rfl (GS.opsNil ?_)
    exact X.norm _ hg rfl (sr rfl)
   refine X.split ((((!decide (y14.2 = 0)) || (!decide (y15.2 = 0))) || (!decide (y14.1 = y5.1)))) (fun h_40 => ?_) (fun h_40 => ?_)
   ·iterate 3 refine X.q rfl ?_
    iterate 2 refine X.opR (X.on_f rfl rfl rfl h_38) rfl rfl ?_
    refine X.opR rfl (X.pickor_f (y := !decide (y15.2 = 0)) rfl h_38 rfl) rfl (X.q rfl ?_)
    iterate 2 refine X.opR (X.on_f rfl rfl rfl h_39) rfl rfl ?_
    refine X.opR (X.on_f rfl rfl rfl h_39) (X.neqE (eq_api_Frac y14.1 y5.1) rfl rfl) rfl ?_
    refine X.opR rfl (X.pickor_f (y := !decide (y14.1 = y5.1)) rfl h_39 rfl) rfl (X.q rfl ?_)
    iterate 4 refine X.off (X.off_f rfl rfl rfl h_40) rfl ?_
    refine X.opR rfl (X.pickor_t (y := !(top_rounds y6.1 y15.1)) rfl h_40 rfl) rfl (GS.opsNil ?_)
    exact X.norm _ hg rfl (sr rfl)
   iterate 3 refine X.q rfl ?_
   iterate 2 refine X.opR (X.on_f rfl rfl rfl h_38) rfl rfl ?_
   refine X.opR rfl (X.pickor_f (y := !decide (y15.2 = 0)) rfl h_38 rfl) rfl (X.q rfl ?_)
   iterate 2 refine X.opR (X.on_f rfl rfl rfl h_39) rfl rfl ?_
   refine X.opR (X.on_f rfl rfl rfl h_39) (X.neqE (eq_api_Frac y14.1 y5.1) rfl rfl) rfl ?_
   refine X.opR rfl (X.pickor_f (y := !decide (y14.1 = y5.1)) rfl h_39 rfl) rfl (X.q rfl ?_)
   iterate 2 refine X.opR (X.on_f rfl rfl rfl h_40) rfl rfl ?_
   refine X.call (ok_top_rounds y6.1 y15.1) (X.on_f rfl rfl rfl h_40) rfl rfl (.cons (.shut (n := 9) rfl) (.cons (.shut (n := 9) rfl) .nil)) ?_
   refine X.opR (X.on_f rfl rfl rfl h_40) rfl rfl ?_
   refine X.opR rfl (X.pickor_f (y := !(top_rounds y6.1 y15.1)) rfl h_40 rfl) rfl (GS.opsNil ?_)
   exact X.norm _ hg rfl (sr rfl)
  refine X.cond rfl (fun h_41 => ?_) (fun h_41 => ?_)
  ·replace hM := ite_t h_41 hM
   refine X.sq (X.q rfl (GS.opsNil ?_))
   cases hM
   exact GS.ret ⟨_, rfl, ⟨30, rfl⟩⟩
  replace hM := ite_f h_41 hM
  refine GS.skip ?_
  exact X.gc [some 0, some 1, some 2, some 3, some 5] (hj_1 () hM) rfl rfl rfl (gk_cons rfl ⟨9, rfl⟩ (gk_cons rfl ⟨9, rfl⟩ (gk_cons rfl (rn_ovl rfl) (ga rfl rfl)))) (gb9 rfl rfl rfl (gb9 rfl rfl rfl (gb_obl 9 rfl rfl (fun _ => rfl) (gb9 rfl rfl rfl (gb9 rfl rfl rfl gb_nil)))))
 replace hM := ite_f h_33 hM
 refine GS.skip ?_
 exact X.gc [some 0, some 1, some 2, some 3, some 5] (hj_1 () hM) rfl rfl rfl (gk_cons rfl ⟨9, rfl⟩ (gk_cons rfl ⟨9, rfl⟩ (gk_cons rfl (rn_ovl rfl) (ga rfl rfl)))) (gb9 rfl rfl rfl (gb9 rfl rfl rfl (gb_obl 9 rfl rfl (fun _ => rfl) (gb9 rfl rfl rfl (gb9 rfl rfl rfl gb_nil)))))
end Go.Proofs.YtbmojhkipnnmlaaGreat
