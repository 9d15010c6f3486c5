/- The program's functions compute the plain ones. Conditions: none. Printed by a program (wip/tools/xg.py). -/
import Derived.Test.YtnkngglimidldaaP2
set_option linter.unusedVariables false
set_option linter.unusedSimpArgs false
namespace Go.Proofs.Ytnkngglimidldaa
open Go Go.Am Go.Proofs Go.Mx
set_option maxHeartbeats 4000000 in
theorem ok_law06_BerthMost {h : api_Harbour} {l : (List api_Call)} {p : (List api_Stay)} {x : api_Crowd} {r : Bool} (hM : law06_BerthMost h l p x = some r) : Ct Try.prog 4 [(e_api_Harbour h), (V.sl (List.map e_api_Call l)), (V.sl (List.map e_api_Stay p)), (e_api_Crowd x)] (V.b r) := by
 refine ct_of_gs CC_ok rfl ?_
 unfold law06_BerthMost at hM
 refine X.sq ?_
 iterate 2 refine X.opW rfl rfl rfl rfl ?_
 refine X.q rfl (GS.opsNil ?_)
 iterate 2 refine GS.seq ?_
 obtain ⟨y, h_1, hM⟩ := bind_of hM
 refine GS.region ?_
 refine X.mid [(1, (V.sl (List.map e_api_Call l))), (2, (V.sl (List.map e_api_Stay p))), (4, (V.ptr 0 0 0)), (7, (V.ptr 1 0 0)), (44, (V.b (((((!y) || (decide (6 < (l.length : Int)))) || (decide (12 < (p.length : Int)))) || (decide (20 < (x.Calls.length : Int)))) || (decide (80 < (x.Slots.length : Int))))))] ?_ ?_
 ·intro hg
  refine X.split (!y) (fun h_2 => ?_) (fun h_2 => ?_)
  ·refine X.q rfl ?_
   refine X.call (ok_law06_small h_1) rfl rfl rfl (.cons (.shut (n := 9) rfl) .nil) (X.q rfl (X.q rfl ?_))
   iterate 3 refine X.off (X.off_f rfl rfl rfl h_2) rfl ?_
   refine X.opR rfl (X.pickor_t (y := decide (6 < (l.length : Int))) rfl h_2 rfl) rfl (X.q rfl ?_)
   iterate 3 refine X.off (X.off_f rfl rfl rfl (X.or_tt h_2)) rfl ?_
   refine X.opR rfl (X.pickor_t (y := decide (12 < (p.length : Int))) rfl (X.or_tt h_2) rfl) rfl (X.q rfl ?_)
   iterate 4 refine X.off (X.off_f rfl rfl rfl (X.or_tt (X.or_tt h_2))) rfl ?_
   refine X.opR rfl (X.pickor_t (y := decide (20 < (x.Calls.length : Int))) rfl (X.or_tt (X.or_tt h_2)) rfl) rfl (X.q rfl ?_)
   iterate 4 refine X.off (X.off_f rfl rfl rfl (X.or_tt (X.or_tt (X.or_tt h_2)))) rfl ?_
   refine X.opR rfl (X.pickor_t (y := decide (80 < (x.Slots.length : Int))) rfl (X.or_tt (X.or_tt (X.or_tt h_2))) rfl) rfl (GS.opsNil ?_)
   exact X.norm _ hg rfl (sr rfl)
  refine X.split (((!y) || (decide (6 < (l.length : Int))))) (fun h_3 => ?_) (fun h_3 => ?_)
  ·refine X.q rfl ?_
   refine X.call (ok_law06_small h_1) rfl rfl rfl (.cons (.shut (n := 9) rfl) .nil) (X.q rfl (X.q rfl ?_))
   refine X.opR (X.on_f rfl rfl rfl h_2) rfl rfl ?_
   refine X.opR (X.on_f rfl rfl rfl h_2) (X.lenF rfl rfl rfl) rfl ?_
   refine X.opR (X.on_f rfl rfl rfl h_2) rfl rfl ?_
   refine X.opR rfl (X.pickor_f (y := decide (6 < (l.length : Int))) rfl h_2 rfl) rfl (X.q rfl ?_)
   iterate 3 refine X.off (X.off_f rfl rfl rfl h_3) rfl ?_
   refine X.opR rfl (X.pickor_t (y := decide (12 < (p.length : Int))) rfl h_3 rfl) rfl (X.q rfl ?_)
   iterate 4 refine X.off (X.off_f rfl rfl rfl (X.or_tt h_3)) rfl ?_
   refine X.opR rfl (X.pickor_t (y := decide (20 < (x.Calls.length : Int))) rfl (X.or_tt h_3) rfl) rfl (X.q rfl ?_)
   iterate 4 refine X.off (X.off_f rfl rfl rfl (X.or_tt (X.or_tt h_3))) rfl ?_
   refine X.opR rfl (X.pickor_t (y := decide (80 < (x.Slots.length : Int))) rfl (X.or_tt (X.or_tt h_3)) rfl) rfl (GS.opsNil ?_)
   exact X.norm _ hg rfl (sr rfl)
  refine X.split ((((!y) || (decide (6 < (l.length : Int)))) || (decide (12 < (p.length : Int))))) (fun h_4 => ?_) (fun h_4 => ?_)
  ·refine X.q rfl ?_
   refine X.call (ok_law06_small h_1) rfl rfl rfl (.cons (.shut (n := 9) rfl) .nil) (X.q rfl (X.q rfl ?_))
   refine X.opR (X.on_f rfl rfl rfl h_2) rfl rfl ?_
   refine X.opR (X.on_f rfl rfl rfl h_2) (X.lenF rfl rfl rfl) rfl ?_
   refine X.opR (X.on_f rfl rfl rfl h_2) rfl rfl ?_
   refine X.opR rfl (X.pickor_f (y := decide (6 < (l.length : Int))) rfl h_2 rfl) rfl (X.q rfl ?_)
   refine X.opR (X.on_f rfl rfl rfl h_3) rfl rfl ?_
   refine X.opR (X.on_f rfl rfl rfl h_3) (X.lenF rfl rfl rfl) rfl ?_
   refine X.opR (X.on_f rfl rfl rfl h_3) rfl rfl ?_
   refine X.opR rfl (X.pickor_f (y := decide (12 < (p.length : Int))) rfl h_3 rfl) rfl (X.q rfl ?_)
   iterate 4 refine X.off (X.off_f rfl rfl rfl h_4) rfl ?_
   refine X.opR rfl (X.pickor_t (y := decide (20 < (x.Calls.length : Int))) rfl h_4 rfl) rfl (X.q rfl ?_)
   iterate 4 refine X.off (X.off_f rfl rfl rfl (X.or_tt h_4)) rfl ?_
   refine X.opR rfl (X.pickor_t (y := decide (80 < (x.Slots.length : Int))) rfl (X.or_tt h_4) rfl) rfl (GS.opsNil ?_)
   exact X.norm _ hg rfl (sr rfl)
  refine X.split (((((!y) || (decide (6 < (l.length : Int)))) || (decide (12 < (p.length : Int)))) || (decide (20 < (x.Calls.length : Int))))) (fun h_5 => ?_) (fun h_5 => ?_)
  ·refine X.q rfl ?_
   refine X.call (ok_law06_small h_1) rfl rfl rfl (.cons (.shut (n := 9) rfl) .nil) (X.q rfl (X.q rfl ?_))
   refine X.opR (X.on_f rfl rfl rfl h_2) rfl rfl ?_
   refine X.opR (X.on_f rfl rfl rfl h_2) (X.lenF rfl rfl rfl) rfl ?_
   refine X.opR (X.on_f rfl rfl rfl h_2) rfl rfl ?_
   refine X.opR rfl (X.pickor_f (y := decide (6 < (l.length : Int))) rfl h_2 rfl) rfl (X.q rfl ?_)
   refine X.opR (X.on_f rfl rfl rfl h_3) rfl rfl ?_
   refine X.opR (X.on_f rfl rfl rfl h_3) (X.lenF rfl rfl rfl) rfl ?_
   refine X.opR (X.on_f rfl rfl rfl h_3) rfl rfl ?_
   refine X.opR rfl (X.pickor_f (y := decide (12 < (p.length : Int))) rfl h_3 rfl) rfl (X.q rfl ?_)
   iterate 2 refine X.opR (X.on_f rfl rfl rfl h_4) rfl rfl ?_
   refine X.opR (X.on_f rfl rfl rfl h_4) (X.lenF rfl rfl rfl) rfl ?_
   refine X.opR (X.on_f rfl rfl rfl h_4) rfl rfl ?_
   refine X.opR rfl (X.pickor_f (y := decide (20 < (x.Calls.length : Int))) rfl h_4 rfl) rfl (X.q rfl ?_)
   iterate 4 refine X.off (X.off_f rfl rfl rfl h_5) rfl ?_
   refine X.opR rfl (X.pickor_t (y := decide (80 < (x.Slots.length : Int))) rfl h_5 rfl) rfl (GS.opsNil ?_)
   exact X.norm _ hg rfl (sr rfl)
  refine X.q rfl ?_
  refine X.call (ok_law06_small h_1) rfl rfl rfl (.cons (.shut (n := 9) rfl) .nil) (X.q rfl (X.q rfl ?_))
  refine X.opR (X.on_f rfl rfl rfl h_2) rfl rfl ?_
  refine X.opR (X.on_f rfl rfl rfl h_2) (X.lenF rfl rfl rfl) rfl ?_
  refine X.opR (X.on_f rfl rfl rfl h_2) rfl rfl ?_
  refine X.opR rfl (X.pickor_f (y := decide (6 < (l.length : Int))) rfl h_2 rfl) rfl (X.q rfl ?_)
  refine X.opR (X.on_f rfl rfl rfl h_3) rfl rfl ?_
  refine X.opR (X.on_f rfl rfl rfl h_3) (X.lenF rfl rfl rfl) rfl ?_
  refine X.opR (X.on_f rfl rfl rfl h_3) rfl rfl ?_
  refine X.opR rfl (X.pickor_f (y := decide (12 < (p.length : Int))) rfl h_3 rfl) rfl (X.q rfl ?_)
  iterate 2 refine X.opR (X.on_f rfl rfl rfl h_4) rfl rfl ?_
  refine X.opR (X.on_f rfl rfl rfl h_4) (X.lenF rfl rfl rfl) rfl ?_
  refine X.opR (X.on_f rfl rfl rfl h_4) rfl rfl ?_
  refine X.opR rfl (X.pickor_f (y := decide (20 < (x.Calls.length : Int))) rfl h_4 rfl) rfl (X.q rfl ?_)
  iterate 2 refine X.opR (X.on_f rfl rfl rfl h_5) rfl rfl ?_
  refine X.opR (X.on_f rfl rfl rfl h_5) (X.lenF rfl rfl rfl) rfl ?_
  refine X.opR (X.on_f rfl rfl rfl h_5) rfl rfl ?_
  refine X.opR rfl (X.pickor_f (y := decide (80 < (x.Slots.length : Int))) rfl h_5 rfl) rfl (GS.opsNil ?_)
  exact X.norm _ hg rfl (sr rfl)
 refine X.cond rfl (fun h_6 => ?_) (fun h_6 => ?_)
 ·replace hM := ite_t h_6 hM
  refine GS.seq ?_
  obtain ⟨y1, h_7, hM⟩ := bind_of hM
  refine GS.region ?_
  refine X.call (ok_law06_sanity h_7) rfl rfl rfl .nil (X.q rfl (GS.opsNil ?_))
  cases hM
  exact GS.ret ⟨_, rfl, ⟨30, rfl⟩⟩
 replace hM := ite_f h_6 hM
 refine GS.skip (GS.seq ?_)
 obtain ⟨y2, h_8, hM⟩ := bind_of hM
 refine GS.region (X.q rfl (X.q rfl ?_))
 refine X.call (ok_berth_Most h_8) rfl rfl rfl (.cons (.shut (n := 9) rfl) (.cons (.shut (n := 9) rfl) .nil)) ?_
 iterate 5 refine X.q rfl ?_
 refine GS.opsNil (GS.seq ?_)
 obtain ⟨y3, h_9, hM⟩ := bind_of hM
 refine GS.region (X.q rfl (X.q rfl ?_))
 refine X.call (ok_berth_Plan h_9) rfl rfl rfl (.cons (.shut (n := 9) rfl) (.cons (.shut (n := 9) rfl) .nil)) ?_
 iterate 5 refine X.q rfl ?_
 refine GS.opsNil (GS.seq (X.sq (X.q rfl (X.q rfl (X.q rfl ?_)))))
 refine GS.opsNil ?_
 refine X.cond rfl (fun h_10 => ?_) (fun h_10 => ?_)
 ·replace hM := ite_t h_10 hM
  refine X.sq (X.q rfl (GS.opsNil ?_))
  cases hM
  exact GS.ret ⟨_, rfl, ⟨30, rfl⟩⟩
 replace hM := ite_f h_10 hM
 refine GS.skip (GS.seq (X.sq (X.q rfl (X.q rfl ?_))))
 refine GS.opsNil ?_
 refine X.cond rfl (fun h_11 => ?_) (fun h_11 => ?_)
 ·replace hM := ite_t h_11 hM
  refine GS.seq ?_
  obtain ⟨y4, h_12, hM⟩ := bind_of hM
  refine GS.region ?_
  refine X.call (ok_law06_sanity h_12) rfl rfl rfl .nil (X.q rfl (GS.opsNil ?_))
  cases hM
  exact GS.ret ⟨_, rfl, ⟨30, rfl⟩⟩
 replace hM := ite_f h_11 hM
 refine GS.skip ?_
 iterate 2 refine GS.seq ?_
 obtain ⟨y5, h_13, hM⟩ := bind_of hM
 obtain ⟨y6, h_14, hM⟩ := gb_of hM
 refine GS.region ?_
 refine X.mid [(1, (V.sl (List.map e_api_Call l))), (4, (V.ptr 0 0 0)), (7, (V.ptr 1 0 0)), (9, (V.i y2.1)), (87, (V.b (((!decide (y5 = 0)) || (!decide ((y3.1.length : Int) = y2.1))) || ((decide (y6 = 0)) && (decide (y2.1 < (p.length : Int)))))))] ?_ ?_
 ·intro hg
  refine X.split (!decide (y5 = 0)) (fun h_15 => ?_) (fun h_15 => ?_)
  ·iterate 3 refine X.q rfl ?_
   refine X.call (ok_berth_CheckPlan h_13) rfl rfl rfl (.cons (.shut (n := 9) rfl) (.cons (.shut (n := 9) rfl) (.cons (.shut (n := 9) rfl) .nil))) (X.q rfl (X.q rfl ?_))
   iterate 4 refine X.off (X.off_f rfl rfl rfl h_15) rfl ?_
   refine X.opR rfl (X.pickor_t (y := !decide ((y3.1.length : Int) = y2.1)) rfl h_15 rfl) rfl (X.q rfl ?_)
   iterate 6 refine X.off (X.off_f rfl rfl rfl (X.or_tt h_15)) rfl ?_
   iterate 4 refine X.off rfl rfl ?_
   refine X.off (X.off_f rfl rfl rfl (X.or_tt h_15)) rfl ?_
   refine X.opR rfl (X.pickor_t (y := ((decide (y6 = 0)) && (decide (y2.1 < (p.length : Int))))) rfl (X.or_tt h_15) rfl) rfl (GS.opsNil ?_)
   exact X.norm _ hg rfl (sr rfl)
  refine X.split (((!decide (y5 = 0)) || (!decide ((y3.1.length : Int) = y2.1)))) (fun h_16 => ?_) (fun h_16 => ?_)
  ·iterate 3 refine X.q rfl ?_
   refine X.call (ok_berth_CheckPlan h_13) rfl rfl rfl (.cons (.shut (n := 9) rfl) (.cons (.shut (n := 9) rfl) (.cons (.shut (n := 9) rfl) .nil))) (X.q rfl (X.q rfl ?_))
   refine X.opR (X.on_f rfl rfl rfl h_15) rfl rfl ?_
   refine X.opR (X.on_f rfl rfl rfl h_15) (X.lenF rfl rfl rfl) rfl ?_
   iterate 2 refine X.opR (X.on_f rfl rfl rfl h_15) rfl rfl ?_
   refine X.opR rfl (X.pickor_f (y := !decide ((y3.1.length : Int) = y2.1)) rfl h_15 rfl) rfl (X.q rfl ?_)
   iterate 6 refine X.off (X.off_f rfl rfl rfl h_16) rfl ?_
   iterate 4 refine X.off rfl rfl ?_
   refine X.off (X.off_f rfl rfl rfl h_16) rfl ?_
   refine X.opR rfl (X.pickor_t (y := ((decide (y6 = 0)) && (decide (y2.1 < (p.length : Int))))) rfl h_16 rfl) rfl (GS.opsNil ?_)
   exact X.norm _ hg rfl (sr rfl)
  refine X.split (decide (y6 = 0)) (fun h_17 => ?_) (fun h_17 => ?_)
  ·iterate 3 refine X.q rfl ?_
   refine X.call (ok_berth_CheckPlan h_13) rfl rfl rfl (.cons (.shut (n := 9) rfl) (.cons (.shut (n := 9) rfl) (.cons (.shut (n := 9) rfl) .nil))) (X.q rfl (X.q rfl ?_))
   refine X.opR (X.on_f rfl rfl rfl h_15) rfl rfl ?_
   refine X.opR (X.on_f rfl rfl rfl h_15) (X.lenF rfl rfl rfl) rfl ?_
   iterate 2 refine X.opR (X.on_f rfl rfl rfl h_15) rfl rfl ?_
   refine X.opR rfl (X.pickor_f (y := !decide ((y3.1.length : Int) = y2.1)) rfl h_15 rfl) rfl (X.q rfl ?_)
   iterate 3 refine X.opR (X.on_f rfl rfl rfl h_16) rfl rfl ?_
   refine X.call (ok_berth_CheckPlan (h_14 (X.nt h_16))) (X.on_f rfl rfl rfl h_16) rfl rfl (.cons (.shut (n := 9) rfl) (.cons (.shut (n := 9) rfl) (.cons (.shut (n := 9) rfl) .nil))) ?_
   iterate 2 refine X.opR (X.on_f rfl rfl rfl h_16) rfl rfl ?_
   refine X.opR (X.on_t rfl rfl rfl h_17) rfl rfl ?_
   refine X.opR (X.on_t rfl rfl rfl h_17) (X.lenF rfl rfl rfl) rfl ?_
   iterate 2 refine X.opR (X.on_t rfl rfl rfl h_17) rfl rfl ?_
   refine X.opR (X.on_f rfl rfl rfl h_16) (X.pickand_t (y := decide (y2.1 < (p.length : Int))) rfl h_17 rfl) rfl ?_
   refine X.opR rfl (X.pickor_f (y := ((decide (y6 = 0)) && (decide (y2.1 < (p.length : Int))))) rfl h_16 rfl) rfl (GS.opsNil ?_)
   exact X.norm _ hg rfl (sr rfl)
  iterate 3 refine X.q rfl ?_
  refine X.call (ok_berth_CheckPlan h_13) rfl rfl rfl (.cons (.shut (n := 9) rfl) (.cons (.shut (n := 9) rfl) (.cons (.shut (n := 9) rfl) .nil))) (X.q rfl (X.q rfl ?_))
  refine X.opR (X.on_f rfl rfl rfl h_15) rfl rfl ?_
  refine X.opR (X.on_f rfl rfl rfl h_15) (X.lenF rfl rfl rfl) rfl ?_
  iterate 2 refine X.opR (X.on_f rfl rfl rfl h_15) rfl rfl ?_
  refine X.opR rfl (X.pickor_f (y := !decide ((y3.1.length : Int) = y2.1)) rfl h_15 rfl) rfl (X.q rfl ?_)
  iterate 3 refine X.opR (X.on_f rfl rfl rfl h_16) rfl rfl ?_
  refine X.call (ok_berth_CheckPlan (h_14 (X.nt h_16))) (X.on_f rfl rfl rfl h_16) rfl rfl (.cons (.shut (n := 9) rfl) (.cons (.shut (n := 9) rfl) (.cons (.shut (n := 9) rfl) .nil))) ?_
  iterate 2 refine X.opR (X.on_f rfl rfl rfl h_16) rfl rfl ?_
  iterate 4 refine X.off (X.off_t rfl rfl rfl h_17) rfl ?_
  refine X.opR (X.on_f rfl rfl rfl h_16) (X.pickand_f (y := decide (y2.1 < (p.length : Int))) rfl h_17 rfl) rfl ?_
  refine X.opR rfl (X.pickor_f (y := ((decide (y6 = 0)) && (decide (y2.1 < (p.length : Int))))) rfl h_16 rfl) rfl (GS.opsNil ?_)
  exact X.norm _ hg rfl (sr rfl)
 refine X.cond rfl (fun h_18 => ?_) (fun h_18 => ?_)
 ·replace hM := ite_t h_18 hM
  refine X.sq (X.q rfl (GS.opsNil ?_))
  cases hM
  exact GS.ret ⟨_, rfl, ⟨30, rfl⟩⟩
 replace hM := ite_f h_18 hM
 refine GS.skip ?_
 iterate 2 refine GS.seq ?_
 obtain ⟨y7, h_19, hM⟩ := bind_of hM
 refine GS.region (X.q rfl (X.q rfl (X.q rfl ?_)))
 refine X.call (ok_berth_CheckFull h_19) rfl rfl rfl (.cons (.shut (n := 9) rfl) (.cons (.shut (n := 9) rfl) (.cons (.shut (n := 9) rfl) .nil))) ?_
 iterate 5 refine X.q rfl ?_
 refine X.nq ?_
 refine X.mid [(1, (V.sl (List.map e_api_Call l))), (4, (V.ptr 0 0 0)), (9, (V.i y2.1)), (104, (V.b ((decide (y7.2 = 0)) && (decide ((w64 ((l.length : Int) - y2.1)) < y7.1)))))] ?_ ?_
 ·intro hg
  refine X.split (decide (y7.2 = 0)) (fun h_20 => ?_) (fun h_20 => ?_)
  ·iterate 3 refine X.q rfl ?_
   refine X.opR (X.on_t rfl rfl rfl h_20) rfl rfl ?_
   refine X.opR (X.on_t rfl rfl rfl h_20) (X.lenF rfl rfl rfl) rfl ?_
   refine X.opR (X.on_t rfl rfl rfl h_20) rfl rfl ?_
   refine X.opR (X.on_t rfl rfl rfl h_20) (X.subE rfl rfl) rfl ?_
   iterate 2 refine X.opR (X.on_t rfl rfl rfl h_20) rfl rfl ?_
   refine X.opR rfl (X.pickand_t (y := decide ((w64 ((l.length : Int) - y2.1)) < y7.1)) rfl h_20 rfl) rfl (GS.opsNil ?_)
   exact X.norm _ hg rfl (sr rfl)
  iterate 3 refine X.q rfl ?_
  iterate 6 refine X.off (X.off_t rfl rfl rfl h_20) rfl ?_
  refine X.opR rfl (X.pickand_f (y := decide ((w64 ((l.length : Int) - y2.1)) < y7.1)) rfl h_20 rfl) rfl (GS.opsNil ?_)
  exact X.norm _ hg rfl (sr rfl)
 refine X.cond rfl (fun h_21 => ?_) (fun h_21 => ?_)
 ·replace hM := ite_t h_21 hM
  refine X.sq (X.q rfl (GS.opsNil ?_))
  cases hM
  exact GS.ret ⟨_, rfl, ⟨30, rfl⟩⟩
 replace hM := ite_f h_21 hM
 refine GS.skip (GS.seq ?_)
 obtain ⟨y8, h_22, hM⟩ := bind_of hM
 refine GS.region (X.q rfl (X.q rfl ?_))
 refine X.call (ok_berth_Full h_22) rfl rfl rfl (.cons (.shut (n := 9) rfl) (.cons (.shut (n := 9) rfl) .nil)) ?_
 iterate 4 refine X.q rfl ?_
 refine X.opW rfl rfl rfl rfl ?_
 refine X.op0W rfl rfl rfl (X.q rfl (X.q rfl ?_))
 refine GS.opsNil (GS.seq (X.sq ?_))
 refine X.mid [(1, (V.sl (List.map e_api_Call l))), (4, (V.ptr 0 0 0)), (9, (V.i y2.1)), (15, (V.ptr 2 0 0)), (16, (V.b y8.2.1)), (121, (V.b ((!decide (y8.2.2 = 0)) || (!(y8.2.1 == (decide (y2.1 < (l.length : Int))))))))] ?_ ?_
 ·intro hg
  refine X.split (!decide (y8.2.2 = 0)) (fun h_23 => ?_) (fun h_23 => ?_)
  ·iterate 3 refine X.q rfl ?_
   iterate 6 refine X.off (X.off_f rfl rfl rfl h_23) rfl ?_
   refine X.opR rfl (X.pickor_t (y := !(y8.2.1 == (decide (y2.1 < (l.length : Int))))) rfl h_23 rfl) rfl (GS.opsNil ?_)
   exact X.norm _ hg rfl (sr rfl)
  iterate 3 refine X.q rfl ?_
  iterate 3 refine X.opR (X.on_f rfl rfl rfl h_23) rfl rfl ?_
  refine X.opR (X.on_f rfl rfl rfl h_23) (X.lenF rfl rfl rfl) rfl ?_
  iterate 2 refine X.opR (X.on_f rfl rfl rfl h_23) rfl rfl ?_
  refine X.opR rfl (X.pickor_f (y := !(y8.2.1 == (decide (y2.1 < (l.length : Int))))) rfl h_23 rfl) rfl (GS.opsNil ?_)
  exact X.norm _ hg rfl (sr rfl)
 refine X.cond rfl (fun h_24 => ?_) (fun h_24 => ?_)
 ·replace hM := ite_t h_24 hM
  refine X.sq (X.q rfl (GS.opsNil ?_))
  cases hM
  exact GS.ret ⟨_, rfl, ⟨30, rfl⟩⟩
 replace hM := ite_f h_24 hM
 refine GS.skip (GS.seq (X.sq (X.q rfl (X.q rfl ?_))))
 refine GS.opsNil ?_
 refine X.cond rfl (fun h_25 => ?_) (fun h_25 => ?_)
 ·replace hM := ite_t h_25 hM
  refine GS.seq ?_
  obtain ⟨y9, h_26, hM⟩ := bind_of hM
  refine GS.region ?_
  refine X.call (ok_law06_sanity h_26) rfl rfl rfl .nil (X.q rfl (GS.opsNil ?_))
  cases hM
  exact GS.ret ⟨_, rfl, ⟨30, rfl⟩⟩
 replace hM := ite_f h_25 hM
 refine GS.skip (GS.seq ?_)
 obtain ⟨y10, h_27, hM⟩ := bind_of hM
 refine GS.region (X.q rfl (X.q rfl (X.q rfl ?_)))
 refine X.call (ok_berth_CheckFull h_27) rfl rfl rfl (.cons (.shut (n := 9) rfl) (.cons (.shut (n := 9) rfl) (.cons (.shut (n := 9) rfl) .nil))) ?_
 iterate 5 refine X.q rfl ?_
 refine GS.opsNil (GS.seq ?_)
 obtain ⟨y11, h_28, hM⟩ := bind_of hM
 refine GS.region ?_
 refine X.mid [(8, (V.b ((y11 && (decide (y10.2 = 0))) && (decide (y10.1 = (w64 ((l.length : Int) - y2.1)))))))] ?_ ?_
 ·intro hg
  refine X.split (y11) (fun h_29 => ?_) (fun h_29 => ?_)
  ·refine X.split ((y11 && (decide (y10.2 = 0)))) (fun h_30 => ?_) (fun h_30 => ?_)
   ·refine X.call (ok_law06_sanity h_28) rfl rfl rfl .nil (X.q rfl ?_)
    iterate 2 refine X.opR (X.on_t rfl rfl rfl h_29) rfl rfl ?_
    refine X.opR rfl (X.pickand_t (y := decide (y10.2 = 0)) rfl h_29 rfl) rfl (X.q rfl ?_)
    iterate 2 refine X.opR (X.on_t rfl rfl rfl h_30) rfl rfl ?_
    refine X.opR (X.on_t rfl rfl rfl h_30) (X.lenF rfl rfl rfl) rfl ?_
    refine X.opR (X.on_t rfl rfl rfl h_30) rfl rfl ?_
    refine X.opR (X.on_t rfl rfl rfl h_30) (X.subE rfl rfl) rfl ?_
    refine X.opR (X.on_t rfl rfl rfl h_30) rfl rfl ?_
    refine X.opR rfl (X.pickand_t (y := decide (y10.1 = (w64 ((l.length : Int) - y2.1)))) rfl h_30 rfl) rfl (X.q rfl (GS.opsNil ?_))
    exact X.norm _ hg rfl (sr rfl)
   refine X.call (ok_law06_sanity h_28) rfl rfl rfl .nil (X.q rfl ?_)
   iterate 2 refine X.opR (X.on_t rfl rfl rfl h_29) rfl rfl ?_
   refine X.opR rfl (X.pickand_t (y := decide (y10.2 = 0)) rfl h_29 rfl) rfl (X.q rfl ?_)
   iterate 6 refine X.off (X.off_t rfl rfl rfl h_30) rfl ?_
   refine X.opR rfl (X.pickand_f (y := decide (y10.1 = (w64 ((l.length : Int) - y2.1)))) rfl h_30 rfl) rfl (X.q rfl (GS.opsNil ?_))
   exact X.norm _ hg rfl (sr rfl)
  refine X.call (ok_law06_sanity h_28) rfl rfl rfl .nil (X.q rfl ?_)
  iterate 2 refine X.off (X.off_t rfl rfl rfl h_29) rfl ?_
  refine X.opR rfl (X.pickand_f (y := decide (y10.2 = 0)) rfl h_29 rfl) rfl (X.q rfl ?_)
  iterate 6 refine X.off (X.off_t rfl rfl rfl (X.and_ff h_29)) rfl ?_
  refine X.opR rfl (X.pickand_f (y := decide (y10.1 = (w64 ((l.length : Int) - y2.1)))) rfl (X.and_ff h_29) rfl) rfl (X.q rfl (GS.opsNil ?_))
  exact X.norm _ hg rfl (sr rfl)
 cases hM
 exact GS.ret ⟨_, rfl, ⟨30, rfl⟩⟩
end Go.Proofs.Ytnkngglimidldaa
