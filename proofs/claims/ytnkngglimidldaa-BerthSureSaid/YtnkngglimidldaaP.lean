/- The program's functions compute the plain ones. Conditions: none. Printed by a program (wip/tools/xg.py). -/
import Derived.Test.YtnkngglimidldaaP2
set_option linter.unusedVariables false
set_option linter.unusedSimpArgs false
namespace Go.Proofs.Ytnkngglimidldaa
open Go Go.Am Go.Proofs Go.Mx

set_option maxHeartbeats 4000000 in
theorem ok_law06_BerthSure {h : api_Harbour} {l : (List api_Call)} {at_ : Int} {r : Bool} (hM : law06_BerthSure h l at_ = some r) : Ct Try.prog 5 [(e_api_Harbour h), (V.sl (List.map e_api_Call l)), (V.lit (.int .u8 at_))] (V.b r) := by
 refine ct_of_gs CC_ok rfl ?_
 unfold law06_BerthSure at hM
 refine X.sq ?_
 refine X.opW rfl rfl rfl rfl ?_
 refine X.q rfl (GS.opsNil ?_)
 iterate 2 refine GS.seq ?_
 obtain ⟨y, h_1, hM⟩ := bind_of hM
 refine GS.region ?_
 refine X.mid [(1, (V.sl (List.map e_api_Call l))), (2, (V.lit (.int .u8 at_))), (3, (V.ptr 0 0 0)), (35, (V.b (((!y) || (decide (5 < (l.length : Int)))) || (decide ((l.length : Int) = 0)))))] ?_ ?_
 ·intro hg
  refine X.split (!y) (fun h_2 => ?_) (fun h_2 => ?_)
  ·refine X.q rfl ?_
   refine X.call (ok_law06_small h_1) rfl rfl rfl (.cons (.shut (n := 9) rfl) .nil) ?_
   iterate 2 refine X.q rfl ?_
   iterate 3 refine X.off (X.off_f rfl rfl rfl h_2) rfl ?_
   refine X.opR rfl (X.pickor_t (y := decide (5 < (l.length : Int))) rfl h_2 rfl) rfl ?_
   refine X.q rfl ?_
   iterate 3 refine X.off (X.off_f rfl rfl rfl (X.or_tt h_2)) rfl ?_
   refine X.opR rfl (X.pickor_t (y := decide ((l.length : Int) = 0)) rfl (X.or_tt h_2) rfl) rfl (GS.opsNil ?_)
   exact X.norm _ hg rfl (sr rfl)
  refine X.split (((!y) || (decide (5 < (l.length : Int))))) (fun h_3 => ?_) (fun h_3 => ?_)
  ·refine X.q rfl ?_
   refine X.call (ok_law06_small h_1) rfl rfl rfl (.cons (.shut (n := 9) rfl) .nil) ?_
   iterate 2 refine X.q rfl ?_
   refine X.opR (X.on_f rfl rfl rfl h_2) rfl rfl ?_
   refine X.opR (X.on_f rfl rfl rfl h_2) (X.lenF rfl rfl rfl) rfl ?_
   refine X.opR (X.on_f rfl rfl rfl h_2) rfl rfl ?_
   refine X.opR rfl (X.pickor_f (y := decide (5 < (l.length : Int))) rfl h_2 rfl) rfl ?_
   refine X.q rfl ?_
   iterate 3 refine X.off (X.off_f rfl rfl rfl h_3) rfl ?_
   refine X.opR rfl (X.pickor_t (y := decide ((l.length : Int) = 0)) rfl h_3 rfl) rfl (GS.opsNil ?_)
   exact X.norm _ hg rfl (sr rfl)
  refine X.q rfl ?_
  refine X.call (ok_law06_small h_1) rfl rfl rfl (.cons (.shut (n := 9) rfl) .nil) ?_
  iterate 2 refine X.q rfl ?_
  refine X.opR (X.on_f rfl rfl rfl h_2) rfl rfl ?_
  refine X.opR (X.on_f rfl rfl rfl h_2) (X.lenF rfl rfl rfl) rfl ?_
  refine X.opR (X.on_f rfl rfl rfl h_2) rfl rfl ?_
  refine X.opR rfl (X.pickor_f (y := decide (5 < (l.length : Int))) rfl h_2 rfl) rfl ?_
  refine X.q rfl ?_
  refine X.opR (X.on_f rfl rfl rfl h_3) rfl rfl ?_
  refine X.opR (X.on_f rfl rfl rfl h_3) (X.lenF rfl rfl rfl) rfl ?_
  refine X.opR (X.on_f rfl rfl rfl h_3) rfl rfl ?_
  refine X.opR rfl (X.pickor_f (y := decide ((l.length : Int) = 0)) rfl h_3 rfl) rfl (GS.opsNil ?_)
  exact X.norm _ hg rfl (sr rfl)
 refine X.cond rfl (fun h_4 => ?_) (fun h_4 => ?_)
 ·replace hM := ite_t h_4 hM
  refine GS.seq ?_
  obtain ⟨y1, h_5, hM⟩ := bind_of hM
  refine GS.region ?_
  refine X.call (ok_law06_sanity h_5) rfl rfl rfl .nil ?_
  refine X.q rfl (GS.opsNil ?_)
  cases hM
  exact GS.ret ⟨_, rfl, ⟨30, rfl⟩⟩
 replace hM := ite_f h_4 hM
 refine GS.skip (GS.seq ?_)
 obtain ⟨y2, h_6, hM⟩ := bind_of hM
 refine GS.region ?_
 iterate 2 refine X.q rfl ?_
 refine X.call (ok_berth_Sure h_6) rfl rfl rfl (.cons (.shut (n := 9) rfl) (.cons (.shut (n := 9) rfl) .nil)) ?_
 iterate 5 refine X.q rfl ?_
 refine GS.opsNil (GS.seq ?_)
 obtain ⟨y3, h_7, hM⟩ := bind_of hM
 refine GS.region ?_
 iterate 2 refine X.q rfl ?_
 refine X.call (ok_berth_Most h_7) rfl rfl rfl (.cons (.shut (n := 9) rfl) (.cons (.shut (n := 9) rfl) .nil)) ?_
 iterate 5 refine X.q rfl ?_
 refine GS.opsNil (GS.seq ?_)
 obtain ⟨y4, h_8, hM⟩ := bind_of hM
 refine GS.region ?_
 iterate 2 refine X.q rfl ?_
 refine X.call (ok_berth_Plan h_8) rfl rfl rfl (.cons (.shut (n := 9) rfl) (.cons (.shut (n := 9) rfl) .nil)) ?_
 iterate 5 refine X.q rfl ?_
 refine GS.opsNil (GS.seq (X.sq ?_))
 refine X.mid [(1, (V.sl (List.map e_api_Call l))), (2, (V.lit (.int .u8 at_))), (3, (V.ptr 0 0 0)), (7, (V.sl (List.map V.i y2.1))), (8, (V.i y2.2)), (9, (V.i y3.1)), (11, (V.sl (List.map e_api_Stay y4.1))), (62, (V.b ((!decide (y2.2 = y3.2)) || (!decide (y3.2 = y4.2)))))] ?_ ?_
 ·intro hg
  refine X.split (!decide (y2.2 = y3.2)) (fun h_9 => ?_) (fun h_9 => ?_)
  ·iterate 4 refine X.q rfl ?_
   iterate 3 refine X.off (X.off_f rfl rfl rfl h_9) rfl ?_
   refine X.opR rfl (X.pickor_t (y := !decide (y3.2 = y4.2)) rfl h_9 rfl) rfl (GS.opsNil ?_)
   exact X.norm _ hg rfl (sr rfl)
  iterate 4 refine X.q rfl ?_
  iterate 3 refine X.opR (X.on_f rfl rfl rfl h_9) rfl rfl ?_
  refine X.opR rfl (X.pickor_f (y := !decide (y3.2 = y4.2)) rfl h_9 rfl) rfl (GS.opsNil ?_)
  exact X.norm _ hg rfl (sr rfl)
 refine X.cond rfl (fun h_10 => ?_) (fun h_10 => ?_)
 ·replace hM := ite_t h_10 hM
  refine X.sq ?_
  refine X.q rfl (GS.opsNil ?_)
  cases hM
  exact GS.ret ⟨_, rfl, ⟨30, rfl⟩⟩
 replace hM := ite_f h_10 hM
 refine GS.skip (GS.seq (X.sq ?_))
 iterate 2 refine X.q rfl ?_
 refine GS.opsNil ?_
 refine X.cond rfl (fun h_11 => ?_) (fun h_11 => ?_)
 ·replace hM := ite_t h_11 hM
  refine GS.seq ?_
  obtain ⟨y5, h_12, hM⟩ := bind_of hM
  refine GS.region ?_
  refine X.call (ok_law06_sanity h_12) rfl rfl rfl .nil ?_
  refine X.q rfl (GS.opsNil ?_)
  cases hM
  exact GS.ret ⟨_, rfl, ⟨30, rfl⟩⟩
 replace hM := ite_f h_11 hM
 refine GS.skip (GS.seq ?_)
 obtain ⟨q, h_13, hM⟩ := bind_of hM
 refine GS.region ?_
 refine X.q rfl ?_
 refine X.opR rfl (X.convE rfl rfl rfl rfl) rfl ?_
 refine X.q rfl ?_
 refine X.opR rfl (X.lenF rfl rfl rfl) rfl ?_
 refine X.opR rfl (X.remE h_13 rfl rfl) rfl ?_
 refine X.q rfl (GS.opsNil (GS.seq ?_))
 obtain ⟨l1, h_14, hM⟩ := bind_of hM
 obtain ⟨l2, h_15, hM⟩ := bind_of hM
 obtain ⟨l3, h_16, hM⟩ := bind_of hM
 obtain ⟨l4, h_17, hM⟩ := bind_of hM
 refine X.draw (by kernel_rfl) ?_
 iterate 3 refine X.dop rfl rfl rfl rfl (by kernel_rfl) rfl rfl ?_
 refine X.dop rfl (X.sliceF (f := e_api_Call) h_14 (fun _ => rfl) rfl rfl rfl rfl rfl rfl (X.boundA_int rfl)) rfl rfl (by kernel_rfl) rfl rfl ?_
 refine X.dop rfl (X.appO (f := e_api_Call) h_15 (fun _ => rfl) rfl rfl rfl rfl rfl rfl rfl rfl rfl rfl) rfl rfl (by kernel_rfl) rfl rfl ?_
 iterate 2 refine X.dop rfl rfl rfl rfl (by kernel_rfl) rfl rfl ?_
 refine X.dop rfl (X.addE rfl rfl) rfl rfl (by kernel_rfl) rfl rfl ?_
 refine X.dop rfl (X.sliceF (f := e_api_Call) h_16 (fun _ => rfl) rfl rfl rfl rfl rfl (X.boundA_int rfl) rfl) rfl rfl (by kernel_rfl) rfl rfl ?_
 refine X.dop rfl (X.appO (f := e_api_Call) h_17 (fun _ => rfl) rfl rfl rfl rfl rfl rfl rfl rfl rfl rfl) rfl rfl (by kernel_rfl) rfl rfl ?_
 refine X.dop rfl rfl rfl rfl (by kernel_rfl) rfl rfl ?_
 refine X.dnil ?_
 refine X.norm [(1, (V.sl (List.map e_api_Call l))), (3, (V.ptr 0 0 0)), (7, (V.sl (List.map V.i y2.1))), (9, (V.i y3.1)), (11, (V.sl (List.map e_api_Stay y4.1))), (13, (V.i q)), (14, (V.osl 3 0 (List.length l4)))] ?_ rfl (sr rfl)
 refine GS.seq ?_
 obtain ⟨y6, h_18, hM⟩ := bind_of hM
 refine GS.region ?_
 iterate 2 refine X.q rfl ?_
 refine X.callF (ok_berth_Most h_18) rfl rfl rfl (m := 9) rfl (.cons (.shut (n := 9) rfl) (.cons (FR.arg (FR.osl (f := e_api_Call) (l := l4) 9 rfl rfl (fun _ => rfl))) .nil)) ?_
 iterate 5 refine X.q rfl ?_
 refine X.nq ?_
 refine X.q rfl (GS.opsNil (GS.seq (X.sq ?_)))
 refine X.q rfl ?_
 refine X.opR rfl (X.lenF rfl rfl rfl) rfl ?_
 refine X.q rfl (GS.opsNil ?_)
 refine X.join (τ := Bool) (fun v => law06_BerthSure_j1 y3 y6 v = some r) (fun v => ⟨[(9, (V.i y3.1)), (15, (V.i y6.1)), (16, (V.i y6.2)), (17, (V.b v))], [], 0, none, 143⟩) ?_ ?_
 ·intro sure hM
  replace hM : law06_BerthSure_j1 y3 y6 sure = some r := hM
  unfold law06_BerthSure_j1 at hM
  refine GS.seq ?_
  obtain ⟨y7, h_19, hM⟩ := bind_of hM
  refine GS.region ?_
  refine X.mid [(6, (V.b ((y7 && (decide (y6.2 = 0))) && ((sure && (decide (y6.1 = (w64 (y3.1 - 1))))) || ((!sure) && (decide (y6.1 = y3.1)))))))] ?_ ?_
  ·intro hg
   refine X.split (y7) (fun h_20 => ?_) (fun h_20 => ?_)
   ·refine X.split ((y7 && (decide (y6.2 = 0)))) (fun h_21 => ?_) (fun h_21 => ?_)
    ·refine X.split (sure) (fun h_22 => ?_) (fun h_22 => ?_)
     ·refine X.split ((sure && (decide (y6.1 = (w64 (y3.1 - 1)))))) (fun h_23 => ?_) (fun h_23 => ?_)
      ·refine X.call (ok_law06_sanity h_19) rfl rfl rfl .nil ?_
       refine X.q rfl ?_
       iterate 2 refine X.opR (X.on_t rfl rfl rfl h_20) rfl rfl ?_
       refine X.opR rfl (X.pickand_t (y := decide (y6.2 = 0)) rfl h_20 rfl) rfl ?_
       refine X.q rfl ?_
       iterate 2 refine X.opR (X.on_t rfl rfl rfl h_21) rfl rfl ?_
       iterate 2 refine X.opR (X.on_t rfl rfl rfl h_22) rfl rfl ?_
       refine X.opR (X.on_t rfl rfl rfl h_22) (X.subE rfl rfl) rfl ?_
       refine X.opR (X.on_t rfl rfl rfl h_22) rfl rfl ?_
       refine X.opR (X.on_t rfl rfl rfl h_21) (X.pickand_t (y := decide (y6.1 = (w64 (y3.1 - 1)))) rfl h_22 rfl) rfl ?_
       refine X.opR (X.on_t rfl rfl rfl h_21) rfl rfl ?_
       iterate 3 refine X.off (X.off_f rfl rfl rfl h_23) rfl ?_
       iterate 3 refine X.off rfl rfl ?_
       refine X.off (X.off_f rfl rfl rfl h_23) rfl ?_
       refine X.opR (X.on_t rfl rfl rfl h_21) (X.pickor_t (y := ((!sure) && (decide (y6.1 = y3.1)))) rfl h_23 rfl) rfl ?_
       refine X.opR rfl (X.pickand_t (y := ((sure && (decide (y6.1 = (w64 (y3.1 - 1))))) || ((!sure) && (decide (y6.1 = y3.1))))) rfl h_21 rfl) rfl ?_
       refine X.q rfl (GS.opsNil ?_)
       exact X.norm _ hg rfl (sr rfl)
      refine X.split (!sure) (fun h_24 => ?_) (fun h_24 => ?_)
      ·refine X.call (ok_law06_sanity h_19) rfl rfl rfl .nil ?_
       refine X.q rfl ?_
       iterate 2 refine X.opR (X.on_t rfl rfl rfl h_20) rfl rfl ?_
       refine X.opR rfl (X.pickand_t (y := decide (y6.2 = 0)) rfl h_20 rfl) rfl ?_
       refine X.q rfl ?_
       iterate 2 refine X.opR (X.on_t rfl rfl rfl h_21) rfl rfl ?_
       iterate 2 refine X.opR (X.on_t rfl rfl rfl h_22) rfl rfl ?_
       refine X.opR (X.on_t rfl rfl rfl h_22) (X.subE rfl rfl) rfl ?_
       refine X.opR (X.on_t rfl rfl rfl h_22) rfl rfl ?_
       refine X.opR (X.on_t rfl rfl rfl h_21) (X.pickand_t (y := decide (y6.1 = (w64 (y3.1 - 1)))) rfl h_22 rfl) rfl ?_
       refine X.opR (X.on_t rfl rfl rfl h_21) rfl rfl ?_
       iterate 3 refine X.opR (X.on_f rfl rfl rfl h_23) rfl rfl ?_
       iterate 3 refine X.opR (X.on_t rfl rfl rfl h_24) rfl rfl ?_
       refine X.opR (X.on_f rfl rfl rfl h_23) (X.pickand_t (y := decide (y6.1 = y3.1)) rfl h_24 rfl) rfl ?_
       refine X.opR (X.on_t rfl rfl rfl h_21) (X.pickor_f (y := ((!sure) && (decide (y6.1 = y3.1)))) rfl h_23 rfl) rfl ?_
       refine X.opR rfl (X.pickand_t (y := ((sure && (decide (y6.1 = (w64 (y3.1 - 1))))) || ((!sure) && (decide (y6.1 = y3.1))))) rfl h_21 rfl) rfl ?_
       refine X.q rfl (GS.opsNil ?_)
       exact X.norm _ hg rfl (sr rfl)
      refine X.call (ok_law06_sanity h_19) rfl rfl rfl .nil ?_
      refine X.q rfl ?_
      iterate 2 refine X.opR (X.on_t rfl rfl rfl h_20) rfl rfl ?_
      refine X.opR rfl (X.pickand_t (y := decide (y6.2 = 0)) rfl h_20 rfl) rfl ?_
      refine X.q rfl ?_
      iterate 2 refine X.opR (X.on_t rfl rfl rfl h_21) rfl rfl ?_
      iterate 2 refine X.opR (X.on_t rfl rfl rfl h_22) rfl rfl ?_
      refine X.opR (X.on_t rfl rfl rfl h_22) (X.subE rfl rfl) rfl ?_
      refine X.opR (X.on_t rfl rfl rfl h_22) rfl rfl ?_
      refine X.opR (X.on_t rfl rfl rfl h_21) (X.pickand_t (y := decide (y6.1 = (w64 (y3.1 - 1)))) rfl h_22 rfl) rfl ?_
      refine X.opR (X.on_t rfl rfl rfl h_21) rfl rfl ?_
      iterate 3 refine X.opR (X.on_f rfl rfl rfl h_23) rfl rfl ?_
      iterate 3 refine X.off (X.off_t rfl rfl rfl h_24) rfl ?_
      refine X.opR (X.on_f rfl rfl rfl h_23) (X.pickand_f (y := decide (y6.1 = y3.1)) rfl h_24 rfl) rfl ?_
      refine X.opR (X.on_t rfl rfl rfl h_21) (X.pickor_f (y := ((!sure) && (decide (y6.1 = y3.1)))) rfl h_23 rfl) rfl ?_
      refine X.opR rfl (X.pickand_t (y := ((sure && (decide (y6.1 = (w64 (y3.1 - 1))))) || ((!sure) && (decide (y6.1 = y3.1))))) rfl h_21 rfl) rfl ?_
      refine X.q rfl (GS.opsNil ?_)
      exact X.norm _ hg rfl (sr rfl)
     refine X.split (!sure) (fun h_25 => ?_) (fun h_25 => ?_)
     ·refine X.call (ok_law06_sanity h_19) rfl rfl rfl .nil ?_
      refine X.q rfl ?_
      iterate 2 refine X.opR (X.on_t rfl rfl rfl h_20) rfl rfl ?_
      refine X.opR rfl (X.pickand_t (y := decide (y6.2 = 0)) rfl h_20 rfl) rfl ?_
      refine X.q rfl ?_
      iterate 2 refine X.opR (X.on_t rfl rfl rfl h_21) rfl rfl ?_
      iterate 4 refine X.off (X.off_t rfl rfl rfl h_22) rfl ?_
      refine X.opR (X.on_t rfl rfl rfl h_21) (X.pickand_f (y := decide (y6.1 = (w64 (y3.1 - 1)))) rfl h_22 rfl) rfl ?_
      refine X.opR (X.on_t rfl rfl rfl h_21) rfl rfl ?_
      iterate 3 refine X.opR (X.on_f rfl rfl rfl (X.and_ff h_22)) rfl rfl ?_
      iterate 3 refine X.opR (X.on_t rfl rfl rfl h_25) rfl rfl ?_
      refine X.opR (X.on_f rfl rfl rfl (X.and_ff h_22)) (X.pickand_t (y := decide (y6.1 = y3.1)) rfl h_25 rfl) rfl ?_
      refine X.opR (X.on_t rfl rfl rfl h_21) (X.pickor_f (y := ((!sure) && (decide (y6.1 = y3.1)))) rfl (X.and_ff h_22) rfl) rfl ?_
      refine X.opR rfl (X.pickand_t (y := ((sure && (decide (y6.1 = (w64 (y3.1 - 1))))) || ((!sure) && (decide (y6.1 = y3.1))))) rfl h_21 rfl) rfl ?_
      refine X.q rfl (GS.opsNil ?_)
      exact X.norm _ hg rfl (sr rfl)
     refine X.call (ok_law06_sanity h_19) rfl rfl rfl .nil ?_
     refine X.q rfl ?_
     iterate 2 refine X.opR (X.on_t rfl rfl rfl h_20) rfl rfl ?_
     refine X.opR rfl (X.pickand_t (y := decide (y6.2 = 0)) rfl h_20 rfl) rfl ?_
     refine X.q rfl ?_
     iterate 2 refine X.opR (X.on_t rfl rfl rfl h_21) rfl rfl ?_
     iterate 4 refine X.off (X.off_t rfl rfl rfl h_22) rfl ?_
     refine X.opR (X.on_t rfl rfl rfl h_21) (X.pickand_f (y := decide (y6.1 = (w64 (y3.1 - 1)))) rfl h_22 rfl) rfl ?_
     refine X.opR (X.on_t rfl rfl rfl h_21) rfl rfl ?_
     iterate 3 refine X.opR (X.on_f rfl rfl rfl (X.and_ff h_22)) rfl rfl ?_
     iterate 3 refine X.off (X.off_t rfl rfl rfl h_25) rfl ?_
     refine X.opR (X.on_f rfl rfl rfl (X.and_ff h_22)) (X.pickand_f (y := decide (y6.1 = y3.1)) rfl h_25 rfl) rfl ?_
     refine X.opR (X.on_t rfl rfl rfl h_21) (X.pickor_f (y := ((!sure) && (decide (y6.1 = y3.1)))) rfl (X.and_ff h_22) rfl) rfl ?_
     refine X.opR rfl (X.pickand_t (y := ((sure && (decide (y6.1 = (w64 (y3.1 - 1))))) || ((!sure) && (decide (y6.1 = y3.1))))) rfl h_21 rfl) rfl ?_
     refine X.q rfl (GS.opsNil ?_)
     exact X.norm _ hg rfl (sr rfl)
    refine X.call (ok_law06_sanity h_19) rfl rfl rfl .nil ?_
    refine X.q rfl ?_
    iterate 2 refine X.opR (X.on_t rfl rfl rfl h_20) rfl rfl ?_
    refine X.opR rfl (X.pickand_t (y := decide (y6.2 = 0)) rfl h_20 rfl) rfl ?_
    refine X.q rfl ?_
    iterate 2 refine X.off (X.off_t rfl rfl rfl h_21) rfl ?_
    iterate 4 refine X.off rfl rfl ?_
    iterate 2 refine X.off (X.off_t rfl rfl rfl h_21) rfl ?_
    iterate 7 refine X.off rfl rfl ?_
    refine X.off (X.off_t rfl rfl rfl h_21) rfl ?_
    refine X.opR rfl (X.pickand_f (y := ((sure && (decide (y6.1 = (w64 (y3.1 - 1))))) || ((!sure) && (decide (y6.1 = y3.1))))) rfl h_21 rfl) rfl ?_
    refine X.q rfl (GS.opsNil ?_)
    exact X.norm _ hg rfl (sr rfl)
   refine X.call (ok_law06_sanity h_19) rfl rfl rfl .nil ?_
   refine X.q rfl ?_
   iterate 2 refine X.off (X.off_t rfl rfl rfl h_20) rfl ?_
   refine X.opR rfl (X.pickand_f (y := decide (y6.2 = 0)) rfl h_20 rfl) rfl ?_
   refine X.q rfl ?_
   iterate 2 refine X.off (X.off_t rfl rfl rfl (X.and_ff h_20)) rfl ?_
   iterate 4 refine X.off rfl rfl ?_
   iterate 2 refine X.off (X.off_t rfl rfl rfl (X.and_ff h_20)) rfl ?_
   iterate 7 refine X.off rfl rfl ?_
   refine X.off (X.off_t rfl rfl rfl (X.and_ff h_20)) rfl ?_
   refine X.opR rfl (X.pickand_f (y := ((sure && (decide (y6.1 = (w64 (y3.1 - 1))))) || ((!sure) && (decide (y6.1 = y3.1))))) rfl (X.and_ff h_20) rfl) rfl ?_
   refine X.q rfl (GS.opsNil ?_)
   exact X.norm _ hg rfl (sr rfl)
  cases hM
  exact GS.ret ⟨_, rfl, ⟨30, rfl⟩⟩
 intro hj_1
 refine GS.block ?_
 refine X.gc [] (X.loop (σ := (Bool × Int)) (fun v => ⟨[(1, (V.sl (List.map e_api_Call l))), (9, (V.i y3.1)), (11, (V.sl (List.map e_api_Stay y4.1))), (13, (V.i q)), (15, (V.i y6.1)), (16, (V.i y6.2)), (17, (V.b v.1)), (87, (V.sl (List.map V.i y2.1))), (88, (V.i (y2.1.length : Int))), (89, (V.i v.2))], [], 0, none, 143⟩) hM ?_ rfl) rfl rfl rfl (ga rfl rfl) (gb_nil)
 rintro ⟨sure1, x4⟩ b_1 hM hc_2 hr_1
 rw [law06_BerthSure_b2] at hM
 refine X.sq ?_
 refine X.q rfl (GS.opsNil (GS.seq ?_))
 refine X.cond rfl (fun h_26 => ?_) (fun h_26 => ?_)
 ·replace hM := ite_t h_26 hM
  refine GS.skip (GS.seq (GS.block (GS.seq ?_)))
  obtain ⟨x, h_27, hM⟩ := bind_of hM
  refine GS.region ?_
  refine X.opR rfl (X.indexF (f := V.i) h_27 (fun _ => rfl) rfl rfl rfl rfl) rfl ?_
  refine X.opR rfl (X.loadF h_27 rfl rfl rfl) rfl ?_
  refine X.q rfl (GS.opsNil (GS.seq ?_))
  obtain ⟨x1, h_28, hM⟩ := gb_of hM
  refine GS.region ?_
  refine X.mid [(1, (V.sl (List.map e_api_Call l))), (9, (V.i y3.1)), (11, (V.sl (List.map e_api_Stay y4.1))), (13, (V.i q)), (15, (V.i y6.1)), (16, (V.i y6.2)), (17, (V.b (sure1 || (decide (x = x1.ID))))), (19, (V.i x)), (87, (V.sl (List.map V.i y2.1))), (88, (V.i (y2.1.length : Int))), (89, (V.i x4))] ?_ ?_
  ·intro hg
   refine X.split (sure1) (fun h_29 => ?_) (fun h_29 => ?_)
   ·iterate 2 refine X.q rfl ?_
    iterate 7 refine X.off (X.off_f rfl rfl rfl h_29) rfl ?_
    refine X.opR rfl (X.pickor_t (y := decide (x = x1.ID)) rfl h_29 rfl) rfl ?_
    refine X.q rfl (GS.opsNil ?_)
    exact X.norm _ hg rfl (sr rfl)
   iterate 2 refine X.q rfl ?_
   iterate 3 refine X.opR (X.on_f rfl rfl rfl h_29) rfl rfl ?_
   refine X.opR (X.on_f rfl rfl rfl h_29) (X.indexF (f := e_api_Call) (h_28 (X.nt h_29)) (fun _ => rfl) rfl rfl rfl rfl) rfl ?_
   refine X.opR (X.on_f rfl rfl rfl h_29) rfl rfl ?_
   refine X.opR (X.on_f rfl rfl rfl h_29) (X.loadF (h_28 (X.nt h_29)) rfl rfl rfl) rfl ?_
   refine X.opR (X.on_f rfl rfl rfl h_29) rfl rfl ?_
   refine X.opR rfl (X.pickor_f (y := decide (x = x1.ID)) rfl h_29 rfl) rfl ?_
   refine X.q rfl (GS.opsNil ?_)
   exact X.norm _ hg rfl (sr rfl)
  refine X.sq ?_
  refine X.q rfl (GS.opsNil (GS.seq (X.sq ?_)))
  refine X.q rfl ?_
  refine X.opR rfl (X.lenF rfl rfl rfl) rfl ?_
  refine X.q rfl (GS.opsNil ?_)
  refine X.join (τ := Bool) (fun v => law06_BerthSure_j3 sure1 x4 x x1 v = some b_1) (fun v => ⟨[(1, (V.sl (List.map e_api_Call l))), (9, (V.i y3.1)), (11, (V.sl (List.map e_api_Stay y4.1))), (13, (V.i q)), (15, (V.i y6.1)), (16, (V.i y6.2)), (17, (V.b (sure1 || (decide (x = x1.ID))))), (20, (V.b v)), (87, (V.sl (List.map V.i y2.1))), (88, (V.i (y2.1.length : Int))), (89, (V.i x4))], [], 0, none, 143⟩) ?_ ?_
  ·intro in_ hM
   replace hM : law06_BerthSure_j3 sure1 x4 x x1 in_ = some b_1 := hM
   unfold law06_BerthSure_j3 at hM
   refine X.sq ?_
   iterate 2 refine X.q rfl ?_
   refine GS.opsNil ?_
   refine X.cond rfl (fun h_30 => ?_) (fun h_30 => ?_)
   ·replace hM := ite_t h_30 hM
    refine X.sq ?_
    refine X.q rfl (GS.opsNil ?_)
    have hE := Option.some.inj hM
    replace hE := hr_1 _ hE.symm
    subst hE
    exact GS.ret ⟨_, rfl, ⟨30, rfl⟩⟩
   replace hM := ite_f h_30 hM
   refine GS.skip ?_
   refine GS.endB (GS.region ?_)
   refine X.opR rfl (X.addE rfl rfl) rfl ?_
   refine X.q rfl (GS.opsNil ?_)
   have hE := Option.some.inj hM
   exact X.gc [] (hc_2 ((sure1 || (decide (x = x1.ID))), w64 (x4 + 1)) hE.symm) rfl rfl rfl (ga rfl rfl) (gb_nil)
  intro hj_3
  refine GS.block ?_
  refine X.gc [] (X.loop (σ := (Bool × Int)) (fun v => ⟨[(1, (V.sl (List.map e_api_Call l))), (9, (V.i y3.1)), (11, (V.sl (List.map e_api_Stay y4.1))), (13, (V.i q)), (15, (V.i y6.1)), (16, (V.i y6.2)), (17, (V.b (sure1 || (decide (x = x1.ID))))), (19, (V.i x)), (20, (V.b v.1)), (87, (V.sl (List.map V.i y2.1))), (88, (V.i (y2.1.length : Int))), (89, (V.i x4)), (103, (V.sl (List.map e_api_Stay y4.1))), (104, (V.i (y4.1.length : Int))), (105, (V.i v.2))], [], 0, none, 143⟩) hM ?_ rfl) rfl rfl rfl (ga rfl rfl) (gb_nil)
  rintro ⟨in_1, x3⟩ b_2 hM hc_4 hr_2
  rw [law06_BerthSure_b4] at hM
  refine X.sq ?_
  refine X.q rfl (GS.opsNil (GS.seq ?_))
  refine X.cond rfl (fun h_31 => ?_) (fun h_31 => ?_)
  ·replace hM := ite_t h_31 hM
   refine GS.skip (GS.seq (GS.block (GS.seq ?_)))
   obtain ⟨x2, h_32, hM⟩ := bind_of hM
   refine GS.region ?_
   refine X.opR rfl (X.indexF (f := e_api_Stay) h_32 (fun _ => rfl) rfl rfl rfl rfl) rfl ?_
   refine X.opR rfl (X.loadF h_32 rfl rfl rfl) rfl ?_
   refine X.opW rfl rfl rfl rfl ?_
   refine X.op0W rfl rfl rfl (X.mq ?_)
   refine X.mid [(1, (V.sl (List.map e_api_Call l))), (9, (V.i y3.1)), (11, (V.sl (List.map e_api_Stay y4.1))), (13, (V.i q)), (15, (V.i y6.1)), (16, (V.i y6.2)), (17, (V.b (sure1 || (decide (x = x1.ID))))), (19, (V.i x)), (20, (V.b (in_1 || (decide (x2.Call = x))))), (87, (V.sl (List.map V.i y2.1))), (88, (V.i (y2.1.length : Int))), (89, (V.i x4)), (103, (V.sl (List.map e_api_Stay y4.1))), (104, (V.i (y4.1.length : Int))), (105, (V.i x3))] ?_ ?_
   ·intro hg
    refine X.split (in_1) (fun h_33 => ?_) (fun h_33 => ?_)
    ·iterate 2 refine X.q rfl ?_
     iterate 4 refine X.off (X.off_f rfl rfl rfl h_33) rfl ?_
     refine X.opR rfl (X.pickor_t (y := decide (x2.Call = x)) rfl h_33 rfl) rfl ?_
     refine X.q rfl (GS.opsNil ?_)
     exact X.norm _ hg rfl (sr rfl)
    iterate 2 refine X.q rfl ?_
    iterate 4 refine X.opR (X.on_f rfl rfl rfl h_33) rfl rfl ?_
    refine X.opR rfl (X.pickor_f (y := decide (x2.Call = x)) rfl h_33 rfl) rfl ?_
    refine X.q rfl (GS.opsNil ?_)
    exact X.norm _ hg rfl (sr rfl)
   refine GS.endB (GS.region ?_)
   refine X.opR rfl (X.addE rfl rfl) rfl ?_
   refine X.q rfl (GS.opsNil ?_)
   have hE := Option.some.inj hM
   exact X.gc [] (hc_4 ((in_1 || (decide (x2.Call = x))), w64 (x3 + 1)) hE.symm) rfl rfl rfl (ga rfl rfl) (gb_nil)
  replace hM := ite_f h_31 hM
  refine GS.exit rfl ?_
  obtain ⟨y_2, hM, hy⟩ := map_of hM
  rw [hr_2 _ hy.symm] at hM
  exact X.gc [] (hj_3 in_1 hM) rfl rfl rfl (ga rfl rfl) (gb_nil)
 replace hM := ite_f h_26 hM
 refine GS.exit rfl ?_
 obtain ⟨y_1, hM, hy⟩ := map_of hM
 rw [hr_1 _ hy.symm] at hM
 exact X.gc [] (hj_1 sure1 hM) rfl rfl rfl (ga rfl rfl) (gb_nil)

end Go.Proofs.Ytnkngglimidldaa
