/- The program's functions compute the plain ones. Conditions: none. Printed by a program (wip/tools/xg.py). -/
import Derived.Test.YtnkngglimidldaaGreatP2
set_option linter.unusedVariables false
set_option linter.unusedSimpArgs false
namespace Go.Proofs.YtnkngglimidldaaGreat
open Go Go.Am Go.Proofs Go.Mx
set_option maxHeartbeats 4000000 in
theorem ok_ref06_Check {h : api_Harbour} {r : Int} (hM : ref06_Check h = some r) : Ct Tryz.prog 14 [(e_api_Harbour h)] (V.i r) := by
 refine ct_of_gs CC_ok rfl ?_
 unfold ref06_Check at hM
 refine X.sq ?_
 refine X.opW rfl rfl rfl rfl (X.q rfl (GS.opsNil (GS.seq ?_)))
 obtain ⟨y, h_1, hM⟩ := bind_of hM
 refine GS.region (X.q rfl (X.q rfl ?_))
 refine X.call (ok_ref02_Check h_1) rfl rfl rfl (.cons (.shut (n := 9) rfl) .nil) (X.q rfl (GS.opsNil (GS.seq (X.sq (X.q rfl (X.q rfl ?_))))))
 refine GS.opsNil ?_
 refine X.cond rfl (fun h_2 => ?_) (fun h_2 => ?_)
 ·replace hM := ite_t h_2 hM
  refine X.sq (X.q rfl (X.q rfl ?_))
  refine GS.opsNil ?_
  cases hM
  exact GS.ret ⟨_, rfl, ⟨30, rfl⟩⟩
 replace hM := ite_f h_2 hM
 refine GS.skip (GS.seq (X.sq ?_))
 refine X.mid [(1, (V.ptr 0 0 0)), (23, (V.b ((decide (6 < (h.Berths.length : Int))) || (decide (12 < (h.Tides.length : Int))))))] ?_ ?_
 ·intro hg
  refine X.split (decide (6 < (h.Berths.length : Int))) (fun h_3 => ?_) (fun h_3 => ?_)
  ·iterate 2 refine X.q rfl ?_
   refine X.opR rfl (X.lenF rfl rfl rfl) rfl (X.q rfl (X.q rfl ?_))
   iterate 4 refine X.off (X.off_f rfl rfl rfl h_3) rfl ?_
   refine X.opR rfl (X.pickor_t (y := decide (12 < (h.Tides.length : Int))) rfl h_3 rfl) rfl (GS.opsNil ?_)
   exact X.norm _ hg rfl (sr rfl)
  refine X.q rfl (X.q rfl ?_)
  refine X.opR rfl (X.lenF rfl rfl rfl) rfl (X.q rfl (X.q rfl ?_))
  iterate 2 refine X.opR (X.on_f rfl rfl rfl h_3) rfl rfl ?_
  refine X.opR (X.on_f rfl rfl rfl h_3) (X.lenF rfl rfl rfl) rfl ?_
  refine X.opR (X.on_f rfl rfl rfl h_3) rfl rfl ?_
  refine X.opR rfl (X.pickor_f (y := decide (12 < (h.Tides.length : Int))) rfl h_3 rfl) rfl (GS.opsNil ?_)
  exact X.norm _ hg rfl (sr rfl)
 refine X.cond rfl (fun h_4 => ?_) (fun h_4 => ?_)
 ·replace hM := ite_t h_4 hM
  refine X.sq (X.q rfl (GS.opsNil ?_))
  cases hM
  exact GS.ret ⟨_, rfl, ⟨30, rfl⟩⟩
 replace hM := ite_f h_4 hM
 refine GS.skip (GS.seq (X.sq (X.q rfl (GS.opsNil ?_))))
 refine X.join (τ := Unit) (fun v => ref06_Check_j1 h = some r) (fun v => ⟨[(1, (V.ptr 0 0 0))], [.rows 6 [(e_api_Harbour h)]], 0, none, 106⟩) ?_ ?_
 ·intro _ hM
  replace hM : ref06_Check_j1 h = some r := hM
  unfold ref06_Check_j1 at hM
  refine GS.seq (X.sq (X.q rfl (GS.opsNil ?_)))
  refine X.join (τ := Unit) (fun v => ref06_Check_j2 h = some r) (fun v => ⟨[(1, (V.ptr 0 0 0))], [.rows 6 [(e_api_Harbour h)]], 0, none, 106⟩) ?_ ?_
  ·intro _ hM
   replace hM : ref06_Check_j2 h = some r := hM
   unfold ref06_Check_j2 at hM
   refine GS.seq (X.sq (X.q rfl (X.q rfl ?_)))
   refine X.call (ok_ref06_in h.Keel 0 8000) rfl rfl rfl (.cons (.shut (n := 9) rfl) (.cons (.shut (n := 9) rfl) (.cons (.shut (n := 9) rfl) .nil))) (X.q rfl (GS.opsNil ?_))
   refine X.cond rfl (fun h_5 => ?_) (fun h_5 => ?_)
   ·replace hM := ite_t h_5 hM
    refine X.sq (X.q rfl (GS.opsNil ?_))
    cases hM
    exact GS.ret ⟨_, rfl, ⟨30, rfl⟩⟩
   replace hM := ite_f h_5 hM
   refine GS.skip (X.sq (X.q rfl (GS.opsNil ?_)))
   cases hM
   exact GS.ret ⟨_, rfl, ⟨30, rfl⟩⟩
  intro hj_2
  refine GS.block ?_
  refine X.gc [some 0] (X.loop (σ := Int) (fun v => ⟨[(1, (V.ptr 0 0 0)), (6, (V.i v))], [.rows 6 [(e_api_Harbour h)]], 0, none, 106⟩) hM ?_ rfl) rfl rfl rfl (ga rfl rfl) (gb9 rfl rfl rfl gb_nil)
  intro i b_1 hM hc_3 hr_1
  rw [ref06_Check_b3] at hM
  refine GS.seq (X.sq (X.q rfl (X.q rfl (X.q rfl ?_))))
  refine X.opR rfl (X.lenF rfl rfl rfl) rfl (X.q rfl (GS.opsNil ?_))
  refine X.cond rfl (fun h_6 => ?_) (fun h_6 => ?_)
  ·replace hM := ite_t h_6 hM
   refine GS.skip (GS.seq (GS.block (GS.seq ?_)))
   obtain ⟨x, h_7, hM⟩ := bind_of hM
   refine GS.region (X.q rfl (X.q rfl (X.q rfl ?_)))
   refine X.opR rfl (X.indexF (f := e_api_Span) h_7 (fun _ => rfl) rfl rfl rfl rfl) rfl ?_
   refine X.opR rfl (X.loadF h_7 rfl rfl rfl) rfl ?_
   refine X.call (ok_ref06_stay x) rfl rfl rfl (.cons (.shut (n := 9) rfl) .nil) (X.q rfl (GS.opsNil (GS.seq ?_)))
   obtain ⟨x1, h_8, hM⟩ := gb_of hM
   obtain ⟨x2, h_9, hM⟩ := gb_of hM
   refine X.mid [(1, (V.ptr 0 0 0)), (6, (V.i i)), (101, (V.b ((!(ref06_stay x)) || ((decide (0 < i)) && (decide (x1.Lo ≤ x2.Hi))))))] ?_ ?_
   ·intro hg
    refine X.split (!(ref06_stay x)) (fun h_10 => ?_) (fun h_10 => ?_)
    ·refine X.drawc (by kernel_rfl) rfl ?_
     iterate 3 refine X.cop rfl rfl rfl rfl ?_
     iterate 3 refine X.coff (X.off_f rfl rfl rfl h_10) rfl rfl ?_
     iterate 14 refine X.coff rfl rfl rfl ?_
     refine X.coff (X.off_f rfl rfl rfl h_10) rfl rfl ?_
     refine X.cop rfl (X.pickor_t (y := ((decide (0 < i)) && (decide (x1.Lo ≤ x2.Hi)))) rfl h_10 rfl) rfl rfl ?_
     refine X.cnil ?_
     exact X.norm _ hg rfl (sr rfl)
    refine X.split (decide (0 < i)) (fun h_11 => ?_) (fun h_11 => ?_)
    ·refine X.drawc (by kernel_rfl) rfl ?_
     iterate 3 refine X.cop rfl rfl rfl rfl ?_
     iterate 3 refine X.cop (X.on_f rfl rfl rfl h_10) rfl rfl rfl ?_
     iterate 3 refine X.cop (X.on_t rfl rfl rfl h_11) rfl rfl rfl ?_
     refine X.cop (X.on_t rfl rfl rfl h_11) (X.indexF (f := e_api_Span) (h_8 (X.and_tt (X.nt h_10) h_11)) (fun _ => rfl) rfl rfl rfl rfl) rfl rfl ?_
     refine X.cop (X.on_t rfl rfl rfl h_11) rfl rfl rfl ?_
     refine X.cop (X.on_t rfl rfl rfl h_11) (X.loadF (h_8 (X.and_tt (X.nt h_10) h_11)) rfl rfl rfl) rfl rfl ?_
     iterate 3 refine X.cop (X.on_t rfl rfl rfl h_11) rfl rfl rfl ?_
     refine X.cop (X.on_t rfl rfl rfl h_11) (X.subE rfl rfl) rfl rfl ?_
     refine X.cop (X.on_t rfl rfl rfl h_11) (X.indexF (f := e_api_Span) (h_9 (X.and_tt (X.nt h_10) h_11)) (fun _ => rfl) rfl rfl rfl rfl) rfl rfl ?_
     refine X.cop (X.on_t rfl rfl rfl h_11) rfl rfl rfl ?_
     refine X.cop (X.on_t rfl rfl rfl h_11) (X.loadF (h_9 (X.and_tt (X.nt h_10) h_11)) rfl rfl rfl) rfl rfl ?_
     refine X.cop (X.on_t rfl rfl rfl h_11) rfl rfl rfl ?_
     refine X.cop (X.on_f rfl rfl rfl h_10) (X.pickand_t (y := decide (x1.Lo ≤ x2.Hi)) rfl h_11 rfl) rfl rfl ?_
     refine X.cop rfl (X.pickor_f (y := ((decide (0 < i)) && (decide (x1.Lo ≤ x2.Hi)))) rfl h_10 rfl) rfl rfl ?_
     refine X.cnil ?_
     exact X.norm _ hg rfl (sr rfl)
    refine X.drawc (by kernel_rfl) rfl ?_
    iterate 3 refine X.cop rfl rfl rfl rfl ?_
    iterate 3 refine X.cop (X.on_f rfl rfl rfl h_10) rfl rfl rfl ?_
    iterate 14 refine X.coff (X.off_t rfl rfl rfl h_11) rfl rfl ?_
    refine X.cop (X.on_f rfl rfl rfl h_10) (X.pickand_f (y := decide (x1.Lo ≤ x2.Hi)) rfl h_11 rfl) rfl rfl ?_
    refine X.cop rfl (X.pickor_f (y := ((decide (0 < i)) && (decide (x1.Lo ≤ x2.Hi)))) rfl h_10 rfl) rfl rfl ?_
    refine X.cnil ?_
    exact X.norm _ hg rfl (sr rfl)
   refine X.cond rfl (fun h_12 => ?_) (fun h_12 => ?_)
   ·replace hM := ite_t h_12 hM
    refine X.sq (X.q rfl (GS.opsNil ?_))
    have hE := Option.some.inj hM
    replace hE := hr_1 _ hE.symm
    subst hE
    exact GS.ret ⟨_, rfl, ⟨30, rfl⟩⟩
   replace hM := ite_f h_12 hM
   refine GS.skip ?_
   refine GS.endB (GS.region (X.q rfl ?_))
   refine X.opR rfl (X.addE rfl rfl) rfl (X.q rfl (GS.opsNil ?_))
   have hE := Option.some.inj hM
   exact X.gc [some 0] (hc_3 (w64 (i + 1)) hE.symm) rfl rfl rfl (ga rfl rfl) (gb9 rfl rfl rfl gb_nil)
  replace hM := ite_f h_6 hM
  refine GS.exit rfl ?_
  obtain ⟨y_1, hM, hy⟩ := map_of hM
  rw [hr_1 _ hy.symm] at hM
  exact X.gc [some 0] (hj_2 () hM) rfl rfl rfl (ga rfl rfl) (gb9 rfl rfl rfl gb_nil)
 intro hj_1
 refine GS.block ?_
 refine X.gc [some 0] (X.loop (σ := Int) (fun v => ⟨[(1, (V.ptr 0 0 0)), (4, (V.i v))], [.rows 6 [(e_api_Harbour h)]], 0, none, 106⟩) hM ?_ rfl) rfl rfl rfl (ga rfl rfl) (gb9 rfl rfl rfl gb_nil)
 intro i1 b_1 hM hc_4 hr_1
 rw [ref06_Check_b4] at hM
 refine GS.seq (X.sq (X.q rfl (X.q rfl (X.q rfl ?_))))
 refine X.opR rfl (X.lenF rfl rfl rfl) rfl (X.q rfl (GS.opsNil ?_))
 refine X.cond rfl (fun h_13 => ?_) (fun h_13 => ?_)
 ·replace hM := ite_t h_13 hM
  refine GS.skip (GS.seq (GS.block ?_))
  iterate 2 refine GS.seq ?_
  obtain ⟨x3, h_14, hM⟩ := bind_of hM
  obtain ⟨x4, h_15, hM⟩ := gb_of hM
  refine GS.region ?_
  refine X.mid [(1, (V.ptr 0 0 0)), (4, (V.i i1)), (48, (V.b ((!(ref06_in x3.ID 1 1099511627776)) || (!(ref06_in x4.Depth 0 8000)))))] ?_ ?_
  ·intro hg
   refine X.split (!(ref06_in x3.ID 1 1099511627776)) (fun h_16 => ?_) (fun h_16 => ?_)
   ·iterate 3 refine X.q rfl ?_
    refine X.opR rfl (X.indexF (f := e_api_Berth) h_14 (fun _ => rfl) rfl rfl rfl rfl) rfl (X.q rfl ?_)
    refine X.opR rfl (X.loadF h_14 rfl rfl rfl) rfl ?_
    refine X.call (ok_ref06_in x3.ID 1 1099511627776) rfl rfl rfl (.cons (.shut (n := 9) rfl) (.cons (.shut (n := 9) rfl) (.cons (.shut (n := 9) rfl) .nil))) (X.q rfl (X.q rfl ?_))
    iterate 8 refine X.off (X.off_f rfl rfl rfl h_16) rfl ?_
    refine X.opR rfl (X.pickor_t (y := !(ref06_in x4.Depth 0 8000)) rfl h_16 rfl) rfl (GS.opsNil ?_)
    exact X.norm _ hg rfl (sr rfl)
   iterate 3 refine X.q rfl ?_
   refine X.opR rfl (X.indexF (f := e_api_Berth) h_14 (fun _ => rfl) rfl rfl rfl rfl) rfl (X.q rfl ?_)
   refine X.opR rfl (X.loadF h_14 rfl rfl rfl) rfl ?_
   refine X.call (ok_ref06_in x3.ID 1 1099511627776) rfl rfl rfl (.cons (.shut (n := 9) rfl) (.cons (.shut (n := 9) rfl) (.cons (.shut (n := 9) rfl) .nil))) (X.q rfl (X.q rfl ?_))
   iterate 3 refine X.opR (X.on_f rfl rfl rfl h_16) rfl rfl ?_
   refine X.opR (X.on_f rfl rfl rfl h_16) (X.indexF (f := e_api_Berth) (h_15 (X.nt h_16)) (fun _ => rfl) rfl rfl rfl rfl) rfl ?_
   refine X.opR (X.on_f rfl rfl rfl h_16) rfl rfl ?_
   refine X.opR (X.on_f rfl rfl rfl h_16) (X.loadF (h_15 (X.nt h_16)) rfl rfl rfl) rfl ?_
   refine X.call (ok_ref06_in x4.Depth 0 8000) (X.on_f rfl rfl rfl h_16) rfl rfl (.cons (.shut (n := 9) rfl) (.cons (.shut (n := 9) rfl) (.cons (.shut (n := 9) rfl) .nil))) ?_
   refine X.opR (X.on_f rfl rfl rfl h_16) rfl rfl ?_
   refine X.opR rfl (X.pickor_f (y := !(ref06_in x4.Depth 0 8000)) rfl h_16 rfl) rfl (GS.opsNil ?_)
   exact X.norm _ hg rfl (sr rfl)
  refine X.cond rfl (fun h_17 => ?_) (fun h_17 => ?_)
  ·replace hM := ite_t h_17 hM
   refine X.sq (X.q rfl (GS.opsNil ?_))
   have hE := Option.some.inj hM
   replace hE := hr_1 _ hE.symm
   subst hE
   exact GS.ret ⟨_, rfl, ⟨30, rfl⟩⟩
  replace hM := ite_f h_17 hM
  refine GS.skip (X.sq (X.q rfl (GS.opsNil ?_)))
  refine X.join (τ := Unit) (fun v => ref06_Check_j5 i1 = some b_1) (fun v => ⟨[(1, (V.ptr 0 0 0)), (4, (V.i i1))], [.rows 6 [(e_api_Harbour h)]], 0, none, 106⟩) ?_ ?_
  ·intro _ hM
   replace hM : ref06_Check_j5 i1 = some b_1 := hM
   unfold ref06_Check_j5 at hM
   refine GS.endB (GS.region (X.q rfl ?_))
   refine X.opR rfl (X.addE rfl rfl) rfl (X.q rfl (GS.opsNil ?_))
   have hE := Option.some.inj hM
   exact X.gc [some 0] (hc_4 (w64 (i1 + 1)) hE.symm) rfl rfl rfl (ga rfl rfl) (gb9 rfl rfl rfl gb_nil)
  intro hj_5
  refine GS.block ?_
  refine X.gc [some 0] (X.loop (σ := Int) (fun v => ⟨[(1, (V.ptr 0 0 0)), (4, (V.i i1)), (5, (V.i v))], [.rows 6 [(e_api_Harbour h)]], 0, none, 106⟩) hM ?_ rfl) rfl rfl rfl (ga rfl rfl) (gb9 rfl rfl rfl gb_nil)
  intro k b_2 hM hc_6 hr_2
  rw [ref06_Check_b6] at hM
  refine GS.seq (X.sq (X.q rfl (X.q rfl (X.q rfl ?_))))
  refine GS.opsNil ?_
  refine X.cond rfl (fun h_18 => ?_) (fun h_18 => ?_)
  ·replace hM := ite_t h_18 hM
   refine GS.skip (GS.seq (GS.block (GS.seq ?_)))
   obtain ⟨x5, h_19, hM⟩ := bind_of hM
   obtain ⟨x6, h_20, hM⟩ := bind_of hM
   refine X.drawc (by kernel_rfl) rfl ?_
   iterate 3 refine X.cop rfl rfl rfl rfl ?_
   refine X.cop rfl (X.indexF (f := e_api_Berth) h_19 (fun _ => rfl) rfl rfl rfl rfl) rfl rfl ?_
   refine X.cop rfl rfl rfl rfl ?_
   refine X.cop rfl (X.loadF h_19 rfl rfl rfl) rfl rfl ?_
   iterate 3 refine X.cop rfl rfl rfl rfl ?_
   refine X.cop rfl (X.indexF (f := e_api_Berth) h_20 (fun _ => rfl) rfl rfl rfl rfl) rfl rfl ?_
   refine X.cop rfl rfl rfl rfl ?_
   refine X.cop rfl (X.loadF h_20 rfl rfl rfl) rfl rfl ?_
   refine X.cop rfl rfl rfl rfl ?_
   refine X.cnil ?_
   refine X.norm [(1, (V.ptr 0 0 0)), (4, (V.i i1)), (5, (V.i k)), (66, (V.b (decide (x5.ID = x6.ID))))] ?_ rfl (sr rfl)
   refine X.cond rfl (fun h_21 => ?_) (fun h_21 => ?_)
   ·replace hM := ite_t h_21 hM
    refine X.sq (X.q rfl (GS.opsNil ?_))
    have hE := Option.some.inj hM
    replace hE := hr_2 _ hE.symm
    replace hE := hr_1 _ hE.symm
    subst hE
    exact GS.ret ⟨_, rfl, ⟨30, rfl⟩⟩
   replace hM := ite_f h_21 hM
   refine GS.skip ?_
   refine GS.endB (GS.region (X.q rfl ?_))
   refine X.opR rfl (X.addE rfl rfl) rfl (X.q rfl (GS.opsNil ?_))
   have hE := Option.some.inj hM
   exact X.gc [some 0] (hc_6 (w64 (k + 1)) hE.symm) rfl rfl rfl (ga rfl rfl) (gb9 rfl rfl rfl gb_nil)
  replace hM := ite_f h_18 hM
  refine GS.exit rfl ?_
  obtain ⟨y_2, hM, hy⟩ := map_of hM
  rw [hr_2 _ hy.symm] at hM
  exact X.gc [some 0] (hj_5 () hM) rfl rfl rfl (ga rfl rfl) (gb9 rfl rfl rfl gb_nil)
 replace hM := ite_f h_13 hM
 refine GS.exit rfl ?_
 obtain ⟨y_1, hM, hy⟩ := map_of hM
 rw [hr_1 _ hy.symm] at hM
 exact X.gc [some 0] (hj_1 () hM) rfl rfl rfl (ga rfl rfl) (gb9 rfl rfl rfl gb_nil)
theorem ok_ref06_valid (c : api_Call) : Ct Tryz.prog 56 [(e_api_Call c)] (V.b (ref06_valid c)) := by
 refine ct_of_gs CC_ok rfl ?_
 generalize hM : ref06_valid c = r
 unfold ref06_valid at hM
 refine X.sq ?_
 refine X.opW rfl rfl rfl rfl (X.q rfl (X.nq ?_))
 refine X.mid [(2, (V.b (((((ref06_in c.ID 1 1099511627776) && (ref06_in c.Draught 0 8000)) && (ref06_in c.From 0 1048576)) && (ref06_in c.To c.From 1048576)) && (ref06_in c.Long 1 1440))))] ?_ ?_
 ·intro hg
  refine X.split ((ref06_in c.ID 1 1099511627776)) (fun h_1 => ?_) (fun h_1 => ?_)
  ·refine X.split (((ref06_in c.ID 1 1099511627776) && (ref06_in c.Draught 0 8000))) (fun h_2 => ?_) (fun h_2 => ?_)
   ·refine X.split ((((ref06_in c.ID 1 1099511627776) && (ref06_in c.Draught 0 8000)) && (ref06_in c.From 0 1048576))) (fun h_3 => ?_) (fun h_3 => ?_)
    ·refine X.split (((((ref06_in c.ID 1 1099511627776) && (ref06_in c.Draught 0 8000)) && (ref06_in c.From 0 1048576)) && (ref06_in c.To c.From 1048576))) (fun h_4 => ?_) (fun h_4 => ?_)
     ·iterate 2 refine X.q rfl ?_
      refine X.call (ok_ref06_in c.ID 1 1099511627776) rfl rfl rfl (.cons (.shut (n := 9) rfl) (.cons (.shut (n := 9) rfl) (.cons (.shut (n := 9) rfl) .nil))) (X.q rfl ?_)
      iterate 2 refine X.opR (X.on_t rfl rfl rfl h_1) rfl rfl ?_
      refine X.call (ok_ref06_in c.Draught 0 8000) (X.on_t rfl rfl rfl h_1) rfl rfl (.cons (.shut (n := 9) rfl) (.cons (.shut (n := 9) rfl) (.cons (.shut (n := 9) rfl) .nil))) ?_
      refine X.opR rfl (X.pickand_t (y := (ref06_in c.Draught 0 8000)) rfl h_1 rfl) rfl (X.q rfl ?_)
      iterate 2 refine X.opR (X.on_t rfl rfl rfl h_2) rfl rfl ?_
      refine X.call (ok_ref06_in c.From 0 1048576) (X.on_t rfl rfl rfl h_2) rfl rfl (.cons (.shut (n := 9) rfl) (.cons (.shut (n := 9) rfl) (.cons (.shut (n := 9) rfl) .nil))) ?_
      refine X.opR rfl (X.pickand_t (y := (ref06_in c.From 0 1048576)) rfl h_2 rfl) rfl (X.q rfl ?_)
      iterate 4 refine X.opR (X.on_t rfl rfl rfl h_3) rfl rfl ?_
      refine X.call (ok_ref06_in c.To c.From 1048576) (X.on_t rfl rfl rfl h_3) rfl rfl (.cons (.shut (n := 9) rfl) (.cons (.shut (n := 9) rfl) (.cons (.shut (n := 9) rfl) .nil))) ?_
      refine X.opR rfl (X.pickand_t (y := (ref06_in c.To c.From 1048576)) rfl h_3 rfl) rfl (X.q rfl ?_)
      iterate 2 refine X.opR (X.on_t rfl rfl rfl h_4) rfl rfl ?_
      refine X.call (ok_ref06_in c.Long 1 1440) (X.on_t rfl rfl rfl h_4) rfl rfl (.cons (.shut (n := 9) rfl) (.cons (.shut (n := 9) rfl) (.cons (.shut (n := 9) rfl) .nil))) ?_
      refine X.opR rfl (X.pickand_t (y := (ref06_in c.Long 1 1440)) rfl h_4 rfl) rfl (X.q rfl (GS.opsNil ?_))
      exact X.norm _ hg rfl (sr rfl)
     refine X.q rfl (X.q rfl ?_)
     refine X.call (ok_ref06_in c.ID 1 1099511627776) rfl rfl rfl (.cons (.shut (n := 9) rfl) (.cons (.shut (n := 9) rfl) (.cons (.shut (n := 9) rfl) .nil))) (X.q rfl ?_)
     iterate 2 refine X.opR (X.on_t rfl rfl rfl h_1) rfl rfl ?_
     refine X.call (ok_ref06_in c.Draught 0 8000) (X.on_t rfl rfl rfl h_1) rfl rfl (.cons (.shut (n := 9) rfl) (.cons (.shut (n := 9) rfl) (.cons (.shut (n := 9) rfl) .nil))) ?_
     refine X.opR rfl (X.pickand_t (y := (ref06_in c.Draught 0 8000)) rfl h_1 rfl) rfl (X.q rfl ?_)
     iterate 2 refine X.opR (X.on_t rfl rfl rfl h_2) rfl rfl ?_
     refine X.call (ok_ref06_in c.From 0 1048576) (X.on_t rfl rfl rfl h_2) rfl rfl (.cons (.shut (n := 9) rfl) (.cons (.shut (n := 9) rfl) (.cons (.shut (n := 9) rfl) .nil))) ?_
     refine X.opR rfl (X.pickand_t (y := (ref06_in c.From 0 1048576)) rfl h_2 rfl) rfl (X.q rfl ?_)
     iterate 4 refine X.opR (X.on_t rfl rfl rfl h_3) rfl rfl ?_
     refine X.call (ok_ref06_in c.To c.From 1048576) (X.on_t rfl rfl rfl h_3) rfl rfl (.cons (.shut (n := 9) rfl) (.cons (.shut (n := 9) rfl) (.cons (.shut (n := 9) rfl) .nil))) ?_
     refine X.opR rfl (X.pickand_t (y := (ref06_in c.To c.From 1048576)) rfl h_3 rfl) rfl (X.q rfl ?_)
     iterate 3 refine X.off (X.off_t rfl rfl rfl h_4) rfl ?_
     refine X.opR rfl (X.pickand_f (y := (ref06_in c.Long 1 1440)) rfl h_4 rfl) rfl (X.q rfl (GS.opsNil ?_))
     exact X.norm _ hg rfl (sr rfl)
    refine X.q rfl (X.q rfl ?_)
    refine X.call (ok_ref06_in c.ID 1 1099511627776) rfl rfl rfl (.cons (.shut (n := 9) rfl) (.cons (.shut (n := 9) rfl) (.cons (.shut (n := 9) rfl) .nil))) (X.q rfl ?_)
    iterate 2 refine X.opR (X.on_t rfl rfl rfl h_1) rfl rfl ?_
    refine X.call (ok_ref06_in c.Draught 0 8000) (X.on_t rfl rfl rfl h_1) rfl rfl (.cons (.shut (n := 9) rfl) (.cons (.shut (n := 9) rfl) (.cons (.shut (n := 9) rfl) .nil))) ?_
    refine X.opR rfl (X.pickand_t (y := (ref06_in c.Draught 0 8000)) rfl h_1 rfl) rfl (X.q rfl ?_)
    iterate 2 refine X.opR (X.on_t rfl rfl rfl h_2) rfl rfl ?_
    refine X.call (ok_ref06_in c.From 0 1048576) (X.on_t rfl rfl rfl h_2) rfl rfl (.cons (.shut (n := 9) rfl) (.cons (.shut (n := 9) rfl) (.cons (.shut (n := 9) rfl) .nil))) ?_
    refine X.opR rfl (X.pickand_t (y := (ref06_in c.From 0 1048576)) rfl h_2 rfl) rfl (X.q rfl ?_)
    iterate 5 refine X.off (X.off_t rfl rfl rfl h_3) rfl ?_
    refine X.opR rfl (X.pickand_f (y := (ref06_in c.To c.From 1048576)) rfl h_3 rfl) rfl (X.q rfl ?_)
    iterate 3 refine X.off (X.off_t rfl rfl rfl (X.and_ff h_3)) rfl ?_
    refine X.opR rfl (X.pickand_f (y := (ref06_in c.Long 1 1440)) rfl (X.and_ff h_3) rfl) rfl (X.q rfl (GS.opsNil ?_))
    exact X.norm _ hg rfl (sr rfl)
   refine X.q rfl (X.q rfl ?_)
   refine X.call (ok_ref06_in c.ID 1 1099511627776) rfl rfl rfl (.cons (.shut (n := 9) rfl) (.cons (.shut (n := 9) rfl) (.cons (.shut (n := 9) rfl) .nil))) (X.q rfl ?_)
   iterate 2 refine X.opR (X.on_t rfl rfl rfl h_1) rfl rfl ?_
   refine X.call (ok_ref06_in c.Draught 0 8000) (X.on_t rfl rfl rfl h_1) rfl rfl (.cons (.shut (n := 9) rfl) (.cons (.shut (n := 9) rfl) (.cons (.shut (n := 9) rfl) .nil))) ?_
   refine X.opR rfl (X.pickand_t (y := (ref06_in c.Draught 0 8000)) rfl h_1 rfl) rfl (X.q rfl ?_)
   iterate 3 refine X.off (X.off_t rfl rfl rfl h_2) rfl ?_
   refine X.opR rfl (X.pickand_f (y := (ref06_in c.From 0 1048576)) rfl h_2 rfl) rfl (X.q rfl ?_)
   iterate 5 refine X.off (X.off_t rfl rfl rfl (X.and_ff h_2)) rfl ?_
   refine X.opR rfl (X.pickand_f (y := (ref06_in c.To c.From 1048576)) rfl (X.and_ff h_2) rfl) rfl (X.q rfl ?_)
   iterate 3 refine X.off (X.off_t rfl rfl rfl (X.and_ff (X.and_ff h_2))) rfl ?_
   refine X.opR rfl (X.pickand_f (y := (ref06_in c.Long 1 1440)) rfl (X.and_ff (X.and_ff h_2)) rfl) rfl (X.q rfl (GS.opsNil ?_))
   exact X.norm _ hg rfl (sr rfl)
  refine X.q rfl (X.q rfl ?_)
  refine X.call (ok_ref06_in c.ID 1 1099511627776) rfl rfl rfl (.cons (.shut (n := 9) rfl) (.cons (.shut (n := 9) rfl) (.cons (.shut (n := 9) rfl) .nil))) (X.q rfl ?_)
  iterate 3 refine X.off (X.off_t rfl rfl rfl h_1) rfl ?_
  refine X.opR rfl (X.pickand_f (y := (ref06_in c.Draught 0 8000)) rfl h_1 rfl) rfl (X.q rfl ?_)
  iterate 3 refine X.off (X.off_t rfl rfl rfl (X.and_ff h_1)) rfl ?_
  refine X.opR rfl (X.pickand_f (y := (ref06_in c.From 0 1048576)) rfl (X.and_ff h_1) rfl) rfl (X.q rfl ?_)
  iterate 5 refine X.off (X.off_t rfl rfl rfl (X.and_ff (X.and_ff h_1))) rfl ?_
  refine X.opR rfl (X.pickand_f (y := (ref06_in c.To c.From 1048576)) rfl (X.and_ff (X.and_ff h_1)) rfl) rfl (X.q rfl ?_)
  iterate 3 refine X.off (X.off_t rfl rfl rfl (X.and_ff (X.and_ff (X.and_ff h_1)))) rfl ?_
  refine X.opR rfl (X.pickand_f (y := (ref06_in c.Long 1 1440)) rfl (X.and_ff (X.and_ff (X.and_ff h_1))) rfl) rfl (X.q rfl (GS.opsNil ?_))
  exact X.norm _ hg rfl (sr rfl)
 subst hM
 exact GS.ret ⟨_, rfl, ⟨30, rfl⟩⟩
theorem ok_ref06_berth {h : api_Harbour} {id : Int} {r : Int} (hM : ref06_berth h id = some r) : Ct Tryz.prog 43 [(e_api_Harbour h), (V.i id)] (V.i r) := by
 refine ct_of_gs CC_ok rfl ?_
 unfold ref06_berth at hM
 refine X.sq ?_
 refine X.opW rfl rfl rfl rfl (X.q rfl (GS.opsNil (GS.seq (X.sq (X.q rfl (GS.opsNil ?_))))))
 refine X.join (τ := Unit) (fun v => ref06_berth_j1 = some r) (fun v => ⟨[], [], 0, none, 22⟩) ?_ ?_
 ·intro _ hM
  replace hM : ref06_berth_j1 = some r := hM
  unfold ref06_berth_j1 at hM
  refine X.sq (X.q rfl (GS.opsNil ?_))
  cases hM
  exact GS.ret ⟨_, rfl, ⟨30, rfl⟩⟩
 intro hj_1
 refine GS.block ?_
 refine X.gc [some 0] (X.loop (σ := Int) (fun v => ⟨[(1, (V.i id)), (2, (V.ptr 0 0 0)), (5, (V.i v))], [.rows 6 [(e_api_Harbour h)]], 0, none, 22⟩) hM ?_ rfl) rfl rfl rfl (ga rfl rfl) (gb9 rfl rfl rfl gb_nil)
 intro i b_1 hM hc_2 hr_1
 rw [ref06_berth_b2] at hM
 refine GS.seq (X.sq (X.q rfl (X.q rfl (X.q rfl ?_))))
 refine X.opR rfl (X.lenF rfl rfl rfl) rfl (X.q rfl (GS.opsNil ?_))
 refine X.cond rfl (fun h_1 => ?_) (fun h_1 => ?_)
 ·replace hM := ite_t h_1 hM
  refine GS.skip (GS.seq (GS.block (GS.seq ?_)))
  obtain ⟨x, h_2, hM⟩ := bind_of hM
  refine GS.region (X.q rfl (X.q rfl (X.q rfl ?_)))
  refine X.opR rfl (X.indexF (f := e_api_Berth) h_2 (fun _ => rfl) rfl rfl rfl rfl) rfl (X.q rfl ?_)
  refine X.opR rfl (X.loadF h_2 rfl rfl rfl) rfl (X.q rfl (X.q rfl ?_))
  refine GS.opsNil ?_
  refine X.cond rfl (fun h_3 => ?_) (fun h_3 => ?_)
  ·replace hM := ite_t h_3 hM
   refine X.sq (X.q rfl (X.q rfl ?_))
   refine GS.opsNil ?_
   have hE := Option.some.inj hM
   replace hE := hr_1 _ hE.symm
   subst hE
   exact GS.ret ⟨_, rfl, ⟨30, rfl⟩⟩
  replace hM := ite_f h_3 hM
  refine GS.skip ?_
  refine GS.endB (GS.region (X.q rfl ?_))
  refine X.opR rfl (X.addE rfl rfl) rfl (X.q rfl (GS.opsNil ?_))
  have hE := Option.some.inj hM
  exact X.gc [some 0] (hc_2 (w64 (i + 1)) hE.symm) rfl rfl rfl (ga rfl rfl) (gb9 rfl rfl rfl gb_nil)
 replace hM := ite_f h_1 hM
 refine GS.exit rfl ?_
 obtain ⟨y_1, hM, hy⟩ := map_of hM
 rw [hr_1 _ hy.symm] at hM
 exact X.gc [] (hj_1 () hM) rfl rfl rfl (gk_nil) (gb_nil)
theorem ok_ref06_slot {h : api_Harbour} {x : api_Slot} {r : Bool} (hM : ref06_slot h x = some r) : Ct Tryz.prog 59 [(e_api_Harbour h), (e_api_Slot x)] (V.b r) := by
 refine ct_of_gs CC_ok rfl ?_
 unfold ref06_slot at hM
 refine X.sq ?_
 iterate 2 refine X.opW rfl rfl rfl rfl ?_
 refine X.q rfl (GS.opsNil (GS.seq ?_))
 obtain ⟨y, h_1, hM⟩ := gb_of hM
 refine GS.region ?_
 refine X.mid [(4, (V.b ((ref06_in x.Tide 0 (w64 ((h.Tides.length : Int) - 1))) && (decide (0 ≤ y)))))] ?_ ?_
 ·intro hg
  refine X.split ((ref06_in x.Tide 0 (w64 ((h.Tides.length : Int) - 1)))) (fun h_2 => ?_) (fun h_2 => ?_)
  ·iterate 4 refine X.q rfl ?_
   refine X.opR rfl (X.lenF rfl rfl rfl) rfl ?_
   refine X.opR rfl (X.subE rfl rfl) rfl ?_
   refine X.call (ok_ref06_in x.Tide 0 (w64 ((h.Tides.length : Int) - 1))) rfl rfl rfl (.cons (.shut (n := 9) rfl) (.cons (.shut (n := 9) rfl) (.cons (.shut (n := 9) rfl) .nil))) (X.q rfl ?_)
   iterate 3 refine X.opR (X.on_t rfl rfl rfl h_2) rfl rfl ?_
   refine X.call (ok_ref06_berth (h_1 h_2)) (X.on_t rfl rfl rfl h_2) rfl rfl (.cons (.shut (n := 9) rfl) (.cons (.shut (n := 9) rfl) .nil)) ?_
   refine X.opR (X.on_t rfl rfl rfl h_2) rfl rfl ?_
   refine X.opR rfl (X.pickand_t (y := decide (0 ≤ y)) rfl h_2 rfl) rfl (X.q rfl (GS.opsNil ?_))
   exact X.norm _ hg rfl (sr rfl)
  iterate 4 refine X.q rfl ?_
  refine X.opR rfl (X.lenF rfl rfl rfl) rfl ?_
  refine X.opR rfl (X.subE rfl rfl) rfl ?_
  refine X.call (ok_ref06_in x.Tide 0 (w64 ((h.Tides.length : Int) - 1))) rfl rfl rfl (.cons (.shut (n := 9) rfl) (.cons (.shut (n := 9) rfl) (.cons (.shut (n := 9) rfl) .nil))) (X.q rfl ?_)
  iterate 5 refine X.off (X.off_t rfl rfl rfl h_2) rfl ?_
  refine X.opR rfl (X.pickand_f (y := decide (0 ≤ y)) rfl h_2 rfl) rfl (X.q rfl (GS.opsNil ?_))
  exact X.norm _ hg rfl (sr rfl)
 cases hM
 exact GS.ret ⟨_, rfl, ⟨30, rfl⟩⟩
theorem ok_ref02_correction {w : api_Water} {tick : Int} {r : Int} (hM : ref02_correction w tick = some r) : Ct Tryz.prog 139 [(e_api_Water w), (V.i tick)] (V.i r) := by
 refine ct_of_gs CC_ok rfl ?_
 unfold ref02_correction at hM
 refine X.sq ?_
 refine X.opW rfl rfl rfl rfl (X.q rfl (GS.opsNil (GS.seq ?_)))
 obtain ⟨q, h_1, hM⟩ := bind_of hM
 refine GS.region (X.q rfl ?_)
 refine X.opR rfl (X.quoE h_1 rfl rfl) rfl (X.q rfl (GS.opsNil (GS.seq (X.sq (X.q rfl (GS.opsNil ?_))))))
 refine X.join (τ := Unit) (fun v => ref02_correction_j1 = some r) (fun v => ⟨[], [], 0, none, 40⟩) ?_ ?_
 ·intro _ hM
  replace hM : ref02_correction_j1 = some r := hM
  unfold ref02_correction_j1 at hM
  refine X.sq (X.q rfl (GS.opsNil ?_))
  cases hM
  exact GS.ret ⟨_, rfl, ⟨30, rfl⟩⟩
 intro hj_1
 refine GS.block ?_
 refine X.gc [some 0] (X.loop (σ := Int) (fun v => ⟨[(2, (V.ptr 0 0 0)), (5, (V.i q)), (6, (V.i v))], [.rows 3 [(e_api_Water w)]], 0, none, 40⟩) hM ?_ rfl) rfl rfl rfl (ga rfl rfl) (gb9 rfl rfl rfl gb_nil)
 intro i b_1 hM hc_2 hr_1
 rw [ref02_correction_b2] at hM
 refine GS.seq (X.sq (X.q rfl (X.q rfl (X.q rfl ?_))))
 refine X.opR rfl (X.lenF rfl rfl rfl) rfl (X.q rfl (GS.opsNil ?_))
 refine X.cond rfl (fun h_2 => ?_) (fun h_2 => ?_)
 ·replace hM := ite_t h_2 hM
  refine GS.skip (GS.seq (GS.block (GS.seq ?_)))
  obtain ⟨x, h_3, hM⟩ := bind_of hM
  obtain ⟨x1, h_4, hM⟩ := gb_of hM
  refine GS.region ?_
  refine X.mid [(2, (V.ptr 0 0 0)), (5, (V.i q)), (6, (V.i i)), (33, (V.b ((decide (x.From ≤ q)) && (decide (q ≤ x1.To)))))] ?_ ?_
  ·intro hg
   refine X.split (decide (x.From ≤ q)) (fun h_5 => ?_) (fun h_5 => ?_)
   ·iterate 3 refine X.q rfl ?_
    refine X.opR rfl (X.indexF (f := e_api_Shift) h_3 (fun _ => rfl) rfl rfl rfl rfl) rfl (X.q rfl ?_)
    refine X.opR rfl (X.loadF h_3 rfl rfl rfl) rfl (X.q rfl (X.q rfl (X.q rfl ?_)))
    iterate 4 refine X.opR (X.on_t rfl rfl rfl h_5) rfl rfl ?_
    refine X.opR (X.on_t rfl rfl rfl h_5) (X.indexF (f := e_api_Shift) (h_4 h_5) (fun _ => rfl) rfl rfl rfl rfl) rfl ?_
    refine X.opR (X.on_t rfl rfl rfl h_5) rfl rfl ?_
    refine X.opR (X.on_t rfl rfl rfl h_5) (X.loadF (h_4 h_5) rfl rfl rfl) rfl ?_
    refine X.opR (X.on_t rfl rfl rfl h_5) rfl rfl ?_
    refine X.opR rfl (X.pickand_t (y := decide (q ≤ x1.To)) rfl h_5 rfl) rfl (GS.opsNil ?_)
    exact X.norm _ hg rfl (sr rfl)
   iterate 3 refine X.q rfl ?_
   refine X.opR rfl (X.indexF (f := e_api_Shift) h_3 (fun _ => rfl) rfl rfl rfl rfl) rfl (X.q rfl ?_)
   refine X.opR rfl (X.loadF h_3 rfl rfl rfl) rfl (X.q rfl (X.q rfl (X.q rfl ?_)))
   iterate 8 refine X.off (X.off_t rfl rfl rfl h_5) rfl ?_
   refine X.opR rfl (X.pickand_f (y := decide (q ≤ x1.To)) rfl h_5 rfl) rfl (GS.opsNil ?_)
   exact X.norm _ hg rfl (sr rfl)
  refine X.cond rfl (fun h_6 => ?_) (fun h_6 => ?_)
  ·replace hM := ite_t h_6 hM
   refine GS.seq ?_
   obtain ⟨x2, h_7, hM⟩ := bind_of hM
   refine GS.region (X.q rfl (X.q rfl (X.q rfl ?_)))
   refine X.opR rfl (X.indexF (f := e_api_Shift) h_7 (fun _ => rfl) rfl rfl rfl rfl) rfl (X.q rfl ?_)
   refine X.opR rfl (X.loadF h_7 rfl rfl rfl) rfl (X.q rfl (GS.opsNil ?_))
   have hE := Option.some.inj hM
   replace hE := hr_1 _ hE.symm
   subst hE
   exact GS.ret ⟨_, rfl, ⟨30, rfl⟩⟩
  replace hM := ite_f h_6 hM
  refine GS.skip ?_
  refine GS.endB (GS.region (X.q rfl ?_))
  refine X.opR rfl (X.addE rfl rfl) rfl (X.q rfl (GS.opsNil ?_))
  have hE := Option.some.inj hM
  exact X.gc [some 0] (hc_2 (w64 (i + 1)) hE.symm) rfl rfl rfl (ga rfl rfl) (gb9 rfl rfl rfl gb_nil)
 replace hM := ite_f h_2 hM
 refine GS.exit rfl ?_
 obtain ⟨y_1, hM, hy⟩ := map_of hM
 rw [hr_1 _ hy.symm] at hM
 exact X.gc [] (hj_1 () hM) rfl rfl rfl (gk_nil) (gb_nil)
theorem ok_ref02_floor {a : Int} {b : Int} {r : Int} (hM : ref02_floor a b = some r) : Ct Tryz.prog 149 [(V.i a), (V.i b)] (V.i r) := by
 refine ct_of_gs CC_ok rfl ?_
 unfold ref02_floor at hM
 refine X.sq (X.q rfl (GS.opsNil (GS.seq ?_)))
 obtain ⟨q, h_1, hM⟩ := bind_of hM
 refine GS.region (X.q rfl (X.q rfl ?_))
 refine X.opR rfl (X.quoE h_1 rfl rfl) rfl (X.q rfl (GS.opsNil ?_))
 iterate 2 refine GS.seq ?_
 obtain ⟨q1, h_2, hM⟩ := bind_of hM
 refine GS.region (X.q rfl (X.q rfl ?_))
 refine X.opR rfl (X.remE h_2 rfl rfl) rfl (X.q rfl (GS.opsNil ?_))
 refine X.join (τ := Int) (fun v => ref02_floor_j1 v = some r) (fun v => ⟨[(5, (V.i v))], [], 0, none, 16⟩) ?_ ?_
 ·intro q2 hM
  replace hM : ref02_floor_j1 q2 = some r := hM
  unfold ref02_floor_j1 at hM
  refine X.sq (X.q rfl (X.q rfl ?_))
  refine GS.opsNil ?_
  cases hM
  exact GS.ret ⟨_, rfl, ⟨30, rfl⟩⟩
 intro hj_1
 refine X.cond rfl (fun h_3 => ?_) (fun h_3 => ?_)
 ·replace hM := ite_t h_3 hM
  refine GS.region (X.q rfl ?_)
  refine X.opR rfl (X.subE rfl rfl) rfl (X.q rfl (GS.opsNil ?_))
  exact X.gc [] (hj_1 (w64 (q - 1)) hM) rfl rfl rfl (ga rfl rfl) (gb_nil)
 replace hM := ite_f h_3 hM
 refine GS.skip ?_
 exact X.gc [] (hj_1 q hM) rfl rfl rfl (ga rfl rfl) (gb_nil)
theorem ok_ref02_Of {c : api_Cycle} {tick : Int} {r : Int} (hM : ref02_Of c tick = some r) : Ct Tryz.prog 140 [(e_api_Cycle c), (V.i tick)] (V.i r) := by
 refine ct_of_gs CC_ok rfl ?_
 unfold ref02_Of at hM
 refine X.sq ?_
 refine X.opW rfl rfl rfl rfl (X.q rfl (X.nq (X.q rfl (X.q rfl ?_))))
 refine X.opR rfl (X.lenF rfl rfl rfl) rfl (X.q rfl (GS.opsNil (GS.seq ?_)))
 obtain ⟨y, h_1, hM⟩ := bind_of hM
 refine GS.region (X.q rfl (X.q rfl (X.q rfl ?_)))
 refine X.opR rfl (X.subE rfl rfl) rfl (X.q rfl (X.q rfl ?_))
 refine X.call (ok_ref02_floor h_1) rfl rfl rfl (.cons (.shut (n := 9) rfl) (.cons (.shut (n := 9) rfl) .nil)) (X.q rfl (GS.opsNil (GS.seq ?_)))
 obtain ⟨y1, h_2, hM⟩ := bind_of hM
 obtain ⟨x, h_3, hM⟩ := bind_of hM
 refine X.drawc (by kernel_rfl) rfl ?_
 iterate 5 refine X.cop rfl rfl rfl rfl ?_
 refine X.ccall (ok_ref02_floor h_2) rfl rfl rfl rfl (.cons (.shut (n := 9) rfl) (.cons (.shut (n := 9) rfl) .nil)) ?_
 refine X.cop rfl rfl rfl rfl ?_
 refine X.cop rfl (X.mulE rfl rfl) rfl rfl ?_
 refine X.cop rfl (X.subE rfl rfl) rfl rfl ?_
 refine X.cop rfl (X.indexF (f := V.i) h_3 (fun _ => rfl) rfl rfl rfl rfl) rfl rfl ?_
 refine X.cop rfl (X.loadF h_3 rfl rfl rfl) rfl rfl ?_
 refine X.cop rfl rfl rfl rfl ?_
 refine X.cnil ?_
 refine X.norm [(4, (V.i x))] ?_ rfl (sr rfl)
 cases hM
 exact GS.ret ⟨_, rfl, ⟨30, rfl⟩⟩
theorem ok_ref02_rest {w : api_Water} {tick : Int} {r : Int} (hM : ref02_rest w tick = some r) : Ct Tryz.prog 114 [(e_api_Water w), (V.i tick)] (V.i r) := by
 refine ct_of_gs CC_ok rfl ?_
 unfold ref02_rest at hM
 refine X.sq ?_
 refine X.opW rfl rfl rfl rfl (X.q rfl (GS.opsNil (GS.seq ?_)))
 obtain ⟨y, h_1, hM⟩ := bind_of hM
 refine GS.region (X.q rfl (X.q rfl ?_))
 refine X.call (ok_ref02_correction h_1) rfl rfl rfl (.cons (.shut (n := 9) rfl) (.cons (.shut (n := 9) rfl) .nil)) (X.q rfl (GS.opsNil (GS.seq (X.sq (X.q rfl (GS.opsNil ?_))))))
 refine X.join (τ := Int) (fun v => ref02_rest_j1 v = some r) (fun v => ⟨[(5, (V.i v))], [], 0, none, 27⟩) ?_ ?_
 ·intro h hM
  replace hM : ref02_rest_j1 h = some r := hM
  unfold ref02_rest_j1 at hM
  refine X.sq (X.q rfl (X.q rfl ?_))
  refine GS.opsNil ?_
  cases hM
  exact GS.ret ⟨_, rfl, ⟨30, rfl⟩⟩
 intro hj_1
 refine GS.block ?_
 refine X.gc [some 0] (X.loop (σ := (Int × Int)) (fun v => ⟨[(1, (V.i tick)), (2, (V.ptr 0 0 0)), (5, (V.i v.1)), (6, (V.i v.2))], [.rows 3 [(e_api_Water w)]], 0, none, 27⟩) hM ?_ rfl) rfl rfl rfl (ga rfl rfl) (gb9 rfl rfl rfl gb_nil)
 rintro ⟨h1, i⟩ b_1 hM hc_2 hr_1
 rw [ref02_rest_b2] at hM
 refine GS.seq (X.sq (X.q rfl (X.q rfl (X.q rfl ?_))))
 refine X.opR rfl (X.lenF rfl rfl rfl) rfl (X.q rfl (GS.opsNil ?_))
 refine X.cond rfl (fun h_2 => ?_) (fun h_2 => ?_)
 ·replace hM := ite_t h_2 hM
  refine GS.skip (GS.seq (GS.block ?_))
  obtain ⟨x, h_3, hM⟩ := bind_of hM
  obtain ⟨y1, h_4, hM⟩ := bind_of hM
  refine GS.region ?_
  iterate 4 refine X.q rfl ?_
  refine X.opR rfl (X.indexF (f := e_api_Cycle) h_3 (fun _ => rfl) rfl rfl rfl rfl) rfl ?_
  refine X.opR rfl (X.loadF h_3 rfl rfl rfl) rfl (X.q rfl ?_)
  refine X.call (ok_ref02_Of h_4) rfl rfl rfl (.cons (.shut (n := 9) rfl) (.cons (.shut (n := 9) rfl) .nil)) ?_
  refine X.opR rfl (X.addE rfl rfl) rfl (X.q rfl (GS.opsNil ?_))
  refine GS.endB (GS.region (X.q rfl ?_))
  refine X.opR rfl (X.addE rfl rfl) rfl (X.q rfl (GS.opsNil ?_))
  have hE := Option.some.inj hM
  exact X.gc [some 0] (hc_2 (w64 (h1 + y1), w64 (i + 1)) hE.symm) rfl rfl rfl (ga rfl rfl) (gb9 rfl rfl rfl gb_nil)
 replace hM := ite_f h_2 hM
 refine GS.exit rfl ?_
 obtain ⟨y_1, hM, hy⟩ := map_of hM
 rw [hr_1 _ hy.symm] at hM
 exact X.gc [] (hj_1 h1 hM) rfl rfl rfl (ga rfl rfl) (gb_nil)
theorem ok_ref02_At {w : api_Water} {tick : Int} {r : Int} (hM : ref02_At w tick = some r) : Ct Tryz.prog 85 [(e_api_Water w), (V.i tick)] (V.i r) := by
 refine ct_of_gs CC_ok rfl ?_
 unfold ref02_At at hM
 refine X.sq ?_
 refine X.opW rfl rfl rfl rfl (X.q rfl (GS.opsNil (GS.seq ?_)))
 obtain ⟨y, h_1, hM⟩ := bind_of hM
 refine X.drawc (by kernel_rfl) rfl ?_
 iterate 4 refine X.cop rfl rfl rfl rfl ?_
 refine X.ccall (ok_ref02_rest h_1) rfl rfl rfl rfl (.cons (.shut (n := 9) rfl) (.cons (.shut (n := 9) rfl) .nil)) ?_
 refine X.cop rfl (X.addE rfl rfl) rfl rfl ?_
 refine X.cop rfl rfl rfl rfl ?_
 refine X.cnil ?_
 refine X.norm [(4, (V.i (w64 (w.Level + y))))] ?_ rfl (sr rfl)
 cases hM
 exact GS.ret ⟨_, rfl, ⟨30, rfl⟩⟩
theorem ok_ref06_depth {h : api_Harbour} {at_ : Int} {tick : Int} {r : Int} (hM : ref06_depth h at_ tick = some r) : Ct Tryz.prog 45 [(e_api_Harbour h), (V.i at_), (V.i tick)] (V.i r) := by
 refine ct_of_gs CC_ok rfl ?_
 unfold ref06_depth at hM
 refine X.sq ?_
 refine X.opW rfl rfl rfl rfl (X.q rfl (GS.opsNil (GS.seq ?_)))
 obtain ⟨x, h_1, hM⟩ := bind_of hM
 obtain ⟨y, h_2, hM⟩ := bind_of hM
 refine X.drawc (by kernel_rfl) rfl ?_
 iterate 3 refine X.cop rfl rfl rfl rfl ?_
 refine X.cop rfl (X.indexF (f := e_api_Berth) h_1 (fun _ => rfl) rfl rfl rfl rfl) rfl rfl ?_
 refine X.cop rfl rfl rfl rfl ?_
 refine X.cop rfl (X.loadF h_1 rfl rfl rfl) rfl rfl ?_
 iterate 3 refine X.cop rfl rfl rfl rfl ?_
 refine X.ccall (ok_ref02_At h_2) rfl rfl rfl rfl (.cons (.shut (n := 9) rfl) (.cons (.shut (n := 9) rfl) .nil)) ?_
 refine X.cop rfl (X.addE rfl rfl) rfl rfl ?_
 refine X.cop rfl rfl rfl rfl ?_
 refine X.cnil ?_
 refine X.norm [(6, (V.i (w64 (x.Depth + y))))] ?_ rfl (sr rfl)
 cases hM
 exact GS.ret ⟨_, rfl, ⟨30, rfl⟩⟩
theorem ok_ref06_when {h : api_Harbour} {c : api_Call} {x : api_Slot} {r : api_Span × Bool} (hM : ref06_when h c x = some r) : Ct Tryz.prog 60 [(e_api_Harbour h), (e_api_Call c), (e_api_Slot x)] (V.tup [(e_api_Span r.1), (V.b r.2)]) := by
 refine ct_of_gs CC_ok rfl ?_
 unfold ref06_when at hM
 refine X.sq ?_
 iterate 3 refine X.opW rfl rfl rfl rfl ?_
 refine X.opW (H' := [.rows 6 [(e_api_Harbour h)], .rows 5 [(e_api_Call c)], .rows 2 [(e_api_Slot x)], .rows 2 [(V.agg [(V.i 0), (V.i 0)])]]) rfl rfl rfl rfl (X.q rfl (GS.opsNil (GS.seq ?_)))
 obtain ⟨x1, h_1, hM⟩ := bind_of hM
 refine GS.region ?_
 iterate 4 refine X.q rfl ?_
 refine X.opR rfl (X.indexF (f := e_api_Span) h_1 (fun _ => rfl) rfl rfl rfl rfl) rfl ?_
 refine X.opR rfl (X.loadF h_1 rfl rfl rfl) rfl ?_
 refine X.opW (H' := [.rows 6 [(e_api_Harbour h)], .rows 5 [(e_api_Call c)], .rows 2 [(e_api_Slot x)], .rows 2 [(V.agg [(V.i 0), (V.i 0)])], .rows 2 [(V.agg [(V.i 0), (V.i 0)])]]) rfl rfl rfl rfl ?_
 refine X.op0W (H' := [.rows 6 [(e_api_Harbour h)], .rows 5 [(e_api_Call c)], .rows 2 [(e_api_Slot x)], .rows 2 [(V.agg [(V.i 0), (V.i 0)])], .rows 2 [(e_api_Span x1)]]) rfl rfl rfl (GS.opsNil (GS.seq ?_))
 obtain ⟨y, h_2, hM⟩ := bind_of hM
 refine GS.region (X.q rfl (X.q rfl (X.q rfl ?_)))
 refine X.call (ok_ref06_berth h_2) rfl rfl rfl (.cons (.shut (n := 9) rfl) (.cons (.shut (n := 9) rfl) .nil)) ?_
 refine X.opR rfl (X.maxE rfl rfl) rfl (X.q rfl (X.nq (X.q rfl (GS.opsNil (GS.seq (X.sq ?_))))))
 iterate 4 refine X.q rfl ?_
 refine X.opR rfl (X.maxE rfl rfl) rfl (X.q rfl (GS.opsNil ?_))
 refine X.join (τ := Unit) (fun v => ref06_when_j1 = some r) (fun v => ⟨[(6, (V.ptr 0 0 0))], [.rows 2 [(V.agg [(V.i 0), (V.i 0)])]], 0, none, 61⟩) ?_ ?_
 ·intro _ hM
  replace hM : ref06_when_j1 = some r := hM
  unfold ref06_when_j1 at hM
  refine X.sq (X.q rfl ?_)
  refine X.op0W rfl rfl rfl (X.q rfl (GS.opsNil ?_))
  cases hM
  exact GS.ret ⟨_, rfl, ⟨30, rfl⟩⟩
 intro hj_1
 refine GS.block ?_
 refine X.gc [some 0, some 1, some 3, some 4] (X.loop (σ := (Int × Int)) (fun v => ⟨[(3, (V.ptr 0 0 0)), (4, (V.ptr 1 0 0)), (6, (V.ptr 2 0 0)), (8, (V.ptr 3 0 0)), (9, (V.i (max 0 y))), (10, (V.i v.1)), (11, (V.i v.2))], [.rows 6 [(e_api_Harbour h)], .rows 5 [(e_api_Call c)], .rows 2 [(V.agg [(V.i 0), (V.i 0)])], .rows 2 [(e_api_Span x1)]], 0, none, 61⟩) hM ?_ rfl) rfl rfl rfl (ga rfl rfl) (gb9 rfl rfl rfl (gb9 rfl rfl rfl (gb9 rfl rfl rfl (gb9 rfl rfl rfl gb_nil))))
 rintro ⟨run1, n⟩ b_1 hM hc_2 hr_1
 rw [ref06_when_b2] at hM
 refine GS.seq (X.sq ?_)
 iterate 5 refine X.q rfl ?_
 refine X.opR rfl (X.minE rfl rfl) rfl (X.q rfl (GS.opsNil ?_))
 refine X.cond rfl (fun h_3 => ?_) (fun h_3 => ?_)
 ·replace hM := ite_t h_3 hM
  refine GS.skip (GS.seq (GS.block (X.sq (X.q rfl ?_))))
  refine X.opR rfl (X.addE rfl rfl) rfl (X.q rfl (GS.opsNil ?_))
  iterate 2 refine GS.seq ?_
  obtain ⟨y1, h_4, hM⟩ := bind_of hM
  refine X.drawc (by kernel_rfl) rfl ?_
  iterate 3 refine X.cop rfl rfl rfl rfl ?_
  refine X.ccall (ok_ref06_depth h_4) rfl rfl rfl rfl (.cons (.shut (n := 9) rfl) (.cons (.shut (n := 9) rfl) (.cons (.shut (n := 9) rfl) .nil))) ?_
  iterate 4 refine X.cop rfl rfl rfl rfl ?_
  refine X.cop rfl (X.addE rfl rfl) rfl rfl ?_
  refine X.cop rfl rfl rfl rfl ?_
  refine X.cnil ?_
  refine X.norm [(3, (V.ptr 0 0 0)), (4, (V.ptr 1 0 0)), (6, (V.ptr 2 0 0)), (8, (V.ptr 3 0 0)), (9, (V.i (max 0 y))), (10, (V.i (w64 (run1 + 1)))), (11, (V.i n)), (48, (V.b (decide (y1 < (w64 (c.Draught + h.Keel))))))] ?_ rfl (sr rfl)
  refine X.join (τ := Int) (fun v => ref06_when_j3 c n v = some b_1) (fun v => ⟨[(3, (V.ptr 0 0 0)), (4, (V.ptr 1 0 0)), (6, (V.ptr 2 0 0)), (8, (V.ptr 3 0 0)), (9, (V.i (max 0 y))), (10, (V.i v)), (11, (V.i n))], [.rows 6 [(e_api_Harbour h)], .rows 5 [(e_api_Call c)], .rows 2 [(V.agg [(V.i 0), (V.i 0)])], .rows 2 [(e_api_Span x1)]], 0, none, 61⟩) ?_ ?_
  ·intro run hM
   replace hM : ref06_when_j3 c n run = some b_1 := hM
   unfold ref06_when_j3 at hM
   refine X.sq ?_
   iterate 4 refine X.q rfl ?_
   refine GS.opsNil ?_
   refine X.cond rfl (fun h_5 => ?_) (fun h_5 => ?_)
   ·replace hM := ite_t h_5 hM
    refine X.sq (X.q rfl (X.q rfl (X.q rfl ?_)))
    refine X.opR rfl (X.subE rfl rfl) rfl ?_
    refine X.opR rfl (X.addE rfl rfl) rfl (X.q rfl (X.q rfl ?_))
    refine X.op0W (H' := [.rows 6 [(e_api_Harbour h)], .rows 5 [(e_api_Call c)], .rows 2 [(V.agg [(V.i (w64 ((w64 (n - c.Long)) + 1))), (V.i n)])], .rows 2 [(e_api_Span x1)]]) rfl rfl rfl (X.q rfl (GS.opsNil ?_))
    have hE := Option.some.inj hM
    replace hE := hr_1 _ hE.symm
    subst hE
    exact GS.ret ⟨_, rfl, ⟨30, rfl⟩⟩
   replace hM := ite_f h_5 hM
   refine GS.skip ?_
   refine GS.endB (GS.region (X.q rfl ?_))
   refine X.opR rfl (X.addE rfl rfl) rfl (X.q rfl (GS.opsNil ?_))
   have hE := Option.some.inj hM
   exact X.gc [some 0, some 1, some 2, some 3] (hc_2 (run, w64 (n + 1)) hE.symm) rfl rfl rfl (ga rfl rfl) (gb9 rfl rfl rfl (gb9 rfl rfl rfl (gb9 rfl rfl rfl (gb9 rfl rfl rfl gb_nil))))
  intro hj_3
  refine X.cond rfl (fun h_6 => ?_) (fun h_6 => ?_)
  ·replace hM := ite_t h_6 hM
   refine GS.region (X.q rfl (GS.opsNil ?_))
   exact X.gc [some 0, some 1, some 2, some 3] (hj_3 0 hM) rfl rfl rfl (ga rfl rfl) (gb9 rfl rfl rfl (gb9 rfl rfl rfl (gb9 rfl rfl rfl (gb9 rfl rfl rfl gb_nil))))
  replace hM := ite_f h_6 hM
  refine GS.skip ?_
  exact X.gc [some 0, some 1, some 2, some 3] (hj_3 (w64 (run1 + 1)) hM) rfl rfl rfl (ga rfl rfl) (gb9 rfl rfl rfl (gb9 rfl rfl rfl (gb9 rfl rfl rfl (gb9 rfl rfl rfl gb_nil))))
 replace hM := ite_f h_3 hM
 refine GS.exit rfl ?_
 obtain ⟨y_1, hM, hy⟩ := map_of hM
 rw [hr_1 _ hy.symm] at hM
 exact X.gc [some 2] (hj_1 () hM) rfl rfl rfl (ga rfl rfl) (gb9 rfl rfl rfl gb_nil)
theorem ok_ref06_When {h : api_Harbour} {c : api_Call} {x : api_Slot} {r : api_Span × Bool × Int} (hM : ref06_When h c x = some r) : Ct Tryz.prog 18 [(e_api_Harbour h), (e_api_Call c), (e_api_Slot x)] (V.tup [(e_api_Span r.1), (V.b r.2.1), (V.i r.2.2)]) := by
 refine ct_of_gs CC_ok rfl ?_
 unfold ref06_When at hM
 refine X.sq ?_
 iterate 3 refine X.opW rfl rfl rfl rfl ?_
 refine X.opW (H' := [.rows 6 [(e_api_Harbour h)], .rows 5 [(e_api_Call c)], .rows 2 [(e_api_Slot x)], .rows 2 [(V.agg [(V.i 0), (V.i 0)])]]) rfl rfl rfl rfl (X.q rfl (X.q rfl ?_))
 refine GS.opsNil (GS.seq ?_)
 obtain ⟨y, h_1, hM⟩ := bind_of hM
 refine GS.region (X.q rfl ?_)
 refine X.call (ok_ref06_Check h_1) rfl rfl rfl (.cons (.shut (n := 9) rfl) .nil) (X.q rfl (GS.opsNil (GS.seq (X.sq (X.q rfl (X.q rfl ?_))))))
 refine GS.opsNil ?_
 refine X.cond rfl (fun h_2 => ?_) (fun h_2 => ?_)
 ·replace hM := ite_t h_2 hM
  refine X.sq (X.q rfl (X.q rfl ?_))
  refine X.op0W (H' := [.rows 6 [(e_api_Harbour h)], .rows 5 [(e_api_Call c)], .rows 2 [(e_api_Slot x)], .rows 2 [(V.agg [(V.i 0), (V.i 0)])]]) rfl rfl rfl (X.q rfl (X.q rfl ?_))
  refine GS.opsNil ?_
  cases hM
  exact GS.ret ⟨_, rfl, ⟨30, rfl⟩⟩
 replace hM := ite_f h_2 hM
 refine GS.skip (X.sq (X.q rfl ?_))
 refine X.call (ok_ref06_valid c) rfl rfl rfl (.cons (.shut (n := 9) rfl) .nil) (X.q rfl (GS.opsNil (GS.seq (X.sq (X.q rfl (X.q rfl ?_))))))
 refine GS.opsNil ?_
 refine X.cond rfl (fun h_3 => ?_) (fun h_3 => ?_)
 ·replace hM := ite_t h_3 hM
  refine X.sq (X.q rfl ?_)
  refine X.op0W (H' := [.rows 6 [(e_api_Harbour h)], .rows 5 [(e_api_Call c)], .rows 2 [(e_api_Slot x)], .rows 2 [(V.agg [(V.i 0), (V.i 0)])]]) rfl rfl rfl (X.q rfl (X.q rfl ?_))
  refine GS.opsNil ?_
  cases hM
  exact GS.ret ⟨_, rfl, ⟨30, rfl⟩⟩
 replace hM := ite_f h_3 hM
 refine GS.skip (GS.seq ?_)
 obtain ⟨y1, h_4, hM⟩ := bind_of hM
 refine GS.region (X.q rfl (X.q rfl ?_))
 refine X.call (ok_ref06_slot h_4) rfl rfl rfl (.cons (.shut (n := 9) rfl) (.cons (.shut (n := 9) rfl) .nil)) (X.q rfl (GS.opsNil (GS.seq (X.sq (X.q rfl (X.q rfl ?_))))))
 refine GS.opsNil ?_
 refine X.cond rfl (fun h_5 => ?_) (fun h_5 => ?_)
 ·replace hM := ite_t h_5 hM
  refine X.sq (X.q rfl ?_)
  refine X.op0W (H' := [.rows 6 [(e_api_Harbour h)], .rows 5 [(e_api_Call c)], .rows 2 [(e_api_Slot x)], .rows 2 [(V.agg [(V.i 0), (V.i 0)])]]) rfl rfl rfl (X.q rfl (X.q rfl ?_))
  refine GS.opsNil ?_
  cases hM
  exact GS.ret ⟨_, rfl, ⟨30, rfl⟩⟩
 replace hM := ite_f h_5 hM
 refine GS.skip (GS.seq ?_)
 obtain ⟨y2, h_6, hM⟩ := bind_of hM
 refine GS.region (X.q rfl (X.q rfl (X.q rfl ?_)))
 refine X.call (ok_ref06_when h_6) rfl rfl rfl (.cons (.shut (n := 9) rfl) (.cons (.shut (n := 9) rfl) (.cons (.shut (n := 9) rfl) .nil))) (X.q rfl (X.q rfl (X.q rfl ?_)))
 refine X.opW (H' := [.rows 6 [(e_api_Harbour h)], .rows 5 [(e_api_Call c)], .rows 2 [(e_api_Slot x)], .rows 2 [(V.agg [(V.i 0), (V.i 0)])], .rows 2 [(V.agg [(V.i 0), (V.i 0)])]]) rfl rfl rfl rfl ?_
 refine X.op0W (H' := [.rows 6 [(e_api_Harbour h)], .rows 5 [(e_api_Call c)], .rows 2 [(e_api_Slot x)], .rows 2 [(V.agg [(V.i 0), (V.i 0)])], .rows 2 [(e_api_Span y2.1)]]) rfl rfl rfl (X.q rfl (X.nq (X.q rfl (X.q rfl ?_))))
 refine X.op0W (H' := [.rows 6 [(e_api_Harbour h)], .rows 5 [(e_api_Call c)], .rows 2 [(e_api_Slot x)], .rows 2 [(e_api_Span y2.1)], .rows 2 [(e_api_Span y2.1)]]) rfl rfl rfl (X.q rfl (X.q rfl ?_))
 refine GS.opsNil ?_
 cases hM
 exact GS.ret ⟨_, rfl, ⟨30, rfl⟩⟩
theorem ok_ref06_Allow {h : api_Harbour} {x : api_Slot} {long : Int} {r : Int × Int} (hM : ref06_Allow h x long = some r) : Ct Tryz.prog 20 [(e_api_Harbour h), (e_api_Slot x), (V.i long)] (V.tup [(V.i r.1), (V.i r.2)]) := by
 refine ct_of_gs CC_ok rfl ?_
 unfold ref06_Allow at hM
 refine X.sq ?_
 iterate 2 refine X.opW rfl rfl rfl rfl ?_
 refine X.q rfl (X.q rfl ?_)
 refine GS.opsNil (GS.seq ?_)
 obtain ⟨y, h_1, hM⟩ := bind_of hM
 refine GS.region (X.q rfl ?_)
 refine X.call (ok_ref06_Check h_1) rfl rfl rfl (.cons (.shut (n := 9) rfl) .nil) (X.q rfl (GS.opsNil (GS.seq (X.sq (X.q rfl (X.q rfl ?_))))))
 refine GS.opsNil ?_
 refine X.cond rfl (fun h_2 => ?_) (fun h_2 => ?_)
 ·replace hM := ite_t h_2 hM
  refine X.sq (X.q rfl (X.q rfl (X.q rfl ?_)))
  refine GS.opsNil ?_
  cases hM
  exact GS.ret ⟨_, rfl, ⟨30, rfl⟩⟩
 replace hM := ite_f h_2 hM
 refine GS.skip (GS.seq ?_)
 obtain ⟨y1, h_3, hM⟩ := bind_of hM
 refine GS.region (X.q rfl (X.q rfl ?_))
 refine X.call (ok_ref06_slot h_3) rfl rfl rfl (.cons (.shut (n := 9) rfl) (.cons (.shut (n := 9) rfl) .nil)) (X.q rfl (GS.opsNil (GS.seq (X.sq (X.q rfl (X.q rfl ?_))))))
 refine GS.opsNil ?_
 refine X.cond rfl (fun h_4 => ?_) (fun h_4 => ?_)
 ·replace hM := ite_t h_4 hM
  refine X.sq (X.q rfl (X.q rfl ?_))
  refine GS.opsNil ?_
  cases hM
  exact GS.ret ⟨_, rfl, ⟨30, rfl⟩⟩
 replace hM := ite_f h_4 hM
 refine GS.skip (GS.seq (X.sq (X.q rfl ?_)))
 refine X.call (ok_ref06_in long 1 1440) rfl rfl rfl (.cons (.shut (n := 9) rfl) (.cons (.shut (n := 9) rfl) (.cons (.shut (n := 9) rfl) .nil))) (X.q rfl (GS.opsNil ?_))
 refine X.cond rfl (fun h_5 => ?_) (fun h_5 => ?_)
 ·replace hM := ite_t h_5 hM
  refine X.sq (X.q rfl (X.q rfl ?_))
  refine GS.opsNil ?_
  cases hM
  exact GS.ret ⟨_, rfl, ⟨30, rfl⟩⟩
 replace hM := ite_f h_5 hM
 refine GS.skip (GS.seq ?_)
 obtain ⟨x1, h_6, hM⟩ := bind_of hM
 refine GS.region ?_
 iterate 4 refine X.q rfl ?_
 refine X.opR rfl (X.indexF (f := e_api_Span) h_6 (fun _ => rfl) rfl rfl rfl rfl) rfl ?_
 refine X.opR rfl (X.loadF h_6 rfl rfl rfl) rfl ?_
 refine X.opW rfl rfl rfl rfl ?_
 refine X.op0W rfl rfl rfl (GS.opsNil (GS.seq ?_))
 obtain ⟨y2, h_7, hM⟩ := bind_of hM
 refine GS.region (X.q rfl (X.q rfl (X.q rfl ?_)))
 refine X.call (ok_ref06_berth h_7) rfl rfl rfl (.cons (.shut (n := 9) rfl) (.cons (.shut (n := 9) rfl) .nil)) ?_
 refine X.opR rfl (X.maxE rfl rfl) rfl (X.q rfl (X.nq (X.q rfl (GS.opsNil (GS.seq (X.sq (X.q rfl (X.q rfl (X.q rfl ?_)))))))))
 refine GS.opsNil ?_
 refine X.join (τ := Int) (fun v => ref06_Allow_j1 v = some r) (fun v => ⟨[(12, (V.i v))], [], 0, none, 79⟩) ?_ ?_
 ·intro best hM
  replace hM : ref06_Allow_j1 best = some r := hM
  unfold ref06_Allow_j1 at hM
  refine GS.seq (X.sq (X.q rfl (X.q rfl ?_)))
  refine GS.opsNil ?_
  refine X.cond rfl (fun h_8 => ?_) (fun h_8 => ?_)
  ·replace hM := ite_t h_8 hM
   refine X.sq (X.q rfl (X.q rfl ?_))
   refine GS.opsNil ?_
   cases hM
   exact GS.ret ⟨_, rfl, ⟨30, rfl⟩⟩
  replace hM := ite_f h_8 hM
  refine GS.skip (X.sq (X.q rfl ?_))
  refine X.opR rfl (X.minE rfl rfl) rfl (X.q rfl (X.q rfl ?_))
  refine GS.opsNil ?_
  cases hM
  exact GS.ret ⟨_, rfl, ⟨30, rfl⟩⟩
 intro hj_1
 refine GS.block ?_
 refine X.gc [some 0, some 2] (X.loop (σ := (Int × Int)) (fun v => ⟨[(2, (V.i long)), (3, (V.ptr 0 0 0)), (10, (V.ptr 1 0 0)), (11, (V.i (max 0 y2))), (12, (V.i v.1)), (13, (V.i v.2))], [.rows 6 [(e_api_Harbour h)], .rows 2 [(e_api_Span x1)]], 0, none, 79⟩) hM ?_ rfl) rfl rfl rfl (ga rfl rfl) (gb9 rfl rfl rfl (gb9 rfl rfl rfl gb_nil))
 rintro ⟨best1, n⟩ b_1 hM hc_2 hr_1
 rw [ref06_Allow_b2] at hM
 refine GS.seq (X.sq (X.q rfl (X.q rfl ?_)))
 refine X.opR rfl (X.addE rfl rfl) rfl ?_
 refine X.opR rfl (X.subE rfl rfl) rfl (X.q rfl (X.q rfl (X.q rfl ?_)))
 refine GS.opsNil ?_
 refine X.cond rfl (fun h_9 => ?_) (fun h_9 => ?_)
 ·replace hM := ite_t h_9 hM
  refine GS.skip (GS.seq (GS.block (GS.seq ?_)))
  obtain ⟨y3, h_10, hM⟩ := bind_of hM
  refine GS.region (X.q rfl (X.q rfl (X.q rfl ?_)))
  refine X.call (ok_ref06_depth h_10) rfl rfl rfl (.cons (.shut (n := 9) rfl) (.cons (.shut (n := 9) rfl) (.cons (.shut (n := 9) rfl) .nil))) (X.q rfl (GS.opsNil (GS.seq (X.sq (X.q rfl (X.q rfl ?_))))))
  refine GS.opsNil ?_
  refine X.join (τ := Int) (fun v => ref06_Allow_j3 h best1 n v = some b_1) (fun v => ⟨[(2, (V.i long)), (3, (V.ptr 0 0 0)), (10, (V.ptr 1 0 0)), (11, (V.i (max 0 y2))), (12, (V.i best1)), (13, (V.i n)), (14, (V.i v))], [.rows 6 [(e_api_Harbour h)], .rows 2 [(e_api_Span x1)]], 0, none, 79⟩) ?_ ?_
  ·intro least hM
   replace hM : ref06_Allow_j3 h best1 n least = some b_1 := hM
   unfold ref06_Allow_j3 at hM
   refine GS.region ?_
   iterate 4 refine X.q rfl ?_
   refine X.opR rfl (X.subE rfl rfl) rfl ?_
   refine X.opR rfl (X.maxE rfl rfl) rfl (X.q rfl (GS.opsNil ?_))
   refine GS.endB (GS.region (X.q rfl ?_))
   refine X.opR rfl (X.addE rfl rfl) rfl (X.q rfl (GS.opsNil ?_))
   have hE := Option.some.inj hM
   exact X.gc [some 0, some 1] (hc_2 (max best1 (w64 (least - h.Keel)), w64 (n + 1)) hE.symm) rfl rfl rfl (ga rfl rfl) (gb9 rfl rfl rfl (gb9 rfl rfl rfl gb_nil))
  intro hj_3
  refine GS.block ?_
  refine X.gc [some 0, some 1] (X.loop (σ := (Int × Int)) (fun v => ⟨[(2, (V.i long)), (3, (V.ptr 0 0 0)), (10, (V.ptr 1 0 0)), (11, (V.i (max 0 y2))), (12, (V.i best1)), (13, (V.i n)), (14, (V.i v.1)), (15, (V.i v.2))], [.rows 6 [(e_api_Harbour h)], .rows 2 [(e_api_Span x1)]], 0, none, 79⟩) hM ?_ rfl) rfl rfl rfl (ga rfl rfl) (gb9 rfl rfl rfl (gb9 rfl rfl rfl gb_nil))
  rintro ⟨least1, k⟩ b_2 hM hc_4 hr_2
  rw [ref06_Allow_b4] at hM
  refine GS.seq (X.sq (X.q rfl (X.q rfl (X.q rfl ?_))))
  refine X.opR rfl (X.addE rfl rfl) rfl (X.q rfl (GS.opsNil ?_))
  refine X.cond rfl (fun h_11 => ?_) (fun h_11 => ?_)
  ·replace hM := ite_t h_11 hM
   refine GS.skip (GS.seq (GS.block ?_))
   obtain ⟨y4, h_12, hM⟩ := bind_of hM
   refine GS.region ?_
   iterate 4 refine X.q rfl ?_
   refine X.call (ok_ref06_depth h_12) rfl rfl rfl (.cons (.shut (n := 9) rfl) (.cons (.shut (n := 9) rfl) (.cons (.shut (n := 9) rfl) .nil))) ?_
   refine X.opR rfl (X.minE rfl rfl) rfl (X.q rfl (GS.opsNil ?_))
   refine GS.endB (GS.region (X.q rfl ?_))
   refine X.opR rfl (X.addE rfl rfl) rfl (X.q rfl (GS.opsNil ?_))
   have hE := Option.some.inj hM
   exact X.gc [some 0, some 1] (hc_4 (min least1 y4, w64 (k + 1)) hE.symm) rfl rfl rfl (ga rfl rfl) (gb9 rfl rfl rfl (gb9 rfl rfl rfl gb_nil))
  replace hM := ite_f h_11 hM
  refine GS.exit rfl ?_
  obtain ⟨y_2, hM, hy⟩ := map_of hM
  rw [hr_2 _ hy.symm] at hM
  exact X.gc [some 0, some 1] (hj_3 least1 hM) rfl rfl rfl (ga rfl rfl) (gb9 rfl rfl rfl (gb9 rfl rfl rfl gb_nil))
 replace hM := ite_f h_9 hM
 refine GS.exit rfl ?_
 obtain ⟨y_1, hM, hy⟩ := map_of hM
 rw [hr_1 _ hy.symm] at hM
 exact X.gc [] (hj_1 best1 hM) rfl rfl rfl (ga rfl rfl) (gb_nil)
theorem ok_berth_Slots {h : api_Harbour} {c : api_Call} {r : (List api_Slot) × Int} (hM : berth_Slots h c = some r) : Ct Tryz.prog 21 [(e_api_Harbour h), (e_api_Call c)] (V.tup [(V.sl (List.map e_api_Slot r.1)), (V.i r.2)]) := by
 refine ct_of_gs CC_ok rfl ?_
 unfold berth_Slots at hM
 refine X.sq ?_
 iterate 2 refine X.opW rfl rfl rfl rfl ?_
 refine X.q rfl (X.q rfl ?_)
 refine GS.opsNil ?_
 iterate 2 refine GS.seq ?_
 obtain ⟨y, h_1, hM⟩ := bind_of hM
 refine GS.region (X.q rfl ?_)
 refine X.call (ok_berth_Check h_1) rfl rfl rfl (.cons (.shut (n := 9) rfl) .nil) (X.q rfl (X.nq (X.q rfl (X.q rfl ?_))))
 refine GS.opsNil ?_
 refine X.cond rfl (fun h_2 => ?_) (fun h_2 => ?_)
 ·replace hM := ite_t h_2 hM
  refine X.sq (X.q rfl (X.q rfl (X.q rfl ?_)))
  refine GS.opsNil ?_
  cases hM
  exact GS.ret ⟨_, rfl, ⟨30, rfl⟩⟩
 replace hM := ite_f h_2 hM
 refine GS.skip (GS.seq (X.sq (X.q rfl ?_)))
 refine X.call (ok_berth_right c) rfl rfl rfl (.cons (.shut (n := 9) rfl) .nil) (X.q rfl (GS.opsNil ?_))
 refine X.cond rfl (fun h_3 => ?_) (fun h_3 => ?_)
 ·replace hM := ite_t h_3 hM
  refine X.sq (X.q rfl (X.q rfl ?_))
  refine GS.opsNil ?_
  cases hM
  exact GS.ret ⟨_, rfl, ⟨30, rfl⟩⟩
 replace hM := ite_f h_3 hM
 refine GS.skip (GS.seq ?_)
 obtain ⟨y1, h_4, hM⟩ := bind_of hM
 refine GS.region (X.q rfl (X.q rfl ?_))
 refine X.call (ok_berth_taken h_4) rfl rfl rfl (.cons (.shut (n := 9) rfl) (.cons (.shut (n := 9) rfl) .nil)) ?_
 iterate 5 refine X.q rfl ?_
 refine X.nq (X.q rfl (X.q rfl (X.q rfl ?_)))
 refine GS.opsNil ?_
 cases hM
 exact GS.ret ⟨_, rfl, ⟨30, rfl⟩⟩
abbrev e_ref06_Taken (x : ref06_Taken) : V := .agg [(V.sl (List.map e_api_Slot x.L)), (V.i x.E)]
theorem ok_ref06_slots {h : api_Harbour} {c : api_Call} {r : (List api_Slot)} (hM : ref06_slots h c = some r) : Ct Tryz.prog 63 [(e_api_Harbour h), (e_api_Call c)] (V.sl (List.map e_api_Slot r)) := by
 refine ct_of_gs CC_ok rfl ?_
 unfold ref06_slots at hM
 refine X.sq ?_
 iterate 2 refine X.opW rfl rfl rfl rfl ?_
 refine X.q rfl (X.nq (X.q rfl (GS.opsNil (GS.seq (X.sq (X.q rfl (GS.opsNil ?_)))))))
 refine X.join (τ := (List api_Slot)) (fun v => ref06_slots_j1 v = some r) (fun v => ⟨[(5, (ovl 0 v))], [obl 2 e_api_Slot v], 0, none, 46⟩) ?_ ?_
 ·intro l hM
  replace hM : ref06_slots_j1 l = some r := hM
  unfold ref06_slots_j1 at hM
  refine X.sq (X.q rfl (X.q rfl ?_))
  refine GS.opsNil ?_
  have hE := Option.some.inj hM
  subst hE
  exact GS.ret ⟨_, rfl, FR.ovl (f := e_api_Slot) (l := l) 9 rfl rfl (fun _ => rfl)⟩
 intro hj_1
 refine GS.block ?_
 refine X.gc [some 0, some 1, none] (X.loop (σ := (Int × (List api_Slot))) (fun v => ⟨[(2, (V.ptr 0 0 0)), (3, (V.ptr 1 0 0)), (5, (ovl 2 v.2)), (6, (V.i v.1))], [.rows 6 [(e_api_Harbour h)], .rows 5 [(e_api_Call c)], obl 2 e_api_Slot v.2], 0, none, 46⟩) hM ?_ rfl) rfl rfl rfl (ga rfl rfl) (gb9 rfl rfl rfl (gb9 rfl rfl rfl (gb_pad' rfl gb_nil)))
 rintro ⟨t, l5⟩ b_1 hM hc_2 hr_1
 rw [ref06_slots_b2] at hM
 refine GS.seq (X.sq (X.q rfl (X.q rfl (X.q rfl ?_))))
 refine X.opR rfl (X.lenF rfl rfl rfl) rfl (X.q rfl (GS.opsNil ?_))
 refine X.cond rfl (fun h_1 => ?_) (fun h_1 => ?_)
 ·replace hM := ite_t h_1 hM
  refine GS.skip (GS.seq (GS.block (X.sq (X.q rfl (GS.opsNil ?_)))))
  refine X.join (τ := (List api_Slot)) (fun v => ref06_slots_j3 t v = some b_1) (fun v => ⟨[(2, (V.ptr 0 0 0)), (3, (V.ptr 1 0 0)), (5, (ovl 2 v)), (6, (V.i t))], [.rows 6 [(e_api_Harbour h)], .rows 5 [(e_api_Call c)], obl 2 e_api_Slot v], 0, none, 46⟩) ?_ ?_
  ·intro l1 hM
   replace hM : ref06_slots_j3 t l1 = some b_1 := hM
   unfold ref06_slots_j3 at hM
   refine GS.endB (GS.region (X.q rfl ?_))
   refine X.opR rfl (X.addE rfl rfl) rfl (X.q rfl (GS.opsNil ?_))
   have hE := Option.some.inj hM
   exact X.gc [some 0, some 1, some 2] (hc_2 (w64 (t + 1), l1) hE.symm) rfl rfl rfl (gk_cons rfl ⟨9, rfl⟩ (gk_cons rfl ⟨9, rfl⟩ (gk_cons rfl (rn_ovl rfl) (ga rfl rfl)))) (gb9 rfl rfl rfl (gb9 rfl rfl rfl (gb_obl 9 rfl rfl (fun _ => rfl) gb_nil)))
  intro hj_3
  refine GS.block ?_
  refine X.gc [some 0, some 1, some 2] (X.loop (σ := (Int × (List api_Slot))) (fun v => ⟨[(2, (V.ptr 0 0 0)), (3, (V.ptr 1 0 0)), (5, (ovl 2 v.2)), (6, (V.i t)), (7, (V.i v.1))], [.rows 6 [(e_api_Harbour h)], .rows 5 [(e_api_Call c)], obl 2 e_api_Slot v.2], 0, none, 46⟩) hM ?_ rfl) rfl rfl rfl (gk_cons rfl ⟨9, rfl⟩ (gk_cons rfl ⟨9, rfl⟩ (gk_cons rfl (rn_ovl rfl) (ga rfl rfl)))) (gb9 rfl rfl rfl (gb9 rfl rfl rfl (gb_obl 9 rfl rfl (fun _ => rfl) gb_nil)))
  rintro ⟨b, l4⟩ b_2 hM hc_4 hr_2
  rw [ref06_slots_b4] at hM
  refine GS.seq (X.sq (X.q rfl (X.q rfl (X.q rfl ?_))))
  refine X.opR rfl (X.lenF rfl rfl rfl) rfl (X.q rfl (GS.opsNil ?_))
  refine X.cond rfl (fun h_2 => ?_) (fun h_2 => ?_)
  ·replace hM := ite_t h_2 hM
   refine GS.skip (GS.seq ?_)
   refine X.join (τ := (List api_Slot)) (fun v => ref06_slots_j5 b v = some b_2) (fun v => ⟨[(2, (V.ptr 0 0 0)), (3, (V.ptr 1 0 0)), (5, (ovl 2 v)), (6, (V.i t)), (7, (V.i b))], [.rows 6 [(e_api_Harbour h)], .rows 5 [(e_api_Call c)], obl 2 e_api_Slot v], 0, none, 46⟩) ?_ ?_
   ·intro l2 hM
    replace hM : ref06_slots_j5 b l2 = some b_2 := hM
    unfold ref06_slots_j5 at hM
    refine GS.region (X.q rfl ?_)
    refine X.opR rfl (X.addE rfl rfl) rfl (X.q rfl (GS.opsNil ?_))
    have hE := Option.some.inj hM
    exact X.gc [some 0, some 1, some 2] (hc_4 (w64 (b + 1), l2) hE.symm) rfl rfl rfl (gk_cons rfl ⟨9, rfl⟩ (gk_cons rfl ⟨9, rfl⟩ (gk_cons rfl (rn_ovl rfl) (ga rfl rfl)))) (gb9 rfl rfl rfl (gb9 rfl rfl rfl (gb_obl 9 rfl rfl (fun _ => rfl) gb_nil)))
   intro hj_5
   refine GS.block (GS.seq ?_)
   obtain ⟨x, h_3, hM⟩ := bind_of hM
   refine GS.region ?_
   iterate 4 refine X.q rfl ?_
   refine X.opR rfl (X.indexF (f := e_api_Berth) h_3 (fun _ => rfl) rfl rfl rfl rfl) rfl (X.q rfl ?_)
   refine X.opR rfl (X.loadF h_3 rfl rfl rfl) rfl (X.q rfl ?_)
   refine X.opW (H' := [.rows 6 [(e_api_Harbour h)], .rows 5 [(e_api_Call c)], obl 2 e_api_Slot l4, .rows 2 [(V.agg [(V.i 0), (V.i 0)])]]) rfl rfl rfl rfl ?_
   refine X.op0W (H' := [.rows 6 [(e_api_Harbour h)], .rows 5 [(e_api_Call c)], obl 2 e_api_Slot l4, .rows 2 [(V.agg [(V.i t), (V.i x.ID)])]]) rfl rfl rfl (GS.opsNil (GS.seq ?_))
   obtain ⟨y, h_4, hM⟩ := bind_of hM
   refine GS.region (X.q rfl (X.q rfl (X.q rfl ?_)))
   refine X.call (ok_ref06_when h_4) rfl rfl rfl (.cons (.shut (n := 9) rfl) (.cons (.shut (n := 9) rfl) (.cons (.shut (n := 9) rfl) .nil))) (X.q rfl (X.q rfl (X.q rfl ?_)))
   refine X.opW (H' := [.rows 6 [(e_api_Harbour h)], .rows 5 [(e_api_Call c)], obl 2 e_api_Slot l4, .rows 2 [(V.agg [(V.i t), (V.i x.ID)])], .rows 2 [(V.agg [(V.i 0), (V.i 0)])]]) rfl rfl rfl rfl ?_
   refine X.op0W (H' := [.rows 6 [(e_api_Harbour h)], .rows 5 [(e_api_Call c)], obl 2 e_api_Slot l4, .rows 2 [(V.agg [(V.i t), (V.i x.ID)])], .rows 2 [(e_api_Span y.1)]]) rfl rfl rfl (X.q rfl (X.nq (X.q rfl (GS.opsNil ?_))))
   refine X.cond rfl (fun h_5 => ?_) (fun h_5 => ?_)
   ·replace hM := ite_t h_5 hM
    obtain ⟨l3, h_6, hM⟩ := bind_of hM
    refine GS.region (X.q rfl (X.q rfl ?_))
    refine X.opW (H' := [.rows 6 [(e_api_Harbour h)], .rows 5 [(e_api_Call c)], obl 2 e_api_Slot l4, .rows 2 [(V.agg [(V.i t), (V.i x.ID)])], .rows 2 [(e_api_Span y.1)], .rows 2 (List.map e_api_Slot ([(⟨t, x.ID⟩ : api_Slot)]))]) rfl rfl rfl rfl ?_
    refine X.appN (f := e_api_Slot) h_6 (fun _ => rfl) (by rfl) (by rfl) (by rfl) (by rfl) (by rfl) (by rfl) (by rfl) (by rfl) (by rfl) (by rfl) (by rfl) (by exact rfl) (by rfl) (by rfl) (X.q rfl (GS.opsNil ?_))
    refine GS.endB ?_
    exact X.gc [some 0, some 1, some 6] (hj_5 l3 hM) rfl rfl rfl (gk_cons rfl ⟨9, rfl⟩ (gk_cons rfl ⟨9, rfl⟩ (gk_cons rfl (rv_ne (app_ne h_6) rfl) (ga rfl rfl)))) (gb9 rfl rfl rfl (gb9 rfl rfl rfl (gb_obl' 9 (app_ne h_6) rfl rfl (fun _ => rfl) gb_nil)))
   replace hM := ite_f h_5 hM
   refine GS.skip ?_
   refine GS.endB ?_
   exact X.gc [some 0, some 1, some 2] (hj_5 l4 hM) rfl rfl rfl (gk_cons rfl ⟨9, rfl⟩ (gk_cons rfl ⟨9, rfl⟩ (gk_cons rfl (rn_ovl rfl) (ga rfl rfl)))) (gb9 rfl rfl rfl (gb9 rfl rfl rfl (gb_obl 9 rfl rfl (fun _ => rfl) gb_nil)))
  replace hM := ite_f h_2 hM
  refine GS.exit rfl ?_
  obtain ⟨y_2, hM, hy⟩ := map_of hM
  rw [hr_2 _ hy.symm] at hM
  exact X.gc [some 0, some 1, some 2] (hj_3 l4 hM) rfl rfl rfl (gk_cons rfl ⟨9, rfl⟩ (gk_cons rfl ⟨9, rfl⟩ (gk_cons rfl (rn_ovl rfl) (ga rfl rfl)))) (gb9 rfl rfl rfl (gb9 rfl rfl rfl (gb_obl 9 rfl rfl (fun _ => rfl) gb_nil)))
 replace hM := ite_f h_1 hM
 refine GS.exit rfl ?_
 obtain ⟨y_1, hM, hy⟩ := map_of hM
 rw [hr_1 _ hy.symm] at hM
 exact X.gc [some 2] (hj_1 l5 hM) rfl rfl rfl (gk_cons rfl (rn_ovl rfl) gk_nil) (gb_obl 9 rfl rfl (fun _ => rfl) gb_nil)
theorem ok_ref06_Slots {h : api_Harbour} {c : api_Call} {r : ref06_Taken} (hM : ref06_Slots h c = some r) : Ct Tryz.prog 22 [(e_api_Harbour h), (e_api_Call c)] (e_ref06_Taken r) := by
 refine ct_of_gs CC_ok rfl ?_
 unfold ref06_Slots at hM
 refine X.sq ?_
 iterate 3 refine X.opW rfl rfl rfl rfl ?_
 refine GS.opsNil (GS.seq ?_)
 obtain ⟨y, h_1, hM⟩ := bind_of hM
 refine GS.region (X.q rfl ?_)
 refine X.call (ok_ref06_Check h_1) rfl rfl rfl (.cons (.shut (n := 9) rfl) .nil) (X.q rfl (GS.opsNil (GS.seq (X.sq (X.q rfl (X.q rfl ?_))))))
 refine GS.opsNil ?_
 refine X.cond rfl (fun h_2 => ?_) (fun h_2 => ?_)
 ·replace hM := ite_t h_2 hM
  refine X.sq (X.q rfl (X.q rfl ?_))
  refine X.op0W rfl rfl rfl (GS.opsNil ?_)
  cases hM
  exact GS.ret ⟨_, rfl, ⟨30, rfl⟩⟩
 replace hM := ite_f h_2 hM
 refine GS.skip (X.sq (X.q rfl ?_))
 refine X.call (ok_ref06_valid c) rfl rfl rfl (.cons (.shut (n := 9) rfl) .nil) (X.q rfl (GS.opsNil (GS.seq (X.sq (X.q rfl (X.q rfl ?_))))))
 refine GS.opsNil ?_
 refine X.cond rfl (fun h_3 => ?_) (fun h_3 => ?_)
 ·replace hM := ite_t h_3 hM
  refine X.sq (X.q rfl ?_)
  refine X.op0W rfl rfl rfl (GS.opsNil ?_)
  cases hM
  exact GS.ret ⟨_, rfl, ⟨30, rfl⟩⟩
 replace hM := ite_f h_3 hM
 refine GS.skip (GS.seq ?_)
 obtain ⟨y1, h_4, hM⟩ := bind_of hM
 refine GS.region (X.q rfl (X.q rfl ?_))
 refine X.call (ok_ref06_slots h_4) rfl rfl rfl (.cons (.shut (n := 9) rfl) (.cons (.shut (n := 9) rfl) .nil)) (X.q rfl ?_)
 refine X.op0W rfl rfl rfl (GS.opsNil ?_)
 cases hM
 exact GS.ret ⟨_, rfl, ⟨30, rfl⟩⟩
theorem ok_ref06_SameSlots {a : (List api_Slot)} {b : (List api_Slot)} {r : Bool} (hM : ref06_SameSlots a b = some r) : Ct Tryz.prog 23 [(V.sl (List.map e_api_Slot a)), (V.sl (List.map e_api_Slot b))] (V.b r) := by
 refine ct_of_gs CC_ok rfl ?_
 unfold ref06_SameSlots at hM
 refine X.sq (X.q rfl (GS.opsNil (GS.seq (X.sq (X.q rfl ?_)))))
 refine X.opR rfl (X.lenF rfl rfl rfl) rfl (X.q rfl ?_)
 refine X.opR rfl (X.lenF rfl rfl rfl) rfl (X.q rfl (GS.opsNil ?_))
 refine X.cond rfl (fun h_1 => ?_) (fun h_1 => ?_)
 ·replace hM := ite_t h_1 hM
  refine X.sq (X.q rfl (GS.opsNil ?_))
  cases hM
  exact GS.ret ⟨_, rfl, ⟨30, rfl⟩⟩
 replace hM := ite_f h_1 hM
 refine GS.skip (GS.seq (X.sq (X.q rfl (GS.opsNil ?_))))
 refine X.join (τ := Unit) (fun v => ref06_SameSlots_j1 = some r) (fun v => ⟨[], [], 0, none, 26⟩) ?_ ?_
 ·intro _ hM
  replace hM : ref06_SameSlots_j1 = some r := hM
  unfold ref06_SameSlots_j1 at hM
  refine X.sq (X.q rfl (GS.opsNil ?_))
  cases hM
  exact GS.ret ⟨_, rfl, ⟨30, rfl⟩⟩
 intro hj_1
 refine GS.block ?_
 refine X.gc [] (X.loop (σ := Int) (fun v => ⟨[(0, (V.sl (List.map e_api_Slot a))), (1, (V.sl (List.map e_api_Slot b))), (5, (V.i v))], [], 0, none, 26⟩) hM ?_ rfl) rfl rfl rfl (ga rfl rfl) (gb_nil)
 intro i b_1 hM hc_2 hr_1
 rw [ref06_SameSlots_b2] at hM
 refine GS.seq (X.sq (X.q rfl (X.q rfl ?_)))
 refine X.opR rfl (X.lenF rfl rfl rfl) rfl (X.q rfl (GS.opsNil ?_))
 refine X.cond rfl (fun h_2 => ?_) (fun h_2 => ?_)
 ·replace hM := ite_t h_2 hM
  refine GS.skip (GS.seq (GS.block (GS.seq ?_)))
  obtain ⟨x, h_3, hM⟩ := bind_of hM
  obtain ⟨x1, h_4, hM⟩ := bind_of hM
  refine X.drawc (by kernel_rfl) rfl ?_
  iterate 2 refine X.cop rfl rfl rfl rfl ?_
  refine X.cop rfl (X.indexF (f := e_api_Slot) h_3 (fun _ => rfl) rfl rfl rfl rfl) rfl rfl ?_
  refine X.cop rfl (X.loadF h_3 rfl rfl rfl) rfl rfl ?_
  iterate 2 refine X.cop rfl rfl rfl rfl ?_
  refine X.cop rfl (X.indexF (f := e_api_Slot) h_4 (fun _ => rfl) rfl rfl rfl rfl) rfl rfl ?_
  refine X.cop rfl (X.loadF h_4 rfl rfl rfl) rfl rfl ?_
  refine X.cop rfl (X.neqE (eq_api_Slot x x1) rfl rfl) rfl rfl ?_
  refine X.cnil ?_
  refine X.norm [(0, (V.sl (List.map e_api_Slot a))), (1, (V.sl (List.map e_api_Slot b))), (5, (V.i i)), (25, (V.b (!decide (x = x1))))] ?_ rfl (sr rfl)
  refine X.cond rfl (fun h_5 => ?_) (fun h_5 => ?_)
  ·replace hM := ite_t h_5 hM
   refine X.sq (X.q rfl (GS.opsNil ?_))
   have hE := Option.some.inj hM
   replace hE := hr_1 _ hE.symm
   subst hE
   exact GS.ret ⟨_, rfl, ⟨30, rfl⟩⟩
  replace hM := ite_f h_5 hM
  refine GS.skip ?_
  refine GS.endB (GS.region (X.q rfl ?_))
  refine X.opR rfl (X.addE rfl rfl) rfl (X.q rfl (GS.opsNil ?_))
  have hE := Option.some.inj hM
  exact X.gc [] (hc_2 (w64 (i + 1)) hE.symm) rfl rfl rfl (ga rfl rfl) (gb_nil)
 replace hM := ite_f h_2 hM
 refine GS.exit rfl ?_
 obtain ⟨y_1, hM, hy⟩ := map_of hM
 rw [hr_1 _ hy.symm] at hM
 exact X.gc [] (hj_1 () hM) rfl rfl rfl (gk_nil) (gb_nil)
set_option maxHeartbeats 4000000 in
theorem ok_law06_BerthSlots {h : api_Harbour} {c : api_Call} {x : api_Slot} {long : Int} {r : Bool} (hM : law06_BerthSlots h c x long = some r) : Ct Tryz.prog 4 [(e_api_Harbour h), (e_api_Call c), (e_api_Slot x), (V.i long)] (V.b r) := by
 refine ct_of_gs CC_ok rfl ?_
 unfold law06_BerthSlots at hM
 refine X.sq ?_
 iterate 3 refine X.opW rfl rfl rfl rfl ?_
 refine X.q rfl (GS.opsNil ?_)
 iterate 2 refine GS.seq ?_
 obtain ⟨y, h_1, hM⟩ := bind_of hM
 refine GS.region (X.q rfl ?_)
 refine X.call (ok_law06_small h_1) rfl rfl rfl (.cons (.shut (n := 9) rfl) .nil) (X.q rfl (GS.opsNil ?_))
 refine X.cond rfl (fun h_2 => ?_) (fun h_2 => ?_)
 ·replace hM := ite_t h_2 hM
  refine GS.seq ?_
  obtain ⟨y1, h_3, hM⟩ := bind_of hM
  refine GS.region ?_
  refine X.call (ok_law06_sanity h_3) rfl rfl rfl .nil (X.q rfl (GS.opsNil ?_))
  cases hM
  exact GS.ret ⟨_, rfl, ⟨30, rfl⟩⟩
 replace hM := ite_f h_2 hM
 refine GS.skip (GS.seq ?_)
 obtain ⟨y2, h_4, hM⟩ := bind_of hM
 refine GS.region (X.q rfl (X.q rfl (X.q rfl ?_)))
 refine X.call (ok_berth_When h_4) rfl rfl rfl (.cons (.shut (n := 9) rfl) (.cons (.shut (n := 9) rfl) (.cons (.shut (n := 9) rfl) .nil))) ?_
 iterate 4 refine X.q rfl ?_
 refine X.opW (H' := [.rows 6 [(e_api_Harbour h)], .rows 5 [(e_api_Call c)], .rows 2 [(e_api_Slot x)], .rows 2 [(V.agg [(V.i 0), (V.i 0)])]]) rfl rfl rfl rfl ?_
 refine X.op0W (H' := [.rows 6 [(e_api_Harbour h)], .rows 5 [(e_api_Call c)], .rows 2 [(e_api_Slot x)], .rows 2 [(e_api_Span y2.1)]]) rfl rfl rfl (X.q rfl (X.q rfl ?_))
 refine GS.opsNil (GS.seq ?_)
 obtain ⟨y3, h_5, hM⟩ := bind_of hM
 refine GS.region (X.q rfl (X.q rfl (X.q rfl ?_)))
 refine X.call (ok_ref06_When h_5) rfl rfl rfl (.cons (.shut (n := 9) rfl) (.cons (.shut (n := 9) rfl) (.cons (.shut (n := 9) rfl) .nil))) ?_
 iterate 4 refine X.q rfl ?_
 refine X.opW (H' := [.rows 6 [(e_api_Harbour h)], .rows 5 [(e_api_Call c)], .rows 2 [(e_api_Slot x)], .rows 2 [(e_api_Span y2.1)], .rows 2 [(V.agg [(V.i 0), (V.i 0)])]]) rfl rfl rfl rfl ?_
 refine X.op0W (H' := [.rows 6 [(e_api_Harbour h)], .rows 5 [(e_api_Call c)], .rows 2 [(e_api_Slot x)], .rows 2 [(e_api_Span y2.1)], .rows 2 [(e_api_Span y3.1)]]) rfl rfl rfl (X.q rfl (X.q rfl ?_))
 refine GS.opsNil (GS.seq ?_)
 obtain ⟨y4, h_6, hM⟩ := bind_of hM
 refine GS.region (X.q rfl (X.q rfl (X.q rfl ?_)))
 refine X.call (ok_berth_Allow h_6) rfl rfl rfl (.cons (.shut (n := 9) rfl) (.cons (.shut (n := 9) rfl) (.cons (.shut (n := 9) rfl) .nil))) ?_
 iterate 5 refine X.q rfl ?_
 refine GS.opsNil (GS.seq ?_)
 obtain ⟨y5, h_7, hM⟩ := bind_of hM
 refine GS.region (X.q rfl (X.q rfl (X.q rfl ?_)))
 refine X.call (ok_ref06_Allow h_7) rfl rfl rfl (.cons (.shut (n := 9) rfl) (.cons (.shut (n := 9) rfl) (.cons (.shut (n := 9) rfl) .nil))) ?_
 iterate 5 refine X.q rfl ?_
 refine GS.opsNil (GS.seq ?_)
 obtain ⟨y6, h_8, hM⟩ := bind_of hM
 refine GS.region (X.q rfl (X.q rfl ?_))
 refine X.call (ok_berth_Slots h_8) rfl rfl rfl (.cons (.shut (n := 9) rfl) (.cons (.shut (n := 9) rfl) .nil)) ?_
 iterate 5 refine X.q rfl ?_
 refine GS.opsNil (GS.seq ?_)
 obtain ⟨y7, h_9, hM⟩ := bind_of hM
 refine GS.region (X.q rfl (X.q rfl ?_))
 refine X.call (ok_ref06_Slots h_9) rfl rfl rfl (.cons (.shut (n := 9) rfl) (.cons (.shut (n := 9) rfl) .nil)) ?_
 refine X.opW (H' := [.rows 6 [(e_api_Harbour h)], .rows 5 [(e_api_Call c)], .rows 2 [(e_api_Slot x)], .rows 2 [(e_api_Span y2.1)], .rows 2 [(e_api_Span y3.1)], .rows 2 [(V.agg [V.nil, (V.i 0)])]]) rfl rfl rfl rfl ?_
 refine X.op0W (H' := [.rows 6 [(e_api_Harbour h)], .rows 5 [(e_api_Call c)], .rows 2 [(e_api_Slot x)], .rows 2 [(e_api_Span y2.1)], .rows 2 [(e_api_Span y3.1)], .rows 2 [(e_ref06_Taken y7)]]) rfl rfl rfl (GS.opsNil (GS.seq ?_))
 obtain ⟨y8, h_10, hM⟩ := bind_of hM
 obtain ⟨y9, h_11, hM⟩ := gb_of hM
 refine GS.region ?_
 refine X.mid [(8, (V.b (((((((y8 && (decide (y2.1 = y3.1))) && (y2.2.1 == y3.2.1)) && (decide (y2.2.2 = y3.2.2))) && (decide (y4.1 = y5.1))) && (decide (y4.2 = y5.2))) && y9) && (decide (y6.2 = y7.E)))))] ?_ ?_
 ·intro hg
  refine X.split (y8) (fun h_12 => ?_) (fun h_12 => ?_)
  ·refine X.split ((y8 && (decide (y2.1 = y3.1)))) (fun h_13 => ?_) (fun h_13 => ?_)
   ·refine X.split (((y8 && (decide (y2.1 = y3.1))) && (y2.2.1 == y3.2.1))) (fun h_14 => ?_) (fun h_14 => ?_)
    ·refine X.split ((((y8 && (decide (y2.1 = y3.1))) && (y2.2.1 == y3.2.1)) && (decide (y2.2.2 = y3.2.2)))) (fun h_15 => ?_) (fun h_15 => ?_)
     ·refine X.split (((((y8 && (decide (y2.1 = y3.1))) && (y2.2.1 == y3.2.1)) && (decide (y2.2.2 = y3.2.2))) && (decide (y4.1 = y5.1)))) (fun h_16 => ?_) (fun h_16 => ?_)
      ·refine X.split ((((((y8 && (decide (y2.1 = y3.1))) && (y2.2.1 == y3.2.1)) && (decide (y2.2.2 = y3.2.2))) && (decide (y4.1 = y5.1))) && (decide (y4.2 = y5.2)))) (fun h_17 => ?_) (fun h_17 => ?_)
       ·refine X.split (((((((y8 && (decide (y2.1 = y3.1))) && (y2.2.1 == y3.2.1)) && (decide (y2.2.2 = y3.2.2))) && (decide (y4.1 = y5.1))) && (decide (y4.2 = y5.2))) && y9)) (fun h_18 => ?_) (fun h_18 => ?_)
        ·refine X.call (ok_law06_sanity h_10) rfl rfl rfl .nil (X.q rfl ?_)
         iterate 2 refine X.opR (X.on_t rfl rfl rfl h_12) rfl rfl ?_
         refine X.opR (X.on_t rfl rfl rfl h_12) (X.eqlE (eq_api_Span y2.1 y3.1) rfl rfl) rfl ?_
         refine X.opR rfl (X.pickand_t (y := decide (y2.1 = y3.1)) rfl h_12 rfl) rfl (X.q rfl ?_)
         iterate 3 refine X.opR (X.on_t rfl rfl rfl h_13) rfl rfl ?_
         refine X.opR rfl (X.pickand_t (y := (y2.2.1 == y3.2.1)) rfl h_13 rfl) rfl (X.q rfl ?_)
         iterate 3 refine X.opR (X.on_t rfl rfl rfl h_14) rfl rfl ?_
         refine X.opR rfl (X.pickand_t (y := decide (y2.2.2 = y3.2.2)) rfl h_14 rfl) rfl (X.q rfl ?_)
         iterate 3 refine X.opR (X.on_t rfl rfl rfl h_15) rfl rfl ?_
         refine X.opR rfl (X.pickand_t (y := decide (y4.1 = y5.1)) rfl h_15 rfl) rfl (X.q rfl ?_)
         iterate 3 refine X.opR (X.on_t rfl rfl rfl h_16) rfl rfl ?_
         refine X.opR rfl (X.pickand_t (y := decide (y4.2 = y5.2)) rfl h_16 rfl) rfl (X.q rfl ?_)
         iterate 3 refine X.opR (X.on_t rfl rfl rfl h_17) rfl rfl ?_
         refine X.call (ok_ref06_SameSlots (h_11 h_17)) (X.on_t rfl rfl rfl h_17) rfl rfl (.cons (.shut (n := 9) rfl) (.cons (.shut (n := 9) rfl) .nil)) ?_
         refine X.opR rfl (X.pickand_t (y := y9) rfl h_17 rfl) rfl (X.q rfl ?_)
         iterate 4 refine X.opR (X.on_t rfl rfl rfl h_18) rfl rfl ?_
         refine X.opR rfl (X.pickand_t (y := decide (y6.2 = y7.E)) rfl h_18 rfl) rfl (X.q rfl (GS.opsNil ?_))
         exact X.norm _ hg rfl (sr rfl)
        refine X.call (ok_law06_sanity h_10) rfl rfl rfl .nil (X.q rfl ?_)
        iterate 2 refine X.opR (X.on_t rfl rfl rfl h_12) rfl rfl ?_
        refine X.opR (X.on_t rfl rfl rfl h_12) (X.eqlE (eq_api_Span y2.1 y3.1) rfl rfl) rfl ?_
        refine X.opR rfl (X.pickand_t (y := decide (y2.1 = y3.1)) rfl h_12 rfl) rfl (X.q rfl ?_)
        iterate 3 refine X.opR (X.on_t rfl rfl rfl h_13) rfl rfl ?_
        refine X.opR rfl (X.pickand_t (y := (y2.2.1 == y3.2.1)) rfl h_13 rfl) rfl (X.q rfl ?_)
        iterate 3 refine X.opR (X.on_t rfl rfl rfl h_14) rfl rfl ?_
        refine X.opR rfl (X.pickand_t (y := decide (y2.2.2 = y3.2.2)) rfl h_14 rfl) rfl (X.q rfl ?_)
        iterate 3 refine X.opR (X.on_t rfl rfl rfl h_15) rfl rfl ?_
        refine X.opR rfl (X.pickand_t (y := decide (y4.1 = y5.1)) rfl h_15 rfl) rfl (X.q rfl ?_)
        iterate 3 refine X.opR (X.on_t rfl rfl rfl h_16) rfl rfl ?_
        refine X.opR rfl (X.pickand_t (y := decide (y4.2 = y5.2)) rfl h_16 rfl) rfl (X.q rfl ?_)
        iterate 3 refine X.opR (X.on_t rfl rfl rfl h_17) rfl rfl ?_
        refine X.call (ok_ref06_SameSlots (h_11 h_17)) (X.on_t rfl rfl rfl h_17) rfl rfl (.cons (.shut (n := 9) rfl) (.cons (.shut (n := 9) rfl) .nil)) ?_
        refine X.opR rfl (X.pickand_t (y := y9) rfl h_17 rfl) rfl (X.q rfl ?_)
        iterate 4 refine X.off (X.off_t rfl rfl rfl h_18) rfl ?_
        refine X.opR rfl (X.pickand_f (y := decide (y6.2 = y7.E)) rfl h_18 rfl) rfl (X.q rfl (GS.opsNil ?_))
        exact X.norm _ hg rfl (sr rfl)
       refine X.call (ok_law06_sanity h_10) rfl rfl rfl .nil (X.q rfl ?_)
       iterate 2 refine X.opR (X.on_t rfl rfl rfl h_12) rfl rfl ?_
       refine X.opR (X.on_t rfl rfl rfl h_12) (X.eqlE (eq_api_Span y2.1 y3.1) rfl rfl) rfl ?_
       refine X.opR rfl (X.pickand_t (y := decide (y2.1 = y3.1)) rfl h_12 rfl) rfl (X.q rfl ?_)
       iterate 3 refine X.opR (X.on_t rfl rfl rfl h_13) rfl rfl ?_
       refine X.opR rfl (X.pickand_t (y := (y2.2.1 == y3.2.1)) rfl h_13 rfl) rfl (X.q rfl ?_)
       iterate 3 refine X.opR (X.on_t rfl rfl rfl h_14) rfl rfl ?_
       refine X.opR rfl (X.pickand_t (y := decide (y2.2.2 = y3.2.2)) rfl h_14 rfl) rfl (X.q rfl ?_)
       iterate 3 refine X.opR (X.on_t rfl rfl rfl h_15) rfl rfl ?_
       refine X.opR rfl (X.pickand_t (y := decide (y4.1 = y5.1)) rfl h_15 rfl) rfl (X.q rfl ?_)
       iterate 3 refine X.opR (X.on_t rfl rfl rfl h_16) rfl rfl ?_
       refine X.opR rfl (X.pickand_t (y := decide (y4.2 = y5.2)) rfl h_16 rfl) rfl (X.q rfl ?_)
       iterate 4 refine X.off (X.off_t rfl rfl rfl h_17) rfl ?_
       refine X.opR rfl (X.pickand_f (y := y9) rfl h_17 rfl) rfl (X.q rfl ?_)
       iterate 4 refine X.off (X.off_t rfl rfl rfl (X.and_ff h_17)) rfl ?_
       refine X.opR rfl (X.pickand_f (y := decide (y6.2 = y7.E)) rfl (X.and_ff h_17) rfl) rfl (X.q rfl (GS.opsNil ?_))
       exact X.norm _ hg rfl (sr rfl)
      refine X.call (ok_law06_sanity h_10) rfl rfl rfl .nil (X.q rfl ?_)
      iterate 2 refine X.opR (X.on_t rfl rfl rfl h_12) rfl rfl ?_
      refine X.opR (X.on_t rfl rfl rfl h_12) (X.eqlE (eq_api_Span y2.1 y3.1) rfl rfl) rfl ?_
      refine X.opR rfl (X.pickand_t (y := decide (y2.1 = y3.1)) rfl h_12 rfl) rfl (X.q rfl ?_)
      iterate 3 refine X.opR (X.on_t rfl rfl rfl h_13) rfl rfl ?_
      refine X.opR rfl (X.pickand_t (y := (y2.2.1 == y3.2.1)) rfl h_13 rfl) rfl (X.q rfl ?_)
      iterate 3 refine X.opR (X.on_t rfl rfl rfl h_14) rfl rfl ?_
      refine X.opR rfl (X.pickand_t (y := decide (y2.2.2 = y3.2.2)) rfl h_14 rfl) rfl (X.q rfl ?_)
      iterate 3 refine X.opR (X.on_t rfl rfl rfl h_15) rfl rfl ?_
      refine X.opR rfl (X.pickand_t (y := decide (y4.1 = y5.1)) rfl h_15 rfl) rfl (X.q rfl ?_)
      iterate 3 refine X.off (X.off_t rfl rfl rfl h_16) rfl ?_
      refine X.opR rfl (X.pickand_f (y := decide (y4.2 = y5.2)) rfl h_16 rfl) rfl (X.q rfl ?_)
      iterate 4 refine X.off (X.off_t rfl rfl rfl (X.and_ff h_16)) rfl ?_
      refine X.opR rfl (X.pickand_f (y := y9) rfl (X.and_ff h_16) rfl) rfl (X.q rfl ?_)
      iterate 4 refine X.off (X.off_t rfl rfl rfl (X.and_ff (X.and_ff h_16))) rfl ?_
      refine X.opR rfl (X.pickand_f (y := decide (y6.2 = y7.E)) rfl (X.and_ff (X.and_ff h_16)) rfl) rfl (X.q rfl (GS.opsNil ?_))
      exact X.norm _ hg rfl (sr rfl)
     refine X.call (ok_law06_sanity h_10) rfl rfl rfl .nil (X.q rfl ?_)
     iterate 2 refine X.opR (X.on_t rfl rfl rfl h_12) rfl rfl ?_
     refine X.opR (X.on_t rfl rfl rfl h_12) (X.eqlE (eq_api_Span y2.1 y3.1) rfl rfl) rfl ?_
     refine X.opR rfl (X.pickand_t (y := decide (y2.1 = y3.1)) rfl h_12 rfl) rfl (X.q rfl ?_)
     iterate 3 refine X.opR (X.on_t rfl rfl rfl h_13) rfl rfl ?_
     refine X.opR rfl (X.pickand_t (y := (y2.2.1 == y3.2.1)) rfl h_13 rfl) rfl (X.q rfl ?_)
     iterate 3 refine X.opR (X.on_t rfl rfl rfl h_14) rfl rfl ?_
     refine X.opR rfl (X.pickand_t (y := decide (y2.2.2 = y3.2.2)) rfl h_14 rfl) rfl (X.q rfl ?_)
     iterate 3 refine X.off (X.off_t rfl rfl rfl h_15) rfl ?_
     refine X.opR rfl (X.pickand_f (y := decide (y4.1 = y5.1)) rfl h_15 rfl) rfl (X.q rfl ?_)
     iterate 3 refine X.off (X.off_t rfl rfl rfl (X.and_ff h_15)) rfl ?_
     refine X.opR rfl (X.pickand_f (y := decide (y4.2 = y5.2)) rfl (X.and_ff h_15) rfl) rfl (X.q rfl ?_)
     iterate 4 refine X.off (X.off_t rfl rfl rfl (X.and_ff (X.and_ff h_15))) rfl ?_
     refine X.opR rfl (X.pickand_f (y := y9) rfl (X.and_ff (X.and_ff h_15)) rfl) rfl (X.q rfl ?_)
     iterate 4 refine X.off (X.off_t rfl rfl rfl (X.and_ff (X.and_ff (X.and_ff h_15)))) rfl ?_
     refine X.opR rfl (X.pickand_f (y := decide (y6.2 = y7.E)) rfl (X.and_ff (X.and_ff (X.and_ff h_15))) rfl) rfl (X.q rfl (GS.opsNil ?_))
     exact X.norm _ hg rfl (sr rfl)
    refine X.call (ok_law06_sanity h_10) rfl rfl rfl .nil (X.q rfl ?_)
    iterate 2 refine X.opR (X.on_t rfl rfl rfl h_12) rfl rfl ?_
    refine X.opR (X.on_t rfl rfl rfl h_12) (X.eqlE (eq_api_Span y2.1 y3.1) rfl rfl) rfl ?_
    refine X.opR rfl (X.pickand_t (y := decide (y2.1 = y3.1)) rfl h_12 rfl) rfl (X.q rfl ?_)
    iterate 3 refine X.opR (X.on_t rfl rfl rfl h_13) rfl rfl ?_
    refine X.opR rfl (X.pickand_t (y := (y2.2.1 == y3.2.1)) rfl h_13 rfl) rfl (X.q rfl ?_)
    iterate 3 refine X.off (X.off_t rfl rfl rfl h_14) rfl ?_
    refine X.opR rfl (X.pickand_f (y := decide (y2.2.2 = y3.2.2)) rfl h_14 rfl) rfl (X.q rfl ?_)
    iterate 3 refine X.off (X.off_t rfl rfl rfl (X.and_ff h_14)) rfl ?_
    refine X.opR rfl (X.pickand_f (y := decide (y4.1 = y5.1)) rfl (X.and_ff h_14) rfl) rfl (X.q rfl ?_)
    iterate 3 refine X.off (X.off_t rfl rfl rfl (X.and_ff (X.and_ff h_14))) rfl ?_
    refine X.opR rfl (X.pickand_f (y := decide (y4.2 = y5.2)) rfl (X.and_ff (X.and_ff h_14)) rfl) rfl (X.q rfl ?_)
    iterate 4 refine X.off (X.off_t rfl rfl rfl (X.and_ff (X.and_ff (X.and_ff h_14)))) rfl ?_
    refine X.opR rfl (X.pickand_f (y := y9) rfl (X.and_ff (X.and_ff (X.and_ff h_14))) rfl) rfl (X.q rfl ?_)
    iterate 4 refine X.off (X.off_t rfl rfl rfl (X.and_ff (X.and_ff (X.and_ff (X.and_ff h_14))))) rfl ?_
    refine X.opR rfl (X.pickand_f (y := decide (y6.2 = y7.E)) rfl (X.and_ff (X.and_ff (X.and_ff (X.and_ff h_14)))) rfl) rfl (X.q rfl (GS.opsNil ?_))
    exact X.norm _ hg rfl (sr rfl)
   refine X.call (ok_law06_sanity h_10) rfl rfl rfl .nil (X.q rfl ?_)
   iterate 2 refine X.opR (X.on_t rfl rfl rfl h_12) rfl rfl ?_
   refine X.opR (X.on_t rfl rfl rfl h_12) (X.eqlE (eq_api_Span y2.1 y3.1) rfl rfl) rfl ?_
   refine X.opR rfl (X.pickand_t (y := decide (y2.1 = y3.1)) rfl h_12 rfl) rfl (X.q rfl ?_)
   iterate 3 refine X.off (X.off_t rfl rfl rfl h_13) rfl ?_
   refine X.opR rfl (X.pickand_f (y := (y2.2.1 == y3.2.1)) rfl h_13 rfl) rfl (X.q rfl ?_)
   iterate 3 refine X.off (X.off_t rfl rfl rfl (X.and_ff h_13)) rfl ?_
   refine X.opR rfl (X.pickand_f (y := decide (y2.2.2 = y3.2.2)) rfl (X.and_ff h_13) rfl) rfl (X.q rfl ?_)
   iterate 3 refine X.off (X.off_t rfl rfl rfl (X.and_ff (X.and_ff h_13))) rfl ?_
   refine X.opR rfl (X.pickand_f (y := decide (y4.1 = y5.1)) rfl (X.and_ff (X.and_ff h_13)) rfl) rfl (X.q rfl ?_)
   iterate 3 refine X.off (X.off_t rfl rfl rfl (X.and_ff (X.and_ff (X.and_ff h_13)))) rfl ?_
   refine X.opR rfl (X.pickand_f (y := decide (y4.2 = y5.2)) rfl (X.and_ff (X.and_ff (X.and_ff h_13))) rfl) rfl (X.q rfl ?_)
   iterate 4 refine X.off (X.off_t rfl rfl rfl (X.and_ff (X.and_ff (X.and_ff (X.and_ff h_13))))) rfl ?_
   refine X.opR rfl (X.pickand_f (y := y9) rfl (X.and_ff (X.and_ff (X.and_ff (X.and_ff h_13)))) rfl) rfl (X.q rfl ?_)
   iterate 4 refine X.off (X.off_t rfl rfl rfl (X.and_ff (X.and_ff (X.and_ff (X.and_ff (X.and_ff h_13)))))) rfl ?_
   refine X.opR rfl (X.pickand_f (y := decide (y6.2 = y7.E)) rfl (X.and_ff (X.and_ff (X.and_ff (X.and_ff (X.and_ff h_13))))) rfl) rfl (X.q rfl (GS.opsNil ?_))
   exact X.norm _ hg rfl (sr rfl)
  refine X.call (ok_law06_sanity h_10) rfl rfl rfl .nil (X.q rfl ?_)
  iterate 3 refine X.off (X.off_t rfl rfl rfl h_12) rfl ?_
  refine X.opR rfl (X.pickand_f (y := decide (y2.1 = y3.1)) rfl h_12 rfl) rfl (X.q rfl ?_)
  iterate 3 refine X.off (X.off_t rfl rfl rfl (X.and_ff h_12)) rfl ?_
  refine X.opR rfl (X.pickand_f (y := (y2.2.1 == y3.2.1)) rfl (X.and_ff h_12) rfl) rfl (X.q rfl ?_)
  iterate 3 refine X.off (X.off_t rfl rfl rfl (X.and_ff (X.and_ff h_12))) rfl ?_
  refine X.opR rfl (X.pickand_f (y := decide (y2.2.2 = y3.2.2)) rfl (X.and_ff (X.and_ff h_12)) rfl) rfl (X.q rfl ?_)
  iterate 3 refine X.off (X.off_t rfl rfl rfl (X.and_ff (X.and_ff (X.and_ff h_12)))) rfl ?_
  refine X.opR rfl (X.pickand_f (y := decide (y4.1 = y5.1)) rfl (X.and_ff (X.and_ff (X.and_ff h_12))) rfl) rfl (X.q rfl ?_)
  iterate 3 refine X.off (X.off_t rfl rfl rfl (X.and_ff (X.and_ff (X.and_ff (X.and_ff h_12))))) rfl ?_
  refine X.opR rfl (X.pickand_f (y := decide (y4.2 = y5.2)) rfl (X.and_ff (X.and_ff (X.and_ff (X.and_ff h_12)))) rfl) rfl (X.q rfl ?_)
  iterate 4 refine X.off (X.off_t rfl rfl rfl (X.and_ff (X.and_ff (X.and_ff (X.and_ff (X.and_ff h_12)))))) rfl ?_
  refine X.opR rfl (X.pickand_f (y := y9) rfl (X.and_ff (X.and_ff (X.and_ff (X.and_ff (X.and_ff h_12))))) rfl) rfl (X.q rfl ?_)
  iterate 4 refine X.off (X.off_t rfl rfl rfl (X.and_ff (X.and_ff (X.and_ff (X.and_ff (X.and_ff (X.and_ff h_12))))))) rfl ?_
  refine X.opR rfl (X.pickand_f (y := decide (y6.2 = y7.E)) rfl (X.and_ff (X.and_ff (X.and_ff (X.and_ff (X.and_ff (X.and_ff h_12)))))) rfl) rfl (X.q rfl (GS.opsNil ?_))
  exact X.norm _ hg rfl (sr rfl)
 cases hM
 exact GS.ret ⟨_, rfl, ⟨30, rfl⟩⟩
end Go.Proofs.YtnkngglimidldaaGreat
