/- The program's functions compute the plain ones. Conditions: none. Printed by a program (wip/tools/xg.py). -/
import Derived.Test.YthfnbjoecocfaaaTok
import Derived.Test.YthfnbjoecocfaaaSrt
import Derived.Test.YthfnbjoecocfaaaM
set_option linter.unusedVariables false
set_option linter.unusedSimpArgs false
namespace Go.Proofs.Ythfnbjoecocfaaa
open Go Go.Am Go.Proofs Go.Mx

noncomputable def CC : Cfg := cfg (Ct Try.prog)
theorem CC_ok : CC.OK := cfg_ok fun f args v h => h

abbrev e_api_Span (x : api_Span) : V := .agg [(V.i x.Lo), (V.i x.Hi)]

abbrev e_api_Lease (x : api_Lease) : V := .agg [(V.i x.ID), (V.i x.Heap), (V.i x.Span.Lo), (V.i x.Span.Hi)]

theorem ok_berth_within (n : Int) (lo : Int) (hi : Int) : Ct Try.prog 104 [(V.i n), (V.i lo), (V.i hi)] (V.b (berth_within n lo hi)) := by
  refine ct_of_gs CC_ok rfl ?_
  generalize hM : berth_within n lo hi = r
  unfold berth_within at hM
  refine X.sq ?_
  refine X.q rfl ?_
  refine X.nq ?_
  refine X.mid [(6, (V.b ((decide (lo ≤ n)) && (decide (n ≤ hi)))))] ?_ ?_
  · intro hg
    refine X.split (decide (lo ≤ n)) (fun h_1 => ?_) (fun h_1 => ?_)
    · iterate 4 refine X.q rfl ?_
      iterate 3 refine X.opR (X.on_t rfl rfl rfl h_1) rfl rfl ?_
      refine X.opR rfl (X.pickand_t (y := decide (n ≤ hi)) rfl h_1 rfl) rfl ?_
      refine X.q rfl ?_
      refine GS.opsNil ?_
      exact X.norm _ hg rfl (sr rfl)
    iterate 4 refine X.q rfl ?_
    iterate 3 refine X.off (X.off_t rfl rfl rfl h_1) rfl ?_
    refine X.opR rfl (X.pickand_f (y := decide (n ≤ hi)) rfl h_1 rfl) rfl ?_
    refine X.q rfl ?_
    refine GS.opsNil ?_
    exact X.norm _ hg rfl (sr rfl)
  subst hM
  exact GS.ret ⟨_, rfl, ⟨30, rfl⟩⟩

theorem ok_berth_leaseID (l : api_Lease) : Ct Try.prog 111 [(e_api_Lease l)] (V.i (berth_leaseID l)) := by
  refine ct_of_gs CC_ok rfl ?_
  generalize hM : berth_leaseID l = r
  unfold berth_leaseID at hM
  refine X.sq ?_
  refine X.opW rfl rfl rfl rfl ?_
  refine X.q rfl ?_
  refine X.nq ?_
  iterate 3 refine X.q rfl ?_
  refine GS.opsNil ?_
  subst hM
  exact GS.ret ⟨_, rfl, ⟨30, rfl⟩⟩

theorem ok_berth_first_api_Lease_1__berth_leaseID (x : api_Lease) (c : Int) : Ct Try.prog 147 [(e_api_Lease x), (V.fptr [(V.fn 111 [])] 0 0), (V.fptr [(V.i c)] 0 0)] (V.b (berth_first_api_Lease_1__berth_leaseID x c)) := by
  refine ct_of_gs CC_ok rfl ?_
  generalize hM : berth_first_api_Lease_1__berth_leaseID x c = r
  unfold berth_first_api_Lease_1__berth_leaseID at hM
  refine X.sq ?_
  refine X.opW rfl rfl rfl rfl ?_
  refine X.q rfl ?_
  refine GS.opsNil ?_
  refine GS.seq ?_
  refine X.drawc (by kernel_rfl) rfl ?_
  iterate 2 refine X.cop rfl rfl rfl rfl ?_
  refine X.ccall (ok_berth_leaseID x) rfl rfl rfl rfl (.cons (.shut (n := 9) rfl) .nil) ?_
  iterate 3 refine X.cop rfl rfl rfl rfl ?_
  refine X.cnil ?_
  refine X.norm [(4, (V.b (decide ((berth_leaseID x) = c))))] ?_ rfl (sr rfl)
  subst hM
  exact GS.ret ⟨_, rfl, ⟨30, rfl⟩⟩

theorem ok_slices_IndexFunc_api_Lease__berth_first_api_Lease_1__berth_leaseID {s : (List api_Lease)} {c : Int} {r : Int} (hM : slices_IndexFunc_api_Lease__berth_first_api_Lease_1__berth_leaseID s c = some r) : Ct Try.prog 146 [(V.sl (List.map e_api_Lease s)), (V.fn 147 [(V.fptr [(V.fn 111 [])] 0 0), (V.fptr [(V.i c)] 0 0)])] (V.i r) := by
  refine ct_of_gs CC_ok rfl ?_
  unfold slices_IndexFunc_api_Lease__berth_first_api_Lease_1__berth_leaseID at hM
  refine X.sq ?_
  refine X.q rfl ?_
  refine GS.opsNil ?_
  refine GS.seq ?_
  refine X.sq ?_
  refine X.q rfl ?_
  refine X.opR rfl (X.lenF rfl rfl rfl) rfl ?_
  refine X.q rfl ?_
  refine GS.opsNil ?_
  refine X.join (τ := Unit) (fun v => slices_IndexFunc_api_Lease__berth_first_api_Lease_1__berth_leaseID_j1 = some r) (fun v => ⟨[], [], 0, none, 19⟩) ?_ ?_
  · intro _ hM
    replace hM : slices_IndexFunc_api_Lease__berth_first_api_Lease_1__berth_leaseID_j1 = some r := hM
    unfold slices_IndexFunc_api_Lease__berth_first_api_Lease_1__berth_leaseID_j1 at hM
    refine X.sq ?_
    refine X.q rfl ?_
    refine GS.opsNil ?_
    have hE := Option.some.inj hM
    subst hE
    exact GS.ret ⟨_, rfl, ⟨30, rfl⟩⟩
  intro hj_1
  refine GS.block ?_
  refine X.gc [] (X.loop (σ := Int) (fun v => ⟨[(0, (V.sl (List.map e_api_Lease s))), (1, (V.fn 147 [(V.fptr [(V.fn 111 [])] 0 0), (V.fptr [(V.i c)] 0 0)])), (7, (V.i (s.length : Int))), (8, (V.i v))], [], 0, none, 19⟩) hM ?_ rfl) rfl rfl rfl (ga rfl rfl) (gb_nil)
  intro x1 b_1 hM hc_2 hr_1
  rw [slices_IndexFunc_api_Lease__berth_first_api_Lease_1__berth_leaseID_b2] at hM
  refine X.sq ?_
  refine X.q rfl ?_
  refine GS.opsNil ?_
  refine GS.seq ?_
  refine X.cond rfl (fun h_1 => ?_) (fun h_1 => ?_)
  · replace hM := ite_t h_1 hM
    refine GS.skip ?_
    refine GS.seq ?_
    refine GS.block ?_
    refine X.sq ?_
    iterate 2 refine X.q rfl ?_
    refine GS.opsNil ?_
    refine GS.seq ?_
    obtain ⟨x, h_2, hM⟩ := bind_of hM
    refine GS.region ?_
    iterate 3 refine X.q rfl ?_
    refine X.opR rfl (X.indexF (f := e_api_Lease) h_2 (fun _ => rfl) rfl rfl rfl rfl) rfl ?_
    refine X.opR rfl (X.loadF h_2 rfl rfl rfl) rfl ?_
    refine X.call (ok_berth_first_api_Lease_1__berth_leaseID x c) rfl rfl rfl (.cons (.shut (n := 9) rfl) (.cons (.shut (n := 9) rfl) (.cons (.shut (n := 9) rfl) .nil))) ?_
    refine GS.opsNil ?_
    refine X.cond rfl (fun h_3 => ?_) (fun h_3 => ?_)
    · replace hM := ite_t h_3 hM
      refine X.sq ?_
      iterate 2 refine X.q rfl ?_
      refine GS.opsNil ?_
      have hE := Option.some.inj hM
      replace hE := hr_1 _ hE.symm
      subst hE
      exact GS.ret ⟨_, rfl, ⟨30, rfl⟩⟩
    replace hM := ite_f h_3 hM
    refine GS.skip ?_
    refine GS.endB ?_
    refine GS.region ?_
    refine X.opR rfl (X.addE rfl rfl) rfl ?_
    refine X.q rfl ?_
    refine GS.opsNil ?_
    have hE := Option.some.inj hM
    exact X.gc [] (hc_2 (w64 (x1 + 1)) hE.symm) rfl rfl rfl (ga rfl rfl) (gb_nil)
  replace hM := ite_f h_1 hM
  refine GS.exit rfl ?_
  obtain ⟨y_1, hM, hy⟩ := map_of hM
  rw [hr_1 _ hy.symm] at hM
  exact X.gc [] (hj_1 () hM) rfl rfl rfl (gk_nil) (gb_nil)

theorem ok_berth_first_api_Lease__berth_leaseID {l : (List api_Lease)} {id : Int} {r : Int} (hM : berth_first_api_Lease__berth_leaseID l id = some r) : Ct Try.prog 110 [(V.sl (List.map e_api_Lease l)), (V.i id), (V.fn 111 [])] (V.i r) := by
  refine ct_of_gs CC_ok rfl ?_
  unfold berth_first_api_Lease__berth_leaseID at hM
  refine X.sq ?_
  iterate 2 refine X.opW rfl rfl rfl rfl ?_
  refine X.q rfl ?_
  refine GS.opsNil ?_
  refine GS.seq ?_
  obtain ⟨y, h_1, hM⟩ := bind_of hM
  refine GS.region ?_
  iterate 2 refine X.q rfl ?_
  refine X.callF (ok_slices_IndexFunc_api_Lease__berth_first_api_Lease_1__berth_leaseID h_1) rfl rfl rfl (m := 9) rfl (.cons (.shut (n := 9) rfl) (.cons (FR.arg ⟨30, rfl⟩) .nil)) ?_
  refine X.q rfl ?_
  refine GS.opsNil ?_
  have hE := Option.some.inj hM
  subst hE
  exact GS.ret ⟨_, rfl, ⟨30, rfl⟩⟩

set_option maxHeartbeats 4000000 in
theorem ok_berth_CheckLeases {l : (List api_Lease)} {r : Int} (hM : berth_CheckLeases l = some r) : Ct Try.prog 45 [(V.sl (List.map e_api_Lease l))] (V.i r) := by
  refine ct_of_gs CC_ok rfl ?_
  unfold berth_CheckLeases at hM
  refine X.sq ?_
  refine X.q rfl ?_
  refine GS.opsNil ?_
  refine GS.seq ?_
  refine X.sq ?_
  refine X.q rfl ?_
  refine X.opR rfl (X.lenF rfl rfl rfl) rfl ?_
  refine X.q rfl ?_
  refine GS.opsNil ?_
  refine X.cond rfl (fun h_1 => ?_) (fun h_1 => ?_)
  · replace hM := ite_t h_1 hM
    refine X.sq ?_
    refine X.q rfl ?_
    refine GS.opsNil ?_
    have hE := Option.some.inj hM
    subst hE
    exact GS.ret ⟨_, rfl, ⟨30, rfl⟩⟩
  replace hM := ite_f h_1 hM
  refine GS.skip ?_
  refine GS.seq ?_
  refine X.sq ?_
  refine X.q rfl ?_
  refine X.opR rfl (X.lenF rfl rfl rfl) rfl ?_
  refine X.q rfl ?_
  refine GS.opsNil ?_
  refine X.join (τ := Unit) (fun v => berth_CheckLeases_j1 = some r) (fun v => ⟨[], [], 0, none, 52⟩) ?_ ?_
  · intro _ hM
    replace hM : berth_CheckLeases_j1 = some r := hM
    unfold berth_CheckLeases_j1 at hM
    refine X.sq ?_
    refine X.q rfl ?_
    refine GS.opsNil ?_
    have hE := Option.some.inj hM
    subst hE
    exact GS.ret ⟨_, rfl, ⟨30, rfl⟩⟩
  intro hj_1
  refine GS.block ?_
  refine X.gc [] (X.loop (σ := Int) (fun v => ⟨[(0, (V.sl (List.map e_api_Lease l))), (9, (V.sl (List.map e_api_Lease l))), (10, (V.i (l.length : Int))), (11, (V.i v))], [], 0, none, 52⟩) hM ?_ rfl) rfl rfl rfl (ga rfl rfl) (gb_nil)
  intro x1 b_1 hM hc_2 hr_1
  rw [berth_CheckLeases_b2] at hM
  refine X.sq ?_
  refine X.q rfl ?_
  refine GS.opsNil ?_
  refine GS.seq ?_
  refine X.cond rfl (fun h_2 => ?_) (fun h_2 => ?_)
  · replace hM := ite_t h_2 hM
    refine GS.skip ?_
    refine GS.seq ?_
    refine GS.block ?_
    refine GS.seq ?_
    obtain ⟨x, h_3, hM⟩ := bind_of hM
    refine GS.region ?_
    refine X.q rfl ?_
    refine X.opR rfl (X.indexF (f := e_api_Lease) h_3 (fun _ => rfl) rfl rfl rfl rfl) rfl ?_
    refine X.opR rfl (X.loadF h_3 rfl rfl rfl) rfl ?_
    refine X.opW rfl rfl rfl rfl ?_
    refine X.q rfl ?_
    refine X.op0W rfl rfl rfl ?_
    refine X.nq ?_
    iterate 2 refine X.q rfl ?_
    refine X.opW rfl rfl rfl rfl ?_
    refine X.op0W rfl rfl rfl ?_
    refine GS.opsNil ?_
    refine GS.seq ?_
    refine X.sq ?_
    refine X.mid [(0, (V.sl (List.map e_api_Lease l))), (3, (V.i x1)), (4, (V.ptr 0 0 0)), (9, (V.sl (List.map e_api_Lease l))), (10, (V.i (l.length : Int))), (11, (V.i x1)), (44, (V.b (((((!(berth_within x.ID 1 1099511627776)) || (!(berth_within x.Heap 1 1099511627776))) || (decide (x.Span.Lo < 0))) || (decide (x.Span.Hi < x.Span.Lo))) || (decide (1048576 < x.Span.Hi)))))] ?_ ?_
    · intro hg
      refine X.split (!(berth_within x.ID 1 1099511627776)) (fun h_4 => ?_) (fun h_4 => ?_)
      · iterate 2 refine X.q rfl ?_
        refine X.call (ok_berth_within x.ID 1 1099511627776) rfl rfl rfl (.cons (.shut (n := 9) rfl) (.cons (.shut (n := 9) rfl) (.cons (.shut (n := 9) rfl) .nil))) ?_
        iterate 2 refine X.q rfl ?_
        iterate 4 refine X.off (X.off_f rfl rfl rfl h_4) rfl ?_
        refine X.opR rfl (X.pickor_t (y := !(berth_within x.Heap 1 1099511627776)) rfl h_4 rfl) rfl ?_
        refine X.q rfl ?_
        iterate 3 refine X.off (X.off_f rfl rfl rfl (X.or_tt h_4)) rfl ?_
        refine X.opR rfl (X.pickor_t (y := decide (x.Span.Lo < 0)) rfl (X.or_tt h_4) rfl) rfl ?_
        refine X.q rfl ?_
        iterate 5 refine X.off (X.off_f rfl rfl rfl (X.or_tt (X.or_tt h_4))) rfl ?_
        refine X.opR rfl (X.pickor_t (y := decide (x.Span.Hi < x.Span.Lo)) rfl (X.or_tt (X.or_tt h_4)) rfl) rfl ?_
        refine X.q rfl ?_
        iterate 3 refine X.off (X.off_f rfl rfl rfl (X.or_tt (X.or_tt (X.or_tt h_4)))) rfl ?_
        refine X.opR rfl (X.pickor_t (y := decide (1048576 < x.Span.Hi)) rfl (X.or_tt (X.or_tt (X.or_tt h_4))) rfl) rfl ?_
        refine GS.opsNil ?_
        exact X.norm _ hg rfl (sr rfl)
      refine X.split (((!(berth_within x.ID 1 1099511627776)) || (!(berth_within x.Heap 1 1099511627776)))) (fun h_5 => ?_) (fun h_5 => ?_)
      · iterate 2 refine X.q rfl ?_
        refine X.call (ok_berth_within x.ID 1 1099511627776) rfl rfl rfl (.cons (.shut (n := 9) rfl) (.cons (.shut (n := 9) rfl) (.cons (.shut (n := 9) rfl) .nil))) ?_
        iterate 2 refine X.q rfl ?_
        iterate 2 refine X.opR (X.on_f rfl rfl rfl h_4) rfl rfl ?_
        refine X.call (ok_berth_within x.Heap 1 1099511627776) (X.on_f rfl rfl rfl h_4) rfl rfl (.cons (.shut (n := 9) rfl) (.cons (.shut (n := 9) rfl) (.cons (.shut (n := 9) rfl) .nil))) ?_
        refine X.opR (X.on_f rfl rfl rfl h_4) rfl rfl ?_
        refine X.opR rfl (X.pickor_f (y := !(berth_within x.Heap 1 1099511627776)) rfl h_4 rfl) rfl ?_
        refine X.q rfl ?_
        iterate 3 refine X.off (X.off_f rfl rfl rfl h_5) rfl ?_
        refine X.opR rfl (X.pickor_t (y := decide (x.Span.Lo < 0)) rfl h_5 rfl) rfl ?_
        refine X.q rfl ?_
        iterate 5 refine X.off (X.off_f rfl rfl rfl (X.or_tt h_5)) rfl ?_
        refine X.opR rfl (X.pickor_t (y := decide (x.Span.Hi < x.Span.Lo)) rfl (X.or_tt h_5) rfl) rfl ?_
        refine X.q rfl ?_
        iterate 3 refine X.off (X.off_f rfl rfl rfl (X.or_tt (X.or_tt h_5))) rfl ?_
        refine X.opR rfl (X.pickor_t (y := decide (1048576 < x.Span.Hi)) rfl (X.or_tt (X.or_tt h_5)) rfl) rfl ?_
        refine GS.opsNil ?_
        exact X.norm _ hg rfl (sr rfl)
      refine X.split ((((!(berth_within x.ID 1 1099511627776)) || (!(berth_within x.Heap 1 1099511627776))) || (decide (x.Span.Lo < 0)))) (fun h_6 => ?_) (fun h_6 => ?_)
      · iterate 2 refine X.q rfl ?_
        refine X.call (ok_berth_within x.ID 1 1099511627776) rfl rfl rfl (.cons (.shut (n := 9) rfl) (.cons (.shut (n := 9) rfl) (.cons (.shut (n := 9) rfl) .nil))) ?_
        iterate 2 refine X.q rfl ?_
        iterate 2 refine X.opR (X.on_f rfl rfl rfl h_4) rfl rfl ?_
        refine X.call (ok_berth_within x.Heap 1 1099511627776) (X.on_f rfl rfl rfl h_4) rfl rfl (.cons (.shut (n := 9) rfl) (.cons (.shut (n := 9) rfl) (.cons (.shut (n := 9) rfl) .nil))) ?_
        refine X.opR (X.on_f rfl rfl rfl h_4) rfl rfl ?_
        refine X.opR rfl (X.pickor_f (y := !(berth_within x.Heap 1 1099511627776)) rfl h_4 rfl) rfl ?_
        refine X.q rfl ?_
        iterate 3 refine X.opR (X.on_f rfl rfl rfl h_5) rfl rfl ?_
        refine X.opR rfl (X.pickor_f (y := decide (x.Span.Lo < 0)) rfl h_5 rfl) rfl ?_
        refine X.q rfl ?_
        iterate 5 refine X.off (X.off_f rfl rfl rfl h_6) rfl ?_
        refine X.opR rfl (X.pickor_t (y := decide (x.Span.Hi < x.Span.Lo)) rfl h_6 rfl) rfl ?_
        refine X.q rfl ?_
        iterate 3 refine X.off (X.off_f rfl rfl rfl (X.or_tt h_6)) rfl ?_
        refine X.opR rfl (X.pickor_t (y := decide (1048576 < x.Span.Hi)) rfl (X.or_tt h_6) rfl) rfl ?_
        refine GS.opsNil ?_
        exact X.norm _ hg rfl (sr rfl)
      refine X.split (((((!(berth_within x.ID 1 1099511627776)) || (!(berth_within x.Heap 1 1099511627776))) || (decide (x.Span.Lo < 0))) || (decide (x.Span.Hi < x.Span.Lo)))) (fun h_7 => ?_) (fun h_7 => ?_)
      · iterate 2 refine X.q rfl ?_
        refine X.call (ok_berth_within x.ID 1 1099511627776) rfl rfl rfl (.cons (.shut (n := 9) rfl) (.cons (.shut (n := 9) rfl) (.cons (.shut (n := 9) rfl) .nil))) ?_
        iterate 2 refine X.q rfl ?_
        iterate 2 refine X.opR (X.on_f rfl rfl rfl h_4) rfl rfl ?_
        refine X.call (ok_berth_within x.Heap 1 1099511627776) (X.on_f rfl rfl rfl h_4) rfl rfl (.cons (.shut (n := 9) rfl) (.cons (.shut (n := 9) rfl) (.cons (.shut (n := 9) rfl) .nil))) ?_
        refine X.opR (X.on_f rfl rfl rfl h_4) rfl rfl ?_
        refine X.opR rfl (X.pickor_f (y := !(berth_within x.Heap 1 1099511627776)) rfl h_4 rfl) rfl ?_
        refine X.q rfl ?_
        iterate 3 refine X.opR (X.on_f rfl rfl rfl h_5) rfl rfl ?_
        refine X.opR rfl (X.pickor_f (y := decide (x.Span.Lo < 0)) rfl h_5 rfl) rfl ?_
        refine X.q rfl ?_
        iterate 5 refine X.opR (X.on_f rfl rfl rfl h_6) rfl rfl ?_
        refine X.opR rfl (X.pickor_f (y := decide (x.Span.Hi < x.Span.Lo)) rfl h_6 rfl) rfl ?_
        refine X.q rfl ?_
        iterate 3 refine X.off (X.off_f rfl rfl rfl h_7) rfl ?_
        refine X.opR rfl (X.pickor_t (y := decide (1048576 < x.Span.Hi)) rfl h_7 rfl) rfl ?_
        refine GS.opsNil ?_
        exact X.norm _ hg rfl (sr rfl)
      iterate 2 refine X.q rfl ?_
      refine X.call (ok_berth_within x.ID 1 1099511627776) rfl rfl rfl (.cons (.shut (n := 9) rfl) (.cons (.shut (n := 9) rfl) (.cons (.shut (n := 9) rfl) .nil))) ?_
      iterate 2 refine X.q rfl ?_
      iterate 2 refine X.opR (X.on_f rfl rfl rfl h_4) rfl rfl ?_
      refine X.call (ok_berth_within x.Heap 1 1099511627776) (X.on_f rfl rfl rfl h_4) rfl rfl (.cons (.shut (n := 9) rfl) (.cons (.shut (n := 9) rfl) (.cons (.shut (n := 9) rfl) .nil))) ?_
      refine X.opR (X.on_f rfl rfl rfl h_4) rfl rfl ?_
      refine X.opR rfl (X.pickor_f (y := !(berth_within x.Heap 1 1099511627776)) rfl h_4 rfl) rfl ?_
      refine X.q rfl ?_
      iterate 3 refine X.opR (X.on_f rfl rfl rfl h_5) rfl rfl ?_
      refine X.opR rfl (X.pickor_f (y := decide (x.Span.Lo < 0)) rfl h_5 rfl) rfl ?_
      refine X.q rfl ?_
      iterate 5 refine X.opR (X.on_f rfl rfl rfl h_6) rfl rfl ?_
      refine X.opR rfl (X.pickor_f (y := decide (x.Span.Hi < x.Span.Lo)) rfl h_6 rfl) rfl ?_
      refine X.q rfl ?_
      iterate 3 refine X.opR (X.on_f rfl rfl rfl h_7) rfl rfl ?_
      refine X.opR rfl (X.pickor_f (y := decide (1048576 < x.Span.Hi)) rfl h_7 rfl) rfl ?_
      refine GS.opsNil ?_
      exact X.norm _ hg rfl (sr rfl)
    refine X.cond rfl (fun h_8 => ?_) (fun h_8 => ?_)
    · replace hM := ite_t h_8 hM
      refine X.sq ?_
      refine X.q rfl ?_
      refine GS.opsNil ?_
      have hE := Option.some.inj hM
      replace hE := hr_1 _ hE.symm
      subst hE
      exact GS.ret ⟨_, rfl, ⟨30, rfl⟩⟩
    replace hM := ite_f h_8 hM
    refine GS.skip ?_
    refine GS.seq ?_
    obtain ⟨y, h_9, hM⟩ := bind_of hM
    refine GS.region ?_
    iterate 3 refine X.q rfl ?_
    refine X.call (ok_berth_first_api_Lease__berth_leaseID h_9) rfl rfl rfl (.cons (.shut (n := 9) rfl) (.cons (.shut (n := 9) rfl) (.cons (.shut (n := 9) rfl) .nil))) ?_
    iterate 2 refine X.q rfl ?_
    refine GS.opsNil ?_
    refine X.cond rfl (fun h_10 => ?_) (fun h_10 => ?_)
    · replace hM := ite_t h_10 hM
      refine X.sq ?_
      refine X.q rfl ?_
      refine GS.opsNil ?_
      have hE := Option.some.inj hM
      replace hE := hr_1 _ hE.symm
      subst hE
      exact GS.ret ⟨_, rfl, ⟨30, rfl⟩⟩
    replace hM := ite_f h_10 hM
    refine GS.skip ?_
    refine GS.endB ?_
    refine GS.region ?_
    refine X.opR rfl (X.addE rfl rfl) rfl ?_
    refine X.q rfl ?_
    refine GS.opsNil ?_
    have hE := Option.some.inj hM
    exact X.gc [] (hc_2 (w64 (x1 + 1)) hE.symm) rfl rfl rfl (ga rfl rfl) (gb_nil)
  replace hM := ite_f h_2 hM
  refine GS.exit rfl ?_
  obtain ⟨y_1, hM, hy⟩ := map_of hM
  rw [hr_1 _ hy.symm] at hM
  exact X.gc [] (hj_1 () hM) rfl rfl rfl (gk_nil) (gb_nil)

abbrev e_berth_turn (x : berth_turn) : V := .agg [(V.i x.Lease.ID), (V.i x.Lease.Heap), (V.i x.Lease.Span.Lo), (V.i x.Lease.Span.Hi), (V.i x.place)]

theorem ok_cmp_isNaN_int (x : Int) : Ct Try.prog 162 [(V.i x)] (V.b (cmp_isNaN_int x)) := by
  refine ct_of_gs CC_ok rfl ?_
  generalize hM : cmp_isNaN_int x = r
  unfold cmp_isNaN_int at hM
  refine X.sq ?_
  refine X.q rfl ?_
  refine X.nq ?_
  iterate 4 refine X.q rfl ?_
  refine GS.opsNil ?_
  subst hM
  exact GS.ret ⟨_, rfl, ⟨30, rfl⟩⟩

theorem ok_cmp_Compare_int (x : Int) (y : Int) : Ct Try.prog 140 [(V.i x), (V.i y)] (V.i (cmp_Compare_int x y)) := by
  refine ct_of_gs CC_ok rfl ?_
  generalize hM : cmp_Compare_int x y = r
  unfold cmp_Compare_int at hM
  refine X.sq ?_
  refine X.q rfl ?_
  refine X.nq ?_
  refine X.q rfl ?_
  refine X.call (ok_cmp_isNaN_int x) rfl rfl rfl (.cons (.shut (n := 9) rfl) .nil) ?_
  refine X.q rfl ?_
  refine X.nq ?_
  refine X.q rfl ?_
  refine X.call (ok_cmp_isNaN_int y) rfl rfl rfl (.cons (.shut (n := 9) rfl) .nil) ?_
  refine X.q rfl ?_
  refine GS.opsNil ?_
  refine GS.seq ?_
  refine X.sq ?_
  refine X.q rfl ?_
  refine GS.opsNil ?_
  refine X.cond rfl (fun h_1 => ?_) (fun h_1 => ?_)
  · replace hM := ite_t h_1 hM
    refine GS.seq ?_
    refine X.sq ?_
    refine X.q rfl ?_
    refine GS.opsNil ?_
    refine X.cond rfl (fun h_2 => ?_) (fun h_2 => ?_)
    · replace hM := ite_t h_2 hM
      refine X.sq ?_
      refine X.q rfl ?_
      refine GS.opsNil ?_
      subst hM
      exact GS.ret ⟨_, rfl, ⟨30, rfl⟩⟩
    replace hM := ite_f h_2 hM
    refine GS.skip ?_
    refine X.sq ?_
    refine X.q rfl ?_
    refine GS.opsNil ?_
    subst hM
    exact GS.ret ⟨_, rfl, ⟨30, rfl⟩⟩
  replace hM := ite_f h_1 hM
  refine GS.skip ?_
  refine GS.seq ?_
  refine X.sq ?_
  refine X.q rfl ?_
  refine GS.opsNil ?_
  refine X.cond rfl (fun h_3 => ?_) (fun h_3 => ?_)
  · replace hM := ite_t h_3 hM
    refine X.sq ?_
    refine X.q rfl ?_
    refine GS.opsNil ?_
    subst hM
    exact GS.ret ⟨_, rfl, ⟨30, rfl⟩⟩
  replace hM := ite_f h_3 hM
  refine GS.skip ?_
  refine GS.seq ?_
  refine X.sq ?_
  iterate 3 refine X.q rfl ?_
  refine GS.opsNil ?_
  refine X.cond rfl (fun h_4 => ?_) (fun h_4 => ?_)
  · replace hM := ite_t h_4 hM
    refine X.sq ?_
    refine X.q rfl ?_
    refine GS.opsNil ?_
    subst hM
    exact GS.ret ⟨_, rfl, ⟨30, rfl⟩⟩
  replace hM := ite_f h_4 hM
  refine GS.skip ?_
  refine GS.seq ?_
  refine X.sq ?_
  iterate 3 refine X.q rfl ?_
  refine GS.opsNil ?_
  refine X.cond rfl (fun h_5 => ?_) (fun h_5 => ?_)
  · replace hM := ite_t h_5 hM
    refine X.sq ?_
    refine X.q rfl ?_
    refine GS.opsNil ?_
    subst hM
    exact GS.ret ⟨_, rfl, ⟨30, rfl⟩⟩
  replace hM := ite_f h_5 hM
  refine GS.skip ?_
  refine X.sq ?_
  refine X.q rfl ?_
  refine GS.opsNil ?_
  subst hM
  exact GS.ret ⟨_, rfl, ⟨30, rfl⟩⟩

theorem ok_berth_turns_1 (a : berth_turn) (b : berth_turn) : Ct Try.prog 143 [(e_berth_turn a), (e_berth_turn b)] (V.i (berth_turns_1 a b)) := by
  refine ct_of_gs CC_ok rfl ?_
  generalize hM : berth_turns_1 a b = r
  unfold berth_turns_1 at hM
  refine X.sq ?_
  iterate 2 refine X.opW rfl rfl rfl rfl ?_
  refine X.q rfl ?_
  refine X.nq ?_
  iterate 8 refine X.q rfl ?_
  refine X.call (ok_cmp_Compare_int a.Lease.Span.Lo b.Lease.Span.Lo) rfl rfl rfl (.cons (.shut (n := 9) rfl) (.cons (.shut (n := 9) rfl) .nil)) ?_
  refine X.q rfl ?_
  refine GS.opsNil ?_
  subst hM
  exact GS.ret ⟨_, rfl, ⟨30, rfl⟩⟩

set_option maxHeartbeats 4000000 in
theorem ok_berth_turns {l : (List api_Lease)} {r : (List berth_turn)} (hM : berth_turns l = some r) : Ct Try.prog 100 [(V.sl (List.map e_api_Lease l))] (V.sl (List.map e_berth_turn r)) := by
  refine ct_of_gs CC_ok rfl ?_
  unfold berth_turns at hM
  refine X.sq ?_
  refine X.q rfl ?_
  refine X.nq ?_
  refine X.q rfl ?_
  refine GS.opsNil ?_
  refine GS.seq ?_
  refine X.sq ?_
  refine X.q rfl ?_
  refine X.opR rfl (X.lenF rfl rfl rfl) rfl ?_
  refine X.q rfl ?_
  refine GS.opsNil ?_
  refine X.join (τ := (List berth_turn)) (fun v => berth_turns_j1 v = some r) (fun v => ⟨[(3, (ovl 0 v))], [obl 5 e_berth_turn v], 0, none, 23⟩) ?_ ?_
  · intro l1 hM
    replace hM : berth_turns_j1 l1 = some r := hM
    unfold berth_turns_j1 at hM
    refine X.sq ?_
    refine X.q rfl ?_
    refine X.inl rfl rfl rfl rfl ?_
    refine GS.region ?_
    iterate 2 refine X.q rfl ?_
    refine X.opR rfl (X.lenN (l := l1) rfl rfl rfl) rfl ?_
    refine X.q rfl ?_
    refine X.joinO (τ := (List berth_turn)) (fun v => berth_turns_j2 l1 v = some r) (fun v => ⟨[], [obl 5 e_berth_turn v], 0, none, 9⟩) ?_ ?_
    · intro l2 hM
      replace hM : berth_turns_j2 l1 l2 = some r := hM
      unfold berth_turns_j2 at hM
      refine GS.opsNil ?_
      obtain ⟨_, h_1, hM⟩ := bind_of hM
      replace h_1 := sameO_of h_1
      refine GS.nil ⟨_, rfl, ?_⟩
      refine X.norm (H' := [obl 5 e_berth_turn l2]) [(3, (ovl 0 l2))] ?_ rfl (X.sub_eq rfl (X.ovlz_len h_1) W.sub_nil)
      refine X.nq ?_
      iterate 2 refine X.q rfl ?_
      refine GS.opsNil ?_
      have hE := Option.some.inj hM
      subst hE
      exact GS.ret ⟨_, rfl, FR.ovl (f := e_berth_turn) (l := l2) 9 rfl rfl (fun _ => rfl)⟩
    intro hj_2
    refine X.inl rfl rfl rfl rfl ?_
    refine X.sq ?_
    refine X.q rfl ?_
    refine X.nq ?_
    iterate 3 refine X.q rfl ?_
    refine GS.opsNil ?_
    refine GS.seq ?_
    refine X.join (τ := Int × (List berth_turn)) (fun v => berth_turns_j3 l1 v.1 v.2 = some r) (fun v => ⟨[(0, (ovl 0 v.2)), (1, (V.i (l1.length : Int))), (2, (V.fn 143 [])), (6, (V.i 20)), (7, (V.i v.1))], [obl 5 e_berth_turn v.2], 0, none, 63⟩) ?_ ?_
    · rintro ⟨a, l3⟩ hM
      replace hM : berth_turns_j3 l1 a l3 = some r := hM
      unfold berth_turns_j3 at hM
      refine X.sq ?_
      iterate 4 refine X.q rfl ?_
      refine X.joinO (τ := (List berth_turn)) (fun v => berth_turns_j4 l1 v = some r) (fun v => ⟨[(0, (ovl 0 v)), (1, (V.i (l1.length : Int))), (2, (V.fn 143 [])), (6, (V.i 20))], [obl 5 e_berth_turn v], 0, none, 63⟩) ?_ ?_
      · intro l4 hM
        replace hM : berth_turns_j4 l1 l4 = some r := hM
        unfold berth_turns_j4 at hM
        refine GS.opsNil ?_
        refine GS.block ?_
        refine X.gc [] (X.loop (σ := Int) (fun v => ⟨[(0, (ovl 0 l4)), (1, (V.i (l1.length : Int))), (2, (V.fn 143 [])), (6, (V.i v))], [obl 5 e_berth_turn l4], 0, none, 63⟩) hM ?_ rfl) rfl rfl rfl (gk_cons rfl (rn_ovl rfl) (ga rfl rfl)) (gb_obl 9 rfl rfl (fun _ => rfl) gb_nil)
        intro blockSize b_1 hM hc_5 hr_1
        rw [berth_turns_b5] at hM
        refine GS.seq ?_
        refine X.sq ?_
        iterate 3 refine X.q rfl ?_
        refine GS.opsNil ?_
        refine X.cond rfl (fun h_2 => ?_) (fun h_2 => ?_)
        · replace hM := ite_t h_2 hM
          refine GS.skip ?_
          refine GS.block ?_
          refine X.sq ?_
          refine X.q rfl ?_
          refine X.opR rfl (X.mulE rfl rfl) rfl ?_
          iterate 2 refine X.q rfl ?_
          refine GS.opsNil ?_
          refine GS.seq ?_
          refine X.join (τ := Unit) (fun v => berth_turns_j6 l1 blockSize = some b_1) (fun v => ⟨[(0, (ovl 0 l4)), (1, (V.i (l1.length : Int))), (2, (V.fn 143 [])), (6, (V.i blockSize)), (7, (V.i 0))], [obl 5 e_berth_turn l4], 0, none, 63⟩) ?_ ?_
          · intro _ hM
            replace hM : berth_turns_j6 l1 blockSize = some b_1 := hM
            unfold berth_turns_j6 at hM
            refine GS.seq ?_
            refine X.sq ?_
            iterate 2 refine X.q rfl ?_
            refine X.opR rfl (X.addE rfl rfl) rfl ?_
            refine X.q rfl ?_
            refine X.nq ?_
            iterate 3 refine X.q rfl ?_
            refine GS.opsNil ?_
            refine X.cond rfl (fun h_3 => ?_) (fun h_3 => ?_)
            · replace hM := ite_t h_3 hM
              cases hM
            replace hM := ite_f h_3 hM
            refine GS.skip ?_
            refine GS.region ?_
            refine X.q rfl ?_
            refine X.opR rfl (X.mulE rfl rfl) rfl ?_
            refine X.q rfl ?_
            refine GS.opsNil ?_
            refine GS.endB ?_
            have hE := Option.some.inj hM
            exact X.gc [] (hc_5 (w64 (blockSize * 2)) hE.symm) rfl rfl rfl (gk_cons rfl (rn_ovl rfl) (ga rfl rfl)) (gb_obl 9 rfl rfl (fun _ => rfl) gb_nil)
          intro hj_6
          refine GS.block ?_
          refine X.gc [] (X.loop (σ := Unit) (fun v => ⟨[(0, (ovl 0 l4)), (1, (V.i (l1.length : Int))), (2, (V.fn 143 [])), (6, (V.i blockSize)), (7, (V.i 0)), (8, (V.i (w64 (2 * blockSize))))], [obl 5 e_berth_turn l4], 0, none, 63⟩) hM ?_ rfl) rfl rfl rfl (gk_cons rfl (rn_ovl rfl) (ga rfl rfl)) (gb_obl 9 rfl rfl (fun _ => rfl) gb_nil)
          intro _ b_2 hM hc_7 hr_2
          rw [berth_turns_b7] at hM
          refine GS.seq ?_
          refine X.sq ?_
          iterate 3 refine X.q rfl ?_
          refine GS.opsNil ?_
          refine X.cond rfl (fun h_4 => ?_) (fun h_4 => ?_)
          · replace hM := ite_t h_4 hM
            refine GS.skip ?_
            refine GS.block ?_
            refine GS.seq ?_
            cases hM
          replace hM := ite_f h_4 hM
          refine GS.exit rfl ?_
          obtain ⟨y_2, hM, hy⟩ := map_of hM
          rw [hr_2 _ hy.symm] at hM
          exact X.gc [] (hj_6 () hM) rfl rfl rfl (gk_cons rfl (rn_ovl rfl) (ga rfl rfl)) (gb_obl 9 rfl rfl (fun _ => rfl) gb_nil)
        replace hM := ite_f h_2 hM
        refine GS.exit rfl ?_
        refine GS.nil ⟨_, rfl, ?_⟩
        refine X.norm (H' := [obl 5 e_berth_turn l4]) [] ?_ rfl W.sub_nil
        obtain ⟨y_1, hM, hy⟩ := map_of hM
        rw [hr_1 _ hy.symm] at hM
        exact X.gc [] (hj_2 l4 hM) rfl rfl rfl (gk_nil) (gb_obl 9 rfl rfl (fun _ => rfl) gb_nil)
      intro hj_4
      refine X.inl rfl rfl rfl rfl ?_
      refine X.sq ?_
      refine X.q rfl ?_
      refine X.opR rfl (X.addE rfl rfl) rfl ?_
      refine X.q rfl ?_
      refine GS.opsNil ?_
      refine GS.block ?_
      refine X.gc [] (X.loop (σ := (Int × (List berth_turn))) (fun v => ⟨[(0, (ovl 0 v.2)), (1, (V.i a)), (2, (V.i (l1.length : Int))), (3, (V.fn 143 [])), (8, (V.i v.1))], [obl 5 e_berth_turn v.2], 0, none, 53⟩) hM ?_ rfl) rfl rfl rfl (gk_cons rfl (rn_ovl rfl) (ga rfl rfl)) (gb_obl 9 rfl rfl (fun _ => rfl) gb_nil)
      rintro ⟨i, l7⟩ b_1 hM hc_8 hr_1
      rw [berth_turns_b8] at hM
      refine GS.seq ?_
      refine X.sq ?_
      iterate 3 refine X.q rfl ?_
      refine GS.opsNil ?_
      refine X.cond rfl (fun h_5 => ?_) (fun h_5 => ?_)
      · replace hM := ite_t h_5 hM
        refine GS.skip ?_
        refine GS.seq ?_
        refine GS.block ?_
        refine X.sq ?_
        iterate 2 refine X.q rfl ?_
        refine GS.opsNil ?_
        refine X.join (τ := (List berth_turn)) (fun v => berth_turns_j9 i v = some b_1) (fun v => ⟨[(0, (ovl 0 v)), (1, (V.i a)), (2, (V.i (l1.length : Int))), (3, (V.fn 143 [])), (8, (V.i i))], [obl 5 e_berth_turn v], 0, none, 53⟩) ?_ ?_
        · intro l5 hM
          replace hM : berth_turns_j9 i l5 = some b_1 := hM
          unfold berth_turns_j9 at hM
          refine GS.endB ?_
          refine GS.region ?_
          refine X.q rfl ?_
          refine X.opR rfl (X.addE rfl rfl) rfl ?_
          refine X.q rfl ?_
          refine GS.opsNil ?_
          have hE := Option.some.inj hM
          exact X.gc [] (hc_8 (w64 (i + 1), l5) hE.symm) rfl rfl rfl (gk_cons rfl (rn_ovl rfl) (ga rfl rfl)) (gb_obl 9 rfl rfl (fun _ => rfl) gb_nil)
        intro hj_9
        refine GS.block ?_
        refine X.gc [] (X.loop (σ := (Int × (List berth_turn))) (fun v => ⟨[(0, (ovl 0 v.2)), (1, (V.i a)), (2, (V.i (l1.length : Int))), (3, (V.fn 143 [])), (8, (V.i i)), (9, (V.i v.1))], [obl 5 e_berth_turn v.2], 0, none, 53⟩) hM ?_ rfl) rfl rfl rfl (gk_cons rfl (rn_ovl rfl) (ga rfl rfl)) (gb_obl 9 rfl rfl (fun _ => rfl) gb_nil)
        rintro ⟨j, l6⟩ b_2 hM hc_10 hr_2
        rw [berth_turns_b10] at hM
        iterate 2 refine GS.seq ?_
        obtain ⟨x, h_6, hM⟩ := gb_of hM
        obtain ⟨x1, h_7, hM⟩ := gb_of hM
        refine X.mid [(0, (ovl 0 l6)), (1, (V.i a)), (2, (V.i (l1.length : Int))), (3, (V.fn 143 [])), (8, (V.i i)), (9, (V.i j)), (34, (V.b ((decide (a < j)) && (decide ((berth_turns_1 x x1) < 0)))))] ?_ ?_
        · intro hg
          refine X.split (decide (a < j)) (fun h_8 => ?_) (fun h_8 => ?_)
          · refine X.drawc (by kernel_rfl) rfl ?_
            iterate 4 refine X.cop rfl rfl rfl rfl ?_
            iterate 3 refine X.cop (X.on_t rfl rfl rfl h_8) rfl rfl rfl ?_
            refine X.cop (X.on_t rfl rfl rfl h_8) (X.indexN (h_6 h_8) rfl rfl rfl rfl rfl) rfl rfl ?_
            refine X.cop (X.on_t rfl rfl rfl h_8) (X.loadN (h_6 h_8) rfl rfl rfl rfl) rfl rfl ?_
            iterate 2 refine X.cop (X.on_t rfl rfl rfl h_8) rfl rfl rfl ?_
            refine X.cop (X.on_t rfl rfl rfl h_8) (X.subE rfl rfl) rfl rfl ?_
            refine X.cop (X.on_t rfl rfl rfl h_8) (X.indexN (h_7 h_8) rfl rfl rfl rfl rfl) rfl rfl ?_
            refine X.cop (X.on_t rfl rfl rfl h_8) (X.loadN (h_7 h_8) rfl rfl rfl rfl) rfl rfl ?_
            refine X.ccall (ok_berth_turns_1 x x1) (X.on_t rfl rfl rfl h_8) rfl rfl rfl (.cons (.shut (n := 9) rfl) (.cons (.shut (n := 9) rfl) .nil)) ?_
            refine X.cop (X.on_t rfl rfl rfl h_8) rfl rfl rfl ?_
            refine X.cop rfl (X.pickand_t (y := decide ((berth_turns_1 x x1) < 0)) rfl h_8 rfl) rfl rfl ?_
            refine X.cnil ?_
            exact X.norm _ hg rfl (sr rfl)
          refine X.drawc (by kernel_rfl) rfl ?_
          iterate 4 refine X.cop rfl rfl rfl rfl ?_
          iterate 12 refine X.coff (X.off_t rfl rfl rfl h_8) rfl rfl ?_
          refine X.cop rfl (X.pickand_f (y := decide ((berth_turns_1 x x1) < 0)) rfl h_8 rfl) rfl rfl ?_
          refine X.cnil ?_
          exact X.norm _ hg rfl (sr rfl)
        refine X.cond rfl (fun h_9 => ?_) (fun h_9 => ?_)
        · replace hM := ite_t h_9 hM
          refine GS.skip ?_
          refine GS.seq ?_
          refine GS.block ?_
          obtain ⟨x2, h_10, hM⟩ := bind_of hM
          obtain ⟨x3, h_11, hM⟩ := bind_of hM
          obtain ⟨x4, h_12, hM⟩ := bind_of hM
          obtain ⟨x5, h_13, hM⟩ := bind_of hM
          refine X.draw (by kernel_rfl) ?_
          iterate 4 refine X.dop rfl rfl rfl rfl (by kernel_rfl) rfl rfl ?_
          refine X.dop rfl (X.subE rfl rfl) rfl rfl (by kernel_rfl) rfl rfl ?_
          iterate 2 refine X.dop rfl rfl rfl rfl (by kernel_rfl) rfl rfl ?_
          refine X.dop rfl (X.subE rfl rfl) rfl rfl (by kernel_rfl) rfl rfl ?_
          refine X.dop rfl (X.indexN h_10 rfl rfl rfl rfl rfl) rfl rfl (by kernel_rfl) rfl rfl ?_
          refine X.dop rfl (X.loadN h_10 rfl rfl rfl rfl) rfl rfl (by kernel_rfl) rfl rfl ?_
          iterate 2 refine X.dop rfl rfl rfl rfl (by kernel_rfl) rfl rfl ?_
          refine X.dop rfl (X.indexN h_11 rfl rfl rfl rfl rfl) rfl rfl (by kernel_rfl) rfl rfl ?_
          refine X.dop rfl (X.loadN h_11 rfl rfl rfl rfl) rfl rfl (by kernel_rfl) rfl rfl ?_
          refine X.dop rfl (X.indexN h_12 rfl rfl rfl rfl rfl) rfl rfl (by kernel_rfl) rfl rfl ?_
          refine X.dop0 rfl (X.storeN (b := x2) h_12 rfl rfl rfl rfl rfl rfl rfl) rfl rfl (by kernel_rfl) rfl ?_
          refine X.dop rfl (X.indexN h_13 rfl rfl (X.kev_eq rfl X.ovl_put) rfl rfl) rfl rfl (by kernel_rfl) rfl rfl ?_
          refine X.dop0 rfl (X.storeN (b := x3) h_13 rfl rfl rfl rfl rfl rfl rfl) rfl rfl (by kernel_rfl) rfl ?_
          refine X.dnil ?_
          refine X.norm [(0, (ovl 0 l6)), (1, (V.i a)), (2, (V.i (l1.length : Int))), (3, (V.fn 143 [])), (8, (V.i i)), (9, (V.i j))] ?_ rfl (sr rfl)
          refine GS.endB ?_
          refine GS.region ?_
          refine X.q rfl ?_
          refine X.opR rfl (X.subE rfl rfl) rfl ?_
          refine X.q rfl ?_
          refine GS.opsNil ?_
          have hE := Option.some.inj hM
          exact X.gc [] (hc_10 (w64 (j - 1), (put (put l6 j x2) (w64 (j - 1)) x3)) hE.symm) rfl rfl rfl (gk_cons rfl (rv_eq (Eq.trans X.ovl_put X.ovl_put) (rn_ovl rfl)) (ga rfl rfl)) (gb_obl 9 rfl rfl (fun _ => rfl) gb_nil)
        replace hM := ite_f h_9 hM
        refine GS.exit rfl ?_
        obtain ⟨y_2, hM, hy⟩ := map_of hM
        rw [hr_2 _ hy.symm] at hM
        exact X.gc [] (hj_9 l6 hM) rfl rfl rfl (gk_cons rfl (rn_ovl rfl) (ga rfl rfl)) (gb_obl 9 rfl rfl (fun _ => rfl) gb_nil)
      replace hM := ite_f h_5 hM
      refine GS.exit rfl ?_
      obtain ⟨_, h_14, hM⟩ := bind_of hM
      replace h_14 := sameO_of h_14
      refine GS.nil ⟨_, rfl, ?_⟩
      refine X.norm (H' := [obl 5 e_berth_turn l7]) [(0, (ovl 0 l7)), (1, (V.i (l1.length : Int))), (2, (V.fn 143 [])), (6, (V.i 20))] ?_ rfl (X.sub_eq rfl (X.ovlz_len h_14) (sr rfl))
      obtain ⟨y_1, hM, hy⟩ := map_of hM
      rw [hr_1 _ hy.symm] at hM
      exact X.gc [] (hj_4 l7 hM) rfl rfl rfl (gk_cons rfl (rn_ovl rfl) (ga rfl rfl)) (gb_obl 9 rfl rfl (fun _ => rfl) gb_nil)
    intro hj_3
    refine GS.block ?_
    refine X.gc [] (X.loop (σ := (Int × Int × (List berth_turn))) (fun v => ⟨[(0, (ovl 0 v.2.2)), (1, (V.i (l1.length : Int))), (2, (V.fn 143 [])), (6, (V.i 20)), (7, (V.i v.1)), (8, (V.i v.2.1))], [obl 5 e_berth_turn v.2.2], 0, none, 63⟩) hM ?_ rfl) rfl rfl rfl (gk_cons rfl (rn_ovl rfl) (ga rfl rfl)) (gb_obl 9 rfl rfl (fun _ => rfl) gb_nil)
    rintro ⟨a1, b, l12⟩ b_1 hM hc_11 hr_1
    rw [berth_turns_b11] at hM
    refine GS.seq ?_
    refine X.sq ?_
    iterate 3 refine X.q rfl ?_
    refine GS.opsNil ?_
    refine X.cond rfl (fun h_15 => ?_) (fun h_15 => ?_)
    · replace hM := ite_t h_15 hM
      refine GS.skip ?_
      refine GS.block ?_
      refine X.sq ?_
      iterate 4 refine X.q rfl ?_
      refine X.joinO (τ := (List berth_turn)) (fun v => berth_turns_j12 b v = some b_1) (fun v => ⟨[(0, (ovl 0 v)), (1, (V.i (l1.length : Int))), (2, (V.fn 143 [])), (6, (V.i 20)), (8, (V.i b))], [obl 5 e_berth_turn v], 0, none, 63⟩) ?_ ?_
      · intro l8 hM
        replace hM : berth_turns_j12 b l8 = some b_1 := hM
        unfold berth_turns_j12 at hM
        refine X.nq ?_
        iterate 2 refine X.q rfl ?_
        refine X.mq ?_
        iterate 2 refine X.q rfl ?_
        refine X.opR rfl (X.addE rfl rfl) rfl ?_
        refine X.q rfl ?_
        refine GS.opsNil ?_
        refine GS.endB ?_
        have hE := Option.some.inj hM
        exact X.gc [] (hc_11 (b, w64 (b + 20), l8) hE.symm) rfl rfl rfl (gk_cons rfl (rn_ovl rfl) (ga rfl rfl)) (gb_obl 9 rfl rfl (fun _ => rfl) gb_nil)
      intro hj_12
      refine X.inl rfl rfl rfl rfl ?_
      refine X.sq ?_
      refine X.q rfl ?_
      refine X.opR rfl (X.addE rfl rfl) rfl ?_
      refine X.q rfl ?_
      refine GS.opsNil ?_
      refine GS.block ?_
      refine X.gc [] (X.loop (σ := (Int × (List berth_turn))) (fun v => ⟨[(0, (ovl 0 v.2)), (1, (V.i a1)), (2, (V.i b)), (3, (V.fn 143 [])), (8, (V.i v.1))], [obl 5 e_berth_turn v.2], 0, none, 53⟩) hM ?_ rfl) rfl rfl rfl (gk_cons rfl (rn_ovl rfl) (ga rfl rfl)) (gb_obl 9 rfl rfl (fun _ => rfl) gb_nil)
      rintro ⟨i1, l11⟩ b_2 hM hc_13 hr_2
      rw [berth_turns_b13] at hM
      refine GS.seq ?_
      refine X.sq ?_
      iterate 3 refine X.q rfl ?_
      refine GS.opsNil ?_
      refine X.cond rfl (fun h_16 => ?_) (fun h_16 => ?_)
      · replace hM := ite_t h_16 hM
        refine GS.skip ?_
        refine GS.seq ?_
        refine GS.block ?_
        refine X.sq ?_
        iterate 2 refine X.q rfl ?_
        refine GS.opsNil ?_
        refine X.join (τ := (List berth_turn)) (fun v => berth_turns_j14 i1 v = some b_2) (fun v => ⟨[(0, (ovl 0 v)), (1, (V.i a1)), (2, (V.i b)), (3, (V.fn 143 [])), (8, (V.i i1))], [obl 5 e_berth_turn v], 0, none, 53⟩) ?_ ?_
        · intro l9 hM
          replace hM : berth_turns_j14 i1 l9 = some b_2 := hM
          unfold berth_turns_j14 at hM
          refine GS.endB ?_
          refine GS.region ?_
          refine X.q rfl ?_
          refine X.opR rfl (X.addE rfl rfl) rfl ?_
          refine X.q rfl ?_
          refine GS.opsNil ?_
          have hE := Option.some.inj hM
          exact X.gc [] (hc_13 (w64 (i1 + 1), l9) hE.symm) rfl rfl rfl (gk_cons rfl (rn_ovl rfl) (ga rfl rfl)) (gb_obl 9 rfl rfl (fun _ => rfl) gb_nil)
        intro hj_14
        refine GS.block ?_
        refine X.gc [] (X.loop (σ := (Int × (List berth_turn))) (fun v => ⟨[(0, (ovl 0 v.2)), (1, (V.i a1)), (2, (V.i b)), (3, (V.fn 143 [])), (8, (V.i i1)), (9, (V.i v.1))], [obl 5 e_berth_turn v.2], 0, none, 53⟩) hM ?_ rfl) rfl rfl rfl (gk_cons rfl (rn_ovl rfl) (ga rfl rfl)) (gb_obl 9 rfl rfl (fun _ => rfl) gb_nil)
        rintro ⟨j1, l10⟩ b_3 hM hc_15 hr_3
        rw [berth_turns_b15] at hM
        iterate 2 refine GS.seq ?_
        obtain ⟨x6, h_17, hM⟩ := gb_of hM
        obtain ⟨x7, h_18, hM⟩ := gb_of hM
        refine X.mid [(0, (ovl 0 l10)), (1, (V.i a1)), (2, (V.i b)), (3, (V.fn 143 [])), (8, (V.i i1)), (9, (V.i j1)), (34, (V.b ((decide (a1 < j1)) && (decide ((berth_turns_1 x6 x7) < 0)))))] ?_ ?_
        · intro hg
          refine X.split (decide (a1 < j1)) (fun h_19 => ?_) (fun h_19 => ?_)
          · refine X.drawc (by kernel_rfl) rfl ?_
            iterate 4 refine X.cop rfl rfl rfl rfl ?_
            iterate 3 refine X.cop (X.on_t rfl rfl rfl h_19) rfl rfl rfl ?_
            refine X.cop (X.on_t rfl rfl rfl h_19) (X.indexN (h_17 h_19) rfl rfl rfl rfl rfl) rfl rfl ?_
            refine X.cop (X.on_t rfl rfl rfl h_19) (X.loadN (h_17 h_19) rfl rfl rfl rfl) rfl rfl ?_
            iterate 2 refine X.cop (X.on_t rfl rfl rfl h_19) rfl rfl rfl ?_
            refine X.cop (X.on_t rfl rfl rfl h_19) (X.subE rfl rfl) rfl rfl ?_
            refine X.cop (X.on_t rfl rfl rfl h_19) (X.indexN (h_18 h_19) rfl rfl rfl rfl rfl) rfl rfl ?_
            refine X.cop (X.on_t rfl rfl rfl h_19) (X.loadN (h_18 h_19) rfl rfl rfl rfl) rfl rfl ?_
            refine X.ccall (ok_berth_turns_1 x6 x7) (X.on_t rfl rfl rfl h_19) rfl rfl rfl (.cons (.shut (n := 9) rfl) (.cons (.shut (n := 9) rfl) .nil)) ?_
            refine X.cop (X.on_t rfl rfl rfl h_19) rfl rfl rfl ?_
            refine X.cop rfl (X.pickand_t (y := decide ((berth_turns_1 x6 x7) < 0)) rfl h_19 rfl) rfl rfl ?_
            refine X.cnil ?_
            exact X.norm _ hg rfl (sr rfl)
          refine X.drawc (by kernel_rfl) rfl ?_
          iterate 4 refine X.cop rfl rfl rfl rfl ?_
          iterate 12 refine X.coff (X.off_t rfl rfl rfl h_19) rfl rfl ?_
          refine X.cop rfl (X.pickand_f (y := decide ((berth_turns_1 x6 x7) < 0)) rfl h_19 rfl) rfl rfl ?_
          refine X.cnil ?_
          exact X.norm _ hg rfl (sr rfl)
        refine X.cond rfl (fun h_20 => ?_) (fun h_20 => ?_)
        · replace hM := ite_t h_20 hM
          refine GS.skip ?_
          refine GS.seq ?_
          refine GS.block ?_
          obtain ⟨x8, h_21, hM⟩ := bind_of hM
          obtain ⟨x9, h_22, hM⟩ := bind_of hM
          obtain ⟨x10, h_23, hM⟩ := bind_of hM
          obtain ⟨x11, h_24, hM⟩ := bind_of hM
          refine X.draw (by kernel_rfl) ?_
          iterate 4 refine X.dop rfl rfl rfl rfl (by kernel_rfl) rfl rfl ?_
          refine X.dop rfl (X.subE rfl rfl) rfl rfl (by kernel_rfl) rfl rfl ?_
          iterate 2 refine X.dop rfl rfl rfl rfl (by kernel_rfl) rfl rfl ?_
          refine X.dop rfl (X.subE rfl rfl) rfl rfl (by kernel_rfl) rfl rfl ?_
          refine X.dop rfl (X.indexN h_21 rfl rfl rfl rfl rfl) rfl rfl (by kernel_rfl) rfl rfl ?_
          refine X.dop rfl (X.loadN h_21 rfl rfl rfl rfl) rfl rfl (by kernel_rfl) rfl rfl ?_
          iterate 2 refine X.dop rfl rfl rfl rfl (by kernel_rfl) rfl rfl ?_
          refine X.dop rfl (X.indexN h_22 rfl rfl rfl rfl rfl) rfl rfl (by kernel_rfl) rfl rfl ?_
          refine X.dop rfl (X.loadN h_22 rfl rfl rfl rfl) rfl rfl (by kernel_rfl) rfl rfl ?_
          refine X.dop rfl (X.indexN h_23 rfl rfl rfl rfl rfl) rfl rfl (by kernel_rfl) rfl rfl ?_
          refine X.dop0 rfl (X.storeN (b := x8) h_23 rfl rfl rfl rfl rfl rfl rfl) rfl rfl (by kernel_rfl) rfl ?_
          refine X.dop rfl (X.indexN h_24 rfl rfl (X.kev_eq rfl X.ovl_put) rfl rfl) rfl rfl (by kernel_rfl) rfl rfl ?_
          refine X.dop0 rfl (X.storeN (b := x9) h_24 rfl rfl rfl rfl rfl rfl rfl) rfl rfl (by kernel_rfl) rfl ?_
          refine X.dnil ?_
          refine X.norm [(0, (ovl 0 l10)), (1, (V.i a1)), (2, (V.i b)), (3, (V.fn 143 [])), (8, (V.i i1)), (9, (V.i j1))] ?_ rfl (sr rfl)
          refine GS.endB ?_
          refine GS.region ?_
          refine X.q rfl ?_
          refine X.opR rfl (X.subE rfl rfl) rfl ?_
          refine X.q rfl ?_
          refine GS.opsNil ?_
          have hE := Option.some.inj hM
          exact X.gc [] (hc_15 (w64 (j1 - 1), (put (put l10 j1 x8) (w64 (j1 - 1)) x9)) hE.symm) rfl rfl rfl (gk_cons rfl (rv_eq (Eq.trans X.ovl_put X.ovl_put) (rn_ovl rfl)) (ga rfl rfl)) (gb_obl 9 rfl rfl (fun _ => rfl) gb_nil)
        replace hM := ite_f h_20 hM
        refine GS.exit rfl ?_
        obtain ⟨y_3, hM, hy⟩ := map_of hM
        rw [hr_3 _ hy.symm] at hM
        exact X.gc [] (hj_14 l10 hM) rfl rfl rfl (gk_cons rfl (rn_ovl rfl) (ga rfl rfl)) (gb_obl 9 rfl rfl (fun _ => rfl) gb_nil)
      replace hM := ite_f h_16 hM
      refine GS.exit rfl ?_
      obtain ⟨_, h_25, hM⟩ := bind_of hM
      replace h_25 := sameO_of h_25
      refine GS.nil ⟨_, rfl, ?_⟩
      refine X.norm (H' := [obl 5 e_berth_turn l11]) [(0, (ovl 0 l11)), (1, (V.i (l1.length : Int))), (2, (V.fn 143 [])), (6, (V.i 20)), (8, (V.i b))] ?_ rfl (X.sub_eq rfl (X.ovlz_len h_25) (sr rfl))
      obtain ⟨y_2, hM, hy⟩ := map_of hM
      rw [hr_2 _ hy.symm] at hM
      exact X.gc [] (hj_12 l11 hM) rfl rfl rfl (gk_cons rfl (rn_ovl rfl) (ga rfl rfl)) (gb_obl 9 rfl rfl (fun _ => rfl) gb_nil)
    replace hM := ite_f h_15 hM
    refine GS.exit rfl ?_
    obtain ⟨y_1, hM, hy⟩ := map_of hM
    rw [hr_1 _ hy.symm] at hM
    exact X.gc [] (hj_3 (a1, l12) hM) rfl rfl rfl (gk_cons rfl (rn_ovl rfl) (ga rfl rfl)) (gb_obl 9 rfl rfl (fun _ => rfl) gb_nil)
  intro hj_1
  refine GS.block ?_
  refine X.gc [none] (X.loop (σ := (Int × (List berth_turn))) (fun v => ⟨[(3, (ovl 0 v.2)), (6, (V.sl (List.map e_api_Lease l))), (7, (V.i (l.length : Int))), (8, (V.i v.1))], [obl 5 e_berth_turn v.2], 0, none, 23⟩) hM ?_ rfl) rfl rfl rfl (ga rfl rfl) (gb_pad' rfl gb_nil)
  rintro ⟨x13, l14⟩ b_1 hM hc_16 hr_1
  rw [berth_turns_b16] at hM
  refine X.sq ?_
  refine X.q rfl ?_
  refine GS.opsNil ?_
  refine GS.seq ?_
  refine X.cond rfl (fun h_26 => ?_) (fun h_26 => ?_)
  · replace hM := ite_t h_26 hM
    refine GS.skip ?_
    refine GS.seq ?_
    refine GS.block ?_
    refine GS.seq ?_
    obtain ⟨x12, h_27, hM⟩ := bind_of hM
    refine GS.region ?_
    refine X.q rfl ?_
    refine X.opR rfl (X.indexF (f := e_api_Lease) h_27 (fun _ => rfl) rfl rfl rfl rfl) rfl ?_
    refine X.opR rfl (X.loadF h_27 rfl rfl rfl) rfl ?_
    refine X.opW rfl rfl rfl rfl ?_
    refine X.q rfl ?_
    refine X.op0W rfl rfl rfl ?_
    refine GS.opsNil ?_
    obtain ⟨l13, h_28, hM⟩ := bind_of hM
    refine GS.region ?_
    iterate 4 refine X.q rfl ?_
    refine X.opW rfl rfl rfl rfl ?_
    refine X.appN (f := e_berth_turn) h_28 (fun _ => rfl) (by rfl) (by rfl) (by rfl) (by rfl) (by rfl) (by rfl) (by rfl) (by rfl) (by rfl) (by rfl) (by rfl) (by exact rfl) (by rfl) (by rfl) ?_
    refine X.q rfl ?_
    refine GS.opsNil ?_
    refine GS.endB ?_
    refine GS.region ?_
    refine X.opR rfl (X.addE rfl rfl) rfl ?_
    refine X.q rfl ?_
    refine GS.opsNil ?_
    have hE := Option.some.inj hM
    exact X.gc [some 3] (hc_16 (w64 (x13 + 1), l13) hE.symm) rfl rfl rfl (gk_cons rfl (rv_ne (app_ne h_28) rfl) (ga rfl rfl)) (gb_obl' 9 (app_ne h_28) rfl rfl (fun _ => rfl) gb_nil)
  replace hM := ite_f h_26 hM
  refine GS.exit rfl ?_
  obtain ⟨y_1, hM, hy⟩ := map_of hM
  rw [hr_1 _ hy.symm] at hM
  exact X.gc [some 0] (hj_1 l14 hM) rfl rfl rfl (gk_cons rfl (rn_ovl rfl) gk_nil) (gb_obl 9 rfl rfl (fun _ => rfl) gb_nil)

theorem ok_berth_atOnce (a : api_Lease) (b : api_Lease) : Ct Try.prog 101 [(e_api_Lease a), (e_api_Lease b)] (V.b (berth_atOnce a b)) := by
  refine ct_of_gs CC_ok rfl ?_
  generalize hM : berth_atOnce a b = r
  unfold berth_atOnce at hM
  refine X.sq ?_
  iterate 2 refine X.opW rfl rfl rfl rfl ?_
  refine X.q rfl ?_
  refine X.nq ?_
  refine X.mid [(4, (V.b ((decide (a.Span.Lo ≤ b.Span.Hi)) && (decide (b.Span.Lo ≤ a.Span.Hi)))))] ?_ ?_
  · intro hg
    refine X.split (decide (a.Span.Lo ≤ b.Span.Hi)) (fun h_1 => ?_) (fun h_1 => ?_)
    · iterate 8 refine X.q rfl ?_
      iterate 7 refine X.opR (X.on_t rfl rfl rfl h_1) rfl rfl ?_
      refine X.opR rfl (X.pickand_t (y := decide (b.Span.Lo ≤ a.Span.Hi)) rfl h_1 rfl) rfl ?_
      refine X.q rfl ?_
      refine GS.opsNil ?_
      exact X.norm _ hg rfl (sr rfl)
    iterate 8 refine X.q rfl ?_
    iterate 7 refine X.off (X.off_t rfl rfl rfl h_1) rfl ?_
    refine X.opR rfl (X.pickand_f (y := decide (b.Span.Lo ≤ a.Span.Hi)) rfl h_1 rfl) rfl ?_
    refine X.q rfl ?_
    refine GS.opsNil ?_
    exact X.norm _ hg rfl (sr rfl)
  subst hM
  exact GS.ret ⟨_, rfl, ⟨30, rfl⟩⟩

set_option maxHeartbeats 4000000 in
theorem ok_berth_Lighters {l : (List api_Lease)} {r : (List Int) × Int × Int} (hM : berth_Lighters l = some r) : Ct Try.prog 36 [(V.sl (List.map e_api_Lease l))] (V.tup [(V.sl (List.map V.i r.1)), (V.i r.2.1), (V.i r.2.2)]) := by
  refine ct_of_gs CC_ok rfl ?_
  unfold berth_Lighters at hM
  refine X.sq ?_
  iterate 3 refine X.q rfl ?_
  refine GS.opsNil ?_
  iterate 2 refine GS.seq ?_
  obtain ⟨y, h_1, hM⟩ := bind_of hM
  refine GS.region ?_
  refine X.q rfl ?_
  refine X.call (ok_berth_CheckLeases h_1) rfl rfl rfl (.cons (.shut (n := 9) rfl) .nil) ?_
  refine X.q rfl ?_
  refine X.nq ?_
  iterate 2 refine X.q rfl ?_
  refine GS.opsNil ?_
  refine X.cond rfl (fun h_2 => ?_) (fun h_2 => ?_)
  · replace hM := ite_t h_2 hM
    refine X.sq ?_
    iterate 4 refine X.q rfl ?_
    refine GS.opsNil ?_
    have hE := Option.some.inj hM
    subst hE
    exact GS.ret ⟨_, rfl, ⟨30, rfl⟩⟩
  replace hM := ite_f h_2 hM
  refine GS.skip ?_
  refine X.sq ?_
  refine X.q rfl ?_
  refine GS.opsNil ?_
  refine GS.seq ?_
  refine X.sq ?_
  refine X.q rfl ?_
  refine X.opR rfl (X.lenF rfl rfl rfl) rfl ?_
  refine X.q rfl ?_
  refine GS.opsNil ?_
  refine X.join (τ := (List Int)) (fun v => berth_Lighters_j1 l v = some r) (fun v => ⟨[(0, (V.sl (List.map e_api_Lease l))), (6, (ovl 0 v))], [obl 1 V.i v], 0, none, 73⟩) ?_ ?_
  · intro l1 hM
    replace hM : berth_Lighters_j1 l l1 = some r := hM
    unfold berth_Lighters_j1 at hM
    refine X.sq ?_
    refine X.q rfl ?_
    refine GS.opsNil ?_
    iterate 2 refine GS.seq ?_
    obtain ⟨y1, h_3, hM⟩ := bind_of hM
    refine GS.region ?_
    refine X.q rfl ?_
    refine X.call (ok_berth_turns h_3) rfl rfl rfl (.cons (.shut (n := 9) rfl) .nil) ?_
    refine X.opR rfl (X.lenF rfl rfl rfl) rfl ?_
    refine X.q rfl ?_
    refine GS.opsNil ?_
    refine X.join (τ := Int × (List Int)) (fun v => berth_Lighters_j2 v.1 v.2 = some r) (fun v => ⟨[(6, (ovl 0 v.2)), (7, (V.i v.1))], [obl 1 V.i v.2], 0, none, 73⟩) ?_ ?_
    · rintro ⟨most, l2⟩ hM
      replace hM : berth_Lighters_j2 most l2 = some r := hM
      unfold berth_Lighters_j2 at hM
      refine X.sq ?_
      iterate 5 refine X.q rfl ?_
      refine GS.opsNil ?_
      have hE := Option.some.inj hM
      subst hE
      exact GS.ret ⟨_, rfl, FR.tup (.cons (FR.ovl (f := V.i) (l := l2) 9 rfl rfl (fun _ => rfl)) (.cons ⟨30, rfl⟩ (.cons ⟨30, rfl⟩ .nil)))⟩
    intro hj_2
    refine GS.block ?_
    refine X.gc [some 0] (X.loop (σ := (Int × Int × (List Int))) (fun v => ⟨[(0, (V.sl (List.map e_api_Lease l))), (6, (ovl 0 v.2.2)), (7, (V.i v.1)), (28, (V.sl (List.map e_berth_turn y1))), (29, (V.i (y1.length : Int))), (30, (V.i v.2.1))], [obl 1 V.i v.2.2], 0, none, 73⟩) hM ?_ rfl) rfl rfl rfl (gk_cons rfl ⟨9, rfl⟩ (gk_cons rfl (rn_ovl rfl) (ga rfl rfl))) (gb_obl 9 rfl rfl (fun _ => rfl) gb_nil)
    rintro ⟨most1, x5, l3⟩ b_1 hM hc_3 hr_1
    rw [berth_Lighters_b3] at hM
    refine X.sq ?_
    refine X.q rfl ?_
    refine GS.opsNil ?_
    refine GS.seq ?_
    refine X.cond rfl (fun h_4 => ?_) (fun h_4 => ?_)
    · replace hM := ite_t h_4 hM
      refine GS.skip ?_
      refine GS.seq ?_
      refine GS.block ?_
      refine GS.seq ?_
      obtain ⟨x, h_5, hM⟩ := bind_of hM
      refine GS.region ?_
      refine X.opR rfl (X.indexF (f := e_berth_turn) h_5 (fun _ => rfl) rfl rfl rfl rfl) rfl ?_
      refine X.opR rfl (X.loadF h_5 rfl rfl rfl) rfl ?_
      refine X.opW rfl rfl rfl rfl ?_
      refine X.op0W rfl rfl rfl ?_
      refine X.nq ?_
      refine X.opW rfl rfl rfl rfl ?_
      refine X.q rfl ?_
      refine GS.opsNil ?_
      refine GS.seq ?_
      refine X.sq ?_
      refine X.q rfl ?_
      refine X.opR rfl (X.lenN (l := l3) rfl rfl rfl) rfl ?_
      refine X.q rfl ?_
      refine GS.opsNil ?_
      refine X.join (τ := (List (Int × Bool))) (fun v => berth_Lighters_j4 most1 x5 l3 x v = some b_1) (fun v => ⟨[(0, (V.sl (List.map e_api_Lease l))), (6, (ovl 0 l3)), (7, (V.i most1)), (9, (V.ptr 1 0 0)), (10, (V.map 2)), (28, (V.sl (List.map e_berth_turn y1))), (29, (V.i (y1.length : Int))), (30, (V.i x5))], [obl 1 V.i l3, .rows 5 [(e_berth_turn x)], .map (List.map (fun p => V.i p.1) v) (List.map (fun p => V.b p.2) v)], 0, none, 73⟩) ?_ ?_
      · intro m hM
        replace hM : berth_Lighters_j4 most1 x5 l3 x m = some b_1 := hM
        unfold berth_Lighters_j4 at hM
        refine X.sq ?_
        refine X.q rfl ?_
        refine GS.opsNil ?_
        refine GS.seq ?_
        refine X.join (τ := Int) (fun v => berth_Lighters_j5 most1 x5 l3 x v = some b_1) (fun v => ⟨[(0, (V.sl (List.map e_api_Lease l))), (6, (ovl 0 l3)), (7, (V.i most1)), (9, (V.ptr 1 0 0)), (13, (V.i v)), (28, (V.sl (List.map e_berth_turn y1))), (29, (V.i (y1.length : Int))), (30, (V.i x5))], [obl 1 V.i l3, .rows 5 [(e_berth_turn x)]], 0, none, 73⟩) ?_ ?_
        · intro n hM
          replace hM : berth_Lighters_j5 most1 x5 l3 x n = some b_1 := hM
          unfold berth_Lighters_j5 at hM
          refine GS.seq ?_
          obtain ⟨x1, h_6, hM⟩ := bind_of hM
          refine GS.region ?_
          iterate 4 refine X.q rfl ?_
          refine X.opR rfl (X.indexN h_6 rfl rfl rfl rfl rfl) rfl ?_
          refine X.op0W rfl (X.storeN (b := n) h_6 rfl rfl rfl rfl rfl rfl rfl) rfl ?_
          refine X.mq ?_
          iterate 2 refine X.q rfl ?_
          refine X.opR rfl (X.addE rfl rfl) rfl ?_
          refine X.opR rfl (X.maxE rfl rfl) rfl ?_
          refine X.q rfl ?_
          refine GS.opsNil ?_
          refine GS.endB ?_
          refine GS.region ?_
          refine X.opR rfl (X.addE rfl rfl) rfl ?_
          refine X.q rfl ?_
          refine GS.opsNil ?_
          have hE := Option.some.inj hM
          exact X.gc [some 0] (hc_3 (max most1 (w64 (n + 1)), w64 (x5 + 1), (put l3 x.place n)) hE.symm) rfl rfl rfl (gk_cons rfl ⟨9, rfl⟩ (gk_cons rfl (rv_eq X.ovl_put (rn_ovl rfl)) (ga rfl rfl))) (gb_obl 9 rfl rfl (fun _ => rfl) gb_nil)
        intro hj_5
        refine GS.block ?_
        refine X.gc [some 0, some 1, some 2] (X.loop (σ := Int) (fun v => ⟨[(0, (V.sl (List.map e_api_Lease l))), (6, (ovl 0 l3)), (7, (V.i most1)), (9, (V.ptr 1 0 0)), (10, (V.map 2)), (13, (V.i v)), (28, (V.sl (List.map e_berth_turn y1))), (29, (V.i (y1.length : Int))), (30, (V.i x5))], [obl 1 V.i l3, .rows 5 [(e_berth_turn x)], .map (List.map (fun p => V.i p.1) m) (List.map (fun p => V.b p.2) m)], 0, none, 73⟩) hM ?_ rfl) rfl rfl rfl (gk_cons rfl ⟨9, rfl⟩ (gk_cons rfl (rn_ovl rfl) (ga rfl rfl))) (gb_obl 9 rfl rfl (fun _ => rfl) (gb9 rfl rfl rfl (X.gb_mapK 9 rfl rfl (fun _ => rfl) (fun _ => rfl) gb_nil)))
        intro n1 b_2 hM hc_6 hr_2
        rw [berth_Lighters_b6] at hM
        refine GS.seq ?_
        refine X.sq ?_
        iterate 2 refine X.q rfl ?_
        refine X.opR rfl (X.lookW (f := V.i) (g := V.b) (k := n1) (l := m) (z := false) (ok := false) X.keyEq_i rfl rfl rfl rfl rfl rfl) rfl ?_
        refine GS.opsNil ?_
        refine X.cond rfl (fun h_7 => ?_) (fun h_7 => ?_)
        · replace hM := ite_t h_7 hM
          refine GS.skip ?_
          refine GS.block ?_
          refine GS.region ?_
          refine X.q rfl ?_
          refine X.opR rfl (X.addE rfl rfl) rfl ?_
          refine X.q rfl ?_
          refine GS.opsNil ?_
          refine GS.endB ?_
          have hE := Option.some.inj hM
          exact X.gc [some 0, some 1, some 2] (hc_6 (w64 (n1 + 1)) hE.symm) rfl rfl rfl (gk_cons rfl ⟨9, rfl⟩ (gk_cons rfl (rn_ovl rfl) (ga rfl rfl))) (gb_obl 9 rfl rfl (fun _ => rfl) (gb9 rfl rfl rfl (X.gb_mapK 9 rfl rfl (fun _ => rfl) (fun _ => rfl) gb_nil)))
        replace hM := ite_f h_7 hM
        refine GS.exit rfl ?_
        obtain ⟨y_2, hM, hy⟩ := map_of hM
        rw [hr_2 _ hy.symm] at hM
        exact X.gc [some 0, some 1] (hj_5 n1 hM) rfl rfl rfl (gk_cons rfl ⟨9, rfl⟩ (gk_cons rfl (rn_ovl rfl) (ga rfl rfl))) (gb_obl 9 rfl rfl (fun _ => rfl) (gb9 rfl rfl rfl gb_nil))
      intro hj_4
      refine GS.block ?_
      refine X.gc [some 0, some 1, some 2] (X.loop (σ := (Int × (List (Int × Bool)))) (fun v => ⟨[(0, (V.sl (List.map e_api_Lease l))), (6, (ovl 0 l3)), (7, (V.i most1)), (9, (V.ptr 1 0 0)), (10, (V.map 2)), (28, (V.sl (List.map e_berth_turn y1))), (29, (V.i (y1.length : Int))), (30, (V.i x5)), (35, (ovl 0 l3)), (36, (V.i (l3.length : Int))), (37, (V.i v.1))], [obl 1 V.i l3, .rows 5 [(e_berth_turn x)], .map (List.map (fun p => V.i p.1) v.2) (List.map (fun p => V.b p.2) v.2)], 0, none, 73⟩) hM ?_ rfl) rfl rfl rfl (gk_cons rfl ⟨9, rfl⟩ (gk_cons rfl (rn_ovl rfl) (gk_cons rfl ⟨9, rfl⟩ (gk_cons rfl ⟨9, rfl⟩ (gk_cons rfl ⟨9, rfl⟩ (gk_cons rfl ⟨9, rfl⟩ (gk_cons rfl ⟨9, rfl⟩ (gk_cons rfl ⟨9, rfl⟩ (gk_cons rfl (rn_ovl rfl) (ga rfl rfl)))))))))) (gb_obl 9 rfl rfl (fun _ => rfl) (gb9 rfl rfl rfl (X.gb_mapK 9 rfl rfl (fun _ => rfl) (fun _ => rfl) gb_nil)))
      rintro ⟨x4, m2⟩ b_2 hM hc_7 hr_2
      rw [berth_Lighters_b7] at hM
      refine X.sq ?_
      refine X.q rfl ?_
      refine GS.opsNil ?_
      refine GS.seq ?_
      refine X.cond rfl (fun h_8 => ?_) (fun h_8 => ?_)
      · replace hM := ite_t h_8 hM
        refine GS.skip ?_
        refine GS.seq ?_
        refine X.join (τ := (List (Int × Bool))) (fun v => berth_Lighters_j8 x4 v = some b_2) (fun v => ⟨[(0, (V.sl (List.map e_api_Lease l))), (6, (ovl 0 l3)), (7, (V.i most1)), (9, (V.ptr 1 0 0)), (10, (V.map 2)), (28, (V.sl (List.map e_berth_turn y1))), (29, (V.i (y1.length : Int))), (30, (V.i x5)), (35, (ovl 0 l3)), (36, (V.i (l3.length : Int))), (37, (V.i x4))], [obl 1 V.i l3, .rows 5 [(e_berth_turn x)], .map (List.map (fun p => V.i p.1) v) (List.map (fun p => V.b p.2) v)], 0, none, 73⟩) ?_ ?_
        · intro m1 hM
          replace hM : berth_Lighters_j8 x4 m1 = some b_2 := hM
          unfold berth_Lighters_j8 at hM
          refine GS.region ?_
          refine X.opR rfl (X.addE rfl rfl) rfl ?_
          refine X.q rfl ?_
          refine GS.opsNil ?_
          have hE := Option.some.inj hM
          exact X.gc [some 0, some 1, some 2] (hc_7 (w64 (x4 + 1), m1) hE.symm) rfl rfl rfl (gk_cons rfl ⟨9, rfl⟩ (gk_cons rfl (rn_ovl rfl) (gk_cons rfl ⟨9, rfl⟩ (gk_cons rfl ⟨9, rfl⟩ (gk_cons rfl ⟨9, rfl⟩ (gk_cons rfl ⟨9, rfl⟩ (gk_cons rfl ⟨9, rfl⟩ (gk_cons rfl ⟨9, rfl⟩ (gk_cons rfl (rn_ovl rfl) (ga rfl rfl)))))))))) (gb_obl 9 rfl rfl (fun _ => rfl) (gb9 rfl rfl rfl (X.gb_mapK 9 rfl rfl (fun _ => rfl) (fun _ => rfl) gb_nil)))
        intro hj_8
        refine GS.block ?_
        refine GS.seq ?_
        obtain ⟨x2, h_9, hM⟩ := bind_of hM
        refine GS.region ?_
        refine X.q rfl ?_
        refine X.opR rfl (X.indexN h_9 rfl rfl rfl rfl rfl) rfl ?_
        refine X.opR rfl (X.loadN h_9 rfl rfl rfl rfl) rfl ?_
        iterate 2 refine X.q rfl ?_
        refine GS.opsNil ?_
        refine GS.seq ?_
        obtain ⟨x3, h_10, hM⟩ := gb_of hM
        refine X.mid [(0, (V.sl (List.map e_api_Lease l))), (6, (ovl 0 l3)), (7, (V.i most1)), (9, (V.ptr 1 0 0)), (10, (V.map 2)), (12, (V.i x2)), (28, (V.sl (List.map e_berth_turn y1))), (29, (V.i (y1.length : Int))), (30, (V.i x5)), (35, (ovl 0 l3)), (36, (V.i (l3.length : Int))), (37, (V.i x4)), (52, (V.b ((decide (0 ≤ x2)) && (berth_atOnce x3 x.Lease))))] ?_ ?_
        · intro hg
          refine X.split (decide (0 ≤ x2)) (fun h_11 => ?_) (fun h_11 => ?_)
          · refine X.drawc (by kernel_rfl) rfl ?_
            iterate 3 refine X.cop rfl rfl rfl rfl ?_
            iterate 2 refine X.cop (X.on_t rfl rfl rfl h_11) rfl rfl rfl ?_
            refine X.cop (X.on_t rfl rfl rfl h_11) (X.indexF (f := e_api_Lease) (h_10 h_11) (fun _ => rfl) rfl rfl rfl rfl) rfl rfl ?_
            refine X.cop (X.on_t rfl rfl rfl h_11) (X.loadF (h_10 h_11) rfl rfl rfl) rfl rfl ?_
            iterate 2 refine X.cop (X.on_t rfl rfl rfl h_11) rfl rfl rfl ?_
            refine X.ccall (ok_berth_atOnce x3 x.Lease) (X.on_t rfl rfl rfl h_11) rfl rfl rfl (.cons (.shut (n := 9) rfl) (.cons (.shut (n := 9) rfl) .nil)) ?_
            refine X.cop rfl (X.pickand_t (y := (berth_atOnce x3 x.Lease)) rfl h_11 rfl) rfl rfl ?_
            refine X.cnil ?_
            exact X.norm _ hg rfl (sr rfl)
          refine X.drawc (by kernel_rfl) rfl ?_
          iterate 3 refine X.cop rfl rfl rfl rfl ?_
          iterate 7 refine X.coff (X.off_t rfl rfl rfl h_11) rfl rfl ?_
          refine X.cop rfl (X.pickand_f (y := (berth_atOnce x3 x.Lease)) rfl h_11 rfl) rfl rfl ?_
          refine X.cnil ?_
          exact X.norm _ hg rfl (sr rfl)
        refine X.cond rfl (fun h_12 => ?_) (fun h_12 => ?_)
        · replace hM := ite_t h_12 hM
          refine GS.region ?_
          iterate 2 refine X.q rfl ?_
          refine X.op0W rfl (X.putW (f := V.i) (g := V.b) (pos := posI) (k := x2) (v := true) (l := m2) X.keyEq_i (X.posI_ok _) rfl rfl rfl rfl rfl rfl rfl) rfl ?_
          refine GS.opsNil ?_
          refine GS.endB ?_
          exact X.gc [some 0, some 1, some 2] (hj_8 (putM posI m2 x2 true) hM) rfl rfl rfl (gk_cons rfl ⟨9, rfl⟩ (gk_cons rfl (rn_ovl rfl) (gk_cons rfl ⟨9, rfl⟩ (gk_cons rfl ⟨9, rfl⟩ (gk_cons rfl ⟨9, rfl⟩ (gk_cons rfl ⟨9, rfl⟩ (gk_cons rfl ⟨9, rfl⟩ (gk_cons rfl ⟨9, rfl⟩ (gk_cons rfl (rn_ovl rfl) (ga rfl rfl)))))))))) (gb_obl 9 rfl rfl (fun _ => rfl) (gb9 rfl rfl rfl (X.gb_mapK 9 rfl rfl (fun _ => rfl) (fun _ => rfl) gb_nil)))
        replace hM := ite_f h_12 hM
        refine GS.skip ?_
        refine GS.endB ?_
        exact X.gc [some 0, some 1, some 2] (hj_8 m2 hM) rfl rfl rfl (gk_cons rfl ⟨9, rfl⟩ (gk_cons rfl (rn_ovl rfl) (gk_cons rfl ⟨9, rfl⟩ (gk_cons rfl ⟨9, rfl⟩ (gk_cons rfl ⟨9, rfl⟩ (gk_cons rfl ⟨9, rfl⟩ (gk_cons rfl ⟨9, rfl⟩ (gk_cons rfl ⟨9, rfl⟩ (gk_cons rfl (rn_ovl rfl) (ga rfl rfl)))))))))) (gb_obl 9 rfl rfl (fun _ => rfl) (gb9 rfl rfl rfl (X.gb_mapK 9 rfl rfl (fun _ => rfl) (fun _ => rfl) gb_nil)))
      replace hM := ite_f h_8 hM
      refine GS.exit rfl ?_
      obtain ⟨y_2, hM, hy⟩ := map_of hM
      rw [hr_2 _ hy.symm] at hM
      exact X.gc [some 0, some 1, some 2] (hj_4 m2 hM) rfl rfl rfl (gk_cons rfl ⟨9, rfl⟩ (gk_cons rfl (rn_ovl rfl) (ga rfl rfl))) (gb_obl 9 rfl rfl (fun _ => rfl) (gb9 rfl rfl rfl (X.gb_mapK 9 rfl rfl (fun _ => rfl) (fun _ => rfl) gb_nil)))
    replace hM := ite_f h_4 hM
    refine GS.exit rfl ?_
    obtain ⟨y_1, hM, hy⟩ := map_of hM
    rw [hr_1 _ hy.symm] at hM
    exact X.gc [some 0] (hj_2 (most1, l3) hM) rfl rfl rfl (gk_cons rfl (rn_ovl rfl) (ga rfl rfl)) (gb_obl 9 rfl rfl (fun _ => rfl) gb_nil)
  intro hj_1
  refine GS.block ?_
  refine X.gc [none] (X.loop (σ := (Int × (List Int))) (fun v => ⟨[(0, (V.sl (List.map e_api_Lease l))), (6, (ovl 0 v.2)), (20, (V.i (l.length : Int))), (21, (V.i v.1))], [obl 1 V.i v.2], 0, none, 73⟩) hM ?_ rfl) rfl rfl rfl (ga rfl rfl) (gb_pad' rfl gb_nil)
  rintro ⟨x6, l5⟩ b_1 hM hc_9 hr_1
  rw [berth_Lighters_b9] at hM
  refine X.sq ?_
  refine X.q rfl ?_
  refine GS.opsNil ?_
  refine GS.seq ?_
  refine X.cond rfl (fun h_13 => ?_) (fun h_13 => ?_)
  · replace hM := ite_t h_13 hM
    refine GS.skip ?_
    refine GS.seq ?_
    refine GS.block ?_
    obtain ⟨l4, h_14, hM⟩ := bind_of hM
    refine GS.region ?_
    refine X.q rfl ?_
    refine X.opW rfl rfl rfl rfl ?_
    refine X.appN (f := V.i) h_14 (fun _ => rfl) (by rfl) (by rfl) (by rfl) (by rfl) (by rfl) (by rfl) (by rfl) (by rfl) (by rfl) (by rfl) (by rfl) (by exact rfl) (by rfl) (by rfl) ?_
    refine X.q rfl ?_
    refine GS.opsNil ?_
    refine GS.endB ?_
    refine GS.region ?_
    refine X.opR rfl (X.addE rfl rfl) rfl ?_
    refine X.q rfl ?_
    refine GS.opsNil ?_
    have hE := Option.some.inj hM
    exact X.gc [some 2] (hc_9 (w64 (x6 + 1), l4) hE.symm) rfl rfl rfl (gk_cons rfl ⟨9, rfl⟩ (gk_cons rfl (rv_ne (app_ne h_14) rfl) (ga rfl rfl))) (gb_obl' 9 (app_ne h_14) rfl rfl (fun _ => rfl) gb_nil)
  replace hM := ite_f h_13 hM
  refine GS.exit rfl ?_
  obtain ⟨y_1, hM, hy⟩ := map_of hM
  rw [hr_1 _ hy.symm] at hM
  exact X.gc [some 0] (hj_1 l5 hM) rfl rfl rfl (gk_cons rfl ⟨9, rfl⟩ (gk_cons rfl (rn_ovl rfl) gk_nil)) (gb_obl 9 rfl rfl (fun _ => rfl) gb_nil)

theorem ok_berth_Busiest {l : (List api_Lease)} {r : Int × Int × Int} (hM : berth_Busiest l = some r) : Ct Try.prog 38 [(V.sl (List.map e_api_Lease l))] (V.tup [(V.i r.1), (V.i r.2.1), (V.i r.2.2)]) := by
  refine ct_of_gs CC_ok rfl ?_
  unfold berth_Busiest at hM
  refine X.sq ?_
  iterate 3 refine X.q rfl ?_
  refine GS.opsNil ?_
  iterate 2 refine GS.seq ?_
  obtain ⟨y, h_1, hM⟩ := bind_of hM
  refine GS.region ?_
  refine X.q rfl ?_
  refine X.call (ok_berth_CheckLeases h_1) rfl rfl rfl (.cons (.shut (n := 9) rfl) .nil) ?_
  refine X.q rfl ?_
  refine X.nq ?_
  iterate 2 refine X.q rfl ?_
  refine GS.opsNil ?_
  refine X.cond rfl (fun h_2 => ?_) (fun h_2 => ?_)
  · replace hM := ite_t h_2 hM
    refine X.sq ?_
    iterate 4 refine X.q rfl ?_
    refine GS.opsNil ?_
    have hE := Option.some.inj hM
    subst hE
    exact GS.ret ⟨_, rfl, ⟨30, rfl⟩⟩
  replace hM := ite_f h_2 hM
  refine GS.skip ?_
  refine X.sq ?_
  iterate 2 refine X.q rfl ?_
  refine GS.opsNil ?_
  iterate 2 refine GS.seq ?_
  obtain ⟨y1, h_3, hM⟩ := bind_of hM
  refine GS.region ?_
  refine X.q rfl ?_
  refine X.call (ok_berth_turns h_3) rfl rfl rfl (.cons (.shut (n := 9) rfl) .nil) ?_
  refine X.opR rfl (X.lenF rfl rfl rfl) rfl ?_
  refine X.q rfl ?_
  refine GS.opsNil ?_
  refine X.join (τ := Int × Int) (fun v => berth_Busiest_j1 v.1 v.2 = some r) (fun v => ⟨[(6, (V.i v.1)), (7, (V.i v.2))], [], 0, none, 56⟩) ?_ ?_
  · rintro ⟨at_, most⟩ hM
    replace hM : berth_Busiest_j1 at_ most = some r := hM
    unfold berth_Busiest_j1 at hM
    refine X.sq ?_
    iterate 5 refine X.q rfl ?_
    refine GS.opsNil ?_
    have hE := Option.some.inj hM
    subst hE
    exact GS.ret ⟨_, rfl, ⟨30, rfl⟩⟩
  intro hj_1
  refine GS.block ?_
  refine X.gc [] (X.loop (σ := (Int × Int × Int)) (fun v => ⟨[(0, (V.sl (List.map e_api_Lease l))), (6, (V.i v.1)), (7, (V.i v.2.1)), (19, (V.sl (List.map e_berth_turn y1))), (20, (V.i (y1.length : Int))), (21, (V.i v.2.2))], [], 0, none, 56⟩) hM ?_ rfl) rfl rfl rfl (ga rfl rfl) (gb_nil)
  rintro ⟨at_2, most2, x3⟩ b_1 hM hc_2 hr_1
  rw [berth_Busiest_b2] at hM
  refine X.sq ?_
  refine X.q rfl ?_
  refine GS.opsNil ?_
  refine GS.seq ?_
  refine X.cond rfl (fun h_4 => ?_) (fun h_4 => ?_)
  · replace hM := ite_t h_4 hM
    refine GS.skip ?_
    refine GS.seq ?_
    refine X.join (τ := Int × Int) (fun v => berth_Busiest_j3 x3 v.1 v.2 = some b_1) (fun v => ⟨[(0, (V.sl (List.map e_api_Lease l))), (6, (V.i v.1)), (7, (V.i v.2)), (19, (V.sl (List.map e_berth_turn y1))), (20, (V.i (y1.length : Int))), (21, (V.i x3))], [], 0, none, 56⟩) ?_ ?_
    · rintro ⟨at_1, most1⟩ hM
      replace hM : berth_Busiest_j3 x3 at_1 most1 = some b_1 := hM
      unfold berth_Busiest_j3 at hM
      refine GS.region ?_
      refine X.opR rfl (X.addE rfl rfl) rfl ?_
      refine X.q rfl ?_
      refine GS.opsNil ?_
      have hE := Option.some.inj hM
      exact X.gc [] (hc_2 (at_1, most1, w64 (x3 + 1)) hE.symm) rfl rfl rfl (ga rfl rfl) (gb_nil)
    intro hj_3
    refine GS.block ?_
    refine GS.seq ?_
    obtain ⟨x, h_5, hM⟩ := bind_of hM
    refine GS.region ?_
    refine X.opR rfl (X.indexF (f := e_berth_turn) h_5 (fun _ => rfl) rfl rfl rfl rfl) rfl ?_
    refine X.opR rfl (X.loadF h_5 rfl rfl rfl) rfl ?_
    refine X.opW rfl rfl rfl rfl ?_
    refine X.op0W rfl rfl rfl ?_
    refine X.nq ?_
    refine X.q rfl ?_
    refine GS.opsNil ?_
    refine GS.seq ?_
    refine X.sq ?_
    refine X.q rfl ?_
    refine X.opR rfl (X.lenF rfl rfl rfl) rfl ?_
    refine X.q rfl ?_
    refine GS.opsNil ?_
    refine X.join (τ := Int) (fun v => berth_Busiest_j4 at_2 most2 x3 x v = some b_1) (fun v => ⟨[(0, (V.sl (List.map e_api_Lease l))), (6, (V.i at_2)), (7, (V.i most2)), (9, (V.ptr 0 0 0)), (10, (V.i v)), (19, (V.sl (List.map e_berth_turn y1))), (20, (V.i (y1.length : Int))), (21, (V.i x3))], [.rows 5 [(e_berth_turn x)]], 0, none, 56⟩) ?_ ?_
    · intro n hM
      replace hM : berth_Busiest_j4 at_2 most2 x3 x n = some b_1 := hM
      unfold berth_Busiest_j4 at hM
      refine X.sq ?_
      iterate 3 refine X.q rfl ?_
      refine GS.opsNil ?_
      refine X.cond rfl (fun h_6 => ?_) (fun h_6 => ?_)
      · replace hM := ite_t h_6 hM
        refine GS.region ?_
        iterate 7 refine X.q rfl ?_
        refine GS.opsNil ?_
        refine GS.endB ?_
        exact X.gc [] (hj_3 (x.Lease.Span.Lo, n) hM) rfl rfl rfl (ga rfl rfl) (gb_nil)
      replace hM := ite_f h_6 hM
      refine GS.skip ?_
      refine GS.endB ?_
      exact X.gc [] (hj_3 (at_2, most2) hM) rfl rfl rfl (ga rfl rfl) (gb_nil)
    intro hj_4
    refine GS.block ?_
    refine X.gc [some 0] (X.loop (σ := (Int × Int)) (fun v => ⟨[(0, (V.sl (List.map e_api_Lease l))), (6, (V.i at_2)), (7, (V.i most2)), (9, (V.ptr 0 0 0)), (10, (V.i v.1)), (19, (V.sl (List.map e_berth_turn y1))), (20, (V.i (y1.length : Int))), (21, (V.i x3)), (25, (V.sl (List.map e_api_Lease l))), (26, (V.i (l.length : Int))), (27, (V.i v.2))], [.rows 5 [(e_berth_turn x)]], 0, none, 56⟩) hM ?_ rfl) rfl rfl rfl (ga rfl rfl) (gb9 rfl rfl rfl gb_nil)
    rintro ⟨n2, x2⟩ b_2 hM hc_5 hr_2
    rw [berth_Busiest_b5] at hM
    refine X.sq ?_
    refine X.q rfl ?_
    refine GS.opsNil ?_
    refine GS.seq ?_
    refine X.cond rfl (fun h_7 => ?_) (fun h_7 => ?_)
    · replace hM := ite_t h_7 hM
      refine GS.skip ?_
      refine GS.seq ?_
      refine X.join (τ := Int) (fun v => berth_Busiest_j6 x2 v = some b_2) (fun v => ⟨[(0, (V.sl (List.map e_api_Lease l))), (6, (V.i at_2)), (7, (V.i most2)), (9, (V.ptr 0 0 0)), (10, (V.i v)), (19, (V.sl (List.map e_berth_turn y1))), (20, (V.i (y1.length : Int))), (21, (V.i x3)), (25, (V.sl (List.map e_api_Lease l))), (26, (V.i (l.length : Int))), (27, (V.i x2))], [.rows 5 [(e_berth_turn x)]], 0, none, 56⟩) ?_ ?_
      · intro n1 hM
        replace hM : berth_Busiest_j6 x2 n1 = some b_2 := hM
        unfold berth_Busiest_j6 at hM
        refine GS.region ?_
        refine X.opR rfl (X.addE rfl rfl) rfl ?_
        refine X.q rfl ?_
        refine GS.opsNil ?_
        have hE := Option.some.inj hM
        exact X.gc [some 0] (hc_5 (n1, w64 (x2 + 1)) hE.symm) rfl rfl rfl (ga rfl rfl) (gb9 rfl rfl rfl gb_nil)
      intro hj_6
      refine GS.block ?_
      refine GS.seq ?_
      obtain ⟨x1, h_8, hM⟩ := bind_of hM
      refine GS.region ?_
      refine X.opR rfl (X.indexF (f := e_api_Lease) h_8 (fun _ => rfl) rfl rfl rfl rfl) rfl ?_
      refine X.opR rfl (X.loadF h_8 rfl rfl rfl) rfl ?_
      refine X.opW rfl rfl rfl rfl ?_
      refine X.op0W rfl rfl rfl ?_
      refine X.nq ?_
      iterate 10 refine X.q rfl ?_
      refine X.call (ok_berth_within x.Lease.Span.Lo x1.Span.Lo x1.Span.Hi) rfl rfl rfl (.cons (.shut (n := 9) rfl) (.cons (.shut (n := 9) rfl) (.cons (.shut (n := 9) rfl) .nil))) ?_
      refine GS.opsNil ?_
      refine X.cond rfl (fun h_9 => ?_) (fun h_9 => ?_)
      · replace hM := ite_t h_9 hM
        refine GS.region ?_
        refine X.q rfl ?_
        refine X.opR rfl (X.addE rfl rfl) rfl ?_
        refine X.q rfl ?_
        refine GS.opsNil ?_
        refine GS.endB ?_
        exact X.gc [some 0] (hj_6 (w64 (n2 + 1)) hM) rfl rfl rfl (ga rfl rfl) (gb9 rfl rfl rfl gb_nil)
      replace hM := ite_f h_9 hM
      refine GS.skip ?_
      refine GS.endB ?_
      exact X.gc [some 0] (hj_6 n2 hM) rfl rfl rfl (ga rfl rfl) (gb9 rfl rfl rfl gb_nil)
    replace hM := ite_f h_7 hM
    refine GS.exit rfl ?_
    obtain ⟨y_2, hM, hy⟩ := map_of hM
    rw [hr_2 _ hy.symm] at hM
    exact X.gc [some 0] (hj_4 n2 hM) rfl rfl rfl (ga rfl rfl) (gb9 rfl rfl rfl gb_nil)
  replace hM := ite_f h_4 hM
  refine GS.exit rfl ?_
  obtain ⟨y_1, hM, hy⟩ := map_of hM
  rw [hr_1 _ hy.symm] at hM
  exact X.gc [] (hj_1 (at_2, most2) hM) rfl rfl rfl (ga rfl rfl) (gb_nil)

abbrev e_Arr_2_int (x : Arr_2_int) : V := .agg [(V.i x.a0), (V.i x.a1)]

theorem ok_slices_Compare_int {s1 : (List Int)} {s2 : (List Int)} {r : Int} (hM : slices_Compare_int s1 s2 = some r) : Ct Try.prog 108 [(V.sl (List.map V.i s1)), (V.sl (List.map V.i s2))] (V.i r) := by
  refine ct_of_gs CC_ok rfl ?_
  unfold slices_Compare_int at hM
  refine X.sq ?_
  refine X.q rfl ?_
  refine GS.opsNil ?_
  refine GS.seq ?_
  refine X.sq ?_
  refine X.q rfl ?_
  refine X.opR rfl (X.lenF rfl rfl rfl) rfl ?_
  refine X.q rfl ?_
  refine GS.opsNil ?_
  refine X.join (τ := Unit) (fun v => slices_Compare_int_j1 s1 s2 = some r) (fun v => ⟨[(0, (V.sl (List.map V.i s1))), (1, (V.sl (List.map V.i s2)))], [], 0, none, 36⟩) ?_ ?_
  · intro _ hM
    replace hM : slices_Compare_int_j1 s1 s2 = some r := hM
    unfold slices_Compare_int_j1 at hM
    refine GS.seq ?_
    refine X.sq ?_
    refine X.q rfl ?_
    refine X.opR rfl (X.lenF rfl rfl rfl) rfl ?_
    refine X.q rfl ?_
    refine X.opR rfl (X.lenF rfl rfl rfl) rfl ?_
    refine X.q rfl ?_
    refine GS.opsNil ?_
    refine X.cond rfl (fun h_1 => ?_) (fun h_1 => ?_)
    · replace hM := ite_t h_1 hM
      refine X.sq ?_
      refine X.q rfl ?_
      refine GS.opsNil ?_
      have hE := Option.some.inj hM
      subst hE
      exact GS.ret ⟨_, rfl, ⟨30, rfl⟩⟩
    replace hM := ite_f h_1 hM
    refine GS.skip ?_
    refine X.sq ?_
    refine X.q rfl ?_
    refine GS.opsNil ?_
    have hE := Option.some.inj hM
    subst hE
    exact GS.ret ⟨_, rfl, ⟨30, rfl⟩⟩
  intro hj_1
  refine GS.block ?_
  refine X.gc [] (X.loop (σ := Int) (fun v => ⟨[(0, (V.sl (List.map V.i s1))), (1, (V.sl (List.map V.i s2))), (9, (V.sl (List.map V.i s1))), (10, (V.i (s1.length : Int))), (11, (V.i v))], [], 0, none, 36⟩) hM ?_ rfl) rfl rfl rfl (ga rfl rfl) (gb_nil)
  intro x2 b_1 hM hc_2 hr_1
  rw [slices_Compare_int_b2] at hM
  refine X.sq ?_
  refine X.q rfl ?_
  refine GS.opsNil ?_
  refine GS.seq ?_
  refine X.cond rfl (fun h_2 => ?_) (fun h_2 => ?_)
  · replace hM := ite_t h_2 hM
    refine GS.skip ?_
    refine GS.seq ?_
    refine GS.block ?_
    refine GS.seq ?_
    obtain ⟨x, h_3, hM⟩ := bind_of hM
    refine GS.region ?_
    refine X.q rfl ?_
    refine X.opR rfl (X.indexF (f := V.i) h_3 (fun _ => rfl) rfl rfl rfl rfl) rfl ?_
    refine X.opR rfl (X.loadF h_3 rfl rfl rfl) rfl ?_
    iterate 2 refine X.q rfl ?_
    refine GS.opsNil ?_
    refine GS.seq ?_
    refine X.sq ?_
    iterate 2 refine X.q rfl ?_
    refine X.opR rfl (X.lenF rfl rfl rfl) rfl ?_
    refine X.q rfl ?_
    refine GS.opsNil ?_
    refine X.cond rfl (fun h_4 => ?_) (fun h_4 => ?_)
    · replace hM := ite_t h_4 hM
      refine X.sq ?_
      refine X.q rfl ?_
      refine GS.opsNil ?_
      have hE := Option.some.inj hM
      replace hE := hr_1 _ hE.symm
      subst hE
      exact GS.ret ⟨_, rfl, ⟨30, rfl⟩⟩
    replace hM := ite_f h_4 hM
    refine GS.skip ?_
    refine GS.seq ?_
    obtain ⟨x1, h_5, hM⟩ := bind_of hM
    refine GS.region ?_
    iterate 2 refine X.q rfl ?_
    refine X.opR rfl (X.indexF (f := V.i) h_5 (fun _ => rfl) rfl rfl rfl rfl) rfl ?_
    refine X.opR rfl (X.loadF h_5 rfl rfl rfl) rfl ?_
    refine X.q rfl ?_
    refine X.nq ?_
    iterate 2 refine X.q rfl ?_
    refine X.call (ok_cmp_Compare_int x x1) rfl rfl rfl (.cons (.shut (n := 9) rfl) (.cons (.shut (n := 9) rfl) .nil)) ?_
    refine X.q rfl ?_
    refine X.nq ?_
    iterate 2 refine X.q rfl ?_
    refine GS.opsNil ?_
    refine X.cond rfl (fun h_6 => ?_) (fun h_6 => ?_)
    · replace hM := ite_t h_6 hM
      refine X.sq ?_
      iterate 2 refine X.q rfl ?_
      refine GS.opsNil ?_
      have hE := Option.some.inj hM
      replace hE := hr_1 _ hE.symm
      subst hE
      exact GS.ret ⟨_, rfl, ⟨30, rfl⟩⟩
    replace hM := ite_f h_6 hM
    refine GS.skip ?_
    refine GS.endB ?_
    refine GS.region ?_
    refine X.opR rfl (X.addE rfl rfl) rfl ?_
    refine X.q rfl ?_
    refine GS.opsNil ?_
    have hE := Option.some.inj hM
    exact X.gc [] (hc_2 (w64 (x2 + 1)) hE.symm) rfl rfl rfl (ga rfl rfl) (gb_nil)
  replace hM := ite_f h_2 hM
  refine GS.exit rfl ?_
  obtain ⟨y_1, hM, hy⟩ := map_of hM
  rw [hr_1 _ hy.symm] at hM
  exact X.gc [] (hj_1 () hM) rfl rfl rfl (ga rfl rfl) (gb_nil)

section
open Go.Wk Go.RowKit Go.Shelf
def encPair (x : Arr_2_int) : List Value := [.int .i64 x.a0, .int .i64 x.a1]
theorem flatPair : X.Flat1 encPair 2 e_Arr_2_int := by
  refine ⟨fun _ => rfl, fun x v hv => ?_, fun _ => rfl, fun x v hv c => ?_⟩ <;> simp only [encPair, List.mem_cons, List.not_mem_nil, or_false] at hv <;> rcases hv with rfl | rfl <;> first | rfl | (intro h; cases h)
def cfPair (x y : Arr_2_int) : Int := if cmp_Compare_int x.a0 y.a0 = 0 then cmp_Compare_int x.a1 y.a1 else cmp_Compare_int x.a0 y.a0
theorem cmpI (a b : Int) : cmp_Compare_int a b = if a < b then -1 else if b < a then 1 else 0 := by
  unfold cmp_Compare_int cmp_isNaN_int
  simp
theorem ltPair (x y : Arr_2_int) : decide (cfPair x y < 0) = lt_pair x y := by
  unfold cfPair lt_pair
  rw [cmpI, cmpI]
  by_cases h1 : x.a0 < y.a0
  · simp [h1]
  · by_cases h2 : y.a0 < x.a0
    · have h3 : ¬ x.a0 = y.a0 := by omega
      simp [h1, h2, h3]
    · have h3 : x.a0 = y.a0 := by omega
      by_cases h4 : x.a1 < y.a1
      · simp [h3, h4]
      · by_cases h5 : y.a1 < x.a1 <;> simp [h3, h4, h5]
theorem swoPair : Go.Sort.SWO lt_pair := ⟨fun x => by unfold lt_pair; simp, fun x y z h1 h2 => by unfold lt_pair at *; simp at *; omega, fun x y z h1 h2 => by unfold lt_pair at *; simp at *; omega⟩
theorem cmpPair (x y : Arr_2_int) : slices_Compare_int [x.a0, x.a1] [y.a0, y.a1] = some (cfPair x y) := by
  unfold slices_Compare_int cfPair
  have e0 : slices_Compare_int_b2 [x.a0, x.a1] [y.a0, y.a1] 0 = if cmp_Compare_int x.a0 y.a0 = 0 then some (.inl 1) else some (.inr (cmp_Compare_int x.a0 y.a0)) := by
    simp [slices_Compare_int_b2, ix, w64]
  have e1 : slices_Compare_int_b2 [x.a0, x.a1] [y.a0, y.a1] 1 = if cmp_Compare_int x.a1 y.a1 = 0 then some (.inl 2) else some (.inr (cmp_Compare_int x.a1 y.a1)) := by
    simp [slices_Compare_int_b2, ix, w64]
  have e2 : slices_Compare_int_b2 [x.a0, x.a1] [y.a0, y.a1] 2 = some (.inr 0) := by
    simp [slices_Compare_int_b2, slices_Compare_int_j1, ix, w64]
  have key : ∀ m, Lp (slices_Compare_int_b2 [x.a0, x.a1] [y.a0, y.a1]) (m + 3) 0 = some (if cmp_Compare_int x.a0 y.a0 = 0 then cmp_Compare_int x.a1 y.a1 else cmp_Compare_int x.a0 y.a0) := fun m => by
    by_cases h0 : cmp_Compare_int x.a0 y.a0 = 0
    · rw [if_pos h0] at e0 ⊢
      rw [lp_next _ e0]
      by_cases h1 : cmp_Compare_int x.a1 y.a1 = 0
      · rw [if_pos h1] at e1
        rw [lp_next _ e1, lp_done _ e2, h1]
      · rw [if_neg h1] at e1
        rw [lp_done _ e1]
    · rw [if_neg h0] at e0 ⊢
      rw [lp_done _ e0]
  exact key 18446744073709551613
theorem callPair (x y : Arr_2_int) {b c t1 t2 : Nat} {w : World} (hb : w.heap[b]? = some (.cells #[.int .i64 x.a0, .int .i64 x.a1] t1 (0, 0))) (hc : w.heap[c]? = some (.cells #[.int .i64 y.a0, .int .i64 y.a1] t2 (0, 0))) :
    Calls Try.prog 108 #[.slice (some ⟨b, 0, none⟩) 2 2, .slice (some ⟨c, 0, none⟩) 2 2] w fun e w' => e = .returned (.int .i64 (cfPair x y)) ∧ ∃ q os', w' = Go.Sort.grow (w.drewN q) os' := by
  have hr : ∀ (b t : Nat) (z0 z1 : Int), w.heap[b]? = some (.cells #[.int .i64 z0, .int .i64 z1] t (0, 0)) → Rep (wmem w) (.sl (List.map V.i [z0, z1])) Ij.none (.slice (some ⟨b, 0, none⟩) 2 2) := fun b t z0 z1 h => by
    simp only [List.map_cons, List.map_nil, Rep, RepRows, List.length_cons, List.length_nil]
    have hc0 : (wmem w).cell b 0 = some (Value.int .i64 z0) := by simp [Mem.cell, wmem, h]
    have hc1 : (wmem w).cell b 1 = some (Value.int .i64 z1) := by simp [Mem.cell, wmem, h]
    refine ⟨_, 2, 1, rfl, Nat.le_refl _, fun _ => ⟨b, 0, rfl, ⟨_, ⟨rfl, fun c h => by cases h⟩, rfl, fun j x hj => ?_⟩, ⟨_, ⟨rfl, fun c h => by cases h⟩, rfl, fun j x hj => ?_⟩, trivial⟩⟩
    · cases j with
      | zero => simp [Value.cells] at hj; subst hj; exact ⟨rfl, hc0⟩
      | succ j => simp [Value.cells] at hj
    · cases j with
      | zero => simp [Value.cells] at hj; subst hj; exact ⟨rfl, hc1⟩
      | succ j => simp [Value.cells] at hj
  exact calls_ct (us := [.slice (some ⟨b, 0, none⟩) 2 2, .slice (some ⟨c, 0, none⟩) 2 2]) (m := wmem w) (ok_slices_Compare_int (cmpPair x y)) (fun _ _ h => h) (by
    simp only [RepL]
    exact ⟨_, _, rfl, hr b t1 _ _ hb, _, _, rfl, hr c t2 _ _ hc, rfl⟩)
set_option maxHeartbeats 1000000 in
theorem closurePair (x y : Arr_2_int) (W : World) : Calls Try.prog 107 #[.agg (encPair x).toArray, .agg (encPair y).toArray] W fun e w' => e = .returned (.int .i64 (cfPair x y)) ∧ ∃ q os', w' = Go.Sort.grow (W.drewN q) os' := by
  have mixed : Try.prog.follows .mixedOrders = true := by kernel_rfl
  show Calls Try.prog 107 #[.agg #[.int .i64 x.a0, .int .i64 x.a1], .agg #[.int .i64 y.a0, .int .i64 y.a1]] W _
  have hcall : ∀ n os, Calls Try.prog 108 #[.slice (some ⟨W.heap.size, 0, none⟩) 2 2, .slice (some ⟨W.heap.size + 1, 0, none⟩) 2 2] (Go.Sort.grow ((((W.alloc (Obj.cells #[.int .i64 x.a0, .int .i64 x.a1] 151)).alloc (Obj.cells #[.int .i64 y.a0, .int .i64 y.a1] 151))).drewN n) os) fun e w' => e = .returned (.int .i64 (cfPair x y)) ∧ ∃ q os', w' = Go.Sort.grow ((Go.Sort.grow ((((W.alloc (Obj.cells #[.int .i64 x.a0, .int .i64 x.a1] 151)).alloc (Obj.cells #[.int .i64 y.a0, .int .i64 y.a1] 151))).drewN n) os).drewN q) os' := fun n os => by
    refine callPair x y (t1 := 151) (t2 := 151) ?_ ?_
    · show (((W.heap.push _).push _) ++ os)[W.heap.size]? = _
      rw [Array.getElem?_append_left (by simp; omega), Array.getElem?_push, if_neg (by simp), Array.getElem?_push, if_pos rfl]
    · show (((W.heap.push _).push _) ++ os)[W.heap.size + 1]? = _
      rw [Array.getElem?_append_left (by simp), Array.getElem?_push, if_pos (by simp)]
  generalize cfPair x y = r at hcall ⊢
  go_enter Try.func107, Try.ntmps107
  go_wp2_with (fail)
  go_quiet_grown (first | (go_at_call 108; exact Calls.grown_of (hcall _ _)))
  go_wp2_with (fail)
  go_ret
  refine ⟨rfl, nq, #[Obj.cells #[.int .i64 x.a0, .int .i64 x.a1] 151, Obj.cells #[.int .i64 y.a0, .int .i64 y.a1] 151] ++ osq, ?_⟩
  simp only [Go.Sort.grow, World.alloc, World.drewN]
  congr 1
  apply Array.ext'
  simp
theorem by_pair : X.SortBy Try.prog 106 107 2 e_Arr_2_int lt_pair := X.sortBy_of Try.sortCl rfl (by decide) Try.isAgg151 Try.sizeOf151 flatPair ltPair swoPair (enters_of Try.func106 (by kernel_rfl) rfl) (enters_of Try.func107 (by kernel_rfl) rfl) closurePair
end

set_option maxHeartbeats 4000000 in
theorem ok_berth_Clashes {l : (List api_Lease)} {r : (List Arr_2_int) × Int} (hM : berth_Clashes l = some r) : Ct Try.prog 40 [(V.sl (List.map e_api_Lease l))] (V.tup [(V.sl (List.map e_Arr_2_int r.1)), (V.i r.2)]) := by
  refine ct_of_gs CC_ok rfl ?_
  unfold berth_Clashes at hM
  refine X.sq ?_
  iterate 2 refine X.q rfl ?_
  refine GS.opsNil ?_
  iterate 2 refine GS.seq ?_
  obtain ⟨y, h_1, hM⟩ := bind_of hM
  refine GS.region ?_
  refine X.q rfl ?_
  refine X.call (ok_berth_CheckLeases h_1) rfl rfl rfl (.cons (.shut (n := 9) rfl) .nil) ?_
  refine X.q rfl ?_
  refine X.nq ?_
  iterate 2 refine X.q rfl ?_
  refine GS.opsNil ?_
  refine X.cond rfl (fun h_2 => ?_) (fun h_2 => ?_)
  · replace hM := ite_t h_2 hM
    refine X.sq ?_
    iterate 3 refine X.q rfl ?_
    refine GS.opsNil ?_
    have hE := Option.some.inj hM
    subst hE
    exact GS.ret ⟨_, rfl, ⟨30, rfl⟩⟩
  replace hM := ite_f h_2 hM
  refine GS.skip ?_
  refine X.sq ?_
  refine X.q rfl ?_
  refine GS.opsNil ?_
  refine GS.seq ?_
  refine X.sq ?_
  refine X.q rfl ?_
  refine X.opR rfl (X.lenF rfl rfl rfl) rfl ?_
  refine X.q rfl ?_
  refine GS.opsNil ?_
  refine X.join (τ := (List Arr_2_int)) (fun v => berth_Clashes_j1 v = some r) (fun v => ⟨[(5, (ovl 0 v))], [obl 2 e_Arr_2_int v], 0, none, 59⟩) ?_ ?_
  · intro l1 hM
    replace hM : berth_Clashes_j1 l1 = some r := hM
    unfold berth_Clashes_j1 at hM
    refine GS.seq ?_
    obtain ⟨l2, h_3, hM⟩ := bind_of hM
    refine GS.region ?_
    refine X.q rfl ?_
    refine X.norm [(5, (ovl 0 l1)), (56, (ovl 0 l1))] ?_ rfl (sr rfl)
    refine X.sortF (z := true) h_3 by_pair (fun _ _ _ h => h) (K' := [(5, (ovl 0 l2)), (56, (ovl 0 l2))]) (H' := [obl 2 e_Arr_2_int l2]) rfl rfl rfl rfl rfl rfl ?_ ?_ ?_
    · first | rfl | rw [X.ovlz_len (X.srtFO_len by_pair.swo h_3)] | simp only [ovl, X.ovlz_len (X.srtFO_len by_pair.swo h_3)] | simp only [X.srtFO_len by_pair.swo h_3]
    · first | rfl | (simp only [hput]; rfl)
    refine X.nq ?_
    iterate 3 refine X.q rfl ?_
    refine GS.opsNil ?_
    have hE := Option.some.inj hM
    subst hE
    exact GS.ret ⟨_, rfl, FR.tup (.cons (FR.ovl (f := e_Arr_2_int) (l := l2) 9 rfl rfl (fun _ => rfl)) (.cons ⟨30, rfl⟩ .nil))⟩
  intro hj_1
  refine GS.block ?_
  refine X.gc [none] (X.loop (σ := (Int × (List Arr_2_int))) (fun v => ⟨[(0, (V.sl (List.map e_api_Lease l))), (5, (ovl 0 v.2)), (15, (V.sl (List.map e_api_Lease l))), (16, (V.i (l.length : Int))), (17, (V.i v.1))], [obl 2 e_Arr_2_int v.2], 0, none, 59⟩) hM ?_ rfl) rfl rfl rfl (ga rfl rfl) (gb_pad' rfl gb_nil)
  rintro ⟨x3, l8⟩ b_1 hM hc_2 hr_1
  rw [berth_Clashes_b2] at hM
  refine X.sq ?_
  refine X.q rfl ?_
  refine GS.opsNil ?_
  refine GS.seq ?_
  refine X.cond rfl (fun h_4 => ?_) (fun h_4 => ?_)
  · replace hM := ite_t h_4 hM
    refine GS.skip ?_
    refine GS.seq ?_
    refine GS.block ?_
    refine GS.seq ?_
    obtain ⟨x, h_5, hM⟩ := bind_of hM
    refine GS.region ?_
    refine X.q rfl ?_
    refine X.opR rfl (X.indexF (f := e_api_Lease) h_5 (fun _ => rfl) rfl rfl rfl rfl) rfl ?_
    refine X.opR rfl (X.loadF h_5 rfl rfl rfl) rfl ?_
    refine X.opW rfl rfl rfl rfl ?_
    refine X.q rfl ?_
    refine X.op0W rfl rfl rfl ?_
    refine GS.opsNil ?_
    refine GS.seq ?_
    obtain ⟨l3, h_6, hM⟩ := bind_of hM
    refine GS.region ?_
    iterate 2 refine X.q rfl ?_
    refine X.opR rfl (X.sliceF (f := e_api_Lease) h_6 (fun _ => rfl) rfl rfl rfl rfl rfl rfl (X.boundA_int rfl)) rfl ?_
    refine X.opR rfl (X.lenF rfl rfl rfl) rfl ?_
    refine X.q rfl ?_
    refine GS.opsNil ?_
    refine X.join (τ := (List Arr_2_int)) (fun v => berth_Clashes_j3 x3 v = some b_1) (fun v => ⟨[(0, (V.sl (List.map e_api_Lease l))), (5, (ovl 0 v)), (15, (V.sl (List.map e_api_Lease l))), (16, (V.i (l.length : Int))), (17, (V.i x3))], [obl 2 e_Arr_2_int v], 0, none, 59⟩) ?_ ?_
    · intro l4 hM
      replace hM : berth_Clashes_j3 x3 l4 = some b_1 := hM
      unfold berth_Clashes_j3 at hM
      refine GS.endB ?_
      refine GS.region ?_
      refine X.opR rfl (X.addE rfl rfl) rfl ?_
      refine X.q rfl ?_
      refine GS.opsNil ?_
      have hE := Option.some.inj hM
      exact X.gc [some 0] (hc_2 (w64 (x3 + 1), l4) hE.symm) rfl rfl rfl (gk_cons rfl ⟨9, rfl⟩ (gk_cons rfl (rn_ovl rfl) (ga rfl rfl))) (gb_obl 9 rfl rfl (fun _ => rfl) gb_nil)
    intro hj_3
    refine GS.block ?_
    refine X.gc [some 0, some 1] (X.loop (σ := (Int × (List Arr_2_int))) (fun v => ⟨[(0, (V.sl (List.map e_api_Lease l))), (5, (ovl 0 v.2)), (7, (V.ptr 1 0 0)), (15, (V.sl (List.map e_api_Lease l))), (16, (V.i (l.length : Int))), (17, (V.i x3)), (24, (V.sl (List.map e_api_Lease l3))), (25, (V.i (l3.length : Int))), (26, (V.i v.1))], [obl 2 e_Arr_2_int v.2, .rows 4 [(e_api_Lease x)]], 0, none, 59⟩) hM ?_ rfl) rfl rfl rfl (gk_cons rfl ⟨9, rfl⟩ (gk_cons rfl (rn_ovl rfl) (ga rfl rfl))) (gb_obl 9 rfl rfl (fun _ => rfl) (gb9 rfl rfl rfl gb_nil))
    rintro ⟨x2, l7⟩ b_2 hM hc_4 hr_2
    rw [berth_Clashes_b4] at hM
    refine X.sq ?_
    refine X.q rfl ?_
    refine GS.opsNil ?_
    refine GS.seq ?_
    refine X.cond rfl (fun h_7 => ?_) (fun h_7 => ?_)
    · replace hM := ite_t h_7 hM
      refine GS.skip ?_
      refine GS.seq ?_
      refine X.join (τ := (List Arr_2_int)) (fun v => berth_Clashes_j5 x2 v = some b_2) (fun v => ⟨[(0, (V.sl (List.map e_api_Lease l))), (5, (ovl 0 v)), (7, (V.ptr 1 0 0)), (15, (V.sl (List.map e_api_Lease l))), (16, (V.i (l.length : Int))), (17, (V.i x3)), (24, (V.sl (List.map e_api_Lease l3))), (25, (V.i (l3.length : Int))), (26, (V.i x2))], [obl 2 e_Arr_2_int v, .rows 4 [(e_api_Lease x)]], 0, none, 59⟩) ?_ ?_
      · intro l5 hM
        replace hM : berth_Clashes_j5 x2 l5 = some b_2 := hM
        unfold berth_Clashes_j5 at hM
        refine GS.region ?_
        refine X.opR rfl (X.addE rfl rfl) rfl ?_
        refine X.q rfl ?_
        refine GS.opsNil ?_
        have hE := Option.some.inj hM
        exact X.gc [some 0, some 1] (hc_4 (w64 (x2 + 1), l5) hE.symm) rfl rfl rfl (gk_cons rfl ⟨9, rfl⟩ (gk_cons rfl (rn_ovl rfl) (ga rfl rfl))) (gb_obl 9 rfl rfl (fun _ => rfl) (gb9 rfl rfl rfl gb_nil))
      intro hj_5
      refine GS.block ?_
      refine GS.seq ?_
      obtain ⟨x1, h_8, hM⟩ := bind_of hM
      refine GS.region ?_
      refine X.opR rfl (X.indexF (f := e_api_Lease) h_8 (fun _ => rfl) rfl rfl rfl rfl) rfl ?_
      refine X.opR rfl (X.loadF h_8 rfl rfl rfl) rfl ?_
      refine X.opW rfl rfl rfl rfl ?_
      refine X.op0W rfl rfl rfl ?_
      refine X.nq ?_
      refine X.mid [(0, (V.sl (List.map e_api_Lease l))), (5, (ovl 0 l7)), (7, (V.ptr 1 0 0)), (9, (V.ptr 2 0 0)), (15, (V.sl (List.map e_api_Lease l))), (16, (V.i (l.length : Int))), (17, (V.i x3)), (24, (V.sl (List.map e_api_Lease l3))), (25, (V.i (l3.length : Int))), (26, (V.i x2)), (39, (V.b ((decide (x.Heap = x1.Heap)) && (berth_atOnce x x1))))] ?_ ?_
      · intro hg
        refine X.split (decide (x.Heap = x1.Heap)) (fun h_9 => ?_) (fun h_9 => ?_)
        · iterate 6 refine X.q rfl ?_
          iterate 2 refine X.opR (X.on_t rfl rfl rfl h_9) rfl rfl ?_
          refine X.call (ok_berth_atOnce x x1) (X.on_t rfl rfl rfl h_9) rfl rfl (.cons (.shut (n := 9) rfl) (.cons (.shut (n := 9) rfl) .nil)) ?_
          refine X.opR rfl (X.pickand_t (y := (berth_atOnce x x1)) rfl h_9 rfl) rfl ?_
          refine GS.opsNil ?_
          exact X.norm _ hg rfl (sr rfl)
        iterate 6 refine X.q rfl ?_
        iterate 3 refine X.off (X.off_t rfl rfl rfl h_9) rfl ?_
        refine X.opR rfl (X.pickand_f (y := (berth_atOnce x x1)) rfl h_9 rfl) rfl ?_
        refine GS.opsNil ?_
        exact X.norm _ hg rfl (sr rfl)
      refine X.cond rfl (fun h_10 => ?_) (fun h_10 => ?_)
      · replace hM := ite_t h_10 hM
        obtain ⟨l6, h_11, hM⟩ := bind_of hM
        refine GS.region ?_
        iterate 5 refine X.q rfl ?_
        refine X.opR rfl (X.minE rfl rfl) rfl ?_
        iterate 4 refine X.q rfl ?_
        refine X.opR rfl (X.maxE rfl rfl) rfl ?_
        refine X.q rfl ?_
        refine X.opW (H' := [obl 2 e_Arr_2_int l7, .rows 4 [(e_api_Lease x)], .rows 4 [(e_api_Lease x1)], .rows 2 (List.map e_Arr_2_int ([(⟨min x.ID x1.ID, max x.ID x1.ID⟩ : Arr_2_int)]))]) rfl rfl rfl rfl ?_
        refine X.appN (f := e_Arr_2_int) h_11 (fun _ => rfl) (by rfl) (by rfl) (by rfl) (by rfl) (by rfl) (by rfl) (by rfl) (by rfl) (by rfl) (by rfl) (by rfl) (by exact rfl) (by rfl) (by rfl) ?_
        refine X.q rfl ?_
        refine GS.opsNil ?_
        refine GS.endB ?_
        exact X.gc [some 4, some 1] (hj_5 l6 hM) rfl rfl rfl (gk_cons rfl ⟨9, rfl⟩ (gk_cons rfl (rv_ne (app_ne h_11) rfl) (ga rfl rfl))) (gb_obl' 9 (app_ne h_11) rfl rfl (fun _ => rfl) (gb9 rfl rfl rfl gb_nil))
      replace hM := ite_f h_10 hM
      refine GS.skip ?_
      refine GS.endB ?_
      exact X.gc [some 0, some 1] (hj_5 l7 hM) rfl rfl rfl (gk_cons rfl ⟨9, rfl⟩ (gk_cons rfl (rn_ovl rfl) (ga rfl rfl))) (gb_obl 9 rfl rfl (fun _ => rfl) (gb9 rfl rfl rfl gb_nil))
    replace hM := ite_f h_7 hM
    refine GS.exit rfl ?_
    obtain ⟨y_2, hM, hy⟩ := map_of hM
    rw [hr_2 _ hy.symm] at hM
    exact X.gc [some 0] (hj_3 l7 hM) rfl rfl rfl (gk_cons rfl ⟨9, rfl⟩ (gk_cons rfl (rn_ovl rfl) (ga rfl rfl))) (gb_obl 9 rfl rfl (fun _ => rfl) gb_nil)
  replace hM := ite_f h_4 hM
  refine GS.exit rfl ?_
  obtain ⟨y_1, hM, hy⟩ := map_of hM
  rw [hr_1 _ hy.symm] at hM
  exact X.gc [some 0] (hj_1 l8 hM) rfl rfl rfl (gk_cons rfl (rn_ovl rfl) gk_nil) (gb_obl 9 rfl rfl (fun _ => rfl) gb_nil)

theorem ok_slices_Clone_Lease {l r : List api_Lease} (hM : slices_Clone_Lease l = some r) : Ct Try.prog 109 [V.sl (List.map e_api_Lease l)] (V.sl (List.map e_api_Lease r)) := by
  unfold slices_Clone_Lease at hM
  have hr : r = l := by obtain ⟨_, e⟩ := app_of hM; simpa using e
  refine ct_of_gs CC_ok rfl ?_
  refine GS.seq ?_
  refine GS.region ?_
  refine X.opR rfl rfl rfl ?_
  refine GS.opsNil ?_
  iterate 2 refine GS.seq ?_
  refine GS.region ?_
  refine X.opR rfl rfl rfl ?_
  refine X.nilEq rfl rfl rfl rfl rfl rfl (fun h => ?_) ?_
  · have hl : r = [] := by rw [hr]; simpa using h
    subst hl
    refine GS.opsNil ?_
    refine GS.condT rfl ?_
    refine GS.seq ?_
    refine GS.region ?_
    refine X.opR rfl rfl rfl ?_
    refine GS.opsNil ?_
    exact GS.ret ⟨_, rfl, ⟨30, rfl⟩⟩
  · refine GS.opsNil ?_
    refine GS.condF rfl ?_
    refine GS.skip ?_
    refine GS.seq ?_
    refine GS.region ?_
    refine X.opW rfl rfl rfl rfl ?_
    refine X.opR rfl rfl rfl ?_
    refine X.opW rfl (X.appO (f := e_api_Lease) (l := []) (xs := l) hM (fun _ => rfl) rfl rfl rfl rfl rfl rfl rfl rfl rfl rfl) rfl rfl ?_
    refine X.opR rfl rfl rfl ?_
    refine GS.opsNil ?_
    exact GS.ret ⟨_, rfl, FR.osl (f := e_api_Lease) (l := r) 9 rfl rfl (fun _ => rfl)⟩
theorem clone_Lease {all os : List Oper} {k : List It} {K : List (Nat × V)} {H : List Blk} {lo n d N : Nat} {rnd : Option Nat} {Q : Ex → St → Prop} {p : Op} {ty : TypeId} {pos : String} {after : Array Edge} {g : Option (Nat × Bool)} {l r : List api_Lease} (hM : app [] l = some r) (hw : wants all K g = some true) (hc : callee K p = some (.fn 109 [.sl (l.map e_api_Lease)])) (hd : Nat.blt d n = true) (hlo : Nat.ble lo H.length = true) {i : Nat} (hi : H.length + 1 = i)
    (h : ∀ z : Bool, GS CC N (.ops all os :: k) ⟨(d, ovlz z i r) :: K, H ++ [.dead, oblz z 4 e_api_Lease r], lo, rnd, n⟩ Q) : GS CC N (.ops all (⟨some d, p, ty, pos, after, g⟩ :: os) :: k) ⟨K, H, lo, rnd, n⟩ Q := by
  subst hi
  have hr : r = l := by obtain ⟨_, e⟩ := app_of hM; simpa using e
  refine GS.im (s := ⟨K, H, lo, rnd, n⟩) (fun v H1 => ∃ z : Bool, v = ovlz z (H.length + 1) r ∧ H1 = H ++ [.dead, oblz z 4 e_api_Lease r]) hw hc rfl ?_ (fun v H1 hT => ?_)
  · refine GS.seq ?_
    refine GS.region ?_
    refine X.opR rfl rfl rfl ?_
    refine GS.opsNil ?_
    iterate 2 refine GS.seq ?_
    refine GS.region ?_
    refine X.opR rfl rfl rfl ?_
    refine X.nilEq rfl rfl rfl rfl rfl rfl (fun h => ?_) ?_
    · have hl : r = [] := by rw [hr]; simpa using h
      subst hl
      refine GS.opsNil ?_
      refine GS.condT rfl ?_
      refine GS.seq ?_
      refine GS.region ?_
      refine X.opR rfl rfl rfl ?_
      refine GS.opsNil ?_
      refine GS.pad ?_
      refine GS.pad ?_
      exact GS.ret ⟨_, rfl, true, rfl, by simp [oblz]⟩
    · refine GS.opsNil ?_
      refine GS.condF rfl ?_
      refine GS.skip ?_
      refine GS.seq ?_
      refine GS.region ?_
      refine X.opW rfl (v := .osl H.length 0 0) (wr := [(H.length, .rows 4 [])]) rfl X.puts_end rfl ?_
      refine X.opR rfl rfl rfl ?_
      refine X.opW (H' := H ++ [.dead, .rows 4 (r.map e_api_Lease)]) rfl (X.appO (f := e_api_Lease) (l := []) (xs := l) (es := 4) hM (fun _ => rfl) rfl rfl rfl rfl rfl rfl X.hget_end hlo rfl rfl) ?_ rfl ?_
      · show hput (hput (H ++ [Blk.rows 4 []]) H.length Blk.dead) (H ++ [Blk.rows 4 []]).length (Blk.rows 4 (r.map e_api_Lease)) = _
        have e1 : hput (H ++ [Blk.rows 4 []]) H.length Blk.dead = H ++ [Blk.dead] := X.puts_end' (B := .rows 4 []) (B' := .dead)
        rw [e1, show (H ++ [Blk.rows 4 []]).length = (H ++ [Blk.dead]).length by simp, hput_end]
        simp
      refine X.opR rfl rfl rfl ?_
      refine GS.opsNil ?_
      exact GS.ret ⟨_, rfl, false, by simp [ovlz], rfl⟩
  · obtain ⟨z, rfl, rfl⟩ := hT
    exact X.front rfl hd (h z) rfl

theorem ok_berth_Queue {l : (List api_Lease)} {r : (List api_Lease) × Int} (hM : berth_Queue l = some r) : Ct Try.prog 42 [(V.sl (List.map e_api_Lease l))] (V.tup [(V.sl (List.map e_api_Lease r.1)), (V.i r.2)]) := by
  refine ct_of_gs CC_ok rfl ?_
  unfold berth_Queue at hM
  refine X.sq ?_
  iterate 2 refine X.q rfl ?_
  refine GS.opsNil ?_
  iterate 2 refine GS.seq ?_
  obtain ⟨y, h_1, hM⟩ := bind_of hM
  refine GS.region ?_
  refine X.q rfl ?_
  refine X.call (ok_berth_CheckLeases h_1) rfl rfl rfl (.cons (.shut (n := 9) rfl) .nil) ?_
  refine X.q rfl ?_
  refine X.nq ?_
  iterate 2 refine X.q rfl ?_
  refine GS.opsNil ?_
  refine X.cond rfl (fun h_2 => ?_) (fun h_2 => ?_)
  · replace hM := ite_t h_2 hM
    refine X.sq ?_
    iterate 3 refine X.q rfl ?_
    refine GS.opsNil ?_
    have hE := Option.some.inj hM
    subst hE
    exact GS.ret ⟨_, rfl, ⟨30, rfl⟩⟩
  replace hM := ite_f h_2 hM
  refine GS.skip ?_
  refine GS.seq ?_
  obtain ⟨l1, h_3, hM⟩ := bind_of hM
  refine GS.region ?_
  refine X.q rfl ?_
  refine clone_Lease (r := l1) (i := 1) h_3 rfl rfl rfl rfl rfl (fun z_1 => ?_)
  refine X.q rfl ?_
  refine X.nq ?_
  refine X.opW rfl rfl rfl rfl ?_
  refine X.q rfl ?_
  refine GS.opsNil ?_
  iterate 2 refine GS.seq ?_
  obtain ⟨y1, h_4, hM⟩ := bind_of hM
  refine GS.region ?_
  refine X.q rfl ?_
  refine X.call (ok_berth_turns h_4) rfl rfl rfl (.cons (.shut (n := 9) rfl) .nil) ?_
  refine X.opR rfl (X.lenF rfl rfl rfl) rfl ?_
  refine X.q rfl ?_
  refine GS.opsNil ?_
  refine X.join (τ := (List api_Lease)) (fun v => berth_Queue_j1 v = some r) (fun v => ⟨[(5, (ovlz z_1 0 v))], [oblz z_1 4 e_api_Lease v], 0, none, 63⟩) ?_ ?_
  · intro l2 hM
    replace hM : berth_Queue_j1 l2 = some r := hM
    unfold berth_Queue_j1 at hM
    refine X.sq ?_
    iterate 3 refine X.q rfl ?_
    refine GS.opsNil ?_
    have hE := Option.some.inj hM
    subst hE
    exact GS.ret ⟨_, rfl, FR.tup (.cons (FR.ovl (f := e_api_Lease) (l := l2) 9 rfl rfl (fun _ => rfl)) (.cons ⟨30, rfl⟩ .nil))⟩
  intro hj_1
  refine GS.block ?_
  refine X.gc [some 1, some 2] (X.loop (σ := (Int × (List api_Lease) × (List (Int × Int)))) (fun v => ⟨[(5, (ovlz z_1 0 v.2.1)), (6, (V.map 1)), (21, (V.sl (List.map e_berth_turn y1))), (22, (V.i (y1.length : Int))), (23, (V.i v.1))], [oblz z_1 4 e_api_Lease v.2.1, .map (List.map (fun p => V.i p.1) v.2.2) (List.map (fun p => V.i p.2) v.2.2)], 0, none, 63⟩) hM ?_ rfl) rfl rfl rfl (gk_cons rfl (rn_ovl rfl) (ga rfl rfl)) (gb_obl 9 rfl rfl (fun _ => rfl) (X.gb_mapK 9 rfl rfl (fun _ => rfl) (fun _ => rfl) gb_nil))
  rintro ⟨x2, l3, m⟩ b_1 hM hc_2 hr_1
  rw [berth_Queue_b2] at hM
  refine X.sq ?_
  refine X.q rfl ?_
  refine GS.opsNil ?_
  refine GS.seq ?_
  refine X.cond rfl (fun h_5 => ?_) (fun h_5 => ?_)
  · replace hM := ite_t h_5 hM
    refine GS.skip ?_
    refine GS.seq ?_
    refine GS.block ?_
    refine GS.seq ?_
    obtain ⟨x, h_6, hM⟩ := bind_of hM
    refine GS.region ?_
    refine X.opR rfl (X.indexF (f := e_berth_turn) h_6 (fun _ => rfl) rfl rfl rfl rfl) rfl ?_
    refine X.opR rfl (X.loadF h_6 rfl rfl rfl) rfl ?_
    refine X.opW rfl rfl rfl rfl ?_
    refine X.op0W rfl rfl rfl ?_
    refine X.nq ?_
    iterate 3 refine X.q rfl ?_
    refine X.opW (H' := [oblz z_1 4 e_api_Lease l3, .map (List.map (fun p => V.i p.1) m) (List.map (fun p => V.i p.2) m), .rows 5 [(e_berth_turn x)], .rows 2 [(V.agg [(V.i 0), (V.i 0)])]]) rfl rfl rfl rfl ?_
    refine X.op0W (H' := [oblz z_1 4 e_api_Lease l3, .map (List.map (fun p => V.i p.1) m) (List.map (fun p => V.i p.2) m), .rows 5 [(e_berth_turn x)], .rows 2 [(e_api_Span x.Lease.Span)]]) rfl rfl rfl ?_
    refine X.nq ?_
    iterate 6 refine X.q rfl ?_
    refine X.opR rfl (X.lookW (f := V.i) (g := V.i) (k := x.Lease.Heap) (l := m) (z := 0) (ok := false) X.keyEq_i rfl rfl rfl rfl rfl rfl) rfl ?_
    refine X.opR rfl (X.maxE rfl rfl) rfl ?_
    refine X.q rfl ?_
    refine X.nq ?_
    iterate 3 refine X.q rfl ?_
    refine X.opR rfl (X.addE rfl rfl) rfl ?_
    iterate 2 refine X.q rfl ?_
    refine X.opR rfl (X.subE rfl rfl) rfl ?_
    refine X.q rfl ?_
    refine GS.opsNil ?_
    refine GS.seq ?_
    refine X.sq ?_
    iterate 2 refine X.q rfl ?_
    refine GS.opsNil ?_
    refine X.cond rfl (fun h_7 => ?_) (fun h_7 => ?_)
    · replace hM := ite_t h_7 hM
      refine X.sq ?_
      iterate 2 refine X.q rfl ?_
      refine GS.opsNil ?_
      have hE := Option.some.inj hM
      replace hE := hr_1 _ hE.symm
      subst hE
      exact GS.ret ⟨_, rfl, ⟨30, rfl⟩⟩
    replace hM := ite_f h_7 hM
    refine GS.skip ?_
    refine GS.seq ?_
    obtain ⟨x1, h_8, hM⟩ := bind_of hM
    refine GS.region ?_
    iterate 6 refine X.q rfl ?_
    refine X.opR rfl (X.indexN h_8 rfl rfl rfl rfl rfl) rfl ?_
    refine X.q rfl ?_
    refine X.op0W (H' := [oblz z_1 4 e_api_Lease (put l3 x.place (⟨x1.ID, x1.Heap, (⟨max x.Lease.Span.Lo ((lookM x.Lease.Heap m).getD 0), w64 ((w64 ((max x.Lease.Span.Lo ((lookM x.Lease.Heap m).getD 0)) + x.Lease.Span.Hi)) - x.Lease.Span.Lo)⟩ : api_Span)⟩ : api_Lease)), .map (List.map (fun p => V.i p.1) m) (List.map (fun p => V.i p.2) m), .rows 5 [(e_berth_turn x)], .rows 2 [(e_api_Span x.Lease.Span)]]) rfl (X.storeN (b := (⟨x1.ID, x1.Heap, (⟨max x.Lease.Span.Lo ((lookM x.Lease.Heap m).getD 0), w64 ((w64 ((max x.Lease.Span.Lo ((lookM x.Lease.Heap m).getD 0)) + x.Lease.Span.Hi)) - x.Lease.Span.Lo)⟩ : api_Span)⟩ : api_Lease)) h_8 rfl rfl rfl rfl rfl rfl rfl) rfl ?_
    refine X.mq ?_
    iterate 5 refine X.q rfl ?_
    refine X.opR rfl (X.addE rfl rfl) rfl ?_
    refine X.op0W (H' := [oblz z_1 4 e_api_Lease (put l3 x.place (⟨x1.ID, x1.Heap, (⟨max x.Lease.Span.Lo ((lookM x.Lease.Heap m).getD 0), w64 ((w64 ((max x.Lease.Span.Lo ((lookM x.Lease.Heap m).getD 0)) + x.Lease.Span.Hi)) - x.Lease.Span.Lo)⟩ : api_Span)⟩ : api_Lease)), .map (List.map (fun p => V.i p.1) (putM posI m x.Lease.Heap (w64 ((w64 ((w64 ((max x.Lease.Span.Lo ((lookM x.Lease.Heap m).getD 0)) + x.Lease.Span.Hi)) - x.Lease.Span.Lo)) + 1)))) (List.map (fun p => V.i p.2) (putM posI m x.Lease.Heap (w64 ((w64 ((w64 ((max x.Lease.Span.Lo ((lookM x.Lease.Heap m).getD 0)) + x.Lease.Span.Hi)) - x.Lease.Span.Lo)) + 1)))), .rows 5 [(e_berth_turn x)], .rows 2 [(e_api_Span x.Lease.Span)]]) rfl (X.putW (f := V.i) (g := V.i) (pos := posI) (k := x.Lease.Heap) (v := w64 ((w64 ((w64 ((max x.Lease.Span.Lo ((lookM x.Lease.Heap m).getD 0)) + x.Lease.Span.Hi)) - x.Lease.Span.Lo)) + 1)) (l := m) X.keyEq_i (X.posI_ok _) rfl rfl rfl rfl rfl rfl rfl) rfl ?_
    refine GS.opsNil ?_
    refine GS.endB ?_
    refine GS.region ?_
    refine X.opR rfl (X.addE rfl rfl) rfl ?_
    refine X.q rfl ?_
    refine GS.opsNil ?_
    have hE := Option.some.inj hM
    exact X.gc [some 0, some 1] (hc_2 (w64 (x2 + 1), (put l3 x.place (⟨x1.ID, x1.Heap, (⟨max x.Lease.Span.Lo ((lookM x.Lease.Heap m).getD 0), w64 ((w64 ((max x.Lease.Span.Lo ((lookM x.Lease.Heap m).getD 0)) + x.Lease.Span.Hi)) - x.Lease.Span.Lo)⟩ : api_Span)⟩ : api_Lease)), (putM posI m x.Lease.Heap (w64 ((w64 ((w64 ((max x.Lease.Span.Lo ((lookM x.Lease.Heap m).getD 0)) + x.Lease.Span.Hi)) - x.Lease.Span.Lo)) + 1)))) hE.symm) rfl rfl rfl (gk_cons rfl (rv_eq X.ovl_put (rn_ovl rfl)) (ga rfl rfl)) (gb_obl 9 rfl rfl (fun _ => rfl) (X.gb_mapK 9 rfl rfl (fun _ => rfl) (fun _ => rfl) gb_nil))
  replace hM := ite_f h_5 hM
  refine GS.exit rfl ?_
  obtain ⟨y_1, hM, hy⟩ := map_of hM
  rw [hr_1 _ hy.symm] at hM
  exact X.gc [some 0] (hj_1 l3 hM) rfl rfl rfl (gk_cons rfl (rn_ovl rfl) gk_nil) (gb_obl 9 rfl rfl (fun _ => rfl) gb_nil)

theorem ok_ref06_SameInts {a : (List Int)} {b : (List Int)} {r : Bool} (hM : ref06_SameInts a b = some r) : Ct Try.prog 44 [(V.sl (List.map V.i a)), (V.sl (List.map V.i b))] (V.b r) := by
  refine ct_of_gs CC_ok rfl ?_
  unfold ref06_SameInts at hM
  refine X.sq ?_
  refine X.q rfl ?_
  refine GS.opsNil ?_
  refine GS.seq ?_
  refine X.sq ?_
  refine X.q rfl ?_
  refine X.opR rfl (X.lenF rfl rfl rfl) rfl ?_
  refine X.q rfl ?_
  refine X.opR rfl (X.lenF rfl rfl rfl) rfl ?_
  refine X.q rfl ?_
  refine GS.opsNil ?_
  refine X.cond rfl (fun h_1 => ?_) (fun h_1 => ?_)
  · replace hM := ite_t h_1 hM
    refine X.sq ?_
    refine X.q rfl ?_
    refine GS.opsNil ?_
    have hE := Option.some.inj hM
    subst hE
    exact GS.ret ⟨_, rfl, ⟨30, rfl⟩⟩
  replace hM := ite_f h_1 hM
  refine GS.skip ?_
  refine GS.seq ?_
  refine X.sq ?_
  refine X.q rfl ?_
  refine GS.opsNil ?_
  refine X.join (τ := Unit) (fun v => ref06_SameInts_j1 = some r) (fun v => ⟨[], [], 0, none, 26⟩) ?_ ?_
  · intro _ hM
    replace hM : ref06_SameInts_j1 = some r := hM
    unfold ref06_SameInts_j1 at hM
    refine X.sq ?_
    refine X.q rfl ?_
    refine GS.opsNil ?_
    have hE := Option.some.inj hM
    subst hE
    exact GS.ret ⟨_, rfl, ⟨30, rfl⟩⟩
  intro hj_1
  refine GS.block ?_
  refine X.gc [] (X.loop (σ := Int) (fun v => ⟨[(0, (V.sl (List.map V.i a))), (1, (V.sl (List.map V.i b))), (5, (V.i v))], [], 0, none, 26⟩) hM ?_ rfl) rfl rfl rfl (ga rfl rfl) (gb_nil)
  intro i b_1 hM hc_2 hr_1
  rw [ref06_SameInts_b2] at hM
  refine GS.seq ?_
  refine X.sq ?_
  iterate 2 refine X.q rfl ?_
  refine X.opR rfl (X.lenF rfl rfl rfl) rfl ?_
  refine X.q rfl ?_
  refine GS.opsNil ?_
  refine X.cond rfl (fun h_2 => ?_) (fun h_2 => ?_)
  · replace hM := ite_t h_2 hM
    refine GS.skip ?_
    refine GS.seq ?_
    refine GS.block ?_
    refine GS.seq ?_
    obtain ⟨x, h_3, hM⟩ := bind_of hM
    obtain ⟨x1, h_4, hM⟩ := bind_of hM
    refine X.drawc (by kernel_rfl) rfl ?_
    iterate 2 refine X.cop rfl rfl rfl rfl ?_
    refine X.cop rfl (X.indexF (f := V.i) h_3 (fun _ => rfl) rfl rfl rfl rfl) rfl rfl ?_
    refine X.cop rfl (X.loadF h_3 rfl rfl rfl) rfl rfl ?_
    iterate 2 refine X.cop rfl rfl rfl rfl ?_
    refine X.cop rfl (X.indexF (f := V.i) h_4 (fun _ => rfl) rfl rfl rfl rfl) rfl rfl ?_
    refine X.cop rfl (X.loadF h_4 rfl rfl rfl) rfl rfl ?_
    refine X.cop rfl rfl rfl rfl ?_
    refine X.cnil ?_
    refine X.norm [(0, (V.sl (List.map V.i a))), (1, (V.sl (List.map V.i b))), (5, (V.i i)), (25, (V.b (!decide (x = x1))))] ?_ rfl (sr rfl)
    refine X.cond rfl (fun h_5 => ?_) (fun h_5 => ?_)
    · replace hM := ite_t h_5 hM
      refine X.sq ?_
      refine X.q rfl ?_
      refine GS.opsNil ?_
      have hE := Option.some.inj hM
      replace hE := hr_1 _ hE.symm
      subst hE
      exact GS.ret ⟨_, rfl, ⟨30, rfl⟩⟩
    replace hM := ite_f h_5 hM
    refine GS.skip ?_
    refine GS.endB ?_
    refine GS.region ?_
    refine X.q rfl ?_
    refine X.opR rfl (X.addE rfl rfl) rfl ?_
    refine X.q rfl ?_
    refine GS.opsNil ?_
    have hE := Option.some.inj hM
    exact X.gc [] (hc_2 (w64 (i + 1)) hE.symm) rfl rfl rfl (ga rfl rfl) (gb_nil)
  replace hM := ite_f h_2 hM
  refine GS.exit rfl ?_
  obtain ⟨y_1, hM, hy⟩ := map_of hM
  rw [hr_1 _ hy.symm] at hM
  exact X.gc [] (hj_1 () hM) rfl rfl rfl (gk_nil) (gb_nil)

theorem eq_Arr_2_int (a b : Arr_2_int) : eqA CC.ty 151 (e_Arr_2_int a) (e_Arr_2_int b) = some (decide (a = b)) := by
  refine (X.eqArr rfl rfl (X.eqel rfl rfl rfl (X.eqel rfl rfl rfl X.eqel_nil))).trans ?_
  congr 1
  rw [Bool.eq_iff_iff]
  simp only [Bool.and_eq_true, decide_eq_true_eq, beq_iff_eq, and_true]
  constructor
  · intro h
    obtain ⟨a1, a2⟩ := a
    obtain ⟨b3, b4⟩ := b
    simp at h
    simp [h]
  · rintro rfl
    simp

theorem ok_ref06_SamePairs {a : (List Arr_2_int)} {b : (List Arr_2_int)} {r : Bool} (hM : ref06_SamePairs a b = some r) : Ct Try.prog 49 [(V.sl (List.map e_Arr_2_int a)), (V.sl (List.map e_Arr_2_int b))] (V.b r) := by
  refine ct_of_gs CC_ok rfl ?_
  unfold ref06_SamePairs at hM
  refine X.sq ?_
  refine X.q rfl ?_
  refine GS.opsNil ?_
  refine GS.seq ?_
  refine X.sq ?_
  refine X.q rfl ?_
  refine X.opR rfl (X.lenF rfl rfl rfl) rfl ?_
  refine X.q rfl ?_
  refine X.opR rfl (X.lenF rfl rfl rfl) rfl ?_
  refine X.q rfl ?_
  refine GS.opsNil ?_
  refine X.cond rfl (fun h_1 => ?_) (fun h_1 => ?_)
  · replace hM := ite_t h_1 hM
    refine X.sq ?_
    refine X.q rfl ?_
    refine GS.opsNil ?_
    have hE := Option.some.inj hM
    subst hE
    exact GS.ret ⟨_, rfl, ⟨30, rfl⟩⟩
  replace hM := ite_f h_1 hM
  refine GS.skip ?_
  refine GS.seq ?_
  refine X.sq ?_
  refine X.q rfl ?_
  refine GS.opsNil ?_
  refine X.join (τ := Unit) (fun v => ref06_SamePairs_j1 = some r) (fun v => ⟨[], [], 0, none, 26⟩) ?_ ?_
  · intro _ hM
    replace hM : ref06_SamePairs_j1 = some r := hM
    unfold ref06_SamePairs_j1 at hM
    refine X.sq ?_
    refine X.q rfl ?_
    refine GS.opsNil ?_
    have hE := Option.some.inj hM
    subst hE
    exact GS.ret ⟨_, rfl, ⟨30, rfl⟩⟩
  intro hj_1
  refine GS.block ?_
  refine X.gc [] (X.loop (σ := Int) (fun v => ⟨[(0, (V.sl (List.map e_Arr_2_int a))), (1, (V.sl (List.map e_Arr_2_int b))), (5, (V.i v))], [], 0, none, 26⟩) hM ?_ rfl) rfl rfl rfl (ga rfl rfl) (gb_nil)
  intro i b_1 hM hc_2 hr_1
  rw [ref06_SamePairs_b2] at hM
  refine GS.seq ?_
  refine X.sq ?_
  iterate 2 refine X.q rfl ?_
  refine X.opR rfl (X.lenF rfl rfl rfl) rfl ?_
  refine X.q rfl ?_
  refine GS.opsNil ?_
  refine X.cond rfl (fun h_2 => ?_) (fun h_2 => ?_)
  · replace hM := ite_t h_2 hM
    refine GS.skip ?_
    refine GS.seq ?_
    refine GS.block ?_
    refine GS.seq ?_
    obtain ⟨x, h_3, hM⟩ := bind_of hM
    obtain ⟨x1, h_4, hM⟩ := bind_of hM
    refine X.drawc (by kernel_rfl) rfl ?_
    iterate 2 refine X.cop rfl rfl rfl rfl ?_
    refine X.cop rfl (X.indexF (f := e_Arr_2_int) h_3 (fun _ => rfl) rfl rfl rfl rfl) rfl rfl ?_
    refine X.cop rfl (X.loadF h_3 rfl rfl rfl) rfl rfl ?_
    iterate 2 refine X.cop rfl rfl rfl rfl ?_
    refine X.cop rfl (X.indexF (f := e_Arr_2_int) h_4 (fun _ => rfl) rfl rfl rfl rfl) rfl rfl ?_
    refine X.cop rfl (X.loadF h_4 rfl rfl rfl) rfl rfl ?_
    refine X.cop rfl (X.neqE (eq_Arr_2_int x x1) rfl rfl) rfl rfl ?_
    refine X.cnil ?_
    refine X.norm [(0, (V.sl (List.map e_Arr_2_int a))), (1, (V.sl (List.map e_Arr_2_int b))), (5, (V.i i)), (25, (V.b (!decide (x = x1))))] ?_ rfl (sr rfl)
    refine X.cond rfl (fun h_5 => ?_) (fun h_5 => ?_)
    · replace hM := ite_t h_5 hM
      refine X.sq ?_
      refine X.q rfl ?_
      refine GS.opsNil ?_
      have hE := Option.some.inj hM
      replace hE := hr_1 _ hE.symm
      subst hE
      exact GS.ret ⟨_, rfl, ⟨30, rfl⟩⟩
    replace hM := ite_f h_5 hM
    refine GS.skip ?_
    refine GS.endB ?_
    refine GS.region ?_
    refine X.q rfl ?_
    refine X.opR rfl (X.addE rfl rfl) rfl ?_
    refine X.q rfl ?_
    refine GS.opsNil ?_
    have hE := Option.some.inj hM
    exact X.gc [] (hc_2 (w64 (i + 1)) hE.symm) rfl rfl rfl (ga rfl rfl) (gb_nil)
  replace hM := ite_f h_2 hM
  refine GS.exit rfl ?_
  obtain ⟨y_1, hM, hy⟩ := map_of hM
  rw [hr_1 _ hy.symm] at hM
  exact X.gc [] (hj_1 () hM) rfl rfl rfl (gk_nil) (gb_nil)

theorem eq_api_Span (a b : api_Span) : eqA CC.ty 30 (e_api_Span a) (e_api_Span b) = some (decide (a = b)) := by
  refine (X.eqa rfl rfl (X.eqp rfl rfl rfl (X.eqp rfl rfl rfl X.eqn'))).trans ?_
  congr 1
  rw [Bool.eq_iff_iff]
  simp only [Bool.and_eq_true, decide_eq_true_eq, beq_iff_eq, and_true]
  constructor
  · intro h
    obtain ⟨a1, a2⟩ := a
    obtain ⟨b3, b4⟩ := b
    simp at h
    simp [h]
  · rintro rfl
    simp

set_option maxHeartbeats 4000000 in
theorem ok_law06_lent {r : Bool} (hM : law06_lent = some r) : Ct Try.prog 35 [] (V.b r) := by
  refine ct_of_gs CC_ok rfl ?_
  unfold law06_lent at hM
  refine X.sq ?_
  refine X.q rfl ?_
  refine X.nq ?_
  iterate 6 refine X.q rfl ?_
  refine GS.bldF rfl rfl rfl rfl ?_
  refine X.q rfl ?_
  refine GS.opsNil ?_
  refine GS.seq ?_
  replace hM := bind_of hM
  obtain ⟨y, h_1, hM⟩ := hM
  refine GS.region ?_
  refine X.q rfl ?_
  refine X.call (ok_berth_Lighters h_1) rfl rfl rfl (.cons (.shut (n := 9) rfl) .nil) ?_
  iterate 7 refine X.q rfl ?_
  refine GS.opsNil ?_
  refine GS.seq ?_
  replace hM := bind_of hM
  obtain ⟨y1, h_2, hM⟩ := hM
  refine GS.region ?_
  refine X.q rfl ?_
  refine X.call (ok_berth_Busiest h_2) rfl rfl rfl (.cons (.shut (n := 9) rfl) .nil) ?_
  iterate 7 refine X.q rfl ?_
  refine GS.opsNil ?_
  refine GS.seq ?_
  replace hM := bind_of hM
  obtain ⟨y2, h_3, hM⟩ := hM
  refine GS.region ?_
  refine X.q rfl ?_
  refine X.call (ok_berth_Clashes h_3) rfl rfl rfl (.cons (.shut (n := 9) rfl) .nil) ?_
  iterate 5 refine X.q rfl ?_
  refine GS.opsNil ?_
  refine GS.seq ?_
  replace hM := bind_of hM
  obtain ⟨l, h_4, hM⟩ := hM
  replace hM := bind_of hM
  obtain ⟨y3, h_5, hM⟩ := hM
  refine GS.region ?_
  refine X.q rfl ?_
  refine X.opR rfl (X.sliceF3 (f := e_api_Lease) h_4 (fun _ => rfl) rfl rfl rfl rfl rfl rfl (X.boundA_int rfl) (X.boundA_int rfl)) rfl ?_
  refine X.call (ok_berth_Queue h_5) rfl rfl rfl (.cons (.shut (n := 9) rfl) .nil) ?_
  iterate 5 refine X.q rfl ?_
  refine GS.opsNil ?_
  refine GS.seq ?_
  replace hM := gb_of hM
  obtain ⟨y4, h_6, hM⟩ := hM
  replace hM := gb_of hM
  obtain ⟨y5, h_7, hM⟩ := hM
  replace hM := gb_of hM
  obtain ⟨x, h_8, hM⟩ := hM
  refine GS.region ?_
  refine X.midS ⟨[(0, (V.b (((((((((((decide (y.2.2 = 0)) && (decide (y1.2.2 = 0))) && (decide (y2.2 = 0))) && (decide (y3.2 = 0))) && y4) && (decide (y.2.1 = 2))) && (decide (y1.1 = 5))) && (decide (y1.2.1 = 2))) && y5) && (decide ((y3.1.length : Int) = 2))) && (decide (x.Span = (⟨10, 19⟩ : api_Span))))))], [], 0, none, 92⟩ ?_ ?_
  · intro hg
    refine X.split (decide (y.2.2 = 0)) (fun h_9 => ?_) (fun h_9 => ?_)
    · refine X.split (((decide (y.2.2 = 0)) && (decide (y1.2.2 = 0)))) (fun h_10 => ?_) (fun h_10 => ?_)
      · refine X.split ((((decide (y.2.2 = 0)) && (decide (y1.2.2 = 0))) && (decide (y2.2 = 0)))) (fun h_11 => ?_) (fun h_11 => ?_)
        · refine X.split (((((decide (y.2.2 = 0)) && (decide (y1.2.2 = 0))) && (decide (y2.2 = 0))) && (decide (y3.2 = 0)))) (fun h_12 => ?_) (fun h_12 => ?_)
          · refine X.split ((((((decide (y.2.2 = 0)) && (decide (y1.2.2 = 0))) && (decide (y2.2 = 0))) && (decide (y3.2 = 0))) && y4)) (fun h_13 => ?_) (fun h_13 => ?_)
            · refine X.split (((((((decide (y.2.2 = 0)) && (decide (y1.2.2 = 0))) && (decide (y2.2 = 0))) && (decide (y3.2 = 0))) && y4) && (decide (y.2.1 = 2)))) (fun h_14 => ?_) (fun h_14 => ?_)
              · refine X.split ((((((((decide (y.2.2 = 0)) && (decide (y1.2.2 = 0))) && (decide (y2.2 = 0))) && (decide (y3.2 = 0))) && y4) && (decide (y.2.1 = 2))) && (decide (y1.1 = 5)))) (fun h_15 => ?_) (fun h_15 => ?_)
                · refine X.split (((((((((decide (y.2.2 = 0)) && (decide (y1.2.2 = 0))) && (decide (y2.2 = 0))) && (decide (y3.2 = 0))) && y4) && (decide (y.2.1 = 2))) && (decide (y1.1 = 5))) && (decide (y1.2.1 = 2)))) (fun h_16 => ?_) (fun h_16 => ?_)
                  · refine X.split ((((((((((decide (y.2.2 = 0)) && (decide (y1.2.2 = 0))) && (decide (y2.2 = 0))) && (decide (y3.2 = 0))) && y4) && (decide (y.2.1 = 2))) && (decide (y1.1 = 5))) && (decide (y1.2.1 = 2))) && y5)) (fun h_17 => ?_) (fun h_17 => ?_)
                    · refine X.split (((((((((((decide (y.2.2 = 0)) && (decide (y1.2.2 = 0))) && (decide (y2.2 = 0))) && (decide (y3.2 = 0))) && y4) && (decide (y.2.1 = 2))) && (decide (y1.1 = 5))) && (decide (y1.2.1 = 2))) && y5) && (decide ((y3.1.length : Int) = 2)))) (fun h_18 => ?_) (fun h_18 => ?_)
                      · iterate 3 refine X.q rfl ?_
                        iterate 2 refine X.opR (X.on_t rfl rfl rfl h_9) rfl rfl ?_
                        refine X.opR rfl (X.pickand_t (y := decide (y1.2.2 = 0)) rfl h_9 rfl) rfl ?_
                        refine X.q rfl ?_
                        iterate 2 refine X.opR (X.on_t rfl rfl rfl h_10) rfl rfl ?_
                        refine X.opR rfl (X.pickand_t (y := decide (y2.2 = 0)) rfl h_10 rfl) rfl ?_
                        refine X.q rfl ?_
                        iterate 2 refine X.opR (X.on_t rfl rfl rfl h_11) rfl rfl ?_
                        refine X.opR rfl (X.pickand_t (y := decide (y3.2 = 0)) rfl h_11 rfl) rfl ?_
                        refine X.q rfl ?_
                        refine X.opR (X.on_t rfl rfl rfl h_12) rfl rfl ?_
                        refine X.opW (X.on_t rfl rfl rfl h_12) rfl rfl rfl ?_
                        refine X.callF (ok_ref06_SameInts (h_6 h_12)) (X.on_t rfl rfl rfl h_12) rfl rfl (m := 9) rfl (.cons (.shut (n := 9) rfl) (.cons (FR.arg ⟨30, rfl⟩) .nil)) ?_
                        refine X.opR rfl (X.pickand_t (y := y4) rfl h_12 rfl) rfl ?_
                        refine X.q rfl ?_
                        iterate 2 refine X.opR (X.on_t rfl rfl rfl h_13) rfl rfl ?_
                        refine X.opR rfl (X.pickand_t (y := decide (y.2.1 = 2)) rfl h_13 rfl) rfl ?_
                        refine X.q rfl ?_
                        iterate 2 refine X.opR (X.on_t rfl rfl rfl h_14) rfl rfl ?_
                        refine X.opR rfl (X.pickand_t (y := decide (y1.1 = 5)) rfl h_14 rfl) rfl ?_
                        refine X.q rfl ?_
                        iterate 2 refine X.opR (X.on_t rfl rfl rfl h_15) rfl rfl ?_
                        refine X.opR rfl (X.pickand_t (y := decide (y1.2.1 = 2)) rfl h_15 rfl) rfl ?_
                        refine X.q rfl ?_
                        iterate 2 refine X.opR (X.on_t rfl rfl rfl h_16) rfl rfl ?_
                        refine X.opW (X.on_t rfl rfl rfl h_16) rfl rfl rfl ?_
                        refine X.callF (ok_ref06_SamePairs (h_7 h_16)) (X.on_t rfl rfl rfl h_16) rfl rfl (m := 9) rfl (.cons (.shut (n := 9) rfl) (.cons (FR.arg ⟨30, rfl⟩) .nil)) ?_
                        refine X.opR rfl (X.pickand_t (y := y5) rfl h_16 rfl) rfl ?_
                        refine X.q rfl ?_
                        refine X.opR (X.on_t rfl rfl rfl h_17) rfl rfl ?_
                        refine X.opR (X.on_t rfl rfl rfl h_17) (X.lenF rfl rfl rfl) rfl ?_
                        refine X.opR (X.on_t rfl rfl rfl h_17) rfl rfl ?_
                        refine X.opR rfl (X.pickand_t (y := decide ((y3.1.length : Int) = 2)) rfl h_17 rfl) rfl ?_
                        refine X.q rfl ?_
                        refine X.opR (X.on_t rfl rfl rfl h_18) rfl rfl ?_
                        refine X.opR (X.on_t rfl rfl rfl h_18) (X.indexF (f := e_api_Lease) (h_8 h_18) (fun _ => rfl) rfl rfl rfl rfl) rfl ?_
                        refine X.opR (X.on_t rfl rfl rfl h_18) rfl rfl ?_
                        refine X.opR (X.on_t rfl rfl rfl h_18) (X.loadF (h_8 h_18) rfl rfl rfl) rfl ?_
                        refine X.opR (X.on_t rfl rfl rfl h_18) rfl rfl ?_
                        refine X.opR (X.on_t rfl rfl rfl h_18) (X.eqlE (eq_api_Span x.Span (⟨10, 19⟩ : api_Span)) rfl rfl) rfl ?_
                        refine X.opR rfl (X.pickand_t (y := decide (x.Span = (⟨10, 19⟩ : api_Span))) rfl h_18 rfl) rfl ?_
                        refine X.q rfl ?_
                        refine GS.opsNil ?_
                        exact X.gc [] hg rfl rfl rfl (ga rfl rfl) (gb_nil)
                      iterate 3 refine X.q rfl ?_
                      iterate 2 refine X.opR (X.on_t rfl rfl rfl h_9) rfl rfl ?_
                      refine X.opR rfl (X.pickand_t (y := decide (y1.2.2 = 0)) rfl h_9 rfl) rfl ?_
                      refine X.q rfl ?_
                      iterate 2 refine X.opR (X.on_t rfl rfl rfl h_10) rfl rfl ?_
                      refine X.opR rfl (X.pickand_t (y := decide (y2.2 = 0)) rfl h_10 rfl) rfl ?_
                      refine X.q rfl ?_
                      iterate 2 refine X.opR (X.on_t rfl rfl rfl h_11) rfl rfl ?_
                      refine X.opR rfl (X.pickand_t (y := decide (y3.2 = 0)) rfl h_11 rfl) rfl ?_
                      refine X.q rfl ?_
                      refine X.opR (X.on_t rfl rfl rfl h_12) rfl rfl ?_
                      refine X.opW (X.on_t rfl rfl rfl h_12) rfl rfl rfl ?_
                      refine X.callF (ok_ref06_SameInts (h_6 h_12)) (X.on_t rfl rfl rfl h_12) rfl rfl (m := 9) rfl (.cons (.shut (n := 9) rfl) (.cons (FR.arg ⟨30, rfl⟩) .nil)) ?_
                      refine X.opR rfl (X.pickand_t (y := y4) rfl h_12 rfl) rfl ?_
                      refine X.q rfl ?_
                      iterate 2 refine X.opR (X.on_t rfl rfl rfl h_13) rfl rfl ?_
                      refine X.opR rfl (X.pickand_t (y := decide (y.2.1 = 2)) rfl h_13 rfl) rfl ?_
                      refine X.q rfl ?_
                      iterate 2 refine X.opR (X.on_t rfl rfl rfl h_14) rfl rfl ?_
                      refine X.opR rfl (X.pickand_t (y := decide (y1.1 = 5)) rfl h_14 rfl) rfl ?_
                      refine X.q rfl ?_
                      iterate 2 refine X.opR (X.on_t rfl rfl rfl h_15) rfl rfl ?_
                      refine X.opR rfl (X.pickand_t (y := decide (y1.2.1 = 2)) rfl h_15 rfl) rfl ?_
                      refine X.q rfl ?_
                      iterate 2 refine X.opR (X.on_t rfl rfl rfl h_16) rfl rfl ?_
                      refine X.opW (X.on_t rfl rfl rfl h_16) rfl rfl rfl ?_
                      refine X.callF (ok_ref06_SamePairs (h_7 h_16)) (X.on_t rfl rfl rfl h_16) rfl rfl (m := 9) rfl (.cons (.shut (n := 9) rfl) (.cons (FR.arg ⟨30, rfl⟩) .nil)) ?_
                      refine X.opR rfl (X.pickand_t (y := y5) rfl h_16 rfl) rfl ?_
                      refine X.q rfl ?_
                      refine X.opR (X.on_t rfl rfl rfl h_17) rfl rfl ?_
                      refine X.opR (X.on_t rfl rfl rfl h_17) (X.lenF rfl rfl rfl) rfl ?_
                      refine X.opR (X.on_t rfl rfl rfl h_17) rfl rfl ?_
                      refine X.opR rfl (X.pickand_t (y := decide ((y3.1.length : Int) = 2)) rfl h_17 rfl) rfl ?_
                      refine X.q rfl ?_
                      iterate 6 refine X.off (X.off_t rfl rfl rfl h_18) rfl ?_
                      refine X.opR rfl (X.pickand_f (y := decide (x.Span = (⟨10, 19⟩ : api_Span))) rfl h_18 rfl) rfl ?_
                      refine X.q rfl ?_
                      refine GS.opsNil ?_
                      exact X.gc [] hg rfl rfl rfl (ga rfl rfl) (gb_nil)
                    iterate 3 refine X.q rfl ?_
                    iterate 2 refine X.opR (X.on_t rfl rfl rfl h_9) rfl rfl ?_
                    refine X.opR rfl (X.pickand_t (y := decide (y1.2.2 = 0)) rfl h_9 rfl) rfl ?_
                    refine X.q rfl ?_
                    iterate 2 refine X.opR (X.on_t rfl rfl rfl h_10) rfl rfl ?_
                    refine X.opR rfl (X.pickand_t (y := decide (y2.2 = 0)) rfl h_10 rfl) rfl ?_
                    refine X.q rfl ?_
                    iterate 2 refine X.opR (X.on_t rfl rfl rfl h_11) rfl rfl ?_
                    refine X.opR rfl (X.pickand_t (y := decide (y3.2 = 0)) rfl h_11 rfl) rfl ?_
                    refine X.q rfl ?_
                    refine X.opR (X.on_t rfl rfl rfl h_12) rfl rfl ?_
                    refine X.opW (X.on_t rfl rfl rfl h_12) rfl rfl rfl ?_
                    refine X.callF (ok_ref06_SameInts (h_6 h_12)) (X.on_t rfl rfl rfl h_12) rfl rfl (m := 9) rfl (.cons (.shut (n := 9) rfl) (.cons (FR.arg ⟨30, rfl⟩) .nil)) ?_
                    refine X.opR rfl (X.pickand_t (y := y4) rfl h_12 rfl) rfl ?_
                    refine X.q rfl ?_
                    iterate 2 refine X.opR (X.on_t rfl rfl rfl h_13) rfl rfl ?_
                    refine X.opR rfl (X.pickand_t (y := decide (y.2.1 = 2)) rfl h_13 rfl) rfl ?_
                    refine X.q rfl ?_
                    iterate 2 refine X.opR (X.on_t rfl rfl rfl h_14) rfl rfl ?_
                    refine X.opR rfl (X.pickand_t (y := decide (y1.1 = 5)) rfl h_14 rfl) rfl ?_
                    refine X.q rfl ?_
                    iterate 2 refine X.opR (X.on_t rfl rfl rfl h_15) rfl rfl ?_
                    refine X.opR rfl (X.pickand_t (y := decide (y1.2.1 = 2)) rfl h_15 rfl) rfl ?_
                    refine X.q rfl ?_
                    iterate 2 refine X.opR (X.on_t rfl rfl rfl h_16) rfl rfl ?_
                    refine X.opW (X.on_t rfl rfl rfl h_16) rfl rfl rfl ?_
                    refine X.callF (ok_ref06_SamePairs (h_7 h_16)) (X.on_t rfl rfl rfl h_16) rfl rfl (m := 9) rfl (.cons (.shut (n := 9) rfl) (.cons (FR.arg ⟨30, rfl⟩) .nil)) ?_
                    refine X.opR rfl (X.pickand_t (y := y5) rfl h_16 rfl) rfl ?_
                    refine X.q rfl ?_
                    iterate 3 refine X.off (X.off_t rfl rfl rfl h_17) rfl ?_
                    refine X.opR rfl (X.pickand_f (y := decide ((y3.1.length : Int) = 2)) rfl h_17 rfl) rfl ?_
                    refine X.q rfl ?_
                    iterate 6 refine X.off (X.off_t rfl rfl rfl (X.and_ff h_17)) rfl ?_
                    refine X.opR rfl (X.pickand_f (y := decide (x.Span = (⟨10, 19⟩ : api_Span))) rfl (X.and_ff h_17) rfl) rfl ?_
                    refine X.q rfl ?_
                    refine GS.opsNil ?_
                    exact X.gc [] hg rfl rfl rfl (ga rfl rfl) (gb_nil)
                  iterate 3 refine X.q rfl ?_
                  iterate 2 refine X.opR (X.on_t rfl rfl rfl h_9) rfl rfl ?_
                  refine X.opR rfl (X.pickand_t (y := decide (y1.2.2 = 0)) rfl h_9 rfl) rfl ?_
                  refine X.q rfl ?_
                  iterate 2 refine X.opR (X.on_t rfl rfl rfl h_10) rfl rfl ?_
                  refine X.opR rfl (X.pickand_t (y := decide (y2.2 = 0)) rfl h_10 rfl) rfl ?_
                  refine X.q rfl ?_
                  iterate 2 refine X.opR (X.on_t rfl rfl rfl h_11) rfl rfl ?_
                  refine X.opR rfl (X.pickand_t (y := decide (y3.2 = 0)) rfl h_11 rfl) rfl ?_
                  refine X.q rfl ?_
                  refine X.opR (X.on_t rfl rfl rfl h_12) rfl rfl ?_
                  refine X.opW (X.on_t rfl rfl rfl h_12) rfl rfl rfl ?_
                  refine X.callF (ok_ref06_SameInts (h_6 h_12)) (X.on_t rfl rfl rfl h_12) rfl rfl (m := 9) rfl (.cons (.shut (n := 9) rfl) (.cons (FR.arg ⟨30, rfl⟩) .nil)) ?_
                  refine X.opR rfl (X.pickand_t (y := y4) rfl h_12 rfl) rfl ?_
                  refine X.q rfl ?_
                  iterate 2 refine X.opR (X.on_t rfl rfl rfl h_13) rfl rfl ?_
                  refine X.opR rfl (X.pickand_t (y := decide (y.2.1 = 2)) rfl h_13 rfl) rfl ?_
                  refine X.q rfl ?_
                  iterate 2 refine X.opR (X.on_t rfl rfl rfl h_14) rfl rfl ?_
                  refine X.opR rfl (X.pickand_t (y := decide (y1.1 = 5)) rfl h_14 rfl) rfl ?_
                  refine X.q rfl ?_
                  iterate 2 refine X.opR (X.on_t rfl rfl rfl h_15) rfl rfl ?_
                  refine X.opR rfl (X.pickand_t (y := decide (y1.2.1 = 2)) rfl h_15 rfl) rfl ?_
                  refine X.q rfl ?_
                  iterate 4 refine X.off (X.off_t rfl rfl rfl h_16) rfl ?_
                  refine X.opR rfl (X.pickand_f (y := y5) rfl h_16 rfl) rfl ?_
                  refine X.q rfl ?_
                  iterate 3 refine X.off (X.off_t rfl rfl rfl (X.and_ff h_16)) rfl ?_
                  refine X.opR rfl (X.pickand_f (y := decide ((y3.1.length : Int) = 2)) rfl (X.and_ff h_16) rfl) rfl ?_
                  refine X.q rfl ?_
                  iterate 6 refine X.off (X.off_t rfl rfl rfl (X.and_ff (X.and_ff h_16))) rfl ?_
                  refine X.opR rfl (X.pickand_f (y := decide (x.Span = (⟨10, 19⟩ : api_Span))) rfl (X.and_ff (X.and_ff h_16)) rfl) rfl ?_
                  refine X.q rfl ?_
                  refine GS.opsNil ?_
                  exact X.gc [] hg rfl rfl rfl (ga rfl rfl) (gb_nil)
                iterate 3 refine X.q rfl ?_
                iterate 2 refine X.opR (X.on_t rfl rfl rfl h_9) rfl rfl ?_
                refine X.opR rfl (X.pickand_t (y := decide (y1.2.2 = 0)) rfl h_9 rfl) rfl ?_
                refine X.q rfl ?_
                iterate 2 refine X.opR (X.on_t rfl rfl rfl h_10) rfl rfl ?_
                refine X.opR rfl (X.pickand_t (y := decide (y2.2 = 0)) rfl h_10 rfl) rfl ?_
                refine X.q rfl ?_
                iterate 2 refine X.opR (X.on_t rfl rfl rfl h_11) rfl rfl ?_
                refine X.opR rfl (X.pickand_t (y := decide (y3.2 = 0)) rfl h_11 rfl) rfl ?_
                refine X.q rfl ?_
                refine X.opR (X.on_t rfl rfl rfl h_12) rfl rfl ?_
                refine X.opW (X.on_t rfl rfl rfl h_12) rfl rfl rfl ?_
                refine X.callF (ok_ref06_SameInts (h_6 h_12)) (X.on_t rfl rfl rfl h_12) rfl rfl (m := 9) rfl (.cons (.shut (n := 9) rfl) (.cons (FR.arg ⟨30, rfl⟩) .nil)) ?_
                refine X.opR rfl (X.pickand_t (y := y4) rfl h_12 rfl) rfl ?_
                refine X.q rfl ?_
                iterate 2 refine X.opR (X.on_t rfl rfl rfl h_13) rfl rfl ?_
                refine X.opR rfl (X.pickand_t (y := decide (y.2.1 = 2)) rfl h_13 rfl) rfl ?_
                refine X.q rfl ?_
                iterate 2 refine X.opR (X.on_t rfl rfl rfl h_14) rfl rfl ?_
                refine X.opR rfl (X.pickand_t (y := decide (y1.1 = 5)) rfl h_14 rfl) rfl ?_
                refine X.q rfl ?_
                iterate 2 refine X.off (X.off_t rfl rfl rfl h_15) rfl ?_
                refine X.opR rfl (X.pickand_f (y := decide (y1.2.1 = 2)) rfl h_15 rfl) rfl ?_
                refine X.q rfl ?_
                iterate 4 refine X.off (X.off_t rfl rfl rfl (X.and_ff h_15)) rfl ?_
                refine X.opR rfl (X.pickand_f (y := y5) rfl (X.and_ff h_15) rfl) rfl ?_
                refine X.q rfl ?_
                iterate 3 refine X.off (X.off_t rfl rfl rfl (X.and_ff (X.and_ff h_15))) rfl ?_
                refine X.opR rfl (X.pickand_f (y := decide ((y3.1.length : Int) = 2)) rfl (X.and_ff (X.and_ff h_15)) rfl) rfl ?_
                refine X.q rfl ?_
                iterate 6 refine X.off (X.off_t rfl rfl rfl (X.and_ff (X.and_ff (X.and_ff h_15)))) rfl ?_
                refine X.opR rfl (X.pickand_f (y := decide (x.Span = (⟨10, 19⟩ : api_Span))) rfl (X.and_ff (X.and_ff (X.and_ff h_15))) rfl) rfl ?_
                refine X.q rfl ?_
                refine GS.opsNil ?_
                exact X.gc [] hg rfl rfl rfl (ga rfl rfl) (gb_nil)
              iterate 3 refine X.q rfl ?_
              iterate 2 refine X.opR (X.on_t rfl rfl rfl h_9) rfl rfl ?_
              refine X.opR rfl (X.pickand_t (y := decide (y1.2.2 = 0)) rfl h_9 rfl) rfl ?_
              refine X.q rfl ?_
              iterate 2 refine X.opR (X.on_t rfl rfl rfl h_10) rfl rfl ?_
              refine X.opR rfl (X.pickand_t (y := decide (y2.2 = 0)) rfl h_10 rfl) rfl ?_
              refine X.q rfl ?_
              iterate 2 refine X.opR (X.on_t rfl rfl rfl h_11) rfl rfl ?_
              refine X.opR rfl (X.pickand_t (y := decide (y3.2 = 0)) rfl h_11 rfl) rfl ?_
              refine X.q rfl ?_
              refine X.opR (X.on_t rfl rfl rfl h_12) rfl rfl ?_
              refine X.opW (X.on_t rfl rfl rfl h_12) rfl rfl rfl ?_
              refine X.callF (ok_ref06_SameInts (h_6 h_12)) (X.on_t rfl rfl rfl h_12) rfl rfl (m := 9) rfl (.cons (.shut (n := 9) rfl) (.cons (FR.arg ⟨30, rfl⟩) .nil)) ?_
              refine X.opR rfl (X.pickand_t (y := y4) rfl h_12 rfl) rfl ?_
              refine X.q rfl ?_
              iterate 2 refine X.opR (X.on_t rfl rfl rfl h_13) rfl rfl ?_
              refine X.opR rfl (X.pickand_t (y := decide (y.2.1 = 2)) rfl h_13 rfl) rfl ?_
              refine X.q rfl ?_
              iterate 2 refine X.off (X.off_t rfl rfl rfl h_14) rfl ?_
              refine X.opR rfl (X.pickand_f (y := decide (y1.1 = 5)) rfl h_14 rfl) rfl ?_
              refine X.q rfl ?_
              iterate 2 refine X.off (X.off_t rfl rfl rfl (X.and_ff h_14)) rfl ?_
              refine X.opR rfl (X.pickand_f (y := decide (y1.2.1 = 2)) rfl (X.and_ff h_14) rfl) rfl ?_
              refine X.q rfl ?_
              iterate 4 refine X.off (X.off_t rfl rfl rfl (X.and_ff (X.and_ff h_14))) rfl ?_
              refine X.opR rfl (X.pickand_f (y := y5) rfl (X.and_ff (X.and_ff h_14)) rfl) rfl ?_
              refine X.q rfl ?_
              iterate 3 refine X.off (X.off_t rfl rfl rfl (X.and_ff (X.and_ff (X.and_ff h_14)))) rfl ?_
              refine X.opR rfl (X.pickand_f (y := decide ((y3.1.length : Int) = 2)) rfl (X.and_ff (X.and_ff (X.and_ff h_14))) rfl) rfl ?_
              refine X.q rfl ?_
              iterate 6 refine X.off (X.off_t rfl rfl rfl (X.and_ff (X.and_ff (X.and_ff (X.and_ff h_14))))) rfl ?_
              refine X.opR rfl (X.pickand_f (y := decide (x.Span = (⟨10, 19⟩ : api_Span))) rfl (X.and_ff (X.and_ff (X.and_ff (X.and_ff h_14)))) rfl) rfl ?_
              refine X.q rfl ?_
              refine GS.opsNil ?_
              exact X.gc [] hg rfl rfl rfl (ga rfl rfl) (gb_nil)
            iterate 3 refine X.q rfl ?_
            iterate 2 refine X.opR (X.on_t rfl rfl rfl h_9) rfl rfl ?_
            refine X.opR rfl (X.pickand_t (y := decide (y1.2.2 = 0)) rfl h_9 rfl) rfl ?_
            refine X.q rfl ?_
            iterate 2 refine X.opR (X.on_t rfl rfl rfl h_10) rfl rfl ?_
            refine X.opR rfl (X.pickand_t (y := decide (y2.2 = 0)) rfl h_10 rfl) rfl ?_
            refine X.q rfl ?_
            iterate 2 refine X.opR (X.on_t rfl rfl rfl h_11) rfl rfl ?_
            refine X.opR rfl (X.pickand_t (y := decide (y3.2 = 0)) rfl h_11 rfl) rfl ?_
            refine X.q rfl ?_
            refine X.opR (X.on_t rfl rfl rfl h_12) rfl rfl ?_
            refine X.opW (X.on_t rfl rfl rfl h_12) rfl rfl rfl ?_
            refine X.callF (ok_ref06_SameInts (h_6 h_12)) (X.on_t rfl rfl rfl h_12) rfl rfl (m := 9) rfl (.cons (.shut (n := 9) rfl) (.cons (FR.arg ⟨30, rfl⟩) .nil)) ?_
            refine X.opR rfl (X.pickand_t (y := y4) rfl h_12 rfl) rfl ?_
            refine X.q rfl ?_
            iterate 2 refine X.off (X.off_t rfl rfl rfl h_13) rfl ?_
            refine X.opR rfl (X.pickand_f (y := decide (y.2.1 = 2)) rfl h_13 rfl) rfl ?_
            refine X.q rfl ?_
            iterate 2 refine X.off (X.off_t rfl rfl rfl (X.and_ff h_13)) rfl ?_
            refine X.opR rfl (X.pickand_f (y := decide (y1.1 = 5)) rfl (X.and_ff h_13) rfl) rfl ?_
            refine X.q rfl ?_
            iterate 2 refine X.off (X.off_t rfl rfl rfl (X.and_ff (X.and_ff h_13))) rfl ?_
            refine X.opR rfl (X.pickand_f (y := decide (y1.2.1 = 2)) rfl (X.and_ff (X.and_ff h_13)) rfl) rfl ?_
            refine X.q rfl ?_
            iterate 4 refine X.off (X.off_t rfl rfl rfl (X.and_ff (X.and_ff (X.and_ff h_13)))) rfl ?_
            refine X.opR rfl (X.pickand_f (y := y5) rfl (X.and_ff (X.and_ff (X.and_ff h_13))) rfl) rfl ?_
            refine X.q rfl ?_
            iterate 3 refine X.off (X.off_t rfl rfl rfl (X.and_ff (X.and_ff (X.and_ff (X.and_ff h_13))))) rfl ?_
            refine X.opR rfl (X.pickand_f (y := decide ((y3.1.length : Int) = 2)) rfl (X.and_ff (X.and_ff (X.and_ff (X.and_ff h_13)))) rfl) rfl ?_
            refine X.q rfl ?_
            iterate 6 refine X.off (X.off_t rfl rfl rfl (X.and_ff (X.and_ff (X.and_ff (X.and_ff (X.and_ff h_13)))))) rfl ?_
            refine X.opR rfl (X.pickand_f (y := decide (x.Span = (⟨10, 19⟩ : api_Span))) rfl (X.and_ff (X.and_ff (X.and_ff (X.and_ff (X.and_ff h_13))))) rfl) rfl ?_
            refine X.q rfl ?_
            refine GS.opsNil ?_
            exact X.gc [] hg rfl rfl rfl (ga rfl rfl) (gb_nil)
          iterate 3 refine X.q rfl ?_
          iterate 2 refine X.opR (X.on_t rfl rfl rfl h_9) rfl rfl ?_
          refine X.opR rfl (X.pickand_t (y := decide (y1.2.2 = 0)) rfl h_9 rfl) rfl ?_
          refine X.q rfl ?_
          iterate 2 refine X.opR (X.on_t rfl rfl rfl h_10) rfl rfl ?_
          refine X.opR rfl (X.pickand_t (y := decide (y2.2 = 0)) rfl h_10 rfl) rfl ?_
          refine X.q rfl ?_
          iterate 2 refine X.opR (X.on_t rfl rfl rfl h_11) rfl rfl ?_
          refine X.opR rfl (X.pickand_t (y := decide (y3.2 = 0)) rfl h_11 rfl) rfl ?_
          refine X.q rfl ?_
          iterate 3 refine X.off (X.off_t rfl rfl rfl h_12) rfl ?_
          refine X.opR rfl (X.pickand_f (y := y4) rfl h_12 rfl) rfl ?_
          refine X.q rfl ?_
          iterate 2 refine X.off (X.off_t rfl rfl rfl (X.and_ff h_12)) rfl ?_
          refine X.opR rfl (X.pickand_f (y := decide (y.2.1 = 2)) rfl (X.and_ff h_12) rfl) rfl ?_
          refine X.q rfl ?_
          iterate 2 refine X.off (X.off_t rfl rfl rfl (X.and_ff (X.and_ff h_12))) rfl ?_
          refine X.opR rfl (X.pickand_f (y := decide (y1.1 = 5)) rfl (X.and_ff (X.and_ff h_12)) rfl) rfl ?_
          refine X.q rfl ?_
          iterate 2 refine X.off (X.off_t rfl rfl rfl (X.and_ff (X.and_ff (X.and_ff h_12)))) rfl ?_
          refine X.opR rfl (X.pickand_f (y := decide (y1.2.1 = 2)) rfl (X.and_ff (X.and_ff (X.and_ff h_12))) rfl) rfl ?_
          refine X.q rfl ?_
          iterate 4 refine X.off (X.off_t rfl rfl rfl (X.and_ff (X.and_ff (X.and_ff (X.and_ff h_12))))) rfl ?_
          refine X.opR rfl (X.pickand_f (y := y5) rfl (X.and_ff (X.and_ff (X.and_ff (X.and_ff h_12)))) rfl) rfl ?_
          refine X.q rfl ?_
          iterate 3 refine X.off (X.off_t rfl rfl rfl (X.and_ff (X.and_ff (X.and_ff (X.and_ff (X.and_ff h_12)))))) rfl ?_
          refine X.opR rfl (X.pickand_f (y := decide ((y3.1.length : Int) = 2)) rfl (X.and_ff (X.and_ff (X.and_ff (X.and_ff (X.and_ff h_12))))) rfl) rfl ?_
          refine X.q rfl ?_
          iterate 6 refine X.off (X.off_t rfl rfl rfl (X.and_ff (X.and_ff (X.and_ff (X.and_ff (X.and_ff (X.and_ff h_12))))))) rfl ?_
          refine X.opR rfl (X.pickand_f (y := decide (x.Span = (⟨10, 19⟩ : api_Span))) rfl (X.and_ff (X.and_ff (X.and_ff (X.and_ff (X.and_ff (X.and_ff h_12)))))) rfl) rfl ?_
          refine X.q rfl ?_
          refine GS.opsNil ?_
          exact X.gc [] hg rfl rfl rfl (ga rfl rfl) (gb_nil)
        iterate 3 refine X.q rfl ?_
        iterate 2 refine X.opR (X.on_t rfl rfl rfl h_9) rfl rfl ?_
        refine X.opR rfl (X.pickand_t (y := decide (y1.2.2 = 0)) rfl h_9 rfl) rfl ?_
        refine X.q rfl ?_
        iterate 2 refine X.opR (X.on_t rfl rfl rfl h_10) rfl rfl ?_
        refine X.opR rfl (X.pickand_t (y := decide (y2.2 = 0)) rfl h_10 rfl) rfl ?_
        refine X.q rfl ?_
        iterate 2 refine X.off (X.off_t rfl rfl rfl h_11) rfl ?_
        refine X.opR rfl (X.pickand_f (y := decide (y3.2 = 0)) rfl h_11 rfl) rfl ?_
        refine X.q rfl ?_
        iterate 3 refine X.off (X.off_t rfl rfl rfl (X.and_ff h_11)) rfl ?_
        refine X.opR rfl (X.pickand_f (y := y4) rfl (X.and_ff h_11) rfl) rfl ?_
        refine X.q rfl ?_
        iterate 2 refine X.off (X.off_t rfl rfl rfl (X.and_ff (X.and_ff h_11))) rfl ?_
        refine X.opR rfl (X.pickand_f (y := decide (y.2.1 = 2)) rfl (X.and_ff (X.and_ff h_11)) rfl) rfl ?_
        refine X.q rfl ?_
        iterate 2 refine X.off (X.off_t rfl rfl rfl (X.and_ff (X.and_ff (X.and_ff h_11)))) rfl ?_
        refine X.opR rfl (X.pickand_f (y := decide (y1.1 = 5)) rfl (X.and_ff (X.and_ff (X.and_ff h_11))) rfl) rfl ?_
        refine X.q rfl ?_
        iterate 2 refine X.off (X.off_t rfl rfl rfl (X.and_ff (X.and_ff (X.and_ff (X.and_ff h_11))))) rfl ?_
        refine X.opR rfl (X.pickand_f (y := decide (y1.2.1 = 2)) rfl (X.and_ff (X.and_ff (X.and_ff (X.and_ff h_11)))) rfl) rfl ?_
        refine X.q rfl ?_
        iterate 4 refine X.off (X.off_t rfl rfl rfl (X.and_ff (X.and_ff (X.and_ff (X.and_ff (X.and_ff h_11)))))) rfl ?_
        refine X.opR rfl (X.pickand_f (y := y5) rfl (X.and_ff (X.and_ff (X.and_ff (X.and_ff (X.and_ff h_11))))) rfl) rfl ?_
        refine X.q rfl ?_
        iterate 3 refine X.off (X.off_t rfl rfl rfl (X.and_ff (X.and_ff (X.and_ff (X.and_ff (X.and_ff (X.and_ff h_11))))))) rfl ?_
        refine X.opR rfl (X.pickand_f (y := decide ((y3.1.length : Int) = 2)) rfl (X.and_ff (X.and_ff (X.and_ff (X.and_ff (X.and_ff (X.and_ff h_11)))))) rfl) rfl ?_
        refine X.q rfl ?_
        iterate 6 refine X.off (X.off_t rfl rfl rfl (X.and_ff (X.and_ff (X.and_ff (X.and_ff (X.and_ff (X.and_ff (X.and_ff h_11)))))))) rfl ?_
        refine X.opR rfl (X.pickand_f (y := decide (x.Span = (⟨10, 19⟩ : api_Span))) rfl (X.and_ff (X.and_ff (X.and_ff (X.and_ff (X.and_ff (X.and_ff (X.and_ff h_11))))))) rfl) rfl ?_
        refine X.q rfl ?_
        refine GS.opsNil ?_
        exact X.gc [] hg rfl rfl rfl (ga rfl rfl) (gb_nil)
      iterate 3 refine X.q rfl ?_
      iterate 2 refine X.opR (X.on_t rfl rfl rfl h_9) rfl rfl ?_
      refine X.opR rfl (X.pickand_t (y := decide (y1.2.2 = 0)) rfl h_9 rfl) rfl ?_
      refine X.q rfl ?_
      iterate 2 refine X.off (X.off_t rfl rfl rfl h_10) rfl ?_
      refine X.opR rfl (X.pickand_f (y := decide (y2.2 = 0)) rfl h_10 rfl) rfl ?_
      refine X.q rfl ?_
      iterate 2 refine X.off (X.off_t rfl rfl rfl (X.and_ff h_10)) rfl ?_
      refine X.opR rfl (X.pickand_f (y := decide (y3.2 = 0)) rfl (X.and_ff h_10) rfl) rfl ?_
      refine X.q rfl ?_
      iterate 3 refine X.off (X.off_t rfl rfl rfl (X.and_ff (X.and_ff h_10))) rfl ?_
      refine X.opR rfl (X.pickand_f (y := y4) rfl (X.and_ff (X.and_ff h_10)) rfl) rfl ?_
      refine X.q rfl ?_
      iterate 2 refine X.off (X.off_t rfl rfl rfl (X.and_ff (X.and_ff (X.and_ff h_10)))) rfl ?_
      refine X.opR rfl (X.pickand_f (y := decide (y.2.1 = 2)) rfl (X.and_ff (X.and_ff (X.and_ff h_10))) rfl) rfl ?_
      refine X.q rfl ?_
      iterate 2 refine X.off (X.off_t rfl rfl rfl (X.and_ff (X.and_ff (X.and_ff (X.and_ff h_10))))) rfl ?_
      refine X.opR rfl (X.pickand_f (y := decide (y1.1 = 5)) rfl (X.and_ff (X.and_ff (X.and_ff (X.and_ff h_10)))) rfl) rfl ?_
      refine X.q rfl ?_
      iterate 2 refine X.off (X.off_t rfl rfl rfl (X.and_ff (X.and_ff (X.and_ff (X.and_ff (X.and_ff h_10)))))) rfl ?_
      refine X.opR rfl (X.pickand_f (y := decide (y1.2.1 = 2)) rfl (X.and_ff (X.and_ff (X.and_ff (X.and_ff (X.and_ff h_10))))) rfl) rfl ?_
      refine X.q rfl ?_
      iterate 4 refine X.off (X.off_t rfl rfl rfl (X.and_ff (X.and_ff (X.and_ff (X.and_ff (X.and_ff (X.and_ff h_10))))))) rfl ?_
      refine X.opR rfl (X.pickand_f (y := y5) rfl (X.and_ff (X.and_ff (X.and_ff (X.and_ff (X.and_ff (X.and_ff h_10)))))) rfl) rfl ?_
      refine X.q rfl ?_
      iterate 3 refine X.off (X.off_t rfl rfl rfl (X.and_ff (X.and_ff (X.and_ff (X.and_ff (X.and_ff (X.and_ff (X.and_ff h_10)))))))) rfl ?_
      refine X.opR rfl (X.pickand_f (y := decide ((y3.1.length : Int) = 2)) rfl (X.and_ff (X.and_ff (X.and_ff (X.and_ff (X.and_ff (X.and_ff (X.and_ff h_10))))))) rfl) rfl ?_
      refine X.q rfl ?_
      iterate 6 refine X.off (X.off_t rfl rfl rfl (X.and_ff (X.and_ff (X.and_ff (X.and_ff (X.and_ff (X.and_ff (X.and_ff (X.and_ff h_10))))))))) rfl ?_
      refine X.opR rfl (X.pickand_f (y := decide (x.Span = (⟨10, 19⟩ : api_Span))) rfl (X.and_ff (X.and_ff (X.and_ff (X.and_ff (X.and_ff (X.and_ff (X.and_ff (X.and_ff h_10)))))))) rfl) rfl ?_
      refine X.q rfl ?_
      refine GS.opsNil ?_
      exact X.gc [] hg rfl rfl rfl (ga rfl rfl) (gb_nil)
    iterate 3 refine X.q rfl ?_
    iterate 2 refine X.off (X.off_t rfl rfl rfl h_9) rfl ?_
    refine X.opR rfl (X.pickand_f (y := decide (y1.2.2 = 0)) rfl h_9 rfl) rfl ?_
    refine X.q rfl ?_
    iterate 2 refine X.off (X.off_t rfl rfl rfl (X.and_ff h_9)) rfl ?_
    refine X.opR rfl (X.pickand_f (y := decide (y2.2 = 0)) rfl (X.and_ff h_9) rfl) rfl ?_
    refine X.q rfl ?_
    iterate 2 refine X.off (X.off_t rfl rfl rfl (X.and_ff (X.and_ff h_9))) rfl ?_
    refine X.opR rfl (X.pickand_f (y := decide (y3.2 = 0)) rfl (X.and_ff (X.and_ff h_9)) rfl) rfl ?_
    refine X.q rfl ?_
    iterate 3 refine X.off (X.off_t rfl rfl rfl (X.and_ff (X.and_ff (X.and_ff h_9)))) rfl ?_
    refine X.opR rfl (X.pickand_f (y := y4) rfl (X.and_ff (X.and_ff (X.and_ff h_9))) rfl) rfl ?_
    refine X.q rfl ?_
    iterate 2 refine X.off (X.off_t rfl rfl rfl (X.and_ff (X.and_ff (X.and_ff (X.and_ff h_9))))) rfl ?_
    refine X.opR rfl (X.pickand_f (y := decide (y.2.1 = 2)) rfl (X.and_ff (X.and_ff (X.and_ff (X.and_ff h_9)))) rfl) rfl ?_
    refine X.q rfl ?_
    iterate 2 refine X.off (X.off_t rfl rfl rfl (X.and_ff (X.and_ff (X.and_ff (X.and_ff (X.and_ff h_9)))))) rfl ?_
    refine X.opR rfl (X.pickand_f (y := decide (y1.1 = 5)) rfl (X.and_ff (X.and_ff (X.and_ff (X.and_ff (X.and_ff h_9))))) rfl) rfl ?_
    refine X.q rfl ?_
    iterate 2 refine X.off (X.off_t rfl rfl rfl (X.and_ff (X.and_ff (X.and_ff (X.and_ff (X.and_ff (X.and_ff h_9))))))) rfl ?_
    refine X.opR rfl (X.pickand_f (y := decide (y1.2.1 = 2)) rfl (X.and_ff (X.and_ff (X.and_ff (X.and_ff (X.and_ff (X.and_ff h_9)))))) rfl) rfl ?_
    refine X.q rfl ?_
    iterate 4 refine X.off (X.off_t rfl rfl rfl (X.and_ff (X.and_ff (X.and_ff (X.and_ff (X.and_ff (X.and_ff (X.and_ff h_9)))))))) rfl ?_
    refine X.opR rfl (X.pickand_f (y := y5) rfl (X.and_ff (X.and_ff (X.and_ff (X.and_ff (X.and_ff (X.and_ff (X.and_ff h_9))))))) rfl) rfl ?_
    refine X.q rfl ?_
    iterate 3 refine X.off (X.off_t rfl rfl rfl (X.and_ff (X.and_ff (X.and_ff (X.and_ff (X.and_ff (X.and_ff (X.and_ff (X.and_ff h_9))))))))) rfl ?_
    refine X.opR rfl (X.pickand_f (y := decide ((y3.1.length : Int) = 2)) rfl (X.and_ff (X.and_ff (X.and_ff (X.and_ff (X.and_ff (X.and_ff (X.and_ff (X.and_ff h_9)))))))) rfl) rfl ?_
    refine X.q rfl ?_
    iterate 6 refine X.off (X.off_t rfl rfl rfl (X.and_ff (X.and_ff (X.and_ff (X.and_ff (X.and_ff (X.and_ff (X.and_ff (X.and_ff (X.and_ff h_9)))))))))) rfl ?_
    refine X.opR rfl (X.pickand_f (y := decide (x.Span = (⟨10, 19⟩ : api_Span))) rfl (X.and_ff (X.and_ff (X.and_ff (X.and_ff (X.and_ff (X.and_ff (X.and_ff (X.and_ff (X.and_ff h_9))))))))) rfl) rfl ?_
    refine X.q rfl ?_
    refine GS.opsNil ?_
    exact X.gc [] hg rfl rfl rfl (ga rfl rfl) (gb_nil)
  have hE := Option.some.inj hM
  subst hE
  exact GS.ret ⟨_, rfl, ⟨30, rfl⟩⟩

theorem ok_berth_CheckLighters {l : (List api_Lease)} {lighters : (List Int)} {r : Int} (hM : berth_CheckLighters l lighters = some r) : Ct Try.prog 47 [(V.sl (List.map e_api_Lease l)), (V.sl (List.map V.i lighters))] (V.i r) := by
  refine ct_of_gs CC_ok rfl ?_
  unfold berth_CheckLighters at hM
  refine X.sq ?_
  refine X.q rfl ?_
  refine GS.opsNil ?_
  iterate 2 refine GS.seq ?_
  obtain ⟨y, h_1, hM⟩ := bind_of hM
  refine GS.region ?_
  refine X.q rfl ?_
  refine X.call (ok_berth_CheckLeases h_1) rfl rfl rfl (.cons (.shut (n := 9) rfl) .nil) ?_
  refine X.q rfl ?_
  refine X.nq ?_
  iterate 2 refine X.q rfl ?_
  refine GS.opsNil ?_
  refine X.cond rfl (fun h_2 => ?_) (fun h_2 => ?_)
  · replace hM := ite_t h_2 hM
    refine X.sq ?_
    iterate 2 refine X.q rfl ?_
    refine GS.opsNil ?_
    have hE := Option.some.inj hM
    subst hE
    exact GS.ret ⟨_, rfl, ⟨30, rfl⟩⟩
  replace hM := ite_f h_2 hM
  refine GS.skip ?_
  refine GS.seq ?_
  refine X.sq ?_
  refine X.q rfl ?_
  refine X.opR rfl (X.lenF rfl rfl rfl) rfl ?_
  refine X.q rfl ?_
  refine X.opR rfl (X.lenF rfl rfl rfl) rfl ?_
  refine X.q rfl ?_
  refine GS.opsNil ?_
  refine X.cond rfl (fun h_3 => ?_) (fun h_3 => ?_)
  · replace hM := ite_t h_3 hM
    refine X.sq ?_
    refine X.q rfl ?_
    refine GS.opsNil ?_
    have hE := Option.some.inj hM
    subst hE
    exact GS.ret ⟨_, rfl, ⟨30, rfl⟩⟩
  replace hM := ite_f h_3 hM
  refine GS.skip ?_
  refine GS.seq ?_
  refine X.sq ?_
  refine X.q rfl ?_
  refine X.opR rfl (X.lenF rfl rfl rfl) rfl ?_
  refine X.q rfl ?_
  refine GS.opsNil ?_
  refine X.join (τ := Unit) (fun v => berth_CheckLighters_j1 = some r) (fun v => ⟨[], [], 0, none, 54⟩) ?_ ?_
  · intro _ hM
    replace hM : berth_CheckLighters_j1 = some r := hM
    unfold berth_CheckLighters_j1 at hM
    refine X.sq ?_
    refine X.q rfl ?_
    refine GS.opsNil ?_
    have hE := Option.some.inj hM
    subst hE
    exact GS.ret ⟨_, rfl, ⟨30, rfl⟩⟩
  intro hj_1
  refine GS.block ?_
  refine X.gc [] (X.loop (σ := Int) (fun v => ⟨[(0, (V.sl (List.map e_api_Lease l))), (1, (V.sl (List.map V.i lighters))), (20, (V.sl (List.map V.i lighters))), (21, (V.i (lighters.length : Int))), (22, (V.i v))], [], 0, none, 54⟩) hM ?_ rfl) rfl rfl rfl (ga rfl rfl) (gb_nil)
  intro x5 b_1 hM hc_2 hr_1
  rw [berth_CheckLighters_b2] at hM
  refine X.sq ?_
  refine X.q rfl ?_
  refine GS.opsNil ?_
  refine GS.seq ?_
  refine X.cond rfl (fun h_4 => ?_) (fun h_4 => ?_)
  · replace hM := ite_t h_4 hM
    refine GS.skip ?_
    refine GS.seq ?_
    refine GS.block ?_
    refine GS.seq ?_
    obtain ⟨x, h_5, hM⟩ := bind_of hM
    refine GS.region ?_
    refine X.q rfl ?_
    refine X.opR rfl (X.indexF (f := V.i) h_5 (fun _ => rfl) rfl rfl rfl rfl) rfl ?_
    refine X.opR rfl (X.loadF h_5 rfl rfl rfl) rfl ?_
    iterate 2 refine X.q rfl ?_
    refine GS.opsNil ?_
    refine GS.seq ?_
    refine X.sq ?_
    iterate 2 refine X.q rfl ?_
    refine GS.opsNil ?_
    refine X.cond rfl (fun h_6 => ?_) (fun h_6 => ?_)
    · replace hM := ite_t h_6 hM
      refine X.sq ?_
      refine X.q rfl ?_
      refine GS.opsNil ?_
      have hE := Option.some.inj hM
      replace hE := hr_1 _ hE.symm
      subst hE
      exact GS.ret ⟨_, rfl, ⟨30, rfl⟩⟩
    replace hM := ite_f h_6 hM
    refine GS.skip ?_
    refine GS.seq ?_
    obtain ⟨l1, h_7, hM⟩ := bind_of hM
    refine GS.region ?_
    iterate 2 refine X.q rfl ?_
    refine X.opR rfl (X.sliceF (f := V.i) h_7 (fun _ => rfl) rfl rfl rfl rfl rfl rfl (X.boundA_int rfl)) rfl ?_
    refine X.opR rfl (X.lenF rfl rfl rfl) rfl ?_
    refine X.q rfl ?_
    refine GS.opsNil ?_
    refine X.join (τ := Unit) (fun v => berth_CheckLighters_j3 x5 = some b_1) (fun v => ⟨[(0, (V.sl (List.map e_api_Lease l))), (1, (V.sl (List.map V.i lighters))), (20, (V.sl (List.map V.i lighters))), (21, (V.i (lighters.length : Int))), (22, (V.i x5))], [], 0, none, 54⟩) ?_ ?_
    · intro _ hM
      replace hM : berth_CheckLighters_j3 x5 = some b_1 := hM
      unfold berth_CheckLighters_j3 at hM
      refine GS.endB ?_
      refine GS.region ?_
      refine X.opR rfl (X.addE rfl rfl) rfl ?_
      refine X.q rfl ?_
      refine GS.opsNil ?_
      have hE := Option.some.inj hM
      exact X.gc [] (hc_2 (w64 (x5 + 1)) hE.symm) rfl rfl rfl (ga rfl rfl) (gb_nil)
    intro hj_3
    refine GS.block ?_
    refine X.gc [] (X.loop (σ := Int) (fun v => ⟨[(0, (V.sl (List.map e_api_Lease l))), (1, (V.sl (List.map V.i lighters))), (6, (V.i x5)), (7, (V.i x)), (20, (V.sl (List.map V.i lighters))), (21, (V.i (lighters.length : Int))), (22, (V.i x5)), (31, (V.sl (List.map V.i l1))), (32, (V.i (l1.length : Int))), (33, (V.i v))], [], 0, none, 54⟩) hM ?_ rfl) rfl rfl rfl (ga rfl rfl) (gb_nil)
    intro x4 b_2 hM hc_4 hr_2
    rw [berth_CheckLighters_b4] at hM
    refine X.sq ?_
    refine X.q rfl ?_
    refine GS.opsNil ?_
    refine GS.seq ?_
    refine X.cond rfl (fun h_8 => ?_) (fun h_8 => ?_)
    · replace hM := ite_t h_8 hM
      refine GS.skip ?_
      refine GS.seq ?_
      refine GS.block ?_
      refine GS.seq ?_
      obtain ⟨x1, h_9, hM⟩ := bind_of hM
      refine GS.region ?_
      refine X.q rfl ?_
      refine X.opR rfl (X.indexF (f := V.i) h_9 (fun _ => rfl) rfl rfl rfl rfl) rfl ?_
      refine X.opR rfl (X.loadF h_9 rfl rfl rfl) rfl ?_
      iterate 2 refine X.q rfl ?_
      refine GS.opsNil ?_
      refine GS.seq ?_
      obtain ⟨x2, h_10, hM⟩ := gb_of hM
      obtain ⟨x3, h_11, hM⟩ := gb_of hM
      refine X.mid [(0, (V.sl (List.map e_api_Lease l))), (1, (V.sl (List.map V.i lighters))), (6, (V.i x5)), (7, (V.i x)), (20, (V.sl (List.map V.i lighters))), (21, (V.i (lighters.length : Int))), (22, (V.i x5)), (31, (V.sl (List.map V.i l1))), (32, (V.i (l1.length : Int))), (33, (V.i x4)), (51, (V.b ((decide (x = x1)) && (berth_atOnce x2 x3))))] ?_ ?_
      · intro hg
        refine X.split (decide (x = x1)) (fun h_12 => ?_) (fun h_12 => ?_)
        · refine X.drawc (by kernel_rfl) rfl ?_
          iterate 4 refine X.cop rfl rfl rfl rfl ?_
          iterate 2 refine X.cop (X.on_t rfl rfl rfl h_12) rfl rfl rfl ?_
          refine X.cop (X.on_t rfl rfl rfl h_12) (X.indexF (f := e_api_Lease) (h_10 h_12) (fun _ => rfl) rfl rfl rfl rfl) rfl rfl ?_
          refine X.cop (X.on_t rfl rfl rfl h_12) (X.loadF (h_10 h_12) rfl rfl rfl) rfl rfl ?_
          iterate 2 refine X.cop (X.on_t rfl rfl rfl h_12) rfl rfl rfl ?_
          refine X.cop (X.on_t rfl rfl rfl h_12) (X.indexF (f := e_api_Lease) (h_11 h_12) (fun _ => rfl) rfl rfl rfl rfl) rfl rfl ?_
          refine X.cop (X.on_t rfl rfl rfl h_12) (X.loadF (h_11 h_12) rfl rfl rfl) rfl rfl ?_
          refine X.ccall (ok_berth_atOnce x2 x3) (X.on_t rfl rfl rfl h_12) rfl rfl rfl (.cons (.shut (n := 9) rfl) (.cons (.shut (n := 9) rfl) .nil)) ?_
          refine X.cop rfl (X.pickand_t (y := (berth_atOnce x2 x3)) rfl h_12 rfl) rfl rfl ?_
          refine X.cnil ?_
          exact X.norm _ hg rfl (sr rfl)
        refine X.drawc (by kernel_rfl) rfl ?_
        iterate 4 refine X.cop rfl rfl rfl rfl ?_
        iterate 9 refine X.coff (X.off_t rfl rfl rfl h_12) rfl rfl ?_
        refine X.cop rfl (X.pickand_f (y := (berth_atOnce x2 x3)) rfl h_12 rfl) rfl rfl ?_
        refine X.cnil ?_
        exact X.norm _ hg rfl (sr rfl)
      refine X.cond rfl (fun h_13 => ?_) (fun h_13 => ?_)
      · replace hM := ite_t h_13 hM
        refine X.sq ?_
        refine X.q rfl ?_
        refine GS.opsNil ?_
        have hE := Option.some.inj hM
        replace hE := hr_2 _ hE.symm
        replace hE := hr_1 _ hE.symm
        subst hE
        exact GS.ret ⟨_, rfl, ⟨30, rfl⟩⟩
      replace hM := ite_f h_13 hM
      refine GS.skip ?_
      refine GS.endB ?_
      refine GS.region ?_
      refine X.opR rfl (X.addE rfl rfl) rfl ?_
      refine X.q rfl ?_
      refine GS.opsNil ?_
      have hE := Option.some.inj hM
      exact X.gc [] (hc_4 (w64 (x4 + 1)) hE.symm) rfl rfl rfl (ga rfl rfl) (gb_nil)
    replace hM := ite_f h_8 hM
    refine GS.exit rfl ?_
    obtain ⟨y_2, hM, hy⟩ := map_of hM
    rw [hr_2 _ hy.symm] at hM
    exact X.gc [] (hj_3 () hM) rfl rfl rfl (ga rfl rfl) (gb_nil)
  replace hM := ite_f h_4 hM
  refine GS.exit rfl ?_
  obtain ⟨y_1, hM, hy⟩ := map_of hM
  rw [hr_1 _ hy.symm] at hM
  exact X.gc [] (hj_1 () hM) rfl rfl rfl (gk_nil) (gb_nil)

theorem ok_law06_different {l : (List Int)} {r : Int} (hM : law06_different l = some r) : Ct Try.prog 51 [(V.sl (List.map V.i l))] (V.i r) := by
  refine ct_of_gs CC_ok rfl ?_
  unfold law06_different at hM
  refine X.sq ?_
  refine X.q rfl ?_
  refine X.nq ?_
  refine X.opW rfl rfl rfl rfl ?_
  refine X.q rfl ?_
  refine GS.opsNil ?_
  refine GS.seq ?_
  refine X.sq ?_
  refine X.q rfl ?_
  refine X.opR rfl (X.lenF rfl rfl rfl) rfl ?_
  refine X.q rfl ?_
  refine GS.opsNil ?_
  refine X.join (τ := (List (Int × Bool))) (fun v => law06_different_j1 v = some r) (fun v => ⟨[(3, (V.map 0))], [.map (List.map (fun p => V.i p.1) v) (List.map (fun p => V.b p.2) v)], 0, none, 18⟩) ?_ ?_
  · intro m hM
    replace hM : law06_different_j1 m = some r := hM
    unfold law06_different_j1 at hM
    refine X.sq ?_
    refine X.q rfl ?_
    refine X.opR rfl (X.lenMo (l := m) rfl rfl rfl rfl) rfl ?_
    refine X.q rfl ?_
    refine GS.opsNil ?_
    have hE := Option.some.inj hM
    subst hE
    exact GS.ret ⟨_, rfl, ⟨30, rfl⟩⟩
  intro hj_1
  refine GS.block ?_
  refine X.gc [some 0] (X.loop (σ := (Int × (List (Int × Bool)))) (fun v => ⟨[(3, (V.map 0)), (7, (V.sl (List.map V.i l))), (8, (V.i (l.length : Int))), (9, (V.i v.1))], [.map (List.map (fun p => V.i p.1) v.2) (List.map (fun p => V.b p.2) v.2)], 0, none, 18⟩) hM ?_ rfl) rfl rfl rfl (ga rfl rfl) (X.gb_mapK 9 rfl rfl (fun _ => rfl) (fun _ => rfl) gb_nil)
  rintro ⟨x1, m1⟩ b_1 hM hc_2 hr_1
  rw [law06_different_b2] at hM
  refine X.sq ?_
  refine X.q rfl ?_
  refine GS.opsNil ?_
  refine GS.seq ?_
  refine X.cond rfl (fun h_1 => ?_) (fun h_1 => ?_)
  · replace hM := ite_t h_1 hM
    refine GS.skip ?_
    refine GS.seq ?_
    refine GS.block ?_
    refine GS.seq ?_
    obtain ⟨x, h_2, hM⟩ := bind_of hM
    refine GS.region ?_
    refine X.opR rfl (X.indexF (f := V.i) h_2 (fun _ => rfl) rfl rfl rfl rfl) rfl ?_
    refine X.opR rfl (X.loadF h_2 rfl rfl rfl) rfl ?_
    refine X.q rfl ?_
    refine X.mq ?_
    iterate 2 refine X.q rfl ?_
    refine X.op0W rfl (X.putW (f := V.i) (g := V.b) (pos := posI) (k := x) (v := true) (l := m1) X.keyEq_i (X.posI_ok _) rfl rfl rfl rfl rfl rfl rfl) rfl ?_
    refine GS.opsNil ?_
    refine GS.endB ?_
    refine GS.region ?_
    refine X.opR rfl (X.addE rfl rfl) rfl ?_
    refine X.q rfl ?_
    refine GS.opsNil ?_
    have hE := Option.some.inj hM
    exact X.gc [some 0] (hc_2 (w64 (x1 + 1), (putM posI m1 x true)) hE.symm) rfl rfl rfl (ga rfl rfl) (X.gb_mapK 9 rfl rfl (fun _ => rfl) (fun _ => rfl) gb_nil)
  replace hM := ite_f h_1 hM
  refine GS.exit rfl ?_
  obtain ⟨y_1, hM, hy⟩ := map_of hM
  rw [hr_1 _ hy.symm] at hM
  exact X.gc [some 0] (hj_1 m1 hM) rfl rfl rfl (ga rfl rfl) (X.gb_mapK 9 rfl rfl (fun _ => rfl) (fun _ => rfl) gb_nil)

theorem eq_api_Lease (a b : api_Lease) : eqA CC.ty 88 (e_api_Lease a) (e_api_Lease b) = some (decide (a = b)) := by
  refine (X.eqa rfl rfl (X.eqp rfl rfl rfl (X.eqp rfl rfl rfl (X.eqp rfl rfl (X.eqs rfl rfl (X.eqp rfl rfl rfl (X.eqp rfl rfl rfl X.eqn'))) X.eqn')))).trans ?_
  congr 1
  rw [Bool.eq_iff_iff]
  simp only [Bool.and_eq_true, decide_eq_true_eq, beq_iff_eq, and_true]
  constructor
  · intro h
    obtain ⟨a1, a2, ⟨a3, a4⟩⟩ := a
    obtain ⟨b5, b6, ⟨b7, b8⟩⟩ := b
    simp at h
    simp [h]
  · rintro rfl
    simp

theorem ok_ref06_SameLeases {a : (List api_Lease)} {b : (List api_Lease)} {r : Bool} (hM : ref06_SameLeases a b = some r) : Ct Try.prog 50 [(V.sl (List.map e_api_Lease a)), (V.sl (List.map e_api_Lease b))] (V.b r) := by
  refine ct_of_gs CC_ok rfl ?_
  unfold ref06_SameLeases at hM
  refine X.sq ?_
  refine X.q rfl ?_
  refine GS.opsNil ?_
  refine GS.seq ?_
  refine X.sq ?_
  refine X.q rfl ?_
  refine X.opR rfl (X.lenF rfl rfl rfl) rfl ?_
  refine X.q rfl ?_
  refine X.opR rfl (X.lenF rfl rfl rfl) rfl ?_
  refine X.q rfl ?_
  refine GS.opsNil ?_
  refine X.cond rfl (fun h_1 => ?_) (fun h_1 => ?_)
  · replace hM := ite_t h_1 hM
    refine X.sq ?_
    refine X.q rfl ?_
    refine GS.opsNil ?_
    have hE := Option.some.inj hM
    subst hE
    exact GS.ret ⟨_, rfl, ⟨30, rfl⟩⟩
  replace hM := ite_f h_1 hM
  refine GS.skip ?_
  refine GS.seq ?_
  refine X.sq ?_
  refine X.q rfl ?_
  refine GS.opsNil ?_
  refine X.join (τ := Unit) (fun v => ref06_SameLeases_j1 = some r) (fun v => ⟨[], [], 0, none, 26⟩) ?_ ?_
  · intro _ hM
    replace hM : ref06_SameLeases_j1 = some r := hM
    unfold ref06_SameLeases_j1 at hM
    refine X.sq ?_
    refine X.q rfl ?_
    refine GS.opsNil ?_
    have hE := Option.some.inj hM
    subst hE
    exact GS.ret ⟨_, rfl, ⟨30, rfl⟩⟩
  intro hj_1
  refine GS.block ?_
  refine X.gc [] (X.loop (σ := Int) (fun v => ⟨[(0, (V.sl (List.map e_api_Lease a))), (1, (V.sl (List.map e_api_Lease b))), (5, (V.i v))], [], 0, none, 26⟩) hM ?_ rfl) rfl rfl rfl (ga rfl rfl) (gb_nil)
  intro i b_1 hM hc_2 hr_1
  rw [ref06_SameLeases_b2] at hM
  refine GS.seq ?_
  refine X.sq ?_
  iterate 2 refine X.q rfl ?_
  refine X.opR rfl (X.lenF rfl rfl rfl) rfl ?_
  refine X.q rfl ?_
  refine GS.opsNil ?_
  refine X.cond rfl (fun h_2 => ?_) (fun h_2 => ?_)
  · replace hM := ite_t h_2 hM
    refine GS.skip ?_
    refine GS.seq ?_
    refine GS.block ?_
    refine GS.seq ?_
    obtain ⟨x, h_3, hM⟩ := bind_of hM
    obtain ⟨x1, h_4, hM⟩ := bind_of hM
    refine X.drawc (by kernel_rfl) rfl ?_
    iterate 2 refine X.cop rfl rfl rfl rfl ?_
    refine X.cop rfl (X.indexF (f := e_api_Lease) h_3 (fun _ => rfl) rfl rfl rfl rfl) rfl rfl ?_
    refine X.cop rfl (X.loadF h_3 rfl rfl rfl) rfl rfl ?_
    iterate 2 refine X.cop rfl rfl rfl rfl ?_
    refine X.cop rfl (X.indexF (f := e_api_Lease) h_4 (fun _ => rfl) rfl rfl rfl rfl) rfl rfl ?_
    refine X.cop rfl (X.loadF h_4 rfl rfl rfl) rfl rfl ?_
    refine X.cop rfl (X.neqE (eq_api_Lease x x1) rfl rfl) rfl rfl ?_
    refine X.cnil ?_
    refine X.norm [(0, (V.sl (List.map e_api_Lease a))), (1, (V.sl (List.map e_api_Lease b))), (5, (V.i i)), (25, (V.b (!decide (x = x1))))] ?_ rfl (sr rfl)
    refine X.cond rfl (fun h_5 => ?_) (fun h_5 => ?_)
    · replace hM := ite_t h_5 hM
      refine X.sq ?_
      refine X.q rfl ?_
      refine GS.opsNil ?_
      have hE := Option.some.inj hM
      replace hE := hr_1 _ hE.symm
      subst hE
      exact GS.ret ⟨_, rfl, ⟨30, rfl⟩⟩
    replace hM := ite_f h_5 hM
    refine GS.skip ?_
    refine GS.endB ?_
    refine GS.region ?_
    refine X.q rfl ?_
    refine X.opR rfl (X.addE rfl rfl) rfl ?_
    refine X.q rfl ?_
    refine GS.opsNil ?_
    have hE := Option.some.inj hM
    exact X.gc [] (hc_2 (w64 (i + 1)) hE.symm) rfl rfl rfl (ga rfl rfl) (gb_nil)
  replace hM := ite_f h_2 hM
  refine GS.exit rfl ?_
  obtain ⟨y_1, hM, hy⟩ := map_of hM
  rw [hr_1 _ hy.symm] at hM
  exact X.gc [] (hj_1 () hM) rfl rfl rfl (gk_nil) (gb_nil)

set_option maxHeartbeats 4000000 in
theorem ok_law06_BerthLent {l : (List api_Lease)} {x : (List Int)} {r : Bool} (hM : law06_BerthLent l x = some r) : Ct Try.prog 11 [(V.sl (List.map e_api_Lease l)), (V.sl (List.map V.i x))] (V.b r) := by
  refine ct_of_gs CC_ok rfl ?_
  unfold law06_BerthLent at hM
  refine X.sq ?_
  refine X.q rfl ?_
  refine GS.opsNil ?_
  refine GS.seq ?_
  refine X.sq ?_
  refine X.mid [(0, (V.sl (List.map e_api_Lease l))), (1, (V.sl (List.map V.i x))), (28, (V.b ((decide (20 < (l.length : Int))) || (decide (30 < (x.length : Int))))))] ?_ ?_
  · intro hg
    refine X.split (decide (20 < (l.length : Int))) (fun h_1 => ?_) (fun h_1 => ?_)
    · refine X.q rfl ?_
      refine X.opR rfl (X.lenF rfl rfl rfl) rfl ?_
      iterate 2 refine X.q rfl ?_
      iterate 3 refine X.off (X.off_f rfl rfl rfl h_1) rfl ?_
      refine X.opR rfl (X.pickor_t (y := decide (30 < (x.length : Int))) rfl h_1 rfl) rfl ?_
      refine GS.opsNil ?_
      exact X.norm _ hg rfl (sr rfl)
    refine X.q rfl ?_
    refine X.opR rfl (X.lenF rfl rfl rfl) rfl ?_
    iterate 2 refine X.q rfl ?_
    refine X.opR (X.on_f rfl rfl rfl h_1) rfl rfl ?_
    refine X.opR (X.on_f rfl rfl rfl h_1) (X.lenF rfl rfl rfl) rfl ?_
    refine X.opR (X.on_f rfl rfl rfl h_1) rfl rfl ?_
    refine X.opR rfl (X.pickor_f (y := decide (30 < (x.length : Int))) rfl h_1 rfl) rfl ?_
    refine GS.opsNil ?_
    exact X.norm _ hg rfl (sr rfl)
  refine X.cond rfl (fun h_2 => ?_) (fun h_2 => ?_)
  · replace hM := ite_t h_2 hM
    refine GS.seq ?_
    obtain ⟨y, h_3, hM⟩ := bind_of hM
    refine GS.region ?_
    refine X.call (ok_law06_lent h_3) rfl rfl rfl .nil ?_
    refine X.q rfl ?_
    refine GS.opsNil ?_
    have hE := Option.some.inj hM
    subst hE
    exact GS.ret ⟨_, rfl, ⟨30, rfl⟩⟩
  replace hM := ite_f h_2 hM
  refine GS.skip ?_
  refine GS.seq ?_
  obtain ⟨y1, h_4, hM⟩ := bind_of hM
  refine GS.region ?_
  refine X.q rfl ?_
  refine X.call (ok_berth_Lighters h_4) rfl rfl rfl (.cons (.shut (n := 9) rfl) .nil) ?_
  iterate 7 refine X.q rfl ?_
  refine GS.opsNil ?_
  refine GS.seq ?_
  obtain ⟨y2, h_5, hM⟩ := bind_of hM
  refine GS.region ?_
  refine X.q rfl ?_
  refine X.call (ok_berth_Busiest h_5) rfl rfl rfl (.cons (.shut (n := 9) rfl) .nil) ?_
  iterate 7 refine X.q rfl ?_
  refine GS.opsNil ?_
  refine GS.seq ?_
  refine X.sq ?_
  iterate 3 refine X.q rfl ?_
  refine GS.opsNil ?_
  refine X.cond rfl (fun h_6 => ?_) (fun h_6 => ?_)
  · replace hM := ite_t h_6 hM
    refine X.sq ?_
    refine X.q rfl ?_
    refine GS.opsNil ?_
    have hE := Option.some.inj hM
    subst hE
    exact GS.ret ⟨_, rfl, ⟨30, rfl⟩⟩
  replace hM := ite_f h_6 hM
  refine GS.skip ?_
  refine GS.seq ?_
  refine X.sq ?_
  iterate 2 refine X.q rfl ?_
  refine GS.opsNil ?_
  refine X.cond rfl (fun h_7 => ?_) (fun h_7 => ?_)
  · replace hM := ite_t h_7 hM
    refine GS.seq ?_
    obtain ⟨y3, h_8, hM⟩ := bind_of hM
    refine GS.region ?_
    refine X.call (ok_law06_lent h_8) rfl rfl rfl .nil ?_
    refine X.q rfl ?_
    refine GS.opsNil ?_
    have hE := Option.some.inj hM
    subst hE
    exact GS.ret ⟨_, rfl, ⟨30, rfl⟩⟩
  replace hM := ite_f h_7 hM
  refine GS.skip ?_
  refine X.sq ?_
  refine X.q rfl ?_
  refine GS.opsNil ?_
  refine GS.seq ?_
  refine X.sq ?_
  refine X.q rfl ?_
  refine X.opR rfl (X.lenF rfl rfl rfl) rfl ?_
  refine X.q rfl ?_
  refine GS.opsNil ?_
  refine X.join (τ := Int) (fun v => law06_BerthLent_j1 l x y1 y2 v = some r) (fun v => ⟨[(0, (V.sl (List.map e_api_Lease l))), (1, (V.sl (List.map V.i x))), (5, (V.sl (List.map V.i y1.1))), (6, (V.i y1.2.1)), (9, (V.i y2.2.1)), (11, (V.i v))], [], 0, none, 203⟩) ?_ ?_
  · intro at_ hM
    replace hM : law06_BerthLent_j1 l x y1 y2 at_ = some r := hM
    unfold law06_BerthLent_j1 at hM
    iterate 2 refine GS.seq ?_
    obtain ⟨y4, h_9, hM⟩ := bind_of hM
    obtain ⟨y5, h_10, hM⟩ := gb_of hM
    obtain ⟨y6, h_11, hM⟩ := gb_of hM
    refine GS.region ?_
    refine X.mid [(0, (V.sl (List.map e_api_Lease l))), (94, (V.b ((((!decide (y4 = 0)) || (!decide (y1.2.1 = y2.2.1))) || (!decide (at_ = y2.2.1))) || ((decide (y5 = 0)) && (decide (y6 < y1.2.1))))))] ?_ ?_
    · intro hg
      refine X.split (!decide (y4 = 0)) (fun h_12 => ?_) (fun h_12 => ?_)
      · iterate 2 refine X.q rfl ?_
        refine X.call (ok_berth_CheckLighters h_9) rfl rfl rfl (.cons (.shut (n := 9) rfl) (.cons (.shut (n := 9) rfl) .nil)) ?_
        iterate 2 refine X.q rfl ?_
        iterate 3 refine X.off (X.off_f rfl rfl rfl h_12) rfl ?_
        refine X.opR rfl (X.pickor_t (y := !decide (y1.2.1 = y2.2.1)) rfl h_12 rfl) rfl ?_
        refine X.q rfl ?_
        iterate 3 refine X.off (X.off_f rfl rfl rfl (X.or_tt h_12)) rfl ?_
        refine X.opR rfl (X.pickor_t (y := !decide (at_ = y2.2.1)) rfl (X.or_tt h_12) rfl) rfl ?_
        refine X.q rfl ?_
        iterate 5 refine X.off (X.off_f rfl rfl rfl (X.or_tt (X.or_tt h_12))) rfl ?_
        iterate 4 refine X.off rfl rfl ?_
        refine X.off (X.off_f rfl rfl rfl (X.or_tt (X.or_tt h_12))) rfl ?_
        refine X.opR rfl (X.pickor_t (y := ((decide (y5 = 0)) && (decide (y6 < y1.2.1)))) rfl (X.or_tt (X.or_tt h_12)) rfl) rfl ?_
        refine GS.opsNil ?_
        exact X.norm _ hg rfl (sr rfl)
      refine X.split (((!decide (y4 = 0)) || (!decide (y1.2.1 = y2.2.1)))) (fun h_13 => ?_) (fun h_13 => ?_)
      · iterate 2 refine X.q rfl ?_
        refine X.call (ok_berth_CheckLighters h_9) rfl rfl rfl (.cons (.shut (n := 9) rfl) (.cons (.shut (n := 9) rfl) .nil)) ?_
        iterate 2 refine X.q rfl ?_
        iterate 3 refine X.opR (X.on_f rfl rfl rfl h_12) rfl rfl ?_
        refine X.opR rfl (X.pickor_f (y := !decide (y1.2.1 = y2.2.1)) rfl h_12 rfl) rfl ?_
        refine X.q rfl ?_
        iterate 3 refine X.off (X.off_f rfl rfl rfl h_13) rfl ?_
        refine X.opR rfl (X.pickor_t (y := !decide (at_ = y2.2.1)) rfl h_13 rfl) rfl ?_
        refine X.q rfl ?_
        iterate 5 refine X.off (X.off_f rfl rfl rfl (X.or_tt h_13)) rfl ?_
        iterate 4 refine X.off rfl rfl ?_
        refine X.off (X.off_f rfl rfl rfl (X.or_tt h_13)) rfl ?_
        refine X.opR rfl (X.pickor_t (y := ((decide (y5 = 0)) && (decide (y6 < y1.2.1)))) rfl (X.or_tt h_13) rfl) rfl ?_
        refine GS.opsNil ?_
        exact X.norm _ hg rfl (sr rfl)
      refine X.split ((((!decide (y4 = 0)) || (!decide (y1.2.1 = y2.2.1))) || (!decide (at_ = y2.2.1)))) (fun h_14 => ?_) (fun h_14 => ?_)
      · iterate 2 refine X.q rfl ?_
        refine X.call (ok_berth_CheckLighters h_9) rfl rfl rfl (.cons (.shut (n := 9) rfl) (.cons (.shut (n := 9) rfl) .nil)) ?_
        iterate 2 refine X.q rfl ?_
        iterate 3 refine X.opR (X.on_f rfl rfl rfl h_12) rfl rfl ?_
        refine X.opR rfl (X.pickor_f (y := !decide (y1.2.1 = y2.2.1)) rfl h_12 rfl) rfl ?_
        refine X.q rfl ?_
        iterate 3 refine X.opR (X.on_f rfl rfl rfl h_13) rfl rfl ?_
        refine X.opR rfl (X.pickor_f (y := !decide (at_ = y2.2.1)) rfl h_13 rfl) rfl ?_
        refine X.q rfl ?_
        iterate 5 refine X.off (X.off_f rfl rfl rfl h_14) rfl ?_
        iterate 4 refine X.off rfl rfl ?_
        refine X.off (X.off_f rfl rfl rfl h_14) rfl ?_
        refine X.opR rfl (X.pickor_t (y := ((decide (y5 = 0)) && (decide (y6 < y1.2.1)))) rfl h_14 rfl) rfl ?_
        refine GS.opsNil ?_
        exact X.norm _ hg rfl (sr rfl)
      refine X.split (decide (y5 = 0)) (fun h_15 => ?_) (fun h_15 => ?_)
      · iterate 2 refine X.q rfl ?_
        refine X.call (ok_berth_CheckLighters h_9) rfl rfl rfl (.cons (.shut (n := 9) rfl) (.cons (.shut (n := 9) rfl) .nil)) ?_
        iterate 2 refine X.q rfl ?_
        iterate 3 refine X.opR (X.on_f rfl rfl rfl h_12) rfl rfl ?_
        refine X.opR rfl (X.pickor_f (y := !decide (y1.2.1 = y2.2.1)) rfl h_12 rfl) rfl ?_
        refine X.q rfl ?_
        iterate 3 refine X.opR (X.on_f rfl rfl rfl h_13) rfl rfl ?_
        refine X.opR rfl (X.pickor_f (y := !decide (at_ = y2.2.1)) rfl h_13 rfl) rfl ?_
        refine X.q rfl ?_
        iterate 2 refine X.opR (X.on_f rfl rfl rfl h_14) rfl rfl ?_
        refine X.call (ok_berth_CheckLighters (h_10 (X.nt h_14))) (X.on_f rfl rfl rfl h_14) rfl rfl (.cons (.shut (n := 9) rfl) (.cons (.shut (n := 9) rfl) .nil)) ?_
        iterate 2 refine X.opR (X.on_f rfl rfl rfl h_14) rfl rfl ?_
        refine X.opR (X.on_t rfl rfl rfl h_15) rfl rfl ?_
        refine X.call (ok_law06_different (h_11 (X.and_tt (X.nt h_14) h_15))) (X.on_t rfl rfl rfl h_15) rfl rfl (.cons (.shut (n := 9) rfl) .nil) ?_
        iterate 2 refine X.opR (X.on_t rfl rfl rfl h_15) rfl rfl ?_
        refine X.opR (X.on_f rfl rfl rfl h_14) (X.pickand_t (y := decide (y6 < y1.2.1)) rfl h_15 rfl) rfl ?_
        refine X.opR rfl (X.pickor_f (y := ((decide (y5 = 0)) && (decide (y6 < y1.2.1)))) rfl h_14 rfl) rfl ?_
        refine GS.opsNil ?_
        exact X.norm _ hg rfl (sr rfl)
      iterate 2 refine X.q rfl ?_
      refine X.call (ok_berth_CheckLighters h_9) rfl rfl rfl (.cons (.shut (n := 9) rfl) (.cons (.shut (n := 9) rfl) .nil)) ?_
      iterate 2 refine X.q rfl ?_
      iterate 3 refine X.opR (X.on_f rfl rfl rfl h_12) rfl rfl ?_
      refine X.opR rfl (X.pickor_f (y := !decide (y1.2.1 = y2.2.1)) rfl h_12 rfl) rfl ?_
      refine X.q rfl ?_
      iterate 3 refine X.opR (X.on_f rfl rfl rfl h_13) rfl rfl ?_
      refine X.opR rfl (X.pickor_f (y := !decide (at_ = y2.2.1)) rfl h_13 rfl) rfl ?_
      refine X.q rfl ?_
      iterate 2 refine X.opR (X.on_f rfl rfl rfl h_14) rfl rfl ?_
      refine X.call (ok_berth_CheckLighters (h_10 (X.nt h_14))) (X.on_f rfl rfl rfl h_14) rfl rfl (.cons (.shut (n := 9) rfl) (.cons (.shut (n := 9) rfl) .nil)) ?_
      iterate 2 refine X.opR (X.on_f rfl rfl rfl h_14) rfl rfl ?_
      iterate 4 refine X.off (X.off_t rfl rfl rfl h_15) rfl ?_
      refine X.opR (X.on_f rfl rfl rfl h_14) (X.pickand_f (y := decide (y6 < y1.2.1)) rfl h_15 rfl) rfl ?_
      refine X.opR rfl (X.pickor_f (y := ((decide (y5 = 0)) && (decide (y6 < y1.2.1)))) rfl h_14 rfl) rfl ?_
      refine GS.opsNil ?_
      exact X.norm _ hg rfl (sr rfl)
    refine X.cond rfl (fun h_16 => ?_) (fun h_16 => ?_)
    · replace hM := ite_t h_16 hM
      refine X.sq ?_
      refine X.q rfl ?_
      refine GS.opsNil ?_
      have hE := Option.some.inj hM
      subst hE
      exact GS.ret ⟨_, rfl, ⟨30, rfl⟩⟩
    replace hM := ite_f h_16 hM
    refine GS.skip ?_
    refine GS.seq ?_
    obtain ⟨y7, h_17, hM⟩ := bind_of hM
    refine GS.region ?_
    refine X.q rfl ?_
    refine X.call (ok_berth_Queue h_17) rfl rfl rfl (.cons (.shut (n := 9) rfl) .nil) ?_
    iterate 5 refine X.q rfl ?_
    refine GS.opsNil ?_
    refine GS.seq ?_
    refine X.sq ?_
    iterate 2 refine X.q rfl ?_
    refine GS.opsNil ?_
    refine X.cond rfl (fun h_18 => ?_) (fun h_18 => ?_)
    · replace hM := ite_t h_18 hM
      refine GS.seq ?_
      obtain ⟨y8, h_19, hM⟩ := bind_of hM
      refine GS.region ?_
      refine X.mid [(4, (V.b (y8 && (decide (y7.2 = 2)))))] ?_ ?_
      · intro hg
        refine X.split (y8) (fun h_20 => ?_) (fun h_20 => ?_)
        · refine X.call (ok_law06_lent h_19) rfl rfl rfl .nil ?_
          refine X.q rfl ?_
          iterate 2 refine X.opR (X.on_t rfl rfl rfl h_20) rfl rfl ?_
          refine X.opR rfl (X.pickand_t (y := decide (y7.2 = 2)) rfl h_20 rfl) rfl ?_
          refine X.q rfl ?_
          refine GS.opsNil ?_
          exact X.norm _ hg rfl (sr rfl)
        refine X.call (ok_law06_lent h_19) rfl rfl rfl .nil ?_
        refine X.q rfl ?_
        iterate 2 refine X.off (X.off_t rfl rfl rfl h_20) rfl ?_
        refine X.opR rfl (X.pickand_f (y := decide (y7.2 = 2)) rfl h_20 rfl) rfl ?_
        refine X.q rfl ?_
        refine GS.opsNil ?_
        exact X.norm _ hg rfl (sr rfl)
      have hE := Option.some.inj hM
      subst hE
      exact GS.ret ⟨_, rfl, ⟨30, rfl⟩⟩
    replace hM := ite_f h_18 hM
    refine GS.skip ?_
    refine GS.seq ?_
    obtain ⟨y9, h_21, hM⟩ := bind_of hM
    refine GS.region ?_
    refine X.q rfl ?_
    refine X.call (ok_berth_Clashes h_21) rfl rfl rfl (.cons (.shut (n := 9) rfl) .nil) ?_
    iterate 5 refine X.q rfl ?_
    refine GS.opsNil ?_
    refine GS.seq ?_
    obtain ⟨y10, h_22, hM⟩ := bind_of hM
    refine GS.region ?_
    refine X.q rfl ?_
    refine X.call (ok_berth_Queue h_22) rfl rfl rfl (.cons (.shut (n := 9) rfl) .nil) ?_
    iterate 5 refine X.q rfl ?_
    refine GS.opsNil ?_
    iterate 2 refine GS.seq ?_
    obtain ⟨y11, h_23, hM⟩ := gb_of hM
    refine GS.region ?_
    refine X.mid [(0, (V.sl (List.map e_api_Lease l))), (14, (V.sl (List.map e_api_Lease y7.1))), (140, (V.b (((((!decide (y9.2 = 0)) || (decide (0 < (y9.1.length : Int)))) || (!decide (y10.2 = 0))) || (!y11)) || (!decide ((y7.1.length : Int) = (l.length : Int))))))] ?_ ?_
    · intro hg
      refine X.split (!decide (y9.2 = 0)) (fun h_24 => ?_) (fun h_24 => ?_)
      · iterate 3 refine X.q rfl ?_
        iterate 3 refine X.off (X.off_f rfl rfl rfl h_24) rfl ?_
        refine X.opR rfl (X.pickor_t (y := decide (0 < (y9.1.length : Int))) rfl h_24 rfl) rfl ?_
        refine X.q rfl ?_
        iterate 2 refine X.off (X.off_f rfl rfl rfl (X.or_tt h_24)) rfl ?_
        refine X.opR rfl (X.pickor_t (y := !decide (y10.2 = 0)) rfl (X.or_tt h_24) rfl) rfl ?_
        refine X.q rfl ?_
        iterate 4 refine X.off (X.off_f rfl rfl rfl (X.or_tt (X.or_tt h_24))) rfl ?_
        refine X.opR rfl (X.pickor_t (y := !y11) rfl (X.or_tt (X.or_tt h_24)) rfl) rfl ?_
        refine X.q rfl ?_
        iterate 5 refine X.off (X.off_f rfl rfl rfl (X.or_tt (X.or_tt (X.or_tt h_24)))) rfl ?_
        refine X.opR rfl (X.pickor_t (y := !decide ((y7.1.length : Int) = (l.length : Int))) rfl (X.or_tt (X.or_tt (X.or_tt h_24))) rfl) rfl ?_
        refine GS.opsNil ?_
        exact X.norm _ hg rfl (sr rfl)
      refine X.split (((!decide (y9.2 = 0)) || (decide (0 < (y9.1.length : Int))))) (fun h_25 => ?_) (fun h_25 => ?_)
      · iterate 3 refine X.q rfl ?_
        refine X.opR (X.on_f rfl rfl rfl h_24) rfl rfl ?_
        refine X.opR (X.on_f rfl rfl rfl h_24) (X.lenF rfl rfl rfl) rfl ?_
        refine X.opR (X.on_f rfl rfl rfl h_24) rfl rfl ?_
        refine X.opR rfl (X.pickor_f (y := decide (0 < (y9.1.length : Int))) rfl h_24 rfl) rfl ?_
        refine X.q rfl ?_
        iterate 2 refine X.off (X.off_f rfl rfl rfl h_25) rfl ?_
        refine X.opR rfl (X.pickor_t (y := !decide (y10.2 = 0)) rfl h_25 rfl) rfl ?_
        refine X.q rfl ?_
        iterate 4 refine X.off (X.off_f rfl rfl rfl (X.or_tt h_25)) rfl ?_
        refine X.opR rfl (X.pickor_t (y := !y11) rfl (X.or_tt h_25) rfl) rfl ?_
        refine X.q rfl ?_
        iterate 5 refine X.off (X.off_f rfl rfl rfl (X.or_tt (X.or_tt h_25))) rfl ?_
        refine X.opR rfl (X.pickor_t (y := !decide ((y7.1.length : Int) = (l.length : Int))) rfl (X.or_tt (X.or_tt h_25)) rfl) rfl ?_
        refine GS.opsNil ?_
        exact X.norm _ hg rfl (sr rfl)
      refine X.split ((((!decide (y9.2 = 0)) || (decide (0 < (y9.1.length : Int)))) || (!decide (y10.2 = 0)))) (fun h_26 => ?_) (fun h_26 => ?_)
      · iterate 3 refine X.q rfl ?_
        refine X.opR (X.on_f rfl rfl rfl h_24) rfl rfl ?_
        refine X.opR (X.on_f rfl rfl rfl h_24) (X.lenF rfl rfl rfl) rfl ?_
        refine X.opR (X.on_f rfl rfl rfl h_24) rfl rfl ?_
        refine X.opR rfl (X.pickor_f (y := decide (0 < (y9.1.length : Int))) rfl h_24 rfl) rfl ?_
        refine X.q rfl ?_
        iterate 2 refine X.opR (X.on_f rfl rfl rfl h_25) rfl rfl ?_
        refine X.opR rfl (X.pickor_f (y := !decide (y10.2 = 0)) rfl h_25 rfl) rfl ?_
        refine X.q rfl ?_
        iterate 4 refine X.off (X.off_f rfl rfl rfl h_26) rfl ?_
        refine X.opR rfl (X.pickor_t (y := !y11) rfl h_26 rfl) rfl ?_
        refine X.q rfl ?_
        iterate 5 refine X.off (X.off_f rfl rfl rfl (X.or_tt h_26)) rfl ?_
        refine X.opR rfl (X.pickor_t (y := !decide ((y7.1.length : Int) = (l.length : Int))) rfl (X.or_tt h_26) rfl) rfl ?_
        refine GS.opsNil ?_
        exact X.norm _ hg rfl (sr rfl)
      refine X.split (((((!decide (y9.2 = 0)) || (decide (0 < (y9.1.length : Int)))) || (!decide (y10.2 = 0))) || (!y11))) (fun h_27 => ?_) (fun h_27 => ?_)
      · iterate 3 refine X.q rfl ?_
        refine X.opR (X.on_f rfl rfl rfl h_24) rfl rfl ?_
        refine X.opR (X.on_f rfl rfl rfl h_24) (X.lenF rfl rfl rfl) rfl ?_
        refine X.opR (X.on_f rfl rfl rfl h_24) rfl rfl ?_
        refine X.opR rfl (X.pickor_f (y := decide (0 < (y9.1.length : Int))) rfl h_24 rfl) rfl ?_
        refine X.q rfl ?_
        iterate 2 refine X.opR (X.on_f rfl rfl rfl h_25) rfl rfl ?_
        refine X.opR rfl (X.pickor_f (y := !decide (y10.2 = 0)) rfl h_25 rfl) rfl ?_
        refine X.q rfl ?_
        iterate 2 refine X.opR (X.on_f rfl rfl rfl h_26) rfl rfl ?_
        refine X.call (ok_ref06_SameLeases (h_23 (X.nt h_26))) (X.on_f rfl rfl rfl h_26) rfl rfl (.cons (.shut (n := 9) rfl) (.cons (.shut (n := 9) rfl) .nil)) ?_
        refine X.opR (X.on_f rfl rfl rfl h_26) rfl rfl ?_
        refine X.opR rfl (X.pickor_f (y := !y11) rfl h_26 rfl) rfl ?_
        refine X.q rfl ?_
        iterate 5 refine X.off (X.off_f rfl rfl rfl h_27) rfl ?_
        refine X.opR rfl (X.pickor_t (y := !decide ((y7.1.length : Int) = (l.length : Int))) rfl h_27 rfl) rfl ?_
        refine GS.opsNil ?_
        exact X.norm _ hg rfl (sr rfl)
      iterate 3 refine X.q rfl ?_
      refine X.opR (X.on_f rfl rfl rfl h_24) rfl rfl ?_
      refine X.opR (X.on_f rfl rfl rfl h_24) (X.lenF rfl rfl rfl) rfl ?_
      refine X.opR (X.on_f rfl rfl rfl h_24) rfl rfl ?_
      refine X.opR rfl (X.pickor_f (y := decide (0 < (y9.1.length : Int))) rfl h_24 rfl) rfl ?_
      refine X.q rfl ?_
      iterate 2 refine X.opR (X.on_f rfl rfl rfl h_25) rfl rfl ?_
      refine X.opR rfl (X.pickor_f (y := !decide (y10.2 = 0)) rfl h_25 rfl) rfl ?_
      refine X.q rfl ?_
      iterate 2 refine X.opR (X.on_f rfl rfl rfl h_26) rfl rfl ?_
      refine X.call (ok_ref06_SameLeases (h_23 (X.nt h_26))) (X.on_f rfl rfl rfl h_26) rfl rfl (.cons (.shut (n := 9) rfl) (.cons (.shut (n := 9) rfl) .nil)) ?_
      refine X.opR (X.on_f rfl rfl rfl h_26) rfl rfl ?_
      refine X.opR rfl (X.pickor_f (y := !y11) rfl h_26 rfl) rfl ?_
      refine X.q rfl ?_
      refine X.opR (X.on_f rfl rfl rfl h_27) rfl rfl ?_
      refine X.opR (X.on_f rfl rfl rfl h_27) (X.lenF rfl rfl rfl) rfl ?_
      refine X.opR (X.on_f rfl rfl rfl h_27) rfl rfl ?_
      refine X.opR (X.on_f rfl rfl rfl h_27) (X.lenF rfl rfl rfl) rfl ?_
      refine X.opR (X.on_f rfl rfl rfl h_27) rfl rfl ?_
      refine X.opR rfl (X.pickor_f (y := !decide ((y7.1.length : Int) = (l.length : Int))) rfl h_27 rfl) rfl ?_
      refine GS.opsNil ?_
      exact X.norm _ hg rfl (sr rfl)
    refine X.cond rfl (fun h_28 => ?_) (fun h_28 => ?_)
    · replace hM := ite_t h_28 hM
      refine X.sq ?_
      refine X.q rfl ?_
      refine GS.opsNil ?_
      have hE := Option.some.inj hM
      subst hE
      exact GS.ret ⟨_, rfl, ⟨30, rfl⟩⟩
    replace hM := ite_f h_28 hM
    refine GS.skip ?_
    refine GS.seq ?_
    refine X.sq ?_
    refine X.q rfl ?_
    refine X.opR rfl (X.lenF rfl rfl rfl) rfl ?_
    refine X.q rfl ?_
    refine GS.opsNil ?_
    refine X.join (τ := Unit) (fun v => law06_BerthLent_j2 = some r) (fun v => ⟨[], [], 0, none, 203⟩) ?_ ?_
    · intro _ hM
      replace hM : law06_BerthLent_j2 = some r := hM
      unfold law06_BerthLent_j2 at hM
      refine GS.seq ?_
      obtain ⟨y12, h_29, hM⟩ := bind_of hM
      refine GS.region ?_
      refine X.call (ok_law06_lent h_29) rfl rfl rfl .nil ?_
      refine X.q rfl ?_
      refine GS.opsNil ?_
      have hE := Option.some.inj hM
      subst hE
      exact GS.ret ⟨_, rfl, ⟨30, rfl⟩⟩
    intro hj_2
    refine GS.block ?_
    refine X.gc [] (X.loop (σ := Int) (fun v => ⟨[(0, (V.sl (List.map e_api_Lease l))), (14, (V.sl (List.map e_api_Lease y7.1))), (142, (V.i (y7.1.length : Int))), (143, (V.i v))], [], 0, none, 203⟩) hM ?_ rfl) rfl rfl rfl (ga rfl rfl) (gb_nil)
    intro x9 b_1 hM hc_3 hr_1
    rw [law06_BerthLent_b3] at hM
    refine X.sq ?_
    refine X.q rfl ?_
    refine GS.opsNil ?_
    refine GS.seq ?_
    refine X.cond rfl (fun h_30 => ?_) (fun h_30 => ?_)
    · replace hM := ite_t h_30 hM
      refine GS.skip ?_
      refine GS.seq ?_
      refine GS.block ?_
      refine X.sq ?_
      iterate 2 refine X.q rfl ?_
      refine GS.opsNil ?_
      refine GS.seq ?_
      obtain ⟨x1, h_31, hM⟩ := bind_of hM
      obtain ⟨x2, h_32, hM⟩ := bind_of hM
      obtain ⟨x3, h_33, hM⟩ := gb_of hM
      obtain ⟨x4, h_34, hM⟩ := gb_of hM
      obtain ⟨x5, h_35, hM⟩ := gb_of hM
      obtain ⟨x6, h_36, hM⟩ := gb_of hM
      obtain ⟨x7, h_37, hM⟩ := gb_of hM
      obtain ⟨x8, h_38, hM⟩ := gb_of hM
      refine X.mid [(0, (V.sl (List.map e_api_Lease l))), (14, (V.sl (List.map e_api_Lease y7.1))), (142, (V.i (y7.1.length : Int))), (143, (V.i x9)), (200, (V.b (((!decide (x1.ID = x2.ID)) || (!decide ((w64 (x3.Span.Hi - x4.Span.Lo)) = (w64 (x5.Span.Hi - x6.Span.Lo))))) || (decide (x7.Span.Lo < x8.Span.Lo)))))] ?_ ?_
      · intro hg
        refine X.split (!decide (x1.ID = x2.ID)) (fun h_39 => ?_) (fun h_39 => ?_)
        · refine X.drawc (by kernel_rfl) rfl ?_
          iterate 2 refine X.cop rfl rfl rfl rfl ?_
          refine X.cop rfl (X.indexF (f := e_api_Lease) h_31 (fun _ => rfl) rfl rfl rfl rfl) rfl rfl ?_
          refine X.cop rfl rfl rfl rfl ?_
          refine X.cop rfl (X.loadF h_31 rfl rfl rfl) rfl rfl ?_
          iterate 2 refine X.cop rfl rfl rfl rfl ?_
          refine X.cop rfl (X.indexF (f := e_api_Lease) h_32 (fun _ => rfl) rfl rfl rfl rfl) rfl rfl ?_
          refine X.cop rfl rfl rfl rfl ?_
          refine X.cop rfl (X.loadF h_32 rfl rfl rfl) rfl rfl ?_
          iterate 2 refine X.cop rfl rfl rfl rfl ?_
          iterate 27 refine X.coff (X.off_f rfl rfl rfl h_39) rfl rfl ?_
          refine X.cop rfl (X.pickor_t (y := !decide ((w64 (x3.Span.Hi - x4.Span.Lo)) = (w64 (x5.Span.Hi - x6.Span.Lo)))) rfl h_39 rfl) rfl rfl ?_
          refine X.cop rfl rfl rfl rfl ?_
          iterate 13 refine X.coff (X.off_f rfl rfl rfl (X.or_tt h_39)) rfl rfl ?_
          refine X.cop rfl (X.pickor_t (y := decide (x7.Span.Lo < x8.Span.Lo)) rfl (X.or_tt h_39) rfl) rfl rfl ?_
          refine X.cnil ?_
          exact X.norm _ hg rfl (sr rfl)
        refine X.split (((!decide (x1.ID = x2.ID)) || (!decide ((w64 (x3.Span.Hi - x4.Span.Lo)) = (w64 (x5.Span.Hi - x6.Span.Lo)))))) (fun h_40 => ?_) (fun h_40 => ?_)
        · refine X.drawc (by kernel_rfl) rfl ?_
          iterate 2 refine X.cop rfl rfl rfl rfl ?_
          refine X.cop rfl (X.indexF (f := e_api_Lease) h_31 (fun _ => rfl) rfl rfl rfl rfl) rfl rfl ?_
          refine X.cop rfl rfl rfl rfl ?_
          refine X.cop rfl (X.loadF h_31 rfl rfl rfl) rfl rfl ?_
          iterate 2 refine X.cop rfl rfl rfl rfl ?_
          refine X.cop rfl (X.indexF (f := e_api_Lease) h_32 (fun _ => rfl) rfl rfl rfl rfl) rfl rfl ?_
          refine X.cop rfl rfl rfl rfl ?_
          refine X.cop rfl (X.loadF h_32 rfl rfl rfl) rfl rfl ?_
          iterate 2 refine X.cop rfl rfl rfl rfl ?_
          iterate 2 refine X.cop (X.on_f rfl rfl rfl h_39) rfl rfl rfl ?_
          refine X.cop (X.on_f rfl rfl rfl h_39) (X.indexF (f := e_api_Lease) (h_33 (X.nt h_39)) (fun _ => rfl) rfl rfl rfl rfl) rfl rfl ?_
          iterate 2 refine X.cop (X.on_f rfl rfl rfl h_39) rfl rfl rfl ?_
          refine X.cop (X.on_f rfl rfl rfl h_39) (X.loadF (h_33 (X.nt h_39)) rfl rfl rfl) rfl rfl ?_
          iterate 2 refine X.cop (X.on_f rfl rfl rfl h_39) rfl rfl rfl ?_
          refine X.cop (X.on_f rfl rfl rfl h_39) (X.indexF (f := e_api_Lease) (h_34 (X.nt h_39)) (fun _ => rfl) rfl rfl rfl rfl) rfl rfl ?_
          iterate 2 refine X.cop (X.on_f rfl rfl rfl h_39) rfl rfl rfl ?_
          refine X.cop (X.on_f rfl rfl rfl h_39) (X.loadF (h_34 (X.nt h_39)) rfl rfl rfl) rfl rfl ?_
          refine X.cop (X.on_f rfl rfl rfl h_39) (X.subE rfl rfl) rfl rfl ?_
          iterate 2 refine X.cop (X.on_f rfl rfl rfl h_39) rfl rfl rfl ?_
          refine X.cop (X.on_f rfl rfl rfl h_39) (X.indexF (f := e_api_Lease) (h_35 (X.nt h_39)) (fun _ => rfl) rfl rfl rfl rfl) rfl rfl ?_
          iterate 2 refine X.cop (X.on_f rfl rfl rfl h_39) rfl rfl rfl ?_
          refine X.cop (X.on_f rfl rfl rfl h_39) (X.loadF (h_35 (X.nt h_39)) rfl rfl rfl) rfl rfl ?_
          iterate 2 refine X.cop (X.on_f rfl rfl rfl h_39) rfl rfl rfl ?_
          refine X.cop (X.on_f rfl rfl rfl h_39) (X.indexF (f := e_api_Lease) (h_36 (X.nt h_39)) (fun _ => rfl) rfl rfl rfl rfl) rfl rfl ?_
          iterate 2 refine X.cop (X.on_f rfl rfl rfl h_39) rfl rfl rfl ?_
          refine X.cop (X.on_f rfl rfl rfl h_39) (X.loadF (h_36 (X.nt h_39)) rfl rfl rfl) rfl rfl ?_
          refine X.cop (X.on_f rfl rfl rfl h_39) (X.subE rfl rfl) rfl rfl ?_
          refine X.cop (X.on_f rfl rfl rfl h_39) rfl rfl rfl ?_
          refine X.cop rfl (X.pickor_f (y := !decide ((w64 (x3.Span.Hi - x4.Span.Lo)) = (w64 (x5.Span.Hi - x6.Span.Lo)))) rfl h_39 rfl) rfl rfl ?_
          refine X.cop rfl rfl rfl rfl ?_
          iterate 13 refine X.coff (X.off_f rfl rfl rfl h_40) rfl rfl ?_
          refine X.cop rfl (X.pickor_t (y := decide (x7.Span.Lo < x8.Span.Lo)) rfl h_40 rfl) rfl rfl ?_
          refine X.cnil ?_
          exact X.norm _ hg rfl (sr rfl)
        refine X.drawc (by kernel_rfl) rfl ?_
        iterate 2 refine X.cop rfl rfl rfl rfl ?_
        refine X.cop rfl (X.indexF (f := e_api_Lease) h_31 (fun _ => rfl) rfl rfl rfl rfl) rfl rfl ?_
        refine X.cop rfl rfl rfl rfl ?_
        refine X.cop rfl (X.loadF h_31 rfl rfl rfl) rfl rfl ?_
        iterate 2 refine X.cop rfl rfl rfl rfl ?_
        refine X.cop rfl (X.indexF (f := e_api_Lease) h_32 (fun _ => rfl) rfl rfl rfl rfl) rfl rfl ?_
        refine X.cop rfl rfl rfl rfl ?_
        refine X.cop rfl (X.loadF h_32 rfl rfl rfl) rfl rfl ?_
        iterate 2 refine X.cop rfl rfl rfl rfl ?_
        iterate 2 refine X.cop (X.on_f rfl rfl rfl h_39) rfl rfl rfl ?_
        refine X.cop (X.on_f rfl rfl rfl h_39) (X.indexF (f := e_api_Lease) (h_33 (X.nt h_39)) (fun _ => rfl) rfl rfl rfl rfl) rfl rfl ?_
        iterate 2 refine X.cop (X.on_f rfl rfl rfl h_39) rfl rfl rfl ?_
        refine X.cop (X.on_f rfl rfl rfl h_39) (X.loadF (h_33 (X.nt h_39)) rfl rfl rfl) rfl rfl ?_
        iterate 2 refine X.cop (X.on_f rfl rfl rfl h_39) rfl rfl rfl ?_
        refine X.cop (X.on_f rfl rfl rfl h_39) (X.indexF (f := e_api_Lease) (h_34 (X.nt h_39)) (fun _ => rfl) rfl rfl rfl rfl) rfl rfl ?_
        iterate 2 refine X.cop (X.on_f rfl rfl rfl h_39) rfl rfl rfl ?_
        refine X.cop (X.on_f rfl rfl rfl h_39) (X.loadF (h_34 (X.nt h_39)) rfl rfl rfl) rfl rfl ?_
        refine X.cop (X.on_f rfl rfl rfl h_39) (X.subE rfl rfl) rfl rfl ?_
        iterate 2 refine X.cop (X.on_f rfl rfl rfl h_39) rfl rfl rfl ?_
        refine X.cop (X.on_f rfl rfl rfl h_39) (X.indexF (f := e_api_Lease) (h_35 (X.nt h_39)) (fun _ => rfl) rfl rfl rfl rfl) rfl rfl ?_
        iterate 2 refine X.cop (X.on_f rfl rfl rfl h_39) rfl rfl rfl ?_
        refine X.cop (X.on_f rfl rfl rfl h_39) (X.loadF (h_35 (X.nt h_39)) rfl rfl rfl) rfl rfl ?_
        iterate 2 refine X.cop (X.on_f rfl rfl rfl h_39) rfl rfl rfl ?_
        refine X.cop (X.on_f rfl rfl rfl h_39) (X.indexF (f := e_api_Lease) (h_36 (X.nt h_39)) (fun _ => rfl) rfl rfl rfl rfl) rfl rfl ?_
        iterate 2 refine X.cop (X.on_f rfl rfl rfl h_39) rfl rfl rfl ?_
        refine X.cop (X.on_f rfl rfl rfl h_39) (X.loadF (h_36 (X.nt h_39)) rfl rfl rfl) rfl rfl ?_
        refine X.cop (X.on_f rfl rfl rfl h_39) (X.subE rfl rfl) rfl rfl ?_
        refine X.cop (X.on_f rfl rfl rfl h_39) rfl rfl rfl ?_
        refine X.cop rfl (X.pickor_f (y := !decide ((w64 (x3.Span.Hi - x4.Span.Lo)) = (w64 (x5.Span.Hi - x6.Span.Lo)))) rfl h_39 rfl) rfl rfl ?_
        refine X.cop rfl rfl rfl rfl ?_
        iterate 2 refine X.cop (X.on_f rfl rfl rfl h_40) rfl rfl rfl ?_
        refine X.cop (X.on_f rfl rfl rfl h_40) (X.indexF (f := e_api_Lease) (h_37 (X.nt h_40)) (fun _ => rfl) rfl rfl rfl rfl) rfl rfl ?_
        iterate 2 refine X.cop (X.on_f rfl rfl rfl h_40) rfl rfl rfl ?_
        refine X.cop (X.on_f rfl rfl rfl h_40) (X.loadF (h_37 (X.nt h_40)) rfl rfl rfl) rfl rfl ?_
        iterate 2 refine X.cop (X.on_f rfl rfl rfl h_40) rfl rfl rfl ?_
        refine X.cop (X.on_f rfl rfl rfl h_40) (X.indexF (f := e_api_Lease) (h_38 (X.nt h_40)) (fun _ => rfl) rfl rfl rfl rfl) rfl rfl ?_
        iterate 2 refine X.cop (X.on_f rfl rfl rfl h_40) rfl rfl rfl ?_
        refine X.cop (X.on_f rfl rfl rfl h_40) (X.loadF (h_38 (X.nt h_40)) rfl rfl rfl) rfl rfl ?_
        refine X.cop (X.on_f rfl rfl rfl h_40) rfl rfl rfl ?_
        refine X.cop rfl (X.pickor_f (y := decide (x7.Span.Lo < x8.Span.Lo)) rfl h_40 rfl) rfl rfl ?_
        refine X.cnil ?_
        exact X.norm _ hg rfl (sr rfl)
      refine X.cond rfl (fun h_41 => ?_) (fun h_41 => ?_)
      · replace hM := ite_t h_41 hM
        refine X.sq ?_
        refine X.q rfl ?_
        refine GS.opsNil ?_
        have hE := Option.some.inj hM
        replace hE := hr_1 _ hE.symm
        subst hE
        exact GS.ret ⟨_, rfl, ⟨30, rfl⟩⟩
      replace hM := ite_f h_41 hM
      refine GS.skip ?_
      refine GS.endB ?_
      refine GS.region ?_
      refine X.opR rfl (X.addE rfl rfl) rfl ?_
      refine X.q rfl ?_
      refine GS.opsNil ?_
      have hE := Option.some.inj hM
      exact X.gc [] (hc_3 (w64 (x9 + 1)) hE.symm) rfl rfl rfl (ga rfl rfl) (gb_nil)
    replace hM := ite_f h_30 hM
    refine GS.exit rfl ?_
    obtain ⟨y_1, hM, hy⟩ := map_of hM
    rw [hr_1 _ hy.symm] at hM
    exact X.gc [] (hj_2 () hM) rfl rfl rfl (gk_nil) (gb_nil)
  intro hj_1
  refine GS.block ?_
  refine X.gc [] (X.loop (σ := (Int × Int)) (fun v => ⟨[(0, (V.sl (List.map e_api_Lease l))), (1, (V.sl (List.map V.i x))), (5, (V.sl (List.map V.i y1.1))), (6, (V.i y1.2.1)), (8, (V.i y2.1)), (9, (V.i y2.2.1)), (11, (V.i v.1)), (48, (V.sl (List.map e_api_Lease l))), (49, (V.i (l.length : Int))), (50, (V.i v.2))], [], 0, none, 203⟩) hM ?_ rfl) rfl rfl rfl (ga rfl rfl) (gb_nil)
  rintro ⟨at_2, x11⟩ b_1 hM hc_4 hr_1
  rw [law06_BerthLent_b4] at hM
  refine X.sq ?_
  refine X.q rfl ?_
  refine GS.opsNil ?_
  refine GS.seq ?_
  refine X.cond rfl (fun h_42 => ?_) (fun h_42 => ?_)
  · replace hM := ite_t h_42 hM
    refine GS.skip ?_
    refine GS.seq ?_
    refine X.join (τ := Int) (fun v => law06_BerthLent_j5 x11 v = some b_1) (fun v => ⟨[(0, (V.sl (List.map e_api_Lease l))), (1, (V.sl (List.map V.i x))), (5, (V.sl (List.map V.i y1.1))), (6, (V.i y1.2.1)), (8, (V.i y2.1)), (9, (V.i y2.2.1)), (11, (V.i v)), (48, (V.sl (List.map e_api_Lease l))), (49, (V.i (l.length : Int))), (50, (V.i x11))], [], 0, none, 203⟩) ?_ ?_
    · intro at_1 hM
      replace hM : law06_BerthLent_j5 x11 at_1 = some b_1 := hM
      unfold law06_BerthLent_j5 at hM
      refine GS.region ?_
      refine X.opR rfl (X.addE rfl rfl) rfl ?_
      refine X.q rfl ?_
      refine GS.opsNil ?_
      have hE := Option.some.inj hM
      exact X.gc [] (hc_4 (at_1, w64 (x11 + 1)) hE.symm) rfl rfl rfl (ga rfl rfl) (gb_nil)
    intro hj_5
    refine GS.block ?_
    refine GS.seq ?_
    obtain ⟨x10, h_43, hM⟩ := bind_of hM
    refine GS.region ?_
    refine X.opR rfl (X.indexF (f := e_api_Lease) h_43 (fun _ => rfl) rfl rfl rfl rfl) rfl ?_
    refine X.opR rfl (X.loadF h_43 rfl rfl rfl) rfl ?_
    refine X.opW rfl rfl rfl rfl ?_
    refine X.op0W rfl rfl rfl ?_
    refine X.nq ?_
    refine X.mid [(0, (V.sl (List.map e_api_Lease l))), (1, (V.sl (List.map V.i x))), (5, (V.sl (List.map V.i y1.1))), (6, (V.i y1.2.1)), (8, (V.i y2.1)), (9, (V.i y2.2.1)), (11, (V.i at_2)), (48, (V.sl (List.map e_api_Lease l))), (49, (V.i (l.length : Int))), (50, (V.i x11)), (65, (V.b ((decide (x10.Span.Lo ≤ y2.1)) && (decide (y2.1 ≤ x10.Span.Hi)))))] ?_ ?_
    · intro hg
      refine X.split (decide (x10.Span.Lo ≤ y2.1)) (fun h_44 => ?_) (fun h_44 => ?_)
      · iterate 6 refine X.q rfl ?_
        iterate 5 refine X.opR (X.on_t rfl rfl rfl h_44) rfl rfl ?_
        refine X.opR rfl (X.pickand_t (y := decide (y2.1 ≤ x10.Span.Hi)) rfl h_44 rfl) rfl ?_
        refine GS.opsNil ?_
        exact X.norm _ hg rfl (sr rfl)
      iterate 6 refine X.q rfl ?_
      iterate 5 refine X.off (X.off_t rfl rfl rfl h_44) rfl ?_
      refine X.opR rfl (X.pickand_f (y := decide (y2.1 ≤ x10.Span.Hi)) rfl h_44 rfl) rfl ?_
      refine GS.opsNil ?_
      exact X.norm _ hg rfl (sr rfl)
    refine X.cond rfl (fun h_45 => ?_) (fun h_45 => ?_)
    · replace hM := ite_t h_45 hM
      refine GS.region ?_
      refine X.q rfl ?_
      refine X.opR rfl (X.addE rfl rfl) rfl ?_
      refine X.q rfl ?_
      refine GS.opsNil ?_
      refine GS.endB ?_
      exact X.gc [] (hj_5 (w64 (at_2 + 1)) hM) rfl rfl rfl (ga rfl rfl) (gb_nil)
    replace hM := ite_f h_45 hM
    refine GS.skip ?_
    refine GS.endB ?_
    exact X.gc [] (hj_5 at_2 hM) rfl rfl rfl (ga rfl rfl) (gb_nil)
  replace hM := ite_f h_42 hM
  refine GS.exit rfl ?_
  obtain ⟨y_1, hM, hy⟩ := map_of hM
  rw [hr_1 _ hy.symm] at hM
  exact X.gc [] (hj_1 at_2 hM) rfl rfl rfl (ga rfl rfl) (gb_nil)

end Go.Proofs.Ythfnbjoecocfaaa
