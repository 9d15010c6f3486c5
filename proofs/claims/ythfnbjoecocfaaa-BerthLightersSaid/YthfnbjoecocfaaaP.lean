/- The program's functions compute the plain ones. Conditions: none. Printed by a program (wip/tools/xg.py). -/
import Derived.Test.YthfnbjoecocfaaaP1
set_option linter.unusedVariables false
set_option linter.unusedSimpArgs false
namespace Go.Proofs.Ythfnbjoecocfaaa
open Go Go.Am Go.Proofs Go.Mx

set_option maxHeartbeats 4000000 in
theorem ok_ref06_Queue {l : (List api_Lease)} {r : ref06_Queued} (hM : ref06_Queue l = some r) : Ct Try.prog 43 [(V.sl (List.map e_api_Lease l))] (e_ref06_Queued r) := by
  refine ct_of_gs CC_ok rfl ?_
  unfold ref06_Queue at hM
  refine X.sq ?_
  refine X.opW rfl rfl rfl rfl ?_
  refine GS.opsNil ?_
  refine GS.seq ?_
  obtain ⟨y, h_1, hM⟩ := bind_of hM
  refine GS.region ?_
  refine X.q rfl ?_
  refine X.call (ok_ref06_CheckLeases h_1) rfl rfl rfl (.cons (.shut (n := 9) rfl) .nil) ?_
  refine X.q rfl ?_
  refine GS.opsNil ?_
  refine GS.seq ?_
  refine X.sq ?_
  iterate 2 refine X.q rfl ?_
  refine GS.opsNil ?_
  refine X.cond rfl (fun h_2 => ?_) (fun h_2 => ?_)
  · replace hM := ite_t h_2 hM
    refine X.sq ?_
    iterate 2 refine X.q rfl ?_
    refine X.op0W rfl rfl rfl ?_
    refine GS.opsNil ?_
    have hE := Option.some.inj hM
    subst hE
    exact GS.ret ⟨_, rfl, ⟨30, rfl⟩⟩
  replace hM := ite_f h_2 hM
  refine GS.skip ?_
  refine X.sq ?_
  refine X.q rfl ?_
  refine GS.opsNil ?_
  refine GS.seq ?_
  obtain ⟨l1, h_3, hM⟩ := bind_of hM
  refine GS.region ?_
  iterate 2 refine X.q rfl ?_
  refine X.appNilS (f := e_api_Lease) (m := 1) (by rfl) h_3 (fun _ => rfl) (by rfl) (by rfl) (by rfl) (by rfl) (by rfl) (by rfl) (by rfl) (by rfl) (by exact rfl) (by rfl) (by rfl) ?_
  refine X.q rfl ?_
  refine GS.opsNil ?_
  refine GS.seq ?_
  obtain ⟨y1, h_4, hM⟩ := bind_of hM
  refine GS.region ?_
  refine X.q rfl ?_
  refine X.call (ok_ref06_order h_4) rfl rfl rfl (.cons (.shut (n := 9) rfl) .nil) ?_
  refine X.q rfl ?_
  refine GS.opsNil ?_
  refine GS.seq ?_
  refine X.sq ?_
  refine X.q rfl ?_
  refine GS.opsNil ?_
  refine X.join (τ := (List api_Lease)) (fun v => ref06_Queue_j1 v = some r) (fun v => ⟨[(2, (V.ptr 0 0 0)), (4, (ovl 1 v))], [.rows 2 [(V.agg [V.nil, (V.i 0)])], obl 4 e_api_Lease v], 0, none, 91⟩) ?_ ?_
  · intro l2 hM
    replace hM : ref06_Queue_j1 l2 = some r := hM
    unfold ref06_Queue_j1 at hM
    refine X.sq ?_
    refine X.q rfl ?_
    refine X.opR rfl (v := (V.agg [(ovl 1 l2), (V.i 0)])) (by rcases X.ovl_or (z := true) 1 l2 with h0 | ⟨n0, h0⟩ <;> simp only [h0] <;> rfl) rfl ?_
    refine X.op0W rfl (v := undefV) (wr := [(0, .rows 2 [(V.agg [(ovl 1 l2), (V.i 0)])])]) (by rcases X.ovl_or (z := true) 1 l2 with h0 | ⟨n0, h0⟩ <;> simp only [h0] <;> rfl) rfl ?_
    refine GS.opsNil ?_
    have hE := Option.some.inj hM
    subst hE
    exact GS.ret ⟨_, rfl, FR.agg (.cons (FR.ovl (f := e_api_Lease) (l := l2) 9 rfl rfl (fun _ => rfl)) (.cons ⟨30, rfl⟩ .nil))⟩
  intro hj_1
  refine GS.block ?_
  refine X.gc [some 0, some 1] (X.loop (σ := (Int × (List api_Lease))) (fun v => ⟨[(0, (V.sl (List.map e_api_Lease l))), (2, (V.ptr 0 0 0)), (4, (ovl 1 v.2)), (5, (V.sl (List.map V.i y1))), (6, (V.i v.1))], [.rows 2 [(V.agg [V.nil, (V.i 0)])], obl 4 e_api_Lease v.2], 0, none, 91⟩) hM ?_ rfl) rfl rfl rfl (gk_cons rfl ⟨9, rfl⟩ (gk_cons rfl ⟨9, rfl⟩ (gk_cons rfl (rn_ovl rfl) (ga rfl rfl)))) (gb9 rfl rfl rfl (gb_obl 9 rfl rfl (fun _ => rfl) gb_nil))
  rintro ⟨i, l3⟩ b_1 hM hc_2 hr_1
  rw [ref06_Queue_b2] at hM
  refine GS.seq ?_
  refine X.sq ?_
  iterate 2 refine X.q rfl ?_
  refine X.opR rfl (X.lenF rfl rfl rfl) rfl ?_
  refine X.q rfl ?_
  refine GS.opsNil ?_
  refine X.cond rfl (fun h_5 => ?_) (fun h_5 => ?_)
  · replace hM := ite_t h_5 hM
    refine GS.skip ?_
    refine GS.seq ?_
    refine GS.block ?_
    refine GS.seq ?_
    obtain ⟨x, h_6, hM⟩ := bind_of hM
    obtain ⟨x1, h_7, hM⟩ := bind_of hM
    refine GS.region ?_
    iterate 3 refine X.q rfl ?_
    refine X.opR rfl (X.indexF (f := V.i) h_6 (fun _ => rfl) rfl rfl rfl rfl) rfl ?_
    refine X.opR rfl (X.loadF h_6 rfl rfl rfl) rfl ?_
    refine X.opR rfl (X.indexF (f := e_api_Lease) h_7 (fun _ => rfl) rfl rfl rfl rfl) rfl ?_
    refine X.opR rfl (X.loadF h_7 rfl rfl rfl) rfl ?_
    refine X.opW rfl rfl rfl rfl ?_
    refine X.op0W rfl rfl rfl ?_
    refine X.nq ?_
    iterate 4 refine X.q rfl ?_
    refine GS.opsNil ?_
    refine GS.seq ?_
    refine X.sq ?_
    refine X.q rfl ?_
    refine GS.opsNil ?_
    refine X.join (τ := Int) (fun v => ref06_Queue_j3 y1 i l3 x1 v = some b_1) (fun v => ⟨[(0, (V.sl (List.map e_api_Lease l))), (2, (V.ptr 0 0 0)), (4, (ovl 1 l3)), (5, (V.sl (List.map V.i y1))), (6, (V.i i)), (7, (V.ptr 2 0 0)), (8, (V.i v))], [.rows 2 [(V.agg [V.nil, (V.i 0)])], obl 4 e_api_Lease l3, .rows 4 [(e_api_Lease x1)]], 0, none, 91⟩) ?_ ?_
    · intro from_ hM
      replace hM : ref06_Queue_j3 y1 i l3 x1 from_ = some b_1 := hM
      unfold ref06_Queue_j3 at hM
      refine X.sq ?_
      iterate 5 refine X.q rfl ?_
      refine X.opR rfl (X.addE rfl rfl) rfl ?_
      iterate 3 refine X.q rfl ?_
      refine X.opR rfl (X.subE rfl rfl) rfl ?_
      iterate 2 refine X.q rfl ?_
      refine X.op0W rfl rfl rfl ?_
      refine GS.opsNil ?_
      refine GS.seq ?_
      refine X.sq ?_
      iterate 4 refine X.q rfl ?_
      refine GS.opsNil ?_
      refine X.cond rfl (fun h_8 => ?_) (fun h_8 => ?_)
      · replace hM := ite_t h_8 hM
        refine X.sq ?_
        refine X.q rfl ?_
        refine X.op0W rfl rfl rfl ?_
        refine GS.opsNil ?_
        have hE := Option.some.inj hM
        replace hE := hr_1 _ hE.symm
        subst hE
        exact GS.ret ⟨_, rfl, ⟨30, rfl⟩⟩
      replace hM := ite_f h_8 hM
      refine GS.skip ?_
      obtain ⟨x2, h_9, hM⟩ := bind_of hM
      obtain ⟨x3, h_10, hM⟩ := bind_of hM
      refine X.draw (by kernel_rfl) ?_
      iterate 3 refine X.dop rfl rfl rfl rfl (by kernel_rfl) rfl rfl ?_
      refine X.dop rfl (X.indexF (f := V.i) h_9 (fun _ => rfl) rfl rfl rfl rfl) rfl rfl (by kernel_rfl) rfl rfl ?_
      refine X.dop rfl (X.loadF h_9 rfl rfl rfl) rfl rfl (by kernel_rfl) rfl rfl ?_
      refine X.dop rfl rfl rfl rfl (by kernel_rfl) rfl rfl ?_
      refine X.dop rfl (X.indexN h_10 rfl rfl rfl rfl rfl) rfl rfl (by kernel_rfl) rfl rfl ?_
      refine X.dop0 rfl (X.storeN (b := (⟨x1.ID, x1.Heap, (⟨from_, w64 ((w64 (from_ + x1.Span.Hi)) - x1.Span.Lo)⟩ : api_Span)⟩ : api_Lease)) h_10 rfl rfl rfl rfl rfl rfl rfl) rfl rfl (by kernel_rfl) rfl ?_
      refine X.dnil ?_
      refine X.norm [(0, (V.sl (List.map e_api_Lease l))), (2, (V.ptr 0 0 0)), (4, (ovl 1 l3)), (5, (V.sl (List.map V.i y1))), (6, (V.i i))] ?_ rfl (sr rfl)
      refine GS.endB ?_
      refine GS.region ?_
      refine X.q rfl ?_
      refine X.opR rfl (X.addE rfl rfl) rfl ?_
      refine X.q rfl ?_
      refine GS.opsNil ?_
      have hE := Option.some.inj hM
      exact X.gc [some 0, some 1] (hc_2 (w64 (i + 1), (put l3 x2 (⟨x1.ID, x1.Heap, (⟨from_, w64 ((w64 (from_ + x1.Span.Hi)) - x1.Span.Lo)⟩ : api_Span)⟩ : api_Lease))) hE.symm) rfl rfl rfl (gk_cons rfl ⟨9, rfl⟩ (gk_cons rfl ⟨9, rfl⟩ (gk_cons rfl (rv_eq X.ovl_put (rn_ovl rfl)) (ga rfl rfl)))) (gb9 rfl rfl rfl (gb_obl 9 rfl rfl (fun _ => rfl) gb_nil))
    intro hj_3
    refine GS.block ?_
    refine X.gc [some 0, some 1, some 2] (X.loop (σ := (Int × Int)) (fun v => ⟨[(0, (V.sl (List.map e_api_Lease l))), (2, (V.ptr 0 0 0)), (4, (ovl 1 l3)), (5, (V.sl (List.map V.i y1))), (6, (V.i i)), (7, (V.ptr 2 0 0)), (8, (V.i v.1)), (9, (V.i v.2))], [.rows 2 [(V.agg [V.nil, (V.i 0)])], obl 4 e_api_Lease l3, .rows 4 [(e_api_Lease x1)]], 0, none, 91⟩) hM ?_ rfl) rfl rfl rfl (gk_cons rfl ⟨9, rfl⟩ (gk_cons rfl ⟨9, rfl⟩ (gk_cons rfl (rn_ovl rfl) (ga rfl rfl)))) (gb9 rfl rfl rfl (gb_obl 9 rfl rfl (fun _ => rfl) (gb9 rfl rfl rfl gb_nil)))
    rintro ⟨from_2, k⟩ b_2 hM hc_4 hr_2
    rw [ref06_Queue_b4] at hM
    refine GS.seq ?_
    refine X.sq ?_
    iterate 3 refine X.q rfl ?_
    refine GS.opsNil ?_
    refine X.cond rfl (fun h_11 => ?_) (fun h_11 => ?_)
    · replace hM := ite_t h_11 hM
      refine GS.skip ?_
      refine GS.seq ?_
      refine X.join (τ := Int) (fun v => ref06_Queue_j5 k v = some b_2) (fun v => ⟨[(0, (V.sl (List.map e_api_Lease l))), (2, (V.ptr 0 0 0)), (4, (ovl 1 l3)), (5, (V.sl (List.map V.i y1))), (6, (V.i i)), (7, (V.ptr 2 0 0)), (8, (V.i v)), (9, (V.i k))], [.rows 2 [(V.agg [V.nil, (V.i 0)])], obl 4 e_api_Lease l3, .rows 4 [(e_api_Lease x1)]], 0, none, 91⟩) ?_ ?_
      · intro from_1 hM
        replace hM : ref06_Queue_j5 k from_1 = some b_2 := hM
        unfold ref06_Queue_j5 at hM
        refine GS.region ?_
        refine X.q rfl ?_
        refine X.opR rfl (X.addE rfl rfl) rfl ?_
        refine X.q rfl ?_
        refine GS.opsNil ?_
        have hE := Option.some.inj hM
        exact X.gc [some 0, some 1, some 2] (hc_4 (from_1, w64 (k + 1)) hE.symm) rfl rfl rfl (gk_cons rfl ⟨9, rfl⟩ (gk_cons rfl ⟨9, rfl⟩ (gk_cons rfl (rn_ovl rfl) (ga rfl rfl)))) (gb9 rfl rfl rfl (gb_obl 9 rfl rfl (fun _ => rfl) (gb9 rfl rfl rfl gb_nil)))
      intro hj_5
      refine GS.block ?_
      refine GS.seq ?_
      obtain ⟨x4, h_12, hM⟩ := bind_of hM
      obtain ⟨x5, h_13, hM⟩ := bind_of hM
      refine X.drawc (by kernel_rfl) rfl ?_
      iterate 3 refine X.cop rfl rfl rfl rfl ?_
      refine X.cop rfl (X.indexF (f := V.i) h_12 (fun _ => rfl) rfl rfl rfl rfl) rfl rfl ?_
      refine X.cop rfl (X.loadF h_12 rfl rfl rfl) rfl rfl ?_
      refine X.cop rfl (X.indexF (f := e_api_Lease) h_13 (fun _ => rfl) rfl rfl rfl rfl) rfl rfl ?_
      refine X.cop rfl rfl rfl rfl ?_
      refine X.cop rfl (X.loadF h_13 rfl rfl rfl) rfl rfl ?_
      iterate 3 refine X.cop rfl rfl rfl rfl ?_
      refine X.cnil ?_
      refine X.norm [(0, (V.sl (List.map e_api_Lease l))), (2, (V.ptr 0 0 0)), (4, (ovl 1 l3)), (5, (V.sl (List.map V.i y1))), (6, (V.i i)), (7, (V.ptr 2 0 0)), (8, (V.i from_2)), (9, (V.i k)), (52, (V.b (decide (x5.Heap = x1.Heap))))] ?_ rfl (sr rfl)
      refine X.cond rfl (fun h_14 => ?_) (fun h_14 => ?_)
      · replace hM := ite_t h_14 hM
        obtain ⟨x6, h_15, hM⟩ := bind_of hM
        obtain ⟨x7, h_16, hM⟩ := bind_of hM
        refine GS.region ?_
        iterate 4 refine X.q rfl ?_
        refine X.opR rfl (X.indexF (f := V.i) h_15 (fun _ => rfl) rfl rfl rfl rfl) rfl ?_
        refine X.opR rfl (X.loadF h_15 rfl rfl rfl) rfl ?_
        refine X.opR rfl (X.indexN h_16 rfl rfl rfl rfl rfl) rfl ?_
        iterate 2 refine X.q rfl ?_
        refine X.opR rfl (X.loadN h_16 rfl rfl rfl rfl) rfl ?_
        refine X.opR rfl (X.addE rfl rfl) rfl ?_
        refine X.opR rfl (X.maxE rfl rfl) rfl ?_
        refine X.q rfl ?_
        refine GS.opsNil ?_
        refine GS.endB ?_
        exact X.gc [some 0, some 1, some 2] (hj_5 (max from_2 (w64 (x7.Span.Hi + 1))) hM) rfl rfl rfl (gk_cons rfl ⟨9, rfl⟩ (gk_cons rfl ⟨9, rfl⟩ (gk_cons rfl (rn_ovl rfl) (ga rfl rfl)))) (gb9 rfl rfl rfl (gb_obl 9 rfl rfl (fun _ => rfl) (gb9 rfl rfl rfl gb_nil)))
      replace hM := ite_f h_14 hM
      refine GS.skip ?_
      refine GS.endB ?_
      exact X.gc [some 0, some 1, some 2] (hj_5 from_2 hM) rfl rfl rfl (gk_cons rfl ⟨9, rfl⟩ (gk_cons rfl ⟨9, rfl⟩ (gk_cons rfl (rn_ovl rfl) (ga rfl rfl)))) (gb9 rfl rfl rfl (gb_obl 9 rfl rfl (fun _ => rfl) (gb9 rfl rfl rfl gb_nil)))
    replace hM := ite_f h_11 hM
    refine GS.exit rfl ?_
    obtain ⟨y_2, hM, hy⟩ := map_of hM
    rw [hr_2 _ hy.symm] at hM
    exact X.gc [some 0, some 1, some 2] (hj_3 from_2 hM) rfl rfl rfl (gk_cons rfl ⟨9, rfl⟩ (gk_cons rfl ⟨9, rfl⟩ (gk_cons rfl (rn_ovl rfl) (ga rfl rfl)))) (gb9 rfl rfl rfl (gb_obl 9 rfl rfl (fun _ => rfl) (gb9 rfl rfl rfl gb_nil)))
  replace hM := ite_f h_5 hM
  refine GS.exit rfl ?_
  obtain ⟨y_1, hM, hy⟩ := map_of hM
  rw [hr_1 _ hy.symm] at hM
  exact X.gc [some 0, some 1] (hj_1 l3 hM) rfl rfl rfl (gk_cons rfl ⟨9, rfl⟩ (gk_cons rfl (rn_ovl rfl) gk_nil)) (gb9 rfl rfl rfl (gb_obl 9 rfl rfl (fun _ => rfl) gb_nil))

theorem ok_berth_CheckLighters {l : (List api_Lease)} {lighters : (List Int)} {r : Int} (hM : berth_CheckLighters l lighters = some r) : Ct Try.prog 47 [(V.sl (List.map e_api_Lease l)), (V.sl (List.map V.i lighters))] (V.i r) := by
  refine ct_of_gs CC_ok rfl ?_
  unfold berth_CheckLighters at hM
  refine X.sq ?_
  refine X.q rfl ?_
  refine GS.opsNil ?_
  iterate 2 refine GS.seq ?_
  obtain ⟨y, h_1, hM⟩ := bind_of hM
  refine GS.region ?_
  refine X.q rfl ?_
  refine X.call (ok_berth_CheckLeases h_1) rfl rfl rfl (.cons (.shut (n := 9) rfl) .nil) ?_
  refine X.q rfl ?_
  refine X.nq ?_
  iterate 2 refine X.q rfl ?_
  refine GS.opsNil ?_
  refine X.cond rfl (fun h_2 => ?_) (fun h_2 => ?_)
  · replace hM := ite_t h_2 hM
    refine X.sq ?_
    iterate 2 refine X.q rfl ?_
    refine GS.opsNil ?_
    have hE := Option.some.inj hM
    subst hE
    exact GS.ret ⟨_, rfl, ⟨30, rfl⟩⟩
  replace hM := ite_f h_2 hM
  refine GS.skip ?_
  refine GS.seq ?_
  refine X.sq ?_
  refine X.q rfl ?_
  refine X.opR rfl (X.lenF rfl rfl rfl) rfl ?_
  refine X.q rfl ?_
  refine X.opR rfl (X.lenF rfl rfl rfl) rfl ?_
  refine X.q rfl ?_
  refine GS.opsNil ?_
  refine X.cond rfl (fun h_3 => ?_) (fun h_3 => ?_)
  · replace hM := ite_t h_3 hM
    refine X.sq ?_
    refine X.q rfl ?_
    refine GS.opsNil ?_
    have hE := Option.some.inj hM
    subst hE
    exact GS.ret ⟨_, rfl, ⟨30, rfl⟩⟩
  replace hM := ite_f h_3 hM
  refine GS.skip ?_
  refine GS.seq ?_
  refine X.sq ?_
  refine X.q rfl ?_
  refine X.opR rfl (X.lenF rfl rfl rfl) rfl ?_
  refine X.q rfl ?_
  refine GS.opsNil ?_
  refine X.join (τ := Unit) (fun v => berth_CheckLighters_j1 = some r) (fun v => ⟨[], [], 0, none, 54⟩) ?_ ?_
  · intro _ hM
    replace hM : berth_CheckLighters_j1 = some r := hM
    unfold berth_CheckLighters_j1 at hM
    refine X.sq ?_
    refine X.q rfl ?_
    refine GS.opsNil ?_
    have hE := Option.some.inj hM
    subst hE
    exact GS.ret ⟨_, rfl, ⟨30, rfl⟩⟩
  intro hj_1
  refine GS.block ?_
  refine X.gc [] (X.loop (σ := Int) (fun v => ⟨[(0, (V.sl (List.map e_api_Lease l))), (1, (V.sl (List.map V.i lighters))), (20, (V.sl (List.map V.i lighters))), (21, (V.i (lighters.length : Int))), (22, (V.i v))], [], 0, none, 54⟩) hM ?_ rfl) rfl rfl rfl (ga rfl rfl) (gb_nil)
  intro x5 b_1 hM hc_2 hr_1
  rw [berth_CheckLighters_b2] at hM
  refine X.sq ?_
  refine X.q rfl ?_
  refine GS.opsNil ?_
  refine GS.seq ?_
  refine X.cond rfl (fun h_4 => ?_) (fun h_4 => ?_)
  · replace hM := ite_t h_4 hM
    refine GS.skip ?_
    refine GS.seq ?_
    refine GS.block ?_
    refine GS.seq ?_
    obtain ⟨x, h_5, hM⟩ := bind_of hM
    refine GS.region ?_
    refine X.q rfl ?_
    refine X.opR rfl (X.indexF (f := V.i) h_5 (fun _ => rfl) rfl rfl rfl rfl) rfl ?_
    refine X.opR rfl (X.loadF h_5 rfl rfl rfl) rfl ?_
    iterate 2 refine X.q rfl ?_
    refine GS.opsNil ?_
    refine GS.seq ?_
    refine X.sq ?_
    iterate 2 refine X.q rfl ?_
    refine GS.opsNil ?_
    refine X.cond rfl (fun h_6 => ?_) (fun h_6 => ?_)
    · replace hM := ite_t h_6 hM
      refine X.sq ?_
      refine X.q rfl ?_
      refine GS.opsNil ?_
      have hE := Option.some.inj hM
      replace hE := hr_1 _ hE.symm
      subst hE
      exact GS.ret ⟨_, rfl, ⟨30, rfl⟩⟩
    replace hM := ite_f h_6 hM
    refine GS.skip ?_
    refine GS.seq ?_
    obtain ⟨l1, h_7, hM⟩ := bind_of hM
    refine GS.region ?_
    iterate 2 refine X.q rfl ?_
    refine X.opR rfl (X.sliceF (f := V.i) h_7 (fun _ => rfl) rfl rfl rfl rfl rfl rfl (X.boundA_int rfl)) rfl ?_
    refine X.opR rfl (X.lenF rfl rfl rfl) rfl ?_
    refine X.q rfl ?_
    refine GS.opsNil ?_
    refine X.join (τ := Unit) (fun v => berth_CheckLighters_j3 x5 = some b_1) (fun v => ⟨[(0, (V.sl (List.map e_api_Lease l))), (1, (V.sl (List.map V.i lighters))), (20, (V.sl (List.map V.i lighters))), (21, (V.i (lighters.length : Int))), (22, (V.i x5))], [], 0, none, 54⟩) ?_ ?_
    · intro _ hM
      replace hM : berth_CheckLighters_j3 x5 = some b_1 := hM
      unfold berth_CheckLighters_j3 at hM
      refine GS.endB ?_
      refine GS.region ?_
      refine X.opR rfl (X.addE rfl rfl) rfl ?_
      refine X.q rfl ?_
      refine GS.opsNil ?_
      have hE := Option.some.inj hM
      exact X.gc [] (hc_2 (w64 (x5 + 1)) hE.symm) rfl rfl rfl (ga rfl rfl) (gb_nil)
    intro hj_3
    refine GS.block ?_
    refine X.gc [] (X.loop (σ := Int) (fun v => ⟨[(0, (V.sl (List.map e_api_Lease l))), (1, (V.sl (List.map V.i lighters))), (6, (V.i x5)), (7, (V.i x)), (20, (V.sl (List.map V.i lighters))), (21, (V.i (lighters.length : Int))), (22, (V.i x5)), (31, (V.sl (List.map V.i l1))), (32, (V.i (l1.length : Int))), (33, (V.i v))], [], 0, none, 54⟩) hM ?_ rfl) rfl rfl rfl (ga rfl rfl) (gb_nil)
    intro x4 b_2 hM hc_4 hr_2
    rw [berth_CheckLighters_b4] at hM
    refine X.sq ?_
    refine X.q rfl ?_
    refine GS.opsNil ?_
    refine GS.seq ?_
    refine X.cond rfl (fun h_8 => ?_) (fun h_8 => ?_)
    · replace hM := ite_t h_8 hM
      refine GS.skip ?_
      refine GS.seq ?_
      refine GS.block ?_
      refine GS.seq ?_
      obtain ⟨x1, h_9, hM⟩ := bind_of hM
      refine GS.region ?_
      refine X.q rfl ?_
      refine X.opR rfl (X.indexF (f := V.i) h_9 (fun _ => rfl) rfl rfl rfl rfl) rfl ?_
      refine X.opR rfl (X.loadF h_9 rfl rfl rfl) rfl ?_
      iterate 2 refine X.q rfl ?_
      refine GS.opsNil ?_
      refine GS.seq ?_
      obtain ⟨x2, h_10, hM⟩ := gb_of hM
      obtain ⟨x3, h_11, hM⟩ := gb_of hM
      refine X.mid [(0, (V.sl (List.map e_api_Lease l))), (1, (V.sl (List.map V.i lighters))), (6, (V.i x5)), (7, (V.i x)), (20, (V.sl (List.map V.i lighters))), (21, (V.i (lighters.length : Int))), (22, (V.i x5)), (31, (V.sl (List.map V.i l1))), (32, (V.i (l1.length : Int))), (33, (V.i x4)), (51, (V.b ((decide (x = x1)) && (berth_atOnce x2 x3))))] ?_ ?_
      · intro hg
        refine X.split (decide (x = x1)) (fun h_12 => ?_) (fun h_12 => ?_)
        · refine X.drawc (by kernel_rfl) rfl ?_
          iterate 4 refine X.cop rfl rfl rfl rfl ?_
          iterate 2 refine X.cop (X.on_t rfl rfl rfl h_12) rfl rfl rfl ?_
          refine X.cop (X.on_t rfl rfl rfl h_12) (X.indexF (f := e_api_Lease) (h_10 h_12) (fun _ => rfl) rfl rfl rfl rfl) rfl rfl ?_
          refine X.cop (X.on_t rfl rfl rfl h_12) (X.loadF (h_10 h_12) rfl rfl rfl) rfl rfl ?_
          iterate 2 refine X.cop (X.on_t rfl rfl rfl h_12) rfl rfl rfl ?_
          refine X.cop (X.on_t rfl rfl rfl h_12) (X.indexF (f := e_api_Lease) (h_11 h_12) (fun _ => rfl) rfl rfl rfl rfl) rfl rfl ?_
          refine X.cop (X.on_t rfl rfl rfl h_12) (X.loadF (h_11 h_12) rfl rfl rfl) rfl rfl ?_
          refine X.ccall (ok_berth_atOnce x2 x3) (X.on_t rfl rfl rfl h_12) rfl rfl rfl (.cons (.shut (n := 9) rfl) (.cons (.shut (n := 9) rfl) .nil)) ?_
          refine X.cop rfl (X.pickand_t (y := (berth_atOnce x2 x3)) rfl h_12 rfl) rfl rfl ?_
          refine X.cnil ?_
          exact X.norm _ hg rfl (sr rfl)
        refine X.drawc (by kernel_rfl) rfl ?_
        iterate 4 refine X.cop rfl rfl rfl rfl ?_
        iterate 9 refine X.coff (X.off_t rfl rfl rfl h_12) rfl rfl ?_
        refine X.cop rfl (X.pickand_f (y := (berth_atOnce x2 x3)) rfl h_12 rfl) rfl rfl ?_
        refine X.cnil ?_
        exact X.norm _ hg rfl (sr rfl)
      refine X.cond rfl (fun h_13 => ?_) (fun h_13 => ?_)
      · replace hM := ite_t h_13 hM
        refine X.sq ?_
        refine X.q rfl ?_
        refine GS.opsNil ?_
        have hE := Option.some.inj hM
        replace hE := hr_2 _ hE.symm
        replace hE := hr_1 _ hE.symm
        subst hE
        exact GS.ret ⟨_, rfl, ⟨30, rfl⟩⟩
      replace hM := ite_f h_13 hM
      refine GS.skip ?_
      refine GS.endB ?_
      refine GS.region ?_
      refine X.opR rfl (X.addE rfl rfl) rfl ?_
      refine X.q rfl ?_
      refine GS.opsNil ?_
      have hE := Option.some.inj hM
      exact X.gc [] (hc_4 (w64 (x4 + 1)) hE.symm) rfl rfl rfl (ga rfl rfl) (gb_nil)
    replace hM := ite_f h_8 hM
    refine GS.exit rfl ?_
    obtain ⟨y_2, hM, hy⟩ := map_of hM
    rw [hr_2 _ hy.symm] at hM
    exact X.gc [] (hj_3 () hM) rfl rfl rfl (ga rfl rfl) (gb_nil)
  replace hM := ite_f h_4 hM
  refine GS.exit rfl ?_
  obtain ⟨y_1, hM, hy⟩ := map_of hM
  rw [hr_1 _ hy.symm] at hM
  exact X.gc [] (hj_1 () hM) rfl rfl rfl (gk_nil) (gb_nil)

theorem ok_ref06_CheckLighters {l : (List api_Lease)} {lighters : (List Int)} {r : Int} (hM : ref06_CheckLighters l lighters = some r) : Ct Try.prog 48 [(V.sl (List.map e_api_Lease l)), (V.sl (List.map V.i lighters))] (V.i r) := by
  refine ct_of_gs CC_ok rfl ?_
  unfold ref06_CheckLighters at hM
  refine X.sq ?_
  refine X.q rfl ?_
  refine GS.opsNil ?_
  refine GS.seq ?_
  obtain ⟨y, h_1, hM⟩ := bind_of hM
  refine GS.region ?_
  refine X.q rfl ?_
  refine X.call (ok_ref06_CheckLeases h_1) rfl rfl rfl (.cons (.shut (n := 9) rfl) .nil) ?_
  refine X.q rfl ?_
  refine GS.opsNil ?_
  refine GS.seq ?_
  refine X.sq ?_
  iterate 2 refine X.q rfl ?_
  refine GS.opsNil ?_
  refine X.cond rfl (fun h_2 => ?_) (fun h_2 => ?_)
  · replace hM := ite_t h_2 hM
    refine X.sq ?_
    iterate 2 refine X.q rfl ?_
    refine GS.opsNil ?_
    have hE := Option.some.inj hM
    subst hE
    exact GS.ret ⟨_, rfl, ⟨30, rfl⟩⟩
  replace hM := ite_f h_2 hM
  refine GS.skip ?_
  refine GS.seq ?_
  refine X.sq ?_
  refine X.q rfl ?_
  refine X.opR rfl (X.lenF rfl rfl rfl) rfl ?_
  refine X.q rfl ?_
  refine X.opR rfl (X.lenF rfl rfl rfl) rfl ?_
  refine X.q rfl ?_
  refine GS.opsNil ?_
  refine X.cond rfl (fun h_3 => ?_) (fun h_3 => ?_)
  · replace hM := ite_t h_3 hM
    refine X.sq ?_
    refine X.q rfl ?_
    refine GS.opsNil ?_
    have hE := Option.some.inj hM
    subst hE
    exact GS.ret ⟨_, rfl, ⟨30, rfl⟩⟩
  replace hM := ite_f h_3 hM
  refine GS.skip ?_
  refine GS.seq ?_
  refine X.sq ?_
  refine X.q rfl ?_
  refine GS.opsNil ?_
  refine X.join (τ := Unit) (fun v => ref06_CheckLighters_j1 = some r) (fun v => ⟨[], [], 0, none, 56⟩) ?_ ?_
  · intro _ hM
    replace hM : ref06_CheckLighters_j1 = some r := hM
    unfold ref06_CheckLighters_j1 at hM
    refine X.sq ?_
    refine X.q rfl ?_
    refine GS.opsNil ?_
    have hE := Option.some.inj hM
    subst hE
    exact GS.ret ⟨_, rfl, ⟨30, rfl⟩⟩
  intro hj_1
  refine GS.block ?_
  refine X.gc [] (X.loop (σ := Int) (fun v => ⟨[(0, (V.sl (List.map e_api_Lease l))), (1, (V.sl (List.map V.i lighters))), (6, (V.i v))], [], 0, none, 56⟩) hM ?_ rfl) rfl rfl rfl (ga rfl rfl) (gb_nil)
  intro i b_1 hM hc_2 hr_1
  rw [ref06_CheckLighters_b2] at hM
  refine GS.seq ?_
  refine X.sq ?_
  iterate 2 refine X.q rfl ?_
  refine X.opR rfl (X.lenF rfl rfl rfl) rfl ?_
  refine X.q rfl ?_
  refine GS.opsNil ?_
  refine X.cond rfl (fun h_4 => ?_) (fun h_4 => ?_)
  · replace hM := ite_t h_4 hM
    refine GS.skip ?_
    refine GS.seq ?_
    refine GS.block ?_
    refine GS.seq ?_
    refine X.sq ?_
    refine X.q rfl ?_
    refine GS.opsNil ?_
    refine X.join (τ := Unit) (fun v => ref06_CheckLighters_j3 lighters i = some b_1) (fun v => ⟨[(0, (V.sl (List.map e_api_Lease l))), (1, (V.sl (List.map V.i lighters))), (6, (V.i i))], [], 0, none, 56⟩) ?_ ?_
    · intro _ hM
      replace hM : ref06_CheckLighters_j3 lighters i = some b_1 := hM
      unfold ref06_CheckLighters_j3 at hM
      refine GS.seq ?_
      obtain ⟨x, h_5, hM⟩ := bind_of hM
      refine GS.region ?_
      iterate 2 refine X.q rfl ?_
      refine X.opR rfl (X.indexF (f := V.i) h_5 (fun _ => rfl) rfl rfl rfl rfl) rfl ?_
      refine X.opR rfl (X.loadF h_5 rfl rfl rfl) rfl ?_
      refine X.q rfl ?_
      refine GS.opsNil ?_
      refine X.cond rfl (fun h_6 => ?_) (fun h_6 => ?_)
      · replace hM := ite_t h_6 hM
        refine X.sq ?_
        refine X.q rfl ?_
        refine GS.opsNil ?_
        have hE := Option.some.inj hM
        replace hE := hr_1 _ hE.symm
        subst hE
        exact GS.ret ⟨_, rfl, ⟨30, rfl⟩⟩
      replace hM := ite_f h_6 hM
      refine GS.skip ?_
      refine GS.endB ?_
      refine GS.region ?_
      refine X.q rfl ?_
      refine X.opR rfl (X.addE rfl rfl) rfl ?_
      refine X.q rfl ?_
      refine GS.opsNil ?_
      have hE := Option.some.inj hM
      exact X.gc [] (hc_2 (w64 (i + 1)) hE.symm) rfl rfl rfl (ga rfl rfl) (gb_nil)
    intro hj_3
    refine GS.block ?_
    refine X.gc [] (X.loop (σ := Int) (fun v => ⟨[(0, (V.sl (List.map e_api_Lease l))), (1, (V.sl (List.map V.i lighters))), (6, (V.i i)), (7, (V.i v))], [], 0, none, 56⟩) hM ?_ rfl) rfl rfl rfl (ga rfl rfl) (gb_nil)
    intro k b_2 hM hc_4 hr_2
    rw [ref06_CheckLighters_b4] at hM
    refine GS.seq ?_
    refine X.sq ?_
    iterate 3 refine X.q rfl ?_
    refine GS.opsNil ?_
    refine X.cond rfl (fun h_7 => ?_) (fun h_7 => ?_)
    · replace hM := ite_t h_7 hM
      refine GS.skip ?_
      refine GS.seq ?_
      refine GS.block ?_
      refine GS.seq ?_
      obtain ⟨x1, h_8, hM⟩ := bind_of hM
      obtain ⟨x2, h_9, hM⟩ := bind_of hM
      obtain ⟨x3, h_10, hM⟩ := gb_of hM
      obtain ⟨x4, h_11, hM⟩ := gb_of hM
      refine X.mid [(0, (V.sl (List.map e_api_Lease l))), (1, (V.sl (List.map V.i lighters))), (6, (V.i i)), (7, (V.i k)), (50, (V.b ((decide (x1 = x2)) && (ref06_atOnce x3.Span x4.Span))))] ?_ ?_
      · intro hg
        refine X.split (decide (x1 = x2)) (fun h_12 => ?_) (fun h_12 => ?_)
        · refine X.drawc (by kernel_rfl) rfl ?_
          iterate 2 refine X.cop rfl rfl rfl rfl ?_
          refine X.cop rfl (X.indexF (f := V.i) h_8 (fun _ => rfl) rfl rfl rfl rfl) rfl rfl ?_
          refine X.cop rfl (X.loadF h_8 rfl rfl rfl) rfl rfl ?_
          iterate 2 refine X.cop rfl rfl rfl rfl ?_
          refine X.cop rfl (X.indexF (f := V.i) h_9 (fun _ => rfl) rfl rfl rfl rfl) rfl rfl ?_
          refine X.cop rfl (X.loadF h_9 rfl rfl rfl) rfl rfl ?_
          iterate 2 refine X.cop rfl rfl rfl rfl ?_
          iterate 2 refine X.cop (X.on_t rfl rfl rfl h_12) rfl rfl rfl ?_
          refine X.cop (X.on_t rfl rfl rfl h_12) (X.indexF (f := e_api_Lease) (h_10 h_12) (fun _ => rfl) rfl rfl rfl rfl) rfl rfl ?_
          refine X.cop (X.on_t rfl rfl rfl h_12) rfl rfl rfl ?_
          refine X.cop (X.on_t rfl rfl rfl h_12) (X.loadF (h_10 h_12) rfl rfl rfl) rfl rfl ?_
          iterate 2 refine X.cop (X.on_t rfl rfl rfl h_12) rfl rfl rfl ?_
          refine X.cop (X.on_t rfl rfl rfl h_12) (X.indexF (f := e_api_Lease) (h_11 h_12) (fun _ => rfl) rfl rfl rfl rfl) rfl rfl ?_
          refine X.cop (X.on_t rfl rfl rfl h_12) rfl rfl rfl ?_
          refine X.cop (X.on_t rfl rfl rfl h_12) (X.loadF (h_11 h_12) rfl rfl rfl) rfl rfl ?_
          refine X.ccall (ok_ref06_atOnce x3.Span x4.Span) (X.on_t rfl rfl rfl h_12) rfl rfl rfl (.cons (.shut (n := 9) rfl) (.cons (.shut (n := 9) rfl) .nil)) ?_
          refine X.cop rfl (X.pickand_t (y := (ref06_atOnce x3.Span x4.Span)) rfl h_12 rfl) rfl rfl ?_
          refine X.cnil ?_
          exact X.norm _ hg rfl (sr rfl)
        refine X.drawc (by kernel_rfl) rfl ?_
        iterate 2 refine X.cop rfl rfl rfl rfl ?_
        refine X.cop rfl (X.indexF (f := V.i) h_8 (fun _ => rfl) rfl rfl rfl rfl) rfl rfl ?_
        refine X.cop rfl (X.loadF h_8 rfl rfl rfl) rfl rfl ?_
        iterate 2 refine X.cop rfl rfl rfl rfl ?_
        refine X.cop rfl (X.indexF (f := V.i) h_9 (fun _ => rfl) rfl rfl rfl rfl) rfl rfl ?_
        refine X.cop rfl (X.loadF h_9 rfl rfl rfl) rfl rfl ?_
        iterate 2 refine X.cop rfl rfl rfl rfl ?_
        iterate 11 refine X.coff (X.off_t rfl rfl rfl h_12) rfl rfl ?_
        refine X.cop rfl (X.pickand_f (y := (ref06_atOnce x3.Span x4.Span)) rfl h_12 rfl) rfl rfl ?_
        refine X.cnil ?_
        exact X.norm _ hg rfl (sr rfl)
      refine X.cond rfl (fun h_13 => ?_) (fun h_13 => ?_)
      · replace hM := ite_t h_13 hM
        refine X.sq ?_
        refine X.q rfl ?_
        refine GS.opsNil ?_
        have hE := Option.some.inj hM
        replace hE := hr_2 _ hE.symm
        replace hE := hr_1 _ hE.symm
        subst hE
        exact GS.ret ⟨_, rfl, ⟨30, rfl⟩⟩
      replace hM := ite_f h_13 hM
      refine GS.skip ?_
      refine GS.endB ?_
      refine GS.region ?_
      refine X.q rfl ?_
      refine X.opR rfl (X.addE rfl rfl) rfl ?_
      refine X.q rfl ?_
      refine GS.opsNil ?_
      have hE := Option.some.inj hM
      exact X.gc [] (hc_4 (w64 (k + 1)) hE.symm) rfl rfl rfl (ga rfl rfl) (gb_nil)
    replace hM := ite_f h_7 hM
    refine GS.exit rfl ?_
    obtain ⟨y_2, hM, hy⟩ := map_of hM
    rw [hr_2 _ hy.symm] at hM
    exact X.gc [] (hj_3 () hM) rfl rfl rfl (ga rfl rfl) (gb_nil)
  replace hM := ite_f h_4 hM
  refine GS.exit rfl ?_
  obtain ⟨y_1, hM, hy⟩ := map_of hM
  rw [hr_1 _ hy.symm] at hM
  exact X.gc [] (hj_1 () hM) rfl rfl rfl (gk_nil) (gb_nil)

theorem eq_api_Lease (a b : api_Lease) : eqA CC.ty 88 (e_api_Lease a) (e_api_Lease b) = some (decide (a = b)) := by
  refine (X.eqa rfl rfl (X.eqp rfl rfl rfl (X.eqp rfl rfl rfl (X.eqp rfl rfl (X.eqs rfl rfl (X.eqp rfl rfl rfl (X.eqp rfl rfl rfl X.eqn'))) X.eqn')))).trans ?_
  congr 1
  rw [Bool.eq_iff_iff]
  simp only [Bool.and_eq_true, decide_eq_true_eq, beq_iff_eq, and_true]
  constructor
  · intro h
    obtain ⟨a1, a2, ⟨a3, a4⟩⟩ := a
    obtain ⟨b5, b6, ⟨b7, b8⟩⟩ := b
    simp at h
    simp [h]
  · rintro rfl
    simp

theorem ok_ref06_SameLeases {a : (List api_Lease)} {b : (List api_Lease)} {r : Bool} (hM : ref06_SameLeases a b = some r) : Ct Try.prog 50 [(V.sl (List.map e_api_Lease a)), (V.sl (List.map e_api_Lease b))] (V.b r) := by
  refine ct_of_gs CC_ok rfl ?_
  unfold ref06_SameLeases at hM
  refine X.sq ?_
  refine X.q rfl ?_
  refine GS.opsNil ?_
  refine GS.seq ?_
  refine X.sq ?_
  refine X.q rfl ?_
  refine X.opR rfl (X.lenF rfl rfl rfl) rfl ?_
  refine X.q rfl ?_
  refine X.opR rfl (X.lenF rfl rfl rfl) rfl ?_
  refine X.q rfl ?_
  refine GS.opsNil ?_
  refine X.cond rfl (fun h_1 => ?_) (fun h_1 => ?_)
  · replace hM := ite_t h_1 hM
    refine X.sq ?_
    refine X.q rfl ?_
    refine GS.opsNil ?_
    have hE := Option.some.inj hM
    subst hE
    exact GS.ret ⟨_, rfl, ⟨30, rfl⟩⟩
  replace hM := ite_f h_1 hM
  refine GS.skip ?_
  refine GS.seq ?_
  refine X.sq ?_
  refine X.q rfl ?_
  refine GS.opsNil ?_
  refine X.join (τ := Unit) (fun v => ref06_SameLeases_j1 = some r) (fun v => ⟨[], [], 0, none, 26⟩) ?_ ?_
  · intro _ hM
    replace hM : ref06_SameLeases_j1 = some r := hM
    unfold ref06_SameLeases_j1 at hM
    refine X.sq ?_
    refine X.q rfl ?_
    refine GS.opsNil ?_
    have hE := Option.some.inj hM
    subst hE
    exact GS.ret ⟨_, rfl, ⟨30, rfl⟩⟩
  intro hj_1
  refine GS.block ?_
  refine X.gc [] (X.loop (σ := Int) (fun v => ⟨[(0, (V.sl (List.map e_api_Lease a))), (1, (V.sl (List.map e_api_Lease b))), (5, (V.i v))], [], 0, none, 26⟩) hM ?_ rfl) rfl rfl rfl (ga rfl rfl) (gb_nil)
  intro i b_1 hM hc_2 hr_1
  rw [ref06_SameLeases_b2] at hM
  refine GS.seq ?_
  refine X.sq ?_
  iterate 2 refine X.q rfl ?_
  refine X.opR rfl (X.lenF rfl rfl rfl) rfl ?_
  refine X.q rfl ?_
  refine GS.opsNil ?_
  refine X.cond rfl (fun h_2 => ?_) (fun h_2 => ?_)
  · replace hM := ite_t h_2 hM
    refine GS.skip ?_
    refine GS.seq ?_
    refine GS.block ?_
    refine GS.seq ?_
    obtain ⟨x, h_3, hM⟩ := bind_of hM
    obtain ⟨x1, h_4, hM⟩ := bind_of hM
    refine X.drawc (by kernel_rfl) rfl ?_
    iterate 2 refine X.cop rfl rfl rfl rfl ?_
    refine X.cop rfl (X.indexF (f := e_api_Lease) h_3 (fun _ => rfl) rfl rfl rfl rfl) rfl rfl ?_
    refine X.cop rfl (X.loadF h_3 rfl rfl rfl) rfl rfl ?_
    iterate 2 refine X.cop rfl rfl rfl rfl ?_
    refine X.cop rfl (X.indexF (f := e_api_Lease) h_4 (fun _ => rfl) rfl rfl rfl rfl) rfl rfl ?_
    refine X.cop rfl (X.loadF h_4 rfl rfl rfl) rfl rfl ?_
    refine X.cop rfl (X.neqE (eq_api_Lease x x1) rfl rfl) rfl rfl ?_
    refine X.cnil ?_
    refine X.norm [(0, (V.sl (List.map e_api_Lease a))), (1, (V.sl (List.map e_api_Lease b))), (5, (V.i i)), (25, (V.b (!decide (x = x1))))] ?_ rfl (sr rfl)
    refine X.cond rfl (fun h_5 => ?_) (fun h_5 => ?_)
    · replace hM := ite_t h_5 hM
      refine X.sq ?_
      refine X.q rfl ?_
      refine GS.opsNil ?_
      have hE := Option.some.inj hM
      replace hE := hr_1 _ hE.symm
      subst hE
      exact GS.ret ⟨_, rfl, ⟨30, rfl⟩⟩
    replace hM := ite_f h_5 hM
    refine GS.skip ?_
    refine GS.endB ?_
    refine GS.region ?_
    refine X.q rfl ?_
    refine X.opR rfl (X.addE rfl rfl) rfl ?_
    refine X.q rfl ?_
    refine GS.opsNil ?_
    have hE := Option.some.inj hM
    exact X.gc [] (hc_2 (w64 (i + 1)) hE.symm) rfl rfl rfl (ga rfl rfl) (gb_nil)
  replace hM := ite_f h_2 hM
  refine GS.exit rfl ?_
  obtain ⟨y_1, hM, hy⟩ := map_of hM
  rw [hr_1 _ hy.symm] at hM
  exact X.gc [] (hj_1 () hM) rfl rfl rfl (gk_nil) (gb_nil)

set_option maxHeartbeats 4000000 in
theorem ok_law06_BerthLighters {l : (List api_Lease)} {x : (List Int)} {r : Bool} (hM : law06_BerthLighters l x = some r) : Ct Try.prog 10 [(V.sl (List.map e_api_Lease l)), (V.sl (List.map V.i x))] (V.b r) := by
  refine ct_of_gs CC_ok rfl ?_
  unfold law06_BerthLighters at hM
  refine X.sq ?_
  refine X.q rfl ?_
  refine GS.opsNil ?_
  refine GS.seq ?_
  refine X.sq ?_
  refine X.mid [(0, (V.sl (List.map e_api_Lease l))), (1, (V.sl (List.map V.i x))), (39, (V.b ((((decide (20 < (l.length : Int))) && (decide ((l.length : Int) ≤ 40))) || (decide (60 < (l.length : Int)))) || (decide (50 < (x.length : Int))))))] ?_ ?_
  · intro hg
    refine X.split (decide (20 < (l.length : Int))) (fun h_1 => ?_) (fun h_1 => ?_)
    · refine X.split (((decide (20 < (l.length : Int))) && (decide ((l.length : Int) ≤ 40)))) (fun h_2 => ?_) (fun h_2 => ?_)
      · refine X.q rfl ?_
        refine X.opR rfl (X.lenF rfl rfl rfl) rfl ?_
        iterate 2 refine X.q rfl ?_
        refine X.opR (X.on_t rfl rfl rfl h_1) rfl rfl ?_
        refine X.opR (X.on_t rfl rfl rfl h_1) (X.lenF rfl rfl rfl) rfl ?_
        refine X.opR (X.on_t rfl rfl rfl h_1) rfl rfl ?_
        refine X.opR rfl (X.pickand_t (y := decide ((l.length : Int) ≤ 40)) rfl h_1 rfl) rfl ?_
        refine X.q rfl ?_
        iterate 3 refine X.off (X.off_f rfl rfl rfl h_2) rfl ?_
        refine X.opR rfl (X.pickor_t (y := decide (60 < (l.length : Int))) rfl h_2 rfl) rfl ?_
        refine X.q rfl ?_
        iterate 3 refine X.off (X.off_f rfl rfl rfl (X.or_tt h_2)) rfl ?_
        refine X.opR rfl (X.pickor_t (y := decide (50 < (x.length : Int))) rfl (X.or_tt h_2) rfl) rfl ?_
        refine GS.opsNil ?_
        exact X.norm _ hg rfl (sr rfl)
      refine X.split ((((decide (20 < (l.length : Int))) && (decide ((l.length : Int) ≤ 40))) || (decide (60 < (l.length : Int))))) (fun h_3 => ?_) (fun h_3 => ?_)
      · refine X.q rfl ?_
        refine X.opR rfl (X.lenF rfl rfl rfl) rfl ?_
        iterate 2 refine X.q rfl ?_
        refine X.opR (X.on_t rfl rfl rfl h_1) rfl rfl ?_
        refine X.opR (X.on_t rfl rfl rfl h_1) (X.lenF rfl rfl rfl) rfl ?_
        refine X.opR (X.on_t rfl rfl rfl h_1) rfl rfl ?_
        refine X.opR rfl (X.pickand_t (y := decide ((l.length : Int) ≤ 40)) rfl h_1 rfl) rfl ?_
        refine X.q rfl ?_
        refine X.opR (X.on_f rfl rfl rfl h_2) rfl rfl ?_
        refine X.opR (X.on_f rfl rfl rfl h_2) (X.lenF rfl rfl rfl) rfl ?_
        refine X.opR (X.on_f rfl rfl rfl h_2) rfl rfl ?_
        refine X.opR rfl (X.pickor_f (y := decide (60 < (l.length : Int))) rfl h_2 rfl) rfl ?_
        refine X.q rfl ?_
        iterate 3 refine X.off (X.off_f rfl rfl rfl h_3) rfl ?_
        refine X.opR rfl (X.pickor_t (y := decide (50 < (x.length : Int))) rfl h_3 rfl) rfl ?_
        refine GS.opsNil ?_
        exact X.norm _ hg rfl (sr rfl)
      refine X.q rfl ?_
      refine X.opR rfl (X.lenF rfl rfl rfl) rfl ?_
      iterate 2 refine X.q rfl ?_
      refine X.opR (X.on_t rfl rfl rfl h_1) rfl rfl ?_
      refine X.opR (X.on_t rfl rfl rfl h_1) (X.lenF rfl rfl rfl) rfl ?_
      refine X.opR (X.on_t rfl rfl rfl h_1) rfl rfl ?_
      refine X.opR rfl (X.pickand_t (y := decide ((l.length : Int) ≤ 40)) rfl h_1 rfl) rfl ?_
      refine X.q rfl ?_
      refine X.opR (X.on_f rfl rfl rfl h_2) rfl rfl ?_
      refine X.opR (X.on_f rfl rfl rfl h_2) (X.lenF rfl rfl rfl) rfl ?_
      refine X.opR (X.on_f rfl rfl rfl h_2) rfl rfl ?_
      refine X.opR rfl (X.pickor_f (y := decide (60 < (l.length : Int))) rfl h_2 rfl) rfl ?_
      refine X.q rfl ?_
      refine X.opR (X.on_f rfl rfl rfl h_3) rfl rfl ?_
      refine X.opR (X.on_f rfl rfl rfl h_3) (X.lenF rfl rfl rfl) rfl ?_
      refine X.opR (X.on_f rfl rfl rfl h_3) rfl rfl ?_
      refine X.opR rfl (X.pickor_f (y := decide (50 < (x.length : Int))) rfl h_3 rfl) rfl ?_
      refine GS.opsNil ?_
      exact X.norm _ hg rfl (sr rfl)
    refine X.split ((((decide (20 < (l.length : Int))) && (decide ((l.length : Int) ≤ 40))) || (decide (60 < (l.length : Int))))) (fun h_4 => ?_) (fun h_4 => ?_)
    · refine X.q rfl ?_
      refine X.opR rfl (X.lenF rfl rfl rfl) rfl ?_
      iterate 2 refine X.q rfl ?_
      iterate 3 refine X.off (X.off_t rfl rfl rfl h_1) rfl ?_
      refine X.opR rfl (X.pickand_f (y := decide ((l.length : Int) ≤ 40)) rfl h_1 rfl) rfl ?_
      refine X.q rfl ?_
      refine X.opR (X.on_f rfl rfl rfl (X.and_ff h_1)) rfl rfl ?_
      refine X.opR (X.on_f rfl rfl rfl (X.and_ff h_1)) (X.lenF rfl rfl rfl) rfl ?_
      refine X.opR (X.on_f rfl rfl rfl (X.and_ff h_1)) rfl rfl ?_
      refine X.opR rfl (X.pickor_f (y := decide (60 < (l.length : Int))) rfl (X.and_ff h_1) rfl) rfl ?_
      refine X.q rfl ?_
      iterate 3 refine X.off (X.off_f rfl rfl rfl h_4) rfl ?_
      refine X.opR rfl (X.pickor_t (y := decide (50 < (x.length : Int))) rfl h_4 rfl) rfl ?_
      refine GS.opsNil ?_
      exact X.norm _ hg rfl (sr rfl)
    refine X.q rfl ?_
    refine X.opR rfl (X.lenF rfl rfl rfl) rfl ?_
    iterate 2 refine X.q rfl ?_
    iterate 3 refine X.off (X.off_t rfl rfl rfl h_1) rfl ?_
    refine X.opR rfl (X.pickand_f (y := decide ((l.length : Int) ≤ 40)) rfl h_1 rfl) rfl ?_
    refine X.q rfl ?_
    refine X.opR (X.on_f rfl rfl rfl (X.and_ff h_1)) rfl rfl ?_
    refine X.opR (X.on_f rfl rfl rfl (X.and_ff h_1)) (X.lenF rfl rfl rfl) rfl ?_
    refine X.opR (X.on_f rfl rfl rfl (X.and_ff h_1)) rfl rfl ?_
    refine X.opR rfl (X.pickor_f (y := decide (60 < (l.length : Int))) rfl (X.and_ff h_1) rfl) rfl ?_
    refine X.q rfl ?_
    refine X.opR (X.on_f rfl rfl rfl h_4) rfl rfl ?_
    refine X.opR (X.on_f rfl rfl rfl h_4) (X.lenF rfl rfl rfl) rfl ?_
    refine X.opR (X.on_f rfl rfl rfl h_4) rfl rfl ?_
    refine X.opR rfl (X.pickor_f (y := decide (50 < (x.length : Int))) rfl h_4 rfl) rfl ?_
    refine GS.opsNil ?_
    exact X.norm _ hg rfl (sr rfl)
  refine X.cond rfl (fun h_5 => ?_) (fun h_5 => ?_)
  · replace hM := ite_t h_5 hM
    refine GS.seq ?_
    obtain ⟨y, h_6, hM⟩ := bind_of hM
    refine GS.region ?_
    refine X.call (ok_law06_lent h_6) rfl rfl rfl .nil ?_
    refine X.q rfl ?_
    refine GS.opsNil ?_
    have hE := Option.some.inj hM
    subst hE
    exact GS.ret ⟨_, rfl, ⟨30, rfl⟩⟩
  replace hM := ite_f h_5 hM
  refine GS.skip ?_
  refine GS.seq ?_
  obtain ⟨y1, h_7, hM⟩ := bind_of hM
  refine GS.region ?_
  refine X.q rfl ?_
  refine X.call (ok_berth_Lighters h_7) rfl rfl rfl (.cons (.shut (n := 9) rfl) .nil) ?_
  iterate 7 refine X.q rfl ?_
  refine GS.opsNil ?_
  refine GS.seq ?_
  obtain ⟨y2, h_8, hM⟩ := bind_of hM
  refine GS.region ?_
  refine X.q rfl ?_
  refine X.call (ok_ref06_Lighters h_8) rfl rfl rfl (.cons (.shut (n := 9) rfl) .nil) ?_
  refine X.opW rfl rfl rfl rfl ?_
  refine X.op0W rfl rfl rfl ?_
  refine GS.opsNil ?_
  refine GS.seq ?_
  obtain ⟨y3, h_9, hM⟩ := bind_of hM
  refine GS.region ?_
  refine X.q rfl ?_
  refine X.call (ok_berth_Busiest h_9) rfl rfl rfl (.cons (.shut (n := 9) rfl) .nil) ?_
  iterate 7 refine X.q rfl ?_
  refine GS.opsNil ?_
  refine GS.seq ?_
  obtain ⟨y4, h_10, hM⟩ := bind_of hM
  refine GS.region ?_
  refine X.q rfl ?_
  refine X.call (ok_ref06_Busiest h_10) rfl rfl rfl (.cons (.shut (n := 9) rfl) .nil) ?_
  iterate 7 refine X.q rfl ?_
  refine GS.opsNil ?_
  refine GS.seq ?_
  obtain ⟨y5, h_11, hM⟩ := bind_of hM
  refine GS.region ?_
  refine X.q rfl ?_
  refine X.call (ok_berth_Clashes h_11) rfl rfl rfl (.cons (.shut (n := 9) rfl) .nil) ?_
  iterate 5 refine X.q rfl ?_
  refine GS.opsNil ?_
  refine GS.seq ?_
  obtain ⟨y6, h_12, hM⟩ := bind_of hM
  refine GS.region ?_
  refine X.q rfl ?_
  refine X.call (ok_ref06_Clashes h_12) rfl rfl rfl (.cons (.shut (n := 9) rfl) .nil) ?_
  refine X.opW rfl rfl rfl rfl ?_
  refine X.op0W rfl rfl rfl ?_
  refine GS.opsNil ?_
  refine GS.seq ?_
  obtain ⟨y7, h_13, hM⟩ := bind_of hM
  refine GS.region ?_
  refine X.q rfl ?_
  refine X.call (ok_berth_Queue h_13) rfl rfl rfl (.cons (.shut (n := 9) rfl) .nil) ?_
  iterate 5 refine X.q rfl ?_
  refine GS.opsNil ?_
  refine GS.seq ?_
  obtain ⟨y8, h_14, hM⟩ := bind_of hM
  refine GS.region ?_
  refine X.q rfl ?_
  refine X.call (ok_ref06_Queue h_14) rfl rfl rfl (.cons (.shut (n := 9) rfl) .nil) ?_
  refine X.opW rfl rfl rfl rfl ?_
  refine X.op0W rfl rfl rfl ?_
  refine GS.opsNil ?_
  refine GS.seq ?_
  obtain ⟨y9, h_15, hM⟩ := bind_of hM
  refine GS.region ?_
  refine X.mid [(0, (V.sl (List.map e_api_Lease l))), (1, (V.sl (List.map V.i x))), (15, (V.sl (List.map e_Arr_2_int y5.1))), (16, (V.i y5.2)), (17, (V.ptr 1 0 0)), (18, (V.sl (List.map e_api_Lease y7.1))), (19, (V.i y7.2)), (20, (V.ptr 2 0 0)), (21, (V.b (((((y9 && (decide (y1.2.1 = y2.N))) && (decide (y1.2.2 = y2.E))) && (decide (y3.1 = y4.1))) && (decide (y3.2.1 = y4.2.1))) && (decide (y3.2.2 = y4.2.2)))))] ?_ ?_
  · intro hg
    refine X.split (y9) (fun h_16 => ?_) (fun h_16 => ?_)
    · refine X.split ((y9 && (decide (y1.2.1 = y2.N)))) (fun h_17 => ?_) (fun h_17 => ?_)
      · refine X.split (((y9 && (decide (y1.2.1 = y2.N))) && (decide (y1.2.2 = y2.E)))) (fun h_18 => ?_) (fun h_18 => ?_)
        · refine X.split ((((y9 && (decide (y1.2.1 = y2.N))) && (decide (y1.2.2 = y2.E))) && (decide (y3.1 = y4.1)))) (fun h_19 => ?_) (fun h_19 => ?_)
          · refine X.split (((((y9 && (decide (y1.2.1 = y2.N))) && (decide (y1.2.2 = y2.E))) && (decide (y3.1 = y4.1))) && (decide (y3.2.1 = y4.2.1)))) (fun h_20 => ?_) (fun h_20 => ?_)
            · iterate 3 refine X.q rfl ?_
              refine X.call (ok_ref06_SameInts h_15) rfl rfl rfl (.cons (.shut (n := 9) rfl) (.cons (.shut (n := 9) rfl) .nil)) ?_
              refine X.q rfl ?_
              iterate 4 refine X.opR (X.on_t rfl rfl rfl h_16) rfl rfl ?_
              refine X.opR rfl (X.pickand_t (y := decide (y1.2.1 = y2.N)) rfl h_16 rfl) rfl ?_
              refine X.q rfl ?_
              iterate 4 refine X.opR (X.on_t rfl rfl rfl h_17) rfl rfl ?_
              refine X.opR rfl (X.pickand_t (y := decide (y1.2.2 = y2.E)) rfl h_17 rfl) rfl ?_
              refine X.q rfl ?_
              iterate 3 refine X.opR (X.on_t rfl rfl rfl h_18) rfl rfl ?_
              refine X.opR rfl (X.pickand_t (y := decide (y3.1 = y4.1)) rfl h_18 rfl) rfl ?_
              refine X.q rfl ?_
              iterate 3 refine X.opR (X.on_t rfl rfl rfl h_19) rfl rfl ?_
              refine X.opR rfl (X.pickand_t (y := decide (y3.2.1 = y4.2.1)) rfl h_19 rfl) rfl ?_
              refine X.q rfl ?_
              iterate 3 refine X.opR (X.on_t rfl rfl rfl h_20) rfl rfl ?_
              refine X.opR rfl (X.pickand_t (y := decide (y3.2.2 = y4.2.2)) rfl h_20 rfl) rfl ?_
              refine X.q rfl ?_
              refine GS.opsNil ?_
              exact X.norm _ hg rfl (sr rfl)
            iterate 3 refine X.q rfl ?_
            refine X.call (ok_ref06_SameInts h_15) rfl rfl rfl (.cons (.shut (n := 9) rfl) (.cons (.shut (n := 9) rfl) .nil)) ?_
            refine X.q rfl ?_
            iterate 4 refine X.opR (X.on_t rfl rfl rfl h_16) rfl rfl ?_
            refine X.opR rfl (X.pickand_t (y := decide (y1.2.1 = y2.N)) rfl h_16 rfl) rfl ?_
            refine X.q rfl ?_
            iterate 4 refine X.opR (X.on_t rfl rfl rfl h_17) rfl rfl ?_
            refine X.opR rfl (X.pickand_t (y := decide (y1.2.2 = y2.E)) rfl h_17 rfl) rfl ?_
            refine X.q rfl ?_
            iterate 3 refine X.opR (X.on_t rfl rfl rfl h_18) rfl rfl ?_
            refine X.opR rfl (X.pickand_t (y := decide (y3.1 = y4.1)) rfl h_18 rfl) rfl ?_
            refine X.q rfl ?_
            iterate 3 refine X.opR (X.on_t rfl rfl rfl h_19) rfl rfl ?_
            refine X.opR rfl (X.pickand_t (y := decide (y3.2.1 = y4.2.1)) rfl h_19 rfl) rfl ?_
            refine X.q rfl ?_
            iterate 3 refine X.off (X.off_t rfl rfl rfl h_20) rfl ?_
            refine X.opR rfl (X.pickand_f (y := decide (y3.2.2 = y4.2.2)) rfl h_20 rfl) rfl ?_
            refine X.q rfl ?_
            refine GS.opsNil ?_
            exact X.norm _ hg rfl (sr rfl)
          iterate 3 refine X.q rfl ?_
          refine X.call (ok_ref06_SameInts h_15) rfl rfl rfl (.cons (.shut (n := 9) rfl) (.cons (.shut (n := 9) rfl) .nil)) ?_
          refine X.q rfl ?_
          iterate 4 refine X.opR (X.on_t rfl rfl rfl h_16) rfl rfl ?_
          refine X.opR rfl (X.pickand_t (y := decide (y1.2.1 = y2.N)) rfl h_16 rfl) rfl ?_
          refine X.q rfl ?_
          iterate 4 refine X.opR (X.on_t rfl rfl rfl h_17) rfl rfl ?_
          refine X.opR rfl (X.pickand_t (y := decide (y1.2.2 = y2.E)) rfl h_17 rfl) rfl ?_
          refine X.q rfl ?_
          iterate 3 refine X.opR (X.on_t rfl rfl rfl h_18) rfl rfl ?_
          refine X.opR rfl (X.pickand_t (y := decide (y3.1 = y4.1)) rfl h_18 rfl) rfl ?_
          refine X.q rfl ?_
          iterate 3 refine X.off (X.off_t rfl rfl rfl h_19) rfl ?_
          refine X.opR rfl (X.pickand_f (y := decide (y3.2.1 = y4.2.1)) rfl h_19 rfl) rfl ?_
          refine X.q rfl ?_
          iterate 3 refine X.off (X.off_t rfl rfl rfl (X.and_ff h_19)) rfl ?_
          refine X.opR rfl (X.pickand_f (y := decide (y3.2.2 = y4.2.2)) rfl (X.and_ff h_19) rfl) rfl ?_
          refine X.q rfl ?_
          refine GS.opsNil ?_
          exact X.norm _ hg rfl (sr rfl)
        iterate 3 refine X.q rfl ?_
        refine X.call (ok_ref06_SameInts h_15) rfl rfl rfl (.cons (.shut (n := 9) rfl) (.cons (.shut (n := 9) rfl) .nil)) ?_
        refine X.q rfl ?_
        iterate 4 refine X.opR (X.on_t rfl rfl rfl h_16) rfl rfl ?_
        refine X.opR rfl (X.pickand_t (y := decide (y1.2.1 = y2.N)) rfl h_16 rfl) rfl ?_
        refine X.q rfl ?_
        iterate 4 refine X.opR (X.on_t rfl rfl rfl h_17) rfl rfl ?_
        refine X.opR rfl (X.pickand_t (y := decide (y1.2.2 = y2.E)) rfl h_17 rfl) rfl ?_
        refine X.q rfl ?_
        iterate 3 refine X.off (X.off_t rfl rfl rfl h_18) rfl ?_
        refine X.opR rfl (X.pickand_f (y := decide (y3.1 = y4.1)) rfl h_18 rfl) rfl ?_
        refine X.q rfl ?_
        iterate 3 refine X.off (X.off_t rfl rfl rfl (X.and_ff h_18)) rfl ?_
        refine X.opR rfl (X.pickand_f (y := decide (y3.2.1 = y4.2.1)) rfl (X.and_ff h_18) rfl) rfl ?_
        refine X.q rfl ?_
        iterate 3 refine X.off (X.off_t rfl rfl rfl (X.and_ff (X.and_ff h_18))) rfl ?_
        refine X.opR rfl (X.pickand_f (y := decide (y3.2.2 = y4.2.2)) rfl (X.and_ff (X.and_ff h_18)) rfl) rfl ?_
        refine X.q rfl ?_
        refine GS.opsNil ?_
        exact X.norm _ hg rfl (sr rfl)
      iterate 3 refine X.q rfl ?_
      refine X.call (ok_ref06_SameInts h_15) rfl rfl rfl (.cons (.shut (n := 9) rfl) (.cons (.shut (n := 9) rfl) .nil)) ?_
      refine X.q rfl ?_
      iterate 4 refine X.opR (X.on_t rfl rfl rfl h_16) rfl rfl ?_
      refine X.opR rfl (X.pickand_t (y := decide (y1.2.1 = y2.N)) rfl h_16 rfl) rfl ?_
      refine X.q rfl ?_
      iterate 4 refine X.off (X.off_t rfl rfl rfl h_17) rfl ?_
      refine X.opR rfl (X.pickand_f (y := decide (y1.2.2 = y2.E)) rfl h_17 rfl) rfl ?_
      refine X.q rfl ?_
      iterate 3 refine X.off (X.off_t rfl rfl rfl (X.and_ff h_17)) rfl ?_
      refine X.opR rfl (X.pickand_f (y := decide (y3.1 = y4.1)) rfl (X.and_ff h_17) rfl) rfl ?_
      refine X.q rfl ?_
      iterate 3 refine X.off (X.off_t rfl rfl rfl (X.and_ff (X.and_ff h_17))) rfl ?_
      refine X.opR rfl (X.pickand_f (y := decide (y3.2.1 = y4.2.1)) rfl (X.and_ff (X.and_ff h_17)) rfl) rfl ?_
      refine X.q rfl ?_
      iterate 3 refine X.off (X.off_t rfl rfl rfl (X.and_ff (X.and_ff (X.and_ff h_17)))) rfl ?_
      refine X.opR rfl (X.pickand_f (y := decide (y3.2.2 = y4.2.2)) rfl (X.and_ff (X.and_ff (X.and_ff h_17))) rfl) rfl ?_
      refine X.q rfl ?_
      refine GS.opsNil ?_
      exact X.norm _ hg rfl (sr rfl)
    iterate 3 refine X.q rfl ?_
    refine X.call (ok_ref06_SameInts h_15) rfl rfl rfl (.cons (.shut (n := 9) rfl) (.cons (.shut (n := 9) rfl) .nil)) ?_
    refine X.q rfl ?_
    iterate 4 refine X.off (X.off_t rfl rfl rfl h_16) rfl ?_
    refine X.opR rfl (X.pickand_f (y := decide (y1.2.1 = y2.N)) rfl h_16 rfl) rfl ?_
    refine X.q rfl ?_
    iterate 4 refine X.off (X.off_t rfl rfl rfl (X.and_ff h_16)) rfl ?_
    refine X.opR rfl (X.pickand_f (y := decide (y1.2.2 = y2.E)) rfl (X.and_ff h_16) rfl) rfl ?_
    refine X.q rfl ?_
    iterate 3 refine X.off (X.off_t rfl rfl rfl (X.and_ff (X.and_ff h_16))) rfl ?_
    refine X.opR rfl (X.pickand_f (y := decide (y3.1 = y4.1)) rfl (X.and_ff (X.and_ff h_16)) rfl) rfl ?_
    refine X.q rfl ?_
    iterate 3 refine X.off (X.off_t rfl rfl rfl (X.and_ff (X.and_ff (X.and_ff h_16)))) rfl ?_
    refine X.opR rfl (X.pickand_f (y := decide (y3.2.1 = y4.2.1)) rfl (X.and_ff (X.and_ff (X.and_ff h_16))) rfl) rfl ?_
    refine X.q rfl ?_
    iterate 3 refine X.off (X.off_t rfl rfl rfl (X.and_ff (X.and_ff (X.and_ff (X.and_ff h_16))))) rfl ?_
    refine X.opR rfl (X.pickand_f (y := decide (y3.2.2 = y4.2.2)) rfl (X.and_ff (X.and_ff (X.and_ff (X.and_ff h_16)))) rfl) rfl ?_
    refine X.q rfl ?_
    refine GS.opsNil ?_
    exact X.norm _ hg rfl (sr rfl)
  refine GS.seq ?_
  obtain ⟨y10, h_21, hM⟩ := bind_of hM
  obtain ⟨y11, h_22, hM⟩ := gb_of hM
  obtain ⟨y12, h_23, hM⟩ := gb_of hM
  obtain ⟨y13, h_24, hM⟩ := gb_of hM
  obtain ⟨y14, h_25, hM⟩ := gb_of hM
  obtain ⟨y15, h_26, hM⟩ := gb_of hM
  obtain ⟨y16, h_27, hM⟩ := gb_of hM
  refine GS.region ?_
  refine X.mid [(4, (V.b (((((((y10 && (((((y9 && (decide (y1.2.1 = y2.N))) && (decide (y1.2.2 = y2.E))) && (decide (y3.1 = y4.1))) && (decide (y3.2.1 = y4.2.1))) && (decide (y3.2.2 = y4.2.2)))) && (decide (y11 = y12))) && (decide (y13 = y14))) && y15) && (decide (y5.2 = y6.E))) && y16) && (decide (y7.2 = y8.E)))))] ?_ ?_
  · intro hg
    refine X.split (y10) (fun h_28 => ?_) (fun h_28 => ?_)
    · refine X.split ((y10 && (((((y9 && (decide (y1.2.1 = y2.N))) && (decide (y1.2.2 = y2.E))) && (decide (y3.1 = y4.1))) && (decide (y3.2.1 = y4.2.1))) && (decide (y3.2.2 = y4.2.2))))) (fun h_29 => ?_) (fun h_29 => ?_)
      · refine X.split (((y10 && (((((y9 && (decide (y1.2.1 = y2.N))) && (decide (y1.2.2 = y2.E))) && (decide (y3.1 = y4.1))) && (decide (y3.2.1 = y4.2.1))) && (decide (y3.2.2 = y4.2.2)))) && (decide (y11 = y12)))) (fun h_30 => ?_) (fun h_30 => ?_)
        · refine X.split ((((y10 && (((((y9 && (decide (y1.2.1 = y2.N))) && (decide (y1.2.2 = y2.E))) && (decide (y3.1 = y4.1))) && (decide (y3.2.1 = y4.2.1))) && (decide (y3.2.2 = y4.2.2)))) && (decide (y11 = y12))) && (decide (y13 = y14)))) (fun h_31 => ?_) (fun h_31 => ?_)
          · refine X.split (((((y10 && (((((y9 && (decide (y1.2.1 = y2.N))) && (decide (y1.2.2 = y2.E))) && (decide (y3.1 = y4.1))) && (decide (y3.2.1 = y4.2.1))) && (decide (y3.2.2 = y4.2.2)))) && (decide (y11 = y12))) && (decide (y13 = y14))) && y15)) (fun h_32 => ?_) (fun h_32 => ?_)
            · refine X.split ((((((y10 && (((((y9 && (decide (y1.2.1 = y2.N))) && (decide (y1.2.2 = y2.E))) && (decide (y3.1 = y4.1))) && (decide (y3.2.1 = y4.2.1))) && (decide (y3.2.2 = y4.2.2)))) && (decide (y11 = y12))) && (decide (y13 = y14))) && y15) && (decide (y5.2 = y6.E)))) (fun h_33 => ?_) (fun h_33 => ?_)
              · refine X.split (((((((y10 && (((((y9 && (decide (y1.2.1 = y2.N))) && (decide (y1.2.2 = y2.E))) && (decide (y3.1 = y4.1))) && (decide (y3.2.1 = y4.2.1))) && (decide (y3.2.2 = y4.2.2)))) && (decide (y11 = y12))) && (decide (y13 = y14))) && y15) && (decide (y5.2 = y6.E))) && y16)) (fun h_34 => ?_) (fun h_34 => ?_)
                · refine X.call (ok_law06_lent h_21) rfl rfl rfl .nil ?_
                  refine X.q rfl ?_
                  refine X.opR (X.on_t rfl rfl rfl h_28) rfl rfl ?_
                  refine X.opR rfl (X.pickand_t (y := (((((y9 && (decide (y1.2.1 = y2.N))) && (decide (y1.2.2 = y2.E))) && (decide (y3.1 = y4.1))) && (decide (y3.2.1 = y4.2.1))) && (decide (y3.2.2 = y4.2.2)))) rfl h_28 rfl) rfl ?_
                  refine X.q rfl ?_
                  refine X.opR (X.on_t rfl rfl rfl h_29) rfl rfl ?_
                  refine X.call (ok_berth_CheckLeases (h_22 h_29)) (X.on_t rfl rfl rfl h_29) rfl rfl (.cons (.shut (n := 9) rfl) .nil) ?_
                  refine X.opR (X.on_t rfl rfl rfl h_29) rfl rfl ?_
                  refine X.call (ok_ref06_CheckLeases (h_23 h_29)) (X.on_t rfl rfl rfl h_29) rfl rfl (.cons (.shut (n := 9) rfl) .nil) ?_
                  refine X.opR (X.on_t rfl rfl rfl h_29) rfl rfl ?_
                  refine X.opR rfl (X.pickand_t (y := decide (y11 = y12)) rfl h_29 rfl) rfl ?_
                  refine X.q rfl ?_
                  iterate 2 refine X.opR (X.on_t rfl rfl rfl h_30) rfl rfl ?_
                  refine X.call (ok_berth_CheckLighters (h_24 h_30)) (X.on_t rfl rfl rfl h_30) rfl rfl (.cons (.shut (n := 9) rfl) (.cons (.shut (n := 9) rfl) .nil)) ?_
                  iterate 2 refine X.opR (X.on_t rfl rfl rfl h_30) rfl rfl ?_
                  refine X.call (ok_ref06_CheckLighters (h_25 h_30)) (X.on_t rfl rfl rfl h_30) rfl rfl (.cons (.shut (n := 9) rfl) (.cons (.shut (n := 9) rfl) .nil)) ?_
                  refine X.opR (X.on_t rfl rfl rfl h_30) rfl rfl ?_
                  refine X.opR rfl (X.pickand_t (y := decide (y13 = y14)) rfl h_30 rfl) rfl ?_
                  refine X.q rfl ?_
                  iterate 3 refine X.opR (X.on_t rfl rfl rfl h_31) rfl rfl ?_
                  refine X.call (ok_ref06_SamePairs (h_26 h_31)) (X.on_t rfl rfl rfl h_31) rfl rfl (.cons (.shut (n := 9) rfl) (.cons (.shut (n := 9) rfl) .nil)) ?_
                  refine X.opR rfl (X.pickand_t (y := y15) rfl h_31 rfl) rfl ?_
                  refine X.q rfl ?_
                  iterate 4 refine X.opR (X.on_t rfl rfl rfl h_32) rfl rfl ?_
                  refine X.opR rfl (X.pickand_t (y := decide (y5.2 = y6.E)) rfl h_32 rfl) rfl ?_
                  refine X.q rfl ?_
                  iterate 3 refine X.opR (X.on_t rfl rfl rfl h_33) rfl rfl ?_
                  refine X.call (ok_ref06_SameLeases (h_27 h_33)) (X.on_t rfl rfl rfl h_33) rfl rfl (.cons (.shut (n := 9) rfl) (.cons (.shut (n := 9) rfl) .nil)) ?_
                  refine X.opR rfl (X.pickand_t (y := y16) rfl h_33 rfl) rfl ?_
                  refine X.q rfl ?_
                  iterate 4 refine X.opR (X.on_t rfl rfl rfl h_34) rfl rfl ?_
                  refine X.opR rfl (X.pickand_t (y := decide (y7.2 = y8.E)) rfl h_34 rfl) rfl ?_
                  refine X.q rfl ?_
                  refine GS.opsNil ?_
                  exact X.norm _ hg rfl (sr rfl)
                refine X.call (ok_law06_lent h_21) rfl rfl rfl .nil ?_
                refine X.q rfl ?_
                refine X.opR (X.on_t rfl rfl rfl h_28) rfl rfl ?_
                refine X.opR rfl (X.pickand_t (y := (((((y9 && (decide (y1.2.1 = y2.N))) && (decide (y1.2.2 = y2.E))) && (decide (y3.1 = y4.1))) && (decide (y3.2.1 = y4.2.1))) && (decide (y3.2.2 = y4.2.2)))) rfl h_28 rfl) rfl ?_
                refine X.q rfl ?_
                refine X.opR (X.on_t rfl rfl rfl h_29) rfl rfl ?_
                refine X.call (ok_berth_CheckLeases (h_22 h_29)) (X.on_t rfl rfl rfl h_29) rfl rfl (.cons (.shut (n := 9) rfl) .nil) ?_
                refine X.opR (X.on_t rfl rfl rfl h_29) rfl rfl ?_
                refine X.call (ok_ref06_CheckLeases (h_23 h_29)) (X.on_t rfl rfl rfl h_29) rfl rfl (.cons (.shut (n := 9) rfl) .nil) ?_
                refine X.opR (X.on_t rfl rfl rfl h_29) rfl rfl ?_
                refine X.opR rfl (X.pickand_t (y := decide (y11 = y12)) rfl h_29 rfl) rfl ?_
                refine X.q rfl ?_
                iterate 2 refine X.opR (X.on_t rfl rfl rfl h_30) rfl rfl ?_
                refine X.call (ok_berth_CheckLighters (h_24 h_30)) (X.on_t rfl rfl rfl h_30) rfl rfl (.cons (.shut (n := 9) rfl) (.cons (.shut (n := 9) rfl) .nil)) ?_
                iterate 2 refine X.opR (X.on_t rfl rfl rfl h_30) rfl rfl ?_
                refine X.call (ok_ref06_CheckLighters (h_25 h_30)) (X.on_t rfl rfl rfl h_30) rfl rfl (.cons (.shut (n := 9) rfl) (.cons (.shut (n := 9) rfl) .nil)) ?_
                refine X.opR (X.on_t rfl rfl rfl h_30) rfl rfl ?_
                refine X.opR rfl (X.pickand_t (y := decide (y13 = y14)) rfl h_30 rfl) rfl ?_
                refine X.q rfl ?_
                iterate 3 refine X.opR (X.on_t rfl rfl rfl h_31) rfl rfl ?_
                refine X.call (ok_ref06_SamePairs (h_26 h_31)) (X.on_t rfl rfl rfl h_31) rfl rfl (.cons (.shut (n := 9) rfl) (.cons (.shut (n := 9) rfl) .nil)) ?_
                refine X.opR rfl (X.pickand_t (y := y15) rfl h_31 rfl) rfl ?_
                refine X.q rfl ?_
                iterate 4 refine X.opR (X.on_t rfl rfl rfl h_32) rfl rfl ?_
                refine X.opR rfl (X.pickand_t (y := decide (y5.2 = y6.E)) rfl h_32 rfl) rfl ?_
                refine X.q rfl ?_
                iterate 3 refine X.opR (X.on_t rfl rfl rfl h_33) rfl rfl ?_
                refine X.call (ok_ref06_SameLeases (h_27 h_33)) (X.on_t rfl rfl rfl h_33) rfl rfl (.cons (.shut (n := 9) rfl) (.cons (.shut (n := 9) rfl) .nil)) ?_
                refine X.opR rfl (X.pickand_t (y := y16) rfl h_33 rfl) rfl ?_
                refine X.q rfl ?_
                iterate 4 refine X.off (X.off_t rfl rfl rfl h_34) rfl ?_
                refine X.opR rfl (X.pickand_f (y := decide (y7.2 = y8.E)) rfl h_34 rfl) rfl ?_
                refine X.q rfl ?_
                refine GS.opsNil ?_
                exact X.norm _ hg rfl (sr rfl)
              refine X.call (ok_law06_lent h_21) rfl rfl rfl .nil ?_
              refine X.q rfl ?_
              refine X.opR (X.on_t rfl rfl rfl h_28) rfl rfl ?_
              refine X.opR rfl (X.pickand_t (y := (((((y9 && (decide (y1.2.1 = y2.N))) && (decide (y1.2.2 = y2.E))) && (decide (y3.1 = y4.1))) && (decide (y3.2.1 = y4.2.1))) && (decide (y3.2.2 = y4.2.2)))) rfl h_28 rfl) rfl ?_
              refine X.q rfl ?_
              refine X.opR (X.on_t rfl rfl rfl h_29) rfl rfl ?_
              refine X.call (ok_berth_CheckLeases (h_22 h_29)) (X.on_t rfl rfl rfl h_29) rfl rfl (.cons (.shut (n := 9) rfl) .nil) ?_
              refine X.opR (X.on_t rfl rfl rfl h_29) rfl rfl ?_
              refine X.call (ok_ref06_CheckLeases (h_23 h_29)) (X.on_t rfl rfl rfl h_29) rfl rfl (.cons (.shut (n := 9) rfl) .nil) ?_
              refine X.opR (X.on_t rfl rfl rfl h_29) rfl rfl ?_
              refine X.opR rfl (X.pickand_t (y := decide (y11 = y12)) rfl h_29 rfl) rfl ?_
              refine X.q rfl ?_
              iterate 2 refine X.opR (X.on_t rfl rfl rfl h_30) rfl rfl ?_
              refine X.call (ok_berth_CheckLighters (h_24 h_30)) (X.on_t rfl rfl rfl h_30) rfl rfl (.cons (.shut (n := 9) rfl) (.cons (.shut (n := 9) rfl) .nil)) ?_
              iterate 2 refine X.opR (X.on_t rfl rfl rfl h_30) rfl rfl ?_
              refine X.call (ok_ref06_CheckLighters (h_25 h_30)) (X.on_t rfl rfl rfl h_30) rfl rfl (.cons (.shut (n := 9) rfl) (.cons (.shut (n := 9) rfl) .nil)) ?_
              refine X.opR (X.on_t rfl rfl rfl h_30) rfl rfl ?_
              refine X.opR rfl (X.pickand_t (y := decide (y13 = y14)) rfl h_30 rfl) rfl ?_
              refine X.q rfl ?_
              iterate 3 refine X.opR (X.on_t rfl rfl rfl h_31) rfl rfl ?_
              refine X.call (ok_ref06_SamePairs (h_26 h_31)) (X.on_t rfl rfl rfl h_31) rfl rfl (.cons (.shut (n := 9) rfl) (.cons (.shut (n := 9) rfl) .nil)) ?_
              refine X.opR rfl (X.pickand_t (y := y15) rfl h_31 rfl) rfl ?_
              refine X.q rfl ?_
              iterate 4 refine X.opR (X.on_t rfl rfl rfl h_32) rfl rfl ?_
              refine X.opR rfl (X.pickand_t (y := decide (y5.2 = y6.E)) rfl h_32 rfl) rfl ?_
              refine X.q rfl ?_
              iterate 4 refine X.off (X.off_t rfl rfl rfl h_33) rfl ?_
              refine X.opR rfl (X.pickand_f (y := y16) rfl h_33 rfl) rfl ?_
              refine X.q rfl ?_
              iterate 4 refine X.off (X.off_t rfl rfl rfl (X.and_ff h_33)) rfl ?_
              refine X.opR rfl (X.pickand_f (y := decide (y7.2 = y8.E)) rfl (X.and_ff h_33) rfl) rfl ?_
              refine X.q rfl ?_
              refine GS.opsNil ?_
              exact X.norm _ hg rfl (sr rfl)
            refine X.call (ok_law06_lent h_21) rfl rfl rfl .nil ?_
            refine X.q rfl ?_
            refine X.opR (X.on_t rfl rfl rfl h_28) rfl rfl ?_
            refine X.opR rfl (X.pickand_t (y := (((((y9 && (decide (y1.2.1 = y2.N))) && (decide (y1.2.2 = y2.E))) && (decide (y3.1 = y4.1))) && (decide (y3.2.1 = y4.2.1))) && (decide (y3.2.2 = y4.2.2)))) rfl h_28 rfl) rfl ?_
            refine X.q rfl ?_
            refine X.opR (X.on_t rfl rfl rfl h_29) rfl rfl ?_
            refine X.call (ok_berth_CheckLeases (h_22 h_29)) (X.on_t rfl rfl rfl h_29) rfl rfl (.cons (.shut (n := 9) rfl) .nil) ?_
            refine X.opR (X.on_t rfl rfl rfl h_29) rfl rfl ?_
            refine X.call (ok_ref06_CheckLeases (h_23 h_29)) (X.on_t rfl rfl rfl h_29) rfl rfl (.cons (.shut (n := 9) rfl) .nil) ?_
            refine X.opR (X.on_t rfl rfl rfl h_29) rfl rfl ?_
            refine X.opR rfl (X.pickand_t (y := decide (y11 = y12)) rfl h_29 rfl) rfl ?_
            refine X.q rfl ?_
            iterate 2 refine X.opR (X.on_t rfl rfl rfl h_30) rfl rfl ?_
            refine X.call (ok_berth_CheckLighters (h_24 h_30)) (X.on_t rfl rfl rfl h_30) rfl rfl (.cons (.shut (n := 9) rfl) (.cons (.shut (n := 9) rfl) .nil)) ?_
            iterate 2 refine X.opR (X.on_t rfl rfl rfl h_30) rfl rfl ?_
            refine X.call (ok_ref06_CheckLighters (h_25 h_30)) (X.on_t rfl rfl rfl h_30) rfl rfl (.cons (.shut (n := 9) rfl) (.cons (.shut (n := 9) rfl) .nil)) ?_
            refine X.opR (X.on_t rfl rfl rfl h_30) rfl rfl ?_
            refine X.opR rfl (X.pickand_t (y := decide (y13 = y14)) rfl h_30 rfl) rfl ?_
            refine X.q rfl ?_
            iterate 3 refine X.opR (X.on_t rfl rfl rfl h_31) rfl rfl ?_
            refine X.call (ok_ref06_SamePairs (h_26 h_31)) (X.on_t rfl rfl rfl h_31) rfl rfl (.cons (.shut (n := 9) rfl) (.cons (.shut (n := 9) rfl) .nil)) ?_
            refine X.opR rfl (X.pickand_t (y := y15) rfl h_31 rfl) rfl ?_
            refine X.q rfl ?_
            iterate 4 refine X.off (X.off_t rfl rfl rfl h_32) rfl ?_
            refine X.opR rfl (X.pickand_f (y := decide (y5.2 = y6.E)) rfl h_32 rfl) rfl ?_
            refine X.q rfl ?_
            iterate 4 refine X.off (X.off_t rfl rfl rfl (X.and_ff h_32)) rfl ?_
            refine X.opR rfl (X.pickand_f (y := y16) rfl (X.and_ff h_32) rfl) rfl ?_
            refine X.q rfl ?_
            iterate 4 refine X.off (X.off_t rfl rfl rfl (X.and_ff (X.and_ff h_32))) rfl ?_
            refine X.opR rfl (X.pickand_f (y := decide (y7.2 = y8.E)) rfl (X.and_ff (X.and_ff h_32)) rfl) rfl ?_
            refine X.q rfl ?_
            refine GS.opsNil ?_
            exact X.norm _ hg rfl (sr rfl)
          refine X.call (ok_law06_lent h_21) rfl rfl rfl .nil ?_
          refine X.q rfl ?_
          refine X.opR (X.on_t rfl rfl rfl h_28) rfl rfl ?_
          refine X.opR rfl (X.pickand_t (y := (((((y9 && (decide (y1.2.1 = y2.N))) && (decide (y1.2.2 = y2.E))) && (decide (y3.1 = y4.1))) && (decide (y3.2.1 = y4.2.1))) && (decide (y3.2.2 = y4.2.2)))) rfl h_28 rfl) rfl ?_
          refine X.q rfl ?_
          refine X.opR (X.on_t rfl rfl rfl h_29) rfl rfl ?_
          refine X.call (ok_berth_CheckLeases (h_22 h_29)) (X.on_t rfl rfl rfl h_29) rfl rfl (.cons (.shut (n := 9) rfl) .nil) ?_
          refine X.opR (X.on_t rfl rfl rfl h_29) rfl rfl ?_
          refine X.call (ok_ref06_CheckLeases (h_23 h_29)) (X.on_t rfl rfl rfl h_29) rfl rfl (.cons (.shut (n := 9) rfl) .nil) ?_
          refine X.opR (X.on_t rfl rfl rfl h_29) rfl rfl ?_
          refine X.opR rfl (X.pickand_t (y := decide (y11 = y12)) rfl h_29 rfl) rfl ?_
          refine X.q rfl ?_
          iterate 2 refine X.opR (X.on_t rfl rfl rfl h_30) rfl rfl ?_
          refine X.call (ok_berth_CheckLighters (h_24 h_30)) (X.on_t rfl rfl rfl h_30) rfl rfl (.cons (.shut (n := 9) rfl) (.cons (.shut (n := 9) rfl) .nil)) ?_
          iterate 2 refine X.opR (X.on_t rfl rfl rfl h_30) rfl rfl ?_
          refine X.call (ok_ref06_CheckLighters (h_25 h_30)) (X.on_t rfl rfl rfl h_30) rfl rfl (.cons (.shut (n := 9) rfl) (.cons (.shut (n := 9) rfl) .nil)) ?_
          refine X.opR (X.on_t rfl rfl rfl h_30) rfl rfl ?_
          refine X.opR rfl (X.pickand_t (y := decide (y13 = y14)) rfl h_30 rfl) rfl ?_
          refine X.q rfl ?_
          iterate 4 refine X.off (X.off_t rfl rfl rfl h_31) rfl ?_
          refine X.opR rfl (X.pickand_f (y := y15) rfl h_31 rfl) rfl ?_
          refine X.q rfl ?_
          iterate 4 refine X.off (X.off_t rfl rfl rfl (X.and_ff h_31)) rfl ?_
          refine X.opR rfl (X.pickand_f (y := decide (y5.2 = y6.E)) rfl (X.and_ff h_31) rfl) rfl ?_
          refine X.q rfl ?_
          iterate 4 refine X.off (X.off_t rfl rfl rfl (X.and_ff (X.and_ff h_31))) rfl ?_
          refine X.opR rfl (X.pickand_f (y := y16) rfl (X.and_ff (X.and_ff h_31)) rfl) rfl ?_
          refine X.q rfl ?_
          iterate 4 refine X.off (X.off_t rfl rfl rfl (X.and_ff (X.and_ff (X.and_ff h_31)))) rfl ?_
          refine X.opR rfl (X.pickand_f (y := decide (y7.2 = y8.E)) rfl (X.and_ff (X.and_ff (X.and_ff h_31))) rfl) rfl ?_
          refine X.q rfl ?_
          refine GS.opsNil ?_
          exact X.norm _ hg rfl (sr rfl)
        refine X.call (ok_law06_lent h_21) rfl rfl rfl .nil ?_
        refine X.q rfl ?_
        refine X.opR (X.on_t rfl rfl rfl h_28) rfl rfl ?_
        refine X.opR rfl (X.pickand_t (y := (((((y9 && (decide (y1.2.1 = y2.N))) && (decide (y1.2.2 = y2.E))) && (decide (y3.1 = y4.1))) && (decide (y3.2.1 = y4.2.1))) && (decide (y3.2.2 = y4.2.2)))) rfl h_28 rfl) rfl ?_
        refine X.q rfl ?_
        refine X.opR (X.on_t rfl rfl rfl h_29) rfl rfl ?_
        refine X.call (ok_berth_CheckLeases (h_22 h_29)) (X.on_t rfl rfl rfl h_29) rfl rfl (.cons (.shut (n := 9) rfl) .nil) ?_
        refine X.opR (X.on_t rfl rfl rfl h_29) rfl rfl ?_
        refine X.call (ok_ref06_CheckLeases (h_23 h_29)) (X.on_t rfl rfl rfl h_29) rfl rfl (.cons (.shut (n := 9) rfl) .nil) ?_
        refine X.opR (X.on_t rfl rfl rfl h_29) rfl rfl ?_
        refine X.opR rfl (X.pickand_t (y := decide (y11 = y12)) rfl h_29 rfl) rfl ?_
        refine X.q rfl ?_
        iterate 7 refine X.off (X.off_t rfl rfl rfl h_30) rfl ?_
        refine X.opR rfl (X.pickand_f (y := decide (y13 = y14)) rfl h_30 rfl) rfl ?_
        refine X.q rfl ?_
        iterate 4 refine X.off (X.off_t rfl rfl rfl (X.and_ff h_30)) rfl ?_
        refine X.opR rfl (X.pickand_f (y := y15) rfl (X.and_ff h_30) rfl) rfl ?_
        refine X.q rfl ?_
        iterate 4 refine X.off (X.off_t rfl rfl rfl (X.and_ff (X.and_ff h_30))) rfl ?_
        refine X.opR rfl (X.pickand_f (y := decide (y5.2 = y6.E)) rfl (X.and_ff (X.and_ff h_30)) rfl) rfl ?_
        refine X.q rfl ?_
        iterate 4 refine X.off (X.off_t rfl rfl rfl (X.and_ff (X.and_ff (X.and_ff h_30)))) rfl ?_
        refine X.opR rfl (X.pickand_f (y := y16) rfl (X.and_ff (X.and_ff (X.and_ff h_30))) rfl) rfl ?_
        refine X.q rfl ?_
        iterate 4 refine X.off (X.off_t rfl rfl rfl (X.and_ff (X.and_ff (X.and_ff (X.and_ff h_30))))) rfl ?_
        refine X.opR rfl (X.pickand_f (y := decide (y7.2 = y8.E)) rfl (X.and_ff (X.and_ff (X.and_ff (X.and_ff h_30)))) rfl) rfl ?_
        refine X.q rfl ?_
        refine GS.opsNil ?_
        exact X.norm _ hg rfl (sr rfl)
      refine X.call (ok_law06_lent h_21) rfl rfl rfl .nil ?_
      refine X.q rfl ?_
      refine X.opR (X.on_t rfl rfl rfl h_28) rfl rfl ?_
      refine X.opR rfl (X.pickand_t (y := (((((y9 && (decide (y1.2.1 = y2.N))) && (decide (y1.2.2 = y2.E))) && (decide (y3.1 = y4.1))) && (decide (y3.2.1 = y4.2.1))) && (decide (y3.2.2 = y4.2.2)))) rfl h_28 rfl) rfl ?_
      refine X.q rfl ?_
      iterate 5 refine X.off (X.off_t rfl rfl rfl h_29) rfl ?_
      refine X.opR rfl (X.pickand_f (y := decide (y11 = y12)) rfl h_29 rfl) rfl ?_
      refine X.q rfl ?_
      iterate 7 refine X.off (X.off_t rfl rfl rfl (X.and_ff h_29)) rfl ?_
      refine X.opR rfl (X.pickand_f (y := decide (y13 = y14)) rfl (X.and_ff h_29) rfl) rfl ?_
      refine X.q rfl ?_
      iterate 4 refine X.off (X.off_t rfl rfl rfl (X.and_ff (X.and_ff h_29))) rfl ?_
      refine X.opR rfl (X.pickand_f (y := y15) rfl (X.and_ff (X.and_ff h_29)) rfl) rfl ?_
      refine X.q rfl ?_
      iterate 4 refine X.off (X.off_t rfl rfl rfl (X.and_ff (X.and_ff (X.and_ff h_29)))) rfl ?_
      refine X.opR rfl (X.pickand_f (y := decide (y5.2 = y6.E)) rfl (X.and_ff (X.and_ff (X.and_ff h_29))) rfl) rfl ?_
      refine X.q rfl ?_
      iterate 4 refine X.off (X.off_t rfl rfl rfl (X.and_ff (X.and_ff (X.and_ff (X.and_ff h_29))))) rfl ?_
      refine X.opR rfl (X.pickand_f (y := y16) rfl (X.and_ff (X.and_ff (X.and_ff (X.and_ff h_29)))) rfl) rfl ?_
      refine X.q rfl ?_
      iterate 4 refine X.off (X.off_t rfl rfl rfl (X.and_ff (X.and_ff (X.and_ff (X.and_ff (X.and_ff h_29)))))) rfl ?_
      refine X.opR rfl (X.pickand_f (y := decide (y7.2 = y8.E)) rfl (X.and_ff (X.and_ff (X.and_ff (X.and_ff (X.and_ff h_29))))) rfl) rfl ?_
      refine X.q rfl ?_
      refine GS.opsNil ?_
      exact X.norm _ hg rfl (sr rfl)
    refine X.call (ok_law06_lent h_21) rfl rfl rfl .nil ?_
    refine X.q rfl ?_
    refine X.off (X.off_t rfl rfl rfl h_28) rfl ?_
    refine X.opR rfl (X.pickand_f (y := (((((y9 && (decide (y1.2.1 = y2.N))) && (decide (y1.2.2 = y2.E))) && (decide (y3.1 = y4.1))) && (decide (y3.2.1 = y4.2.1))) && (decide (y3.2.2 = y4.2.2)))) rfl h_28 rfl) rfl ?_
    refine X.q rfl ?_
    iterate 5 refine X.off (X.off_t rfl rfl rfl (X.and_ff h_28)) rfl ?_
    refine X.opR rfl (X.pickand_f (y := decide (y11 = y12)) rfl (X.and_ff h_28) rfl) rfl ?_
    refine X.q rfl ?_
    iterate 7 refine X.off (X.off_t rfl rfl rfl (X.and_ff (X.and_ff h_28))) rfl ?_
    refine X.opR rfl (X.pickand_f (y := decide (y13 = y14)) rfl (X.and_ff (X.and_ff h_28)) rfl) rfl ?_
    refine X.q rfl ?_
    iterate 4 refine X.off (X.off_t rfl rfl rfl (X.and_ff (X.and_ff (X.and_ff h_28)))) rfl ?_
    refine X.opR rfl (X.pickand_f (y := y15) rfl (X.and_ff (X.and_ff (X.and_ff h_28))) rfl) rfl ?_
    refine X.q rfl ?_
    iterate 4 refine X.off (X.off_t rfl rfl rfl (X.and_ff (X.and_ff (X.and_ff (X.and_ff h_28))))) rfl ?_
    refine X.opR rfl (X.pickand_f (y := decide (y5.2 = y6.E)) rfl (X.and_ff (X.and_ff (X.and_ff (X.and_ff h_28)))) rfl) rfl ?_
    refine X.q rfl ?_
    iterate 4 refine X.off (X.off_t rfl rfl rfl (X.and_ff (X.and_ff (X.and_ff (X.and_ff (X.and_ff h_28)))))) rfl ?_
    refine X.opR rfl (X.pickand_f (y := y16) rfl (X.and_ff (X.and_ff (X.and_ff (X.and_ff (X.and_ff h_28))))) rfl) rfl ?_
    refine X.q rfl ?_
    iterate 4 refine X.off (X.off_t rfl rfl rfl (X.and_ff (X.and_ff (X.and_ff (X.and_ff (X.and_ff (X.and_ff h_28))))))) rfl ?_
    refine X.opR rfl (X.pickand_f (y := decide (y7.2 = y8.E)) rfl (X.and_ff (X.and_ff (X.and_ff (X.and_ff (X.and_ff (X.and_ff h_28)))))) rfl) rfl ?_
    refine X.q rfl ?_
    refine GS.opsNil ?_
    exact X.norm _ hg rfl (sr rfl)
  have hE := Option.some.inj hM
  subst hE
  exact GS.ret ⟨_, rfl, ⟨30, rfl⟩⟩

end Go.Proofs.Ythfnbjoecocfaaa
