/- The program's functions compute the plain ones. Conditions: none. Printed by a program (wip/tools/xg.py). -/
import Derived.Test.YtphmekpaalfliaaP1
set_option linter.unusedVariables false
set_option linter.unusedSimpArgs false
namespace Go.Proofs.Ytphmekpaalfliaa
open Go Go.Am Go.Proofs Go.Mx

theorem ok_tide_none (s : api_Span) : Ct Try.prog 70 [(e_api_Span s)] (V.b (tide_none s)) := by
  refine ct_of_gs CC_ok rfl ?_
  generalize hM : tide_none s = r
  unfold tide_none at hM
  refine GS.seq ?_
  refine GS.region ?_
  refine X.opW rfl rfl rfl rfl ?_
  refine X.opR rfl rfl rfl ?_
  refine GS.opsNil ?_
  refine GS.seq ?_
  refine GS.region ?_
  iterate 6 refine X.opR rfl rfl rfl ?_
  refine GS.opsNil ?_
  subst hM
  exact GS.ret ⟨_, rfl, ⟨30, rfl⟩⟩

theorem ok_tide_Levels {w : api_Water} {l : (List api_Gauge)} {r : api_Span × Int} (hM : tide_Levels w l = some r) : Ct Try.prog 23 [(e_api_Water w), (V.sl (List.map e_api_Gauge l))] (V.tup [(e_api_Span r.1), (V.i r.2)]) := by
  refine ct_of_gs CC_ok rfl ?_
  unfold tide_Levels at hM
  refine GS.seq ?_
  refine GS.region ?_
  iterate 2 refine X.opW rfl rfl rfl rfl ?_
  refine X.opR rfl rfl rfl ?_
  refine GS.opsNil ?_
  refine GS.seq ?_
  obtain ⟨y, h_1, hM⟩ := bind_of hM
  refine GS.region ?_
  iterate 2 refine X.opR rfl rfl rfl ?_
  refine X.call (ok_tide_read h_1) rfl rfl rfl (.cons (.shut (n := 9) rfl) (.cons (.shut (n := 9) rfl) .nil)) ?_
  iterate 5 refine X.opR rfl rfl rfl ?_
  refine GS.opsNil ?_
  iterate 2 refine GS.seq ?_
  refine GS.region ?_
  iterate 2 refine X.opR rfl rfl rfl ?_
  refine GS.opsNil ?_
  refine X.cond rfl (fun h_2 => ?_) (fun h_2 => ?_)
  · replace hM := ite_t h_2 hM
    refine GS.seq ?_
    refine GS.region ?_
    iterate 2 refine X.opR rfl rfl rfl ?_
    refine X.op0W rfl rfl rfl ?_
    refine X.opR rfl rfl rfl ?_
    refine GS.opsNil ?_
    have hE := Option.some.inj hM
    subst hE
    exact GS.ret ⟨_, rfl, ⟨30, rfl⟩⟩
  · replace hM := ite_f h_2 hM
    refine GS.skip ?_
    refine GS.seq ?_
    obtain ⟨y1, h_3, hM⟩ := bind_of hM
    refine GS.region ?_
    refine X.opR rfl rfl rfl ?_
    refine X.call (ok_tide_levels h_3) rfl rfl rfl (.cons (.shut (n := 9) rfl) (.cons (.shut (n := 9) rfl) .nil)) ?_
    refine X.opW rfl rfl rfl rfl ?_
    refine X.op0W rfl rfl rfl ?_
    refine GS.opsNil ?_
    iterate 2 refine GS.seq ?_
    refine GS.region ?_
    refine X.opR rfl rfl rfl ?_
    refine X.call (ok_tide_none y1) rfl rfl rfl (.cons (.shut (n := 9) rfl) .nil) ?_
    refine GS.opsNil ?_
    refine X.cond rfl (fun h_4 => ?_) (fun h_4 => ?_)
    · replace hM := ite_t h_4 hM
      refine GS.seq ?_
      refine GS.region ?_
      refine X.opR rfl rfl rfl ?_
      refine X.op0W rfl rfl rfl ?_
      refine X.opR rfl rfl rfl ?_
      refine GS.opsNil ?_
      have hE := Option.some.inj hM
      subst hE
      exact GS.ret ⟨_, rfl, ⟨30, rfl⟩⟩
    · replace hM := ite_f h_4 hM
      refine GS.skip ?_
      refine GS.seq ?_
      refine GS.region ?_
      refine X.opR rfl rfl rfl ?_
      refine X.op0W rfl rfl rfl ?_
      refine X.opR rfl rfl rfl ?_
      refine GS.opsNil ?_
      have hE := Option.some.inj hM
      subst hE
      exact GS.ret ⟨_, rfl, ⟨30, rfl⟩⟩

theorem ok_tide_Rests_1 {n : Int} {c : (List tide_known)} {r : Int} (hM : tide_Rests_1 n c = some r) : Ct Try.prog 74 [(V.i n), (V.fptr [(V.sl (List.map e_tide_known c))] 0 0)] (V.i r) := by
  refine ct_of_gs CC_ok rfl ?_
  unfold tide_Rests_1 at hM
  refine GS.seq ?_
  refine GS.region ?_
  refine X.opR rfl rfl rfl ?_
  refine GS.opsNil ?_
  refine GS.seq ?_
  refine GS.region ?_
  refine X.opR rfl rfl rfl ?_
  refine GS.opsNil ?_
  iterate 2 refine GS.seq ?_
  refine GS.region ?_
  refine X.opR rfl rfl rfl ?_
  refine X.opR rfl (X.lenF rfl rfl rfl) rfl ?_
  refine X.opR rfl rfl rfl ?_
  refine GS.opsNil ?_
  refine X.join (τ := Int) (fun v => tide_Rests_1_j1 v = some r) (fun v => ⟨[(4, (V.i v))], [], 0, none, 42⟩) ?_ ?_
  · intro id hM
    replace hM : tide_Rests_1_j1 id = some r := hM
    unfold tide_Rests_1_j1 at hM
    refine GS.seq ?_
    refine GS.region ?_
    iterate 2 refine X.opR rfl rfl rfl ?_
    refine GS.opsNil ?_
    have hE := Option.some.inj hM
    subst hE
    exact GS.ret ⟨_, rfl, ⟨30, rfl⟩⟩
  · intro hj_1
    refine GS.block ?_
    refine X.gc [] (X.loop (σ := (Int × Int)) (fun v => ⟨[(0, (V.i n)), (4, (V.i v.1)), (7, (V.sl (List.map e_tide_known c))), (8, (V.i (c.length : Int))), (9, (V.i v.2))], [], 0, none, 42⟩) hM ?_ rfl) rfl rfl rfl (gk_cons rfl ⟨9, rfl⟩ (gk_cons rfl ⟨9, rfl⟩ (gk_cons rfl ⟨9, rfl⟩ (gk_cons rfl ⟨9, rfl⟩ (gk_cons rfl ⟨9, rfl⟩ gk_nil))))) (gb_nil)
    rintro ⟨id2, x1⟩ b_1 hM hc_2 hr_1
    rw [tide_Rests_1_b2] at hM
    refine GS.seq ?_
    refine GS.region ?_
    refine X.opR rfl rfl rfl ?_
    refine GS.opsNil ?_
    refine GS.seq ?_
    refine X.cond rfl (fun h_1 => ?_) (fun h_1 => ?_)
    · replace hM := ite_t h_1 hM
      refine GS.skip ?_
      refine GS.seq ?_
      refine X.join (τ := Int) (fun v => tide_Rests_1_j3 x1 v = some b_1) (fun v => ⟨[(0, (V.i n)), (4, (V.i v)), (7, (V.sl (List.map e_tide_known c))), (8, (V.i (c.length : Int))), (9, (V.i x1))], [], 0, none, 42⟩) ?_ ?_
      · intro id1 hM
        replace hM : tide_Rests_1_j3 x1 id1 = some b_1 := hM
        unfold tide_Rests_1_j3 at hM
        refine GS.region ?_
        refine X.opR rfl (X.addE rfl rfl) rfl ?_
        refine X.opR rfl rfl rfl ?_
        refine GS.opsNil ?_
        have hE := Option.some.inj hM
        exact X.gc [] (hc_2 (id1, w64 (x1 + 1)) hE.symm) rfl rfl rfl (gk_cons rfl ⟨9, rfl⟩ (gk_cons rfl ⟨9, rfl⟩ (gk_cons rfl ⟨9, rfl⟩ (gk_cons rfl ⟨9, rfl⟩ (gk_cons rfl ⟨9, rfl⟩ gk_nil))))) (gb_nil)
      · intro hj_3
        refine GS.block ?_
        refine GS.seq ?_
        obtain ⟨x, h_2, hM⟩ := bind_of hM
        refine GS.region ?_
        refine X.opR rfl (X.indexF (f := e_tide_known) h_2 (fun _ => rfl) rfl rfl rfl rfl) rfl ?_
        refine X.opR rfl (X.loadF h_2 rfl rfl rfl) rfl ?_
        refine X.opW rfl rfl rfl rfl ?_
        refine X.op0W rfl rfl rfl ?_
        refine GS.opsNil ?_
        refine GS.seq ?_
        refine GS.region ?_
        refine X.mid [(0, (V.i n)), (4, (V.i id2)), (6, (V.ptr 0 0 0)), (7, (V.sl (List.map e_tide_known c))), (8, (V.i (c.length : Int))), (9, (V.i x1)), (36, (V.b (((tide_level n) && (!(tide_within n x.levels.Lo x.levels.Hi))) && ((decide (id2 = 0)) || (decide (x.Gauge.ID < id2))))))] ?_ ?_
        · intro hg
          refine X.split ((tide_level n)) (fun h_3 => ?_) (fun h_3 => ?_)
          · refine X.split (((tide_level n) && (!(tide_within n x.levels.Lo x.levels.Hi)))) (fun h_4 => ?_) (fun h_4 => ?_)
            · refine X.split (decide (id2 = 0)) (fun h_5 => ?_) (fun h_5 => ?_)
              · refine X.opR rfl rfl rfl ?_
                refine X.call (ok_tide_level n) rfl rfl rfl (.cons (.shut (n := 9) rfl) .nil) ?_
                refine X.opR rfl rfl rfl ?_
                iterate 7 refine X.opR (X.on_t rfl rfl rfl h_3) rfl rfl ?_
                refine X.call (ok_tide_within n x.levels.Lo x.levels.Hi) (X.on_t rfl rfl rfl h_3) rfl rfl (.cons (.shut (n := 9) rfl) (.cons (.shut (n := 9) rfl) (.cons (.shut (n := 9) rfl) .nil))) ?_
                refine X.opR (X.on_t rfl rfl rfl h_3) rfl rfl ?_
                refine X.opR rfl (X.pickand_t (y := !(tide_within n x.levels.Lo x.levels.Hi)) rfl h_3 rfl) rfl ?_
                refine X.opR rfl rfl rfl ?_
                iterate 3 refine X.opR (X.on_t rfl rfl rfl h_4) rfl rfl ?_
                iterate 5 refine X.off (X.off_f rfl rfl rfl h_5) rfl ?_
                refine X.opR (X.on_t rfl rfl rfl h_4) (X.pickor_t (y := decide (x.Gauge.ID < id2)) rfl h_5 rfl) rfl ?_
                refine X.opR rfl (X.pickand_t (y := ((decide (id2 = 0)) || (decide (x.Gauge.ID < id2)))) rfl h_4 rfl) rfl ?_
                refine GS.opsNil ?_
                exact X.norm _ hg rfl (W.sub_cons rfl (W.sub_cons rfl (W.sub_cons rfl (W.sub_cons rfl (W.sub_cons rfl (W.sub_cons rfl (W.sub_cons rfl W.sub_nil)))))))
              · refine X.opR rfl rfl rfl ?_
                refine X.call (ok_tide_level n) rfl rfl rfl (.cons (.shut (n := 9) rfl) .nil) ?_
                refine X.opR rfl rfl rfl ?_
                iterate 7 refine X.opR (X.on_t rfl rfl rfl h_3) rfl rfl ?_
                refine X.call (ok_tide_within n x.levels.Lo x.levels.Hi) (X.on_t rfl rfl rfl h_3) rfl rfl (.cons (.shut (n := 9) rfl) (.cons (.shut (n := 9) rfl) (.cons (.shut (n := 9) rfl) .nil))) ?_
                refine X.opR (X.on_t rfl rfl rfl h_3) rfl rfl ?_
                refine X.opR rfl (X.pickand_t (y := !(tide_within n x.levels.Lo x.levels.Hi)) rfl h_3 rfl) rfl ?_
                refine X.opR rfl rfl rfl ?_
                iterate 3 refine X.opR (X.on_t rfl rfl rfl h_4) rfl rfl ?_
                iterate 5 refine X.opR (X.on_f rfl rfl rfl h_5) rfl rfl ?_
                refine X.opR (X.on_t rfl rfl rfl h_4) (X.pickor_f (y := decide (x.Gauge.ID < id2)) rfl h_5 rfl) rfl ?_
                refine X.opR rfl (X.pickand_t (y := ((decide (id2 = 0)) || (decide (x.Gauge.ID < id2)))) rfl h_4 rfl) rfl ?_
                refine GS.opsNil ?_
                exact X.norm _ hg rfl (W.sub_cons rfl (W.sub_cons rfl (W.sub_cons rfl (W.sub_cons rfl (W.sub_cons rfl (W.sub_cons rfl (W.sub_cons rfl W.sub_nil)))))))
            · refine X.opR rfl rfl rfl ?_
              refine X.call (ok_tide_level n) rfl rfl rfl (.cons (.shut (n := 9) rfl) .nil) ?_
              refine X.opR rfl rfl rfl ?_
              iterate 7 refine X.opR (X.on_t rfl rfl rfl h_3) rfl rfl ?_
              refine X.call (ok_tide_within n x.levels.Lo x.levels.Hi) (X.on_t rfl rfl rfl h_3) rfl rfl (.cons (.shut (n := 9) rfl) (.cons (.shut (n := 9) rfl) (.cons (.shut (n := 9) rfl) .nil))) ?_
              refine X.opR (X.on_t rfl rfl rfl h_3) rfl rfl ?_
              refine X.opR rfl (X.pickand_t (y := !(tide_within n x.levels.Lo x.levels.Hi)) rfl h_3 rfl) rfl ?_
              refine X.opR rfl rfl rfl ?_
              iterate 3 refine X.off (X.off_t rfl rfl rfl h_4) rfl ?_
              iterate 5 refine X.off rfl rfl ?_
              refine X.off (X.off_t rfl rfl rfl h_4) rfl ?_
              refine X.opR rfl (X.pickand_f (y := ((decide (id2 = 0)) || (decide (x.Gauge.ID < id2)))) rfl h_4 rfl) rfl ?_
              refine GS.opsNil ?_
              exact X.norm _ hg rfl (W.sub_cons rfl (W.sub_cons rfl (W.sub_cons rfl (W.sub_cons rfl (W.sub_cons rfl (W.sub_cons rfl (W.sub_cons rfl W.sub_nil)))))))
          · refine X.opR rfl rfl rfl ?_
            refine X.call (ok_tide_level n) rfl rfl rfl (.cons (.shut (n := 9) rfl) .nil) ?_
            refine X.opR rfl rfl rfl ?_
            iterate 9 refine X.off (X.off_t rfl rfl rfl h_3) rfl ?_
            refine X.opR rfl (X.pickand_f (y := !(tide_within n x.levels.Lo x.levels.Hi)) rfl h_3 rfl) rfl ?_
            refine X.opR rfl rfl rfl ?_
            iterate 3 refine X.off (X.off_t rfl rfl rfl (X.and_ff h_3)) rfl ?_
            iterate 5 refine X.off rfl rfl ?_
            refine X.off (X.off_t rfl rfl rfl (X.and_ff h_3)) rfl ?_
            refine X.opR rfl (X.pickand_f (y := ((decide (id2 = 0)) || (decide (x.Gauge.ID < id2)))) rfl (X.and_ff h_3) rfl) rfl ?_
            refine GS.opsNil ?_
            exact X.norm _ hg rfl (W.sub_cons rfl (W.sub_cons rfl (W.sub_cons rfl (W.sub_cons rfl (W.sub_cons rfl (W.sub_cons rfl (W.sub_cons rfl W.sub_nil)))))))
        refine X.cond rfl (fun h_6 => ?_) (fun h_6 => ?_)
        · replace hM := ite_t h_6 hM
          refine GS.region ?_
          iterate 4 refine X.opR rfl rfl rfl ?_
          refine GS.opsNil ?_
          refine GS.endB ?_
          exact X.gc [] (hj_3 x.Gauge.ID hM) rfl rfl rfl (gk_cons rfl ⟨9, rfl⟩ (gk_cons rfl ⟨9, rfl⟩ (gk_cons rfl ⟨9, rfl⟩ (gk_cons rfl ⟨9, rfl⟩ (gk_cons rfl ⟨9, rfl⟩ gk_nil))))) (gb_nil)
        · replace hM := ite_f h_6 hM
          refine GS.skip ?_
          refine GS.endB ?_
          exact X.gc [] (hj_3 id2 hM) rfl rfl rfl (gk_cons rfl ⟨9, rfl⟩ (gk_cons rfl ⟨9, rfl⟩ (gk_cons rfl ⟨9, rfl⟩ (gk_cons rfl ⟨9, rfl⟩ (gk_cons rfl ⟨9, rfl⟩ gk_nil))))) (gb_nil)
    · replace hM := ite_f h_1 hM
      refine GS.exit rfl ?_
      obtain ⟨y_1, hM, hy⟩ := map_of hM
      rw [hr_1 _ hy.symm] at hM
      exact X.gc [] (hj_1 id2 hM) rfl rfl rfl (gk_cons rfl ⟨9, rfl⟩ gk_nil) (gb_nil)

theorem ok_tide_Rests {w : api_Water} {l : (List api_Gauge)} {r : Int × Int × Int} (hM : tide_Rests w l = some r) : Ct Try.prog 26 [(e_api_Water w), (V.sl (List.map e_api_Gauge l))] (V.tup [(V.i r.1), (V.i r.2.1), (V.i r.2.2)]) := by
  refine ct_of_gs CC_ok rfl ?_
  unfold tide_Rests at hM
  refine GS.seq ?_
  refine GS.region ?_
  refine X.opW rfl rfl rfl rfl ?_
  iterate 3 refine X.opR rfl rfl rfl ?_
  refine GS.opsNil ?_
  refine GS.seq ?_
  obtain ⟨y, h_1, hM⟩ := bind_of hM
  refine GS.region ?_
  iterate 2 refine X.opR rfl rfl rfl ?_
  refine X.call (ok_tide_Levels h_1) rfl rfl rfl (.cons (.shut (n := 9) rfl) (.cons (.shut (n := 9) rfl) .nil)) ?_
  iterate 3 refine X.opR rfl rfl rfl ?_
  refine X.opW rfl rfl rfl rfl ?_
  refine X.op0W rfl rfl rfl ?_
  refine X.opR rfl rfl rfl ?_
  refine GS.opsNil ?_
  iterate 2 refine GS.seq ?_
  refine GS.region ?_
  iterate 2 refine X.opR rfl rfl rfl ?_
  refine GS.opsNil ?_
  refine X.cond rfl (fun h_2 => ?_) (fun h_2 => ?_)
  · replace hM := ite_t h_2 hM
    refine GS.seq ?_
    refine GS.region ?_
    iterate 4 refine X.opR rfl rfl rfl ?_
    refine GS.opsNil ?_
    have hE := Option.some.inj hM
    subst hE
    exact GS.ret ⟨_, rfl, ⟨30, rfl⟩⟩
  · replace hM := ite_f h_2 hM
    refine GS.skip ?_
    refine GS.seq ?_
    obtain ⟨y1, h_3, hM⟩ := bind_of hM
    refine GS.region ?_
    iterate 2 refine X.opR rfl rfl rfl ?_
    refine X.call (ok_tide_knowns h_3) rfl rfl rfl (.cons (.shut (n := 9) rfl) (.cons (.shut (n := 9) rfl) .nil)) ?_
    refine X.opW rfl rfl rfl rfl ?_
    refine X.op0W rfl rfl rfl ?_
    refine GS.opsNil ?_
    refine GS.seq ?_
    refine GS.region ?_
    iterate 2 refine X.opR rfl rfl rfl ?_
    refine GS.opsNil ?_
    refine GS.seq ?_
    obtain ⟨y2, h_4, hM⟩ := bind_of hM
    obtain ⟨y3, h_5, hM⟩ := bind_of hM
    refine X.drawc (by kernel_rfl) rfl ?_
    iterate 3 refine X.cop rfl rfl rfl rfl ?_
    refine X.cop rfl (X.subE rfl rfl) rfl rfl ?_
    refine X.ccallF (ok_tide_Rests_1 h_4) rfl rfl rfl rfl (m := 9) rfl (.cons (.shut (n := 9) rfl) (.cons (FR.arg ⟨30, rfl⟩) .nil)) ?_
    iterate 3 refine X.cop rfl rfl rfl rfl ?_
    refine X.cop rfl (X.addE rfl rfl) rfl rfl ?_
    refine X.ccallF (ok_tide_Rests_1 h_5) rfl rfl rfl rfl (m := 9) rfl (.cons (.shut (n := 9) rfl) (.cons (FR.arg ⟨30, rfl⟩) .nil)) ?_
    iterate 3 refine X.cop rfl rfl rfl rfl ?_
    refine X.cnil ?_
    refine X.norm [(4, (V.i y2)), (5, (V.i y3)), (6, (V.i 0))] ?_ rfl (W.sub_cons rfl (W.sub_cons rfl (W.sub_cons rfl W.sub_nil)))
    have hE := Option.some.inj hM
    subst hE
    exact GS.ret ⟨_, rfl, ⟨30, rfl⟩⟩

theorem ok_ref02_SameInts {a : (List Int)} {b : (List Int)} {r : Bool} (hM : ref02_SameInts a b = some r) : Ct Try.prog 52 [(V.sl (List.map V.i a)), (V.sl (List.map V.i b))] (V.b r) := by
  refine ct_of_gs CC_ok rfl ?_
  unfold ref02_SameInts at hM
  refine GS.seq ?_
  refine GS.region ?_
  refine X.opR rfl rfl rfl ?_
  refine GS.opsNil ?_
  iterate 2 refine GS.seq ?_
  refine GS.region ?_
  refine X.opR rfl rfl rfl ?_
  refine X.opR rfl (X.lenF rfl rfl rfl) rfl ?_
  refine X.opR rfl rfl rfl ?_
  refine X.opR rfl (X.lenF rfl rfl rfl) rfl ?_
  refine X.opR rfl rfl rfl ?_
  refine GS.opsNil ?_
  refine X.cond rfl (fun h_1 => ?_) (fun h_1 => ?_)
  · replace hM := ite_t h_1 hM
    refine GS.seq ?_
    refine GS.region ?_
    refine X.opR rfl rfl rfl ?_
    refine GS.opsNil ?_
    have hE := Option.some.inj hM
    subst hE
    exact GS.ret ⟨_, rfl, ⟨30, rfl⟩⟩
  · replace hM := ite_f h_1 hM
    refine GS.skip ?_
    iterate 2 refine GS.seq ?_
    refine GS.region ?_
    refine X.opR rfl rfl rfl ?_
    refine GS.opsNil ?_
    refine X.join (τ := Unit) (fun v => ref02_SameInts_j1 = some r) (fun v => ⟨[], [], 0, none, 26⟩) ?_ ?_
    · intro _ hM
      replace hM : ref02_SameInts_j1 = some r := hM
      unfold ref02_SameInts_j1 at hM
      refine GS.seq ?_
      refine GS.region ?_
      refine X.opR rfl rfl rfl ?_
      refine GS.opsNil ?_
      have hE := Option.some.inj hM
      subst hE
      exact GS.ret ⟨_, rfl, ⟨30, rfl⟩⟩
    · intro hj_1
      refine GS.block ?_
      refine X.gc [] (X.loop (σ := Int) (fun v => ⟨[(0, (V.sl (List.map V.i a))), (1, (V.sl (List.map V.i b))), (5, (V.i v))], [], 0, none, 26⟩) hM ?_ rfl) rfl rfl rfl (gk_cons rfl ⟨9, rfl⟩ (gk_cons rfl ⟨9, rfl⟩ (gk_cons rfl ⟨9, rfl⟩ gk_nil))) (gb_nil)
      intro i b_1 hM hc_2 hr_1
      rw [ref02_SameInts_b2] at hM
      iterate 2 refine GS.seq ?_
      refine GS.region ?_
      iterate 2 refine X.opR rfl rfl rfl ?_
      refine X.opR rfl (X.lenF rfl rfl rfl) rfl ?_
      refine X.opR rfl rfl rfl ?_
      refine GS.opsNil ?_
      refine X.cond rfl (fun h_2 => ?_) (fun h_2 => ?_)
      · replace hM := ite_t h_2 hM
        refine GS.skip ?_
        refine GS.seq ?_
        refine GS.block ?_
        refine GS.seq ?_
        obtain ⟨x, h_3, hM⟩ := bind_of hM
        obtain ⟨x1, h_4, hM⟩ := bind_of hM
        refine X.drawc (by kernel_rfl) rfl ?_
        iterate 2 refine X.cop rfl rfl rfl rfl ?_
        refine X.cop rfl (X.indexF (f := V.i) h_3 (fun _ => rfl) rfl rfl rfl rfl) rfl rfl ?_
        refine X.cop rfl (X.loadF h_3 rfl rfl rfl) rfl rfl ?_
        iterate 2 refine X.cop rfl rfl rfl rfl ?_
        refine X.cop rfl (X.indexF (f := V.i) h_4 (fun _ => rfl) rfl rfl rfl rfl) rfl rfl ?_
        refine X.cop rfl (X.loadF h_4 rfl rfl rfl) rfl rfl ?_
        refine X.cop rfl rfl rfl rfl ?_
        refine X.cnil ?_
        refine X.norm [(0, (V.sl (List.map V.i a))), (1, (V.sl (List.map V.i b))), (5, (V.i i)), (25, (V.b (!decide (x = x1))))] ?_ rfl (W.sub_cons rfl (W.sub_cons rfl (W.sub_cons rfl (W.sub_cons rfl W.sub_nil))))
        refine X.cond rfl (fun h_5 => ?_) (fun h_5 => ?_)
        · replace hM := ite_t h_5 hM
          refine GS.seq ?_
          refine GS.region ?_
          refine X.opR rfl rfl rfl ?_
          refine GS.opsNil ?_
          have hE := Option.some.inj hM
          replace hE := hr_1 _ hE.symm
          subst hE
          exact GS.ret ⟨_, rfl, ⟨30, rfl⟩⟩
        · replace hM := ite_f h_5 hM
          refine GS.skip ?_
          refine GS.endB ?_
          refine GS.region ?_
          refine X.opR rfl rfl rfl ?_
          refine X.opR rfl (X.addE rfl rfl) rfl ?_
          refine X.opR rfl rfl rfl ?_
          refine GS.opsNil ?_
          have hE := Option.some.inj hM
          exact X.gc [] (hc_2 (w64 (i + 1)) hE.symm) rfl rfl rfl (gk_cons rfl ⟨9, rfl⟩ (gk_cons rfl ⟨9, rfl⟩ (gk_cons rfl ⟨9, rfl⟩ gk_nil))) (gb_nil)
      · replace hM := ite_f h_2 hM
        refine GS.exit rfl ?_
        obtain ⟨y_1, hM, hy⟩ := map_of hM
        rw [hr_1 _ hy.symm] at hM
        exact X.gc [] (hj_1 () hM) rfl rfl rfl (gk_nil) (gb_nil)

theorem ok_ref02_SameCycle {a : api_Cycle} {b : api_Cycle} {r : Bool} (hM : ref02_SameCycle a b = some r) : Ct Try.prog 55 [(e_api_Cycle a), (e_api_Cycle b)] (V.b r) := by
  refine ct_of_gs CC_ok rfl ?_
  unfold ref02_SameCycle at hM
  refine GS.seq ?_
  refine GS.region ?_
  iterate 2 refine X.opW rfl rfl rfl rfl ?_
  refine X.opR rfl rfl rfl ?_
  refine GS.opsNil ?_
  refine GS.seq ?_
  obtain ⟨y, h_1, hM⟩ := bind_of hM
  refine GS.region ?_
  iterate 4 refine X.opR rfl rfl rfl ?_
  refine X.call (ok_ref02_SameInts h_1) rfl rfl rfl (.cons (.shut (n := 9) rfl) (.cons (.shut (n := 9) rfl) .nil)) ?_
  refine X.opR rfl rfl rfl ?_
  refine GS.opsNil ?_
  refine GS.seq ?_
  refine GS.region ?_
  refine X.mid [(4, (V.b (((y && (decide (a.ID = b.ID))) && (decide (a.Begin = b.Begin))) && (decide (a.Every = b.Every)))))] ?_ ?_
  · intro hg
    refine X.split (y) (fun h_2 => ?_) (fun h_2 => ?_)
    · refine X.split ((y && (decide (a.ID = b.ID)))) (fun h_3 => ?_) (fun h_3 => ?_)
      · refine X.split (((y && (decide (a.ID = b.ID))) && (decide (a.Begin = b.Begin)))) (fun h_4 => ?_) (fun h_4 => ?_)
        · iterate 2 refine X.opR rfl rfl rfl ?_
          iterate 5 refine X.opR (X.on_t rfl rfl rfl h_2) rfl rfl ?_
          refine X.opR rfl (X.pickand_t (y := decide (a.ID = b.ID)) rfl h_2 rfl) rfl ?_
          refine X.opR rfl rfl rfl ?_
          iterate 5 refine X.opR (X.on_t rfl rfl rfl h_3) rfl rfl ?_
          refine X.opR rfl (X.pickand_t (y := decide (a.Begin = b.Begin)) rfl h_3 rfl) rfl ?_
          refine X.opR rfl rfl rfl ?_
          iterate 5 refine X.opR (X.on_t rfl rfl rfl h_4) rfl rfl ?_
          refine X.opR rfl (X.pickand_t (y := decide (a.Every = b.Every)) rfl h_4 rfl) rfl ?_
          refine X.opR rfl rfl rfl ?_
          refine GS.opsNil ?_
          exact X.norm _ hg rfl (W.sub_cons rfl W.sub_nil)
        · iterate 2 refine X.opR rfl rfl rfl ?_
          iterate 5 refine X.opR (X.on_t rfl rfl rfl h_2) rfl rfl ?_
          refine X.opR rfl (X.pickand_t (y := decide (a.ID = b.ID)) rfl h_2 rfl) rfl ?_
          refine X.opR rfl rfl rfl ?_
          iterate 5 refine X.opR (X.on_t rfl rfl rfl h_3) rfl rfl ?_
          refine X.opR rfl (X.pickand_t (y := decide (a.Begin = b.Begin)) rfl h_3 rfl) rfl ?_
          refine X.opR rfl rfl rfl ?_
          iterate 5 refine X.off (X.off_t rfl rfl rfl h_4) rfl ?_
          refine X.opR rfl (X.pickand_f (y := decide (a.Every = b.Every)) rfl h_4 rfl) rfl ?_
          refine X.opR rfl rfl rfl ?_
          refine GS.opsNil ?_
          exact X.norm _ hg rfl (W.sub_cons rfl W.sub_nil)
      · iterate 2 refine X.opR rfl rfl rfl ?_
        iterate 5 refine X.opR (X.on_t rfl rfl rfl h_2) rfl rfl ?_
        refine X.opR rfl (X.pickand_t (y := decide (a.ID = b.ID)) rfl h_2 rfl) rfl ?_
        refine X.opR rfl rfl rfl ?_
        iterate 5 refine X.off (X.off_t rfl rfl rfl h_3) rfl ?_
        refine X.opR rfl (X.pickand_f (y := decide (a.Begin = b.Begin)) rfl h_3 rfl) rfl ?_
        refine X.opR rfl rfl rfl ?_
        iterate 5 refine X.off (X.off_t rfl rfl rfl (X.and_ff h_3)) rfl ?_
        refine X.opR rfl (X.pickand_f (y := decide (a.Every = b.Every)) rfl (X.and_ff h_3) rfl) rfl ?_
        refine X.opR rfl rfl rfl ?_
        refine GS.opsNil ?_
        exact X.norm _ hg rfl (W.sub_cons rfl W.sub_nil)
    · iterate 2 refine X.opR rfl rfl rfl ?_
      iterate 5 refine X.off (X.off_t rfl rfl rfl h_2) rfl ?_
      refine X.opR rfl (X.pickand_f (y := decide (a.ID = b.ID)) rfl h_2 rfl) rfl ?_
      refine X.opR rfl rfl rfl ?_
      iterate 5 refine X.off (X.off_t rfl rfl rfl (X.and_ff h_2)) rfl ?_
      refine X.opR rfl (X.pickand_f (y := decide (a.Begin = b.Begin)) rfl (X.and_ff h_2) rfl) rfl ?_
      refine X.opR rfl rfl rfl ?_
      iterate 5 refine X.off (X.off_t rfl rfl rfl (X.and_ff (X.and_ff h_2))) rfl ?_
      refine X.opR rfl (X.pickand_f (y := decide (a.Every = b.Every)) rfl (X.and_ff (X.and_ff h_2)) rfl) rfl ?_
      refine X.opR rfl rfl rfl ?_
      refine GS.opsNil ?_
      exact X.norm _ hg rfl (W.sub_cons rfl W.sub_nil)
  have hE := Option.some.inj hM
  subst hE
  exact GS.ret ⟨_, rfl, ⟨30, rfl⟩⟩

set_option maxHeartbeats 4000000 in
theorem ok_law02_sanity {r : Bool} (hM : law02_sanity = some r) : Ct Try.prog 19 [] (V.b r) := by
  refine ct_of_gs CC_ok rfl ?_
  unfold law02_sanity at hM
  refine GS.seq ?_
  refine GS.region ?_
  refine X.opR rfl rfl rfl ?_
  refine GS.opsNil ?_
  refine GS.seq ?_
  refine GS.region ?_
  refine X.call ok_law02_example rfl rfl rfl .nil ?_
  refine X.opW rfl rfl rfl rfl ?_
  refine X.op0W rfl rfl rfl ?_
  refine GS.opsNil ?_
  refine GS.seq ?_
  refine GS.region ?_
  refine X.opR rfl rfl rfl ?_
  refine X.opW rfl rfl rfl rfl ?_
  refine X.op0W rfl rfl rfl ?_
  refine GS.opsNil ?_
  refine GS.seq ?_
  obtain ⟨x, h_1, hM⟩ := bind_of hM
  obtain ⟨y, h_2, hM⟩ := bind_of hM
  refine GS.region ?_
  iterate 2 refine X.opR rfl rfl rfl ?_
  refine X.opR rfl (X.indexF (f := e_api_Cycle) h_1 (fun _ => rfl) rfl rfl rfl rfl) rfl ?_
  refine X.opR rfl (X.loadF h_1 rfl rfl rfl) rfl ?_
  refine X.call (ok_tide_Value h_2) rfl rfl rfl (.cons (.shut (n := 9) rfl) (.cons (.shut (n := 9) rfl) .nil)) ?_
  iterate 5 refine X.opR rfl rfl rfl ?_
  refine GS.opsNil ?_
  refine GS.seq ?_
  obtain ⟨y1, h_3, hM⟩ := bind_of hM
  refine GS.region ?_
  refine X.opR rfl rfl rfl ?_
  refine X.call (ok_tide_Height h_3) rfl rfl rfl (.cons (.shut (n := 9) rfl) (.cons (.shut (n := 9) rfl) .nil)) ?_
  iterate 5 refine X.opR rfl rfl rfl ?_
  refine GS.opsNil ?_
  refine GS.seq ?_
  obtain ⟨y2, h_4, hM⟩ := bind_of hM
  refine GS.region ?_
  iterate 2 refine X.opR rfl rfl rfl ?_
  refine X.call (ok_tide_Highest h_4) rfl rfl rfl (.cons (.shut (n := 9) rfl) (.cons (.shut (n := 9) rfl) .nil)) ?_
  iterate 7 refine X.opR rfl rfl rfl ?_
  refine GS.opsNil ?_
  refine GS.seq ?_
  obtain ⟨y3, h_5, hM⟩ := bind_of hM
  refine GS.region ?_
  iterate 2 refine X.opR rfl rfl rfl ?_
  refine X.call (ok_tide_Stands h_5) rfl rfl rfl (.cons (.shut (n := 9) rfl) (.cons (.shut (n := 9) rfl) .nil)) ?_
  iterate 5 refine X.opR rfl rfl rfl ?_
  refine GS.opsNil ?_
  refine GS.seq ?_
  obtain ⟨y4, h_6, hM⟩ := bind_of hM
  refine GS.region ?_
  iterate 2 refine X.opR rfl rfl rfl ?_
  refine X.call (ok_tide_LowWaters h_6) rfl rfl rfl (.cons (.shut (n := 9) rfl) (.cons (.shut (n := 9) rfl) .nil)) ?_
  iterate 5 refine X.opR rfl rfl rfl ?_
  refine GS.opsNil ?_
  refine GS.seq ?_
  obtain ⟨y5, h_7, hM⟩ := bind_of hM
  refine GS.region ?_
  iterate 2 refine X.opR rfl rfl rfl ?_
  refine X.call (ok_tide_Windows h_7) rfl rfl rfl (.cons (.shut (n := 9) rfl) (.cons (.shut (n := 9) rfl) (.cons (.shut (n := 9) rfl) .nil))) ?_
  iterate 5 refine X.opR rfl rfl rfl ?_
  refine GS.opsNil ?_
  refine GS.seq ?_
  obtain ⟨y6, h_8, hM⟩ := bind_of hM
  refine GS.region ?_
  iterate 2 refine X.opR rfl rfl rfl ?_
  refine X.call (ok_tide_Prove h_8) rfl rfl rfl (.cons (.shut (n := 9) rfl) (.cons (.shut (n := 9) rfl) (.cons (.shut (n := 9) rfl) .nil))) ?_
  iterate 5 refine X.opR rfl rfl rfl ?_
  refine GS.opsNil ?_
  iterate 2 refine GS.seq ?_
  refine GS.region ?_
  refine X.mid [(1, (V.ptr 0 0 0)), (12, (V.sl (List.map e_api_Stand y4.1))), (14, (V.sl (List.map e_api_Span y5.1))), (123, (V.b (((((((((((((!decide (y.2 = 0)) || (!decide (y.1 = 20))) || (!decide (y1.2 = 0))) || (!decide (y1.1 = 138))) || (!decide (y2.2.2 = 0))) || (!decide (y2.1 = 132))) || (!decide (y2.2.1 = 15))) || (!decide (y3.2 = 0))) || (!decide ((y3.1.length : Int) = 3))) || (!decide (y4.2 = 0))) || (!decide (y5.2 = 0))) || (!decide (y6.2 = 0))) || (!decide ((y6.1.length : Int) = 0)))))] ?_ ?_
  · intro hg
    refine X.split (!decide (y.2 = 0)) (fun h_9 => ?_) (fun h_9 => ?_)
    · iterate 3 refine X.opR rfl rfl rfl ?_
      iterate 2 refine X.off (X.off_f rfl rfl rfl h_9) rfl ?_
      refine X.opR rfl (X.pickor_t (y := !decide (y.1 = 20)) rfl h_9 rfl) rfl ?_
      refine X.opR rfl rfl rfl ?_
      iterate 2 refine X.off (X.off_f rfl rfl rfl (X.or_tt h_9)) rfl ?_
      refine X.opR rfl (X.pickor_t (y := !decide (y1.2 = 0)) rfl (X.or_tt h_9) rfl) rfl ?_
      refine X.opR rfl rfl rfl ?_
      iterate 2 refine X.off (X.off_f rfl rfl rfl (X.or_tt (X.or_tt h_9))) rfl ?_
      refine X.opR rfl (X.pickor_t (y := !decide (y1.1 = 138)) rfl (X.or_tt (X.or_tt h_9)) rfl) rfl ?_
      refine X.opR rfl rfl rfl ?_
      iterate 2 refine X.off (X.off_f rfl rfl rfl (X.or_tt (X.or_tt (X.or_tt h_9)))) rfl ?_
      refine X.opR rfl (X.pickor_t (y := !decide (y2.2.2 = 0)) rfl (X.or_tt (X.or_tt (X.or_tt h_9))) rfl) rfl ?_
      refine X.opR rfl rfl rfl ?_
      iterate 2 refine X.off (X.off_f rfl rfl rfl (X.or_tt (X.or_tt (X.or_tt (X.or_tt h_9))))) rfl ?_
      refine X.opR rfl (X.pickor_t (y := !decide (y2.1 = 132)) rfl (X.or_tt (X.or_tt (X.or_tt (X.or_tt h_9)))) rfl) rfl ?_
      refine X.opR rfl rfl rfl ?_
      iterate 2 refine X.off (X.off_f rfl rfl rfl (X.or_tt (X.or_tt (X.or_tt (X.or_tt (X.or_tt h_9)))))) rfl ?_
      refine X.opR rfl (X.pickor_t (y := !decide (y2.2.1 = 15)) rfl (X.or_tt (X.or_tt (X.or_tt (X.or_tt (X.or_tt h_9))))) rfl) rfl ?_
      refine X.opR rfl rfl rfl ?_
      iterate 2 refine X.off (X.off_f rfl rfl rfl (X.or_tt (X.or_tt (X.or_tt (X.or_tt (X.or_tt (X.or_tt h_9))))))) rfl ?_
      refine X.opR rfl (X.pickor_t (y := !decide (y3.2 = 0)) rfl (X.or_tt (X.or_tt (X.or_tt (X.or_tt (X.or_tt (X.or_tt h_9)))))) rfl) rfl ?_
      refine X.opR rfl rfl rfl ?_
      iterate 3 refine X.off (X.off_f rfl rfl rfl (X.or_tt (X.or_tt (X.or_tt (X.or_tt (X.or_tt (X.or_tt (X.or_tt h_9)))))))) rfl ?_
      refine X.opR rfl (X.pickor_t (y := !decide ((y3.1.length : Int) = 3)) rfl (X.or_tt (X.or_tt (X.or_tt (X.or_tt (X.or_tt (X.or_tt (X.or_tt h_9))))))) rfl) rfl ?_
      refine X.opR rfl rfl rfl ?_
      iterate 2 refine X.off (X.off_f rfl rfl rfl (X.or_tt (X.or_tt (X.or_tt (X.or_tt (X.or_tt (X.or_tt (X.or_tt (X.or_tt h_9))))))))) rfl ?_
      refine X.opR rfl (X.pickor_t (y := !decide (y4.2 = 0)) rfl (X.or_tt (X.or_tt (X.or_tt (X.or_tt (X.or_tt (X.or_tt (X.or_tt (X.or_tt h_9)))))))) rfl) rfl ?_
      refine X.opR rfl rfl rfl ?_
      iterate 2 refine X.off (X.off_f rfl rfl rfl (X.or_tt (X.or_tt (X.or_tt (X.or_tt (X.or_tt (X.or_tt (X.or_tt (X.or_tt (X.or_tt h_9)))))))))) rfl ?_
      refine X.opR rfl (X.pickor_t (y := !decide (y5.2 = 0)) rfl (X.or_tt (X.or_tt (X.or_tt (X.or_tt (X.or_tt (X.or_tt (X.or_tt (X.or_tt (X.or_tt h_9))))))))) rfl) rfl ?_
      refine X.opR rfl rfl rfl ?_
      iterate 2 refine X.off (X.off_f rfl rfl rfl (X.or_tt (X.or_tt (X.or_tt (X.or_tt (X.or_tt (X.or_tt (X.or_tt (X.or_tt (X.or_tt (X.or_tt h_9))))))))))) rfl ?_
      refine X.opR rfl (X.pickor_t (y := !decide (y6.2 = 0)) rfl (X.or_tt (X.or_tt (X.or_tt (X.or_tt (X.or_tt (X.or_tt (X.or_tt (X.or_tt (X.or_tt (X.or_tt h_9)))))))))) rfl) rfl ?_
      refine X.opR rfl rfl rfl ?_
      iterate 3 refine X.off (X.off_f rfl rfl rfl (X.or_tt (X.or_tt (X.or_tt (X.or_tt (X.or_tt (X.or_tt (X.or_tt (X.or_tt (X.or_tt (X.or_tt (X.or_tt h_9)))))))))))) rfl ?_
      refine X.opR rfl (X.pickor_t (y := !decide ((y6.1.length : Int) = 0)) rfl (X.or_tt (X.or_tt (X.or_tt (X.or_tt (X.or_tt (X.or_tt (X.or_tt (X.or_tt (X.or_tt (X.or_tt (X.or_tt h_9))))))))))) rfl) rfl ?_
      refine GS.opsNil ?_
      exact X.norm _ hg rfl (W.sub_cons rfl (W.sub_cons rfl (W.sub_cons rfl (W.sub_cons rfl W.sub_nil))))
    · refine X.split (((!decide (y.2 = 0)) || (!decide (y.1 = 20)))) (fun h_10 => ?_) (fun h_10 => ?_)
      · iterate 3 refine X.opR rfl rfl rfl ?_
        iterate 2 refine X.opR (X.on_f rfl rfl rfl h_9) rfl rfl ?_
        refine X.opR rfl (X.pickor_f (y := !decide (y.1 = 20)) rfl h_9 rfl) rfl ?_
        refine X.opR rfl rfl rfl ?_
        iterate 2 refine X.off (X.off_f rfl rfl rfl h_10) rfl ?_
        refine X.opR rfl (X.pickor_t (y := !decide (y1.2 = 0)) rfl h_10 rfl) rfl ?_
        refine X.opR rfl rfl rfl ?_
        iterate 2 refine X.off (X.off_f rfl rfl rfl (X.or_tt h_10)) rfl ?_
        refine X.opR rfl (X.pickor_t (y := !decide (y1.1 = 138)) rfl (X.or_tt h_10) rfl) rfl ?_
        refine X.opR rfl rfl rfl ?_
        iterate 2 refine X.off (X.off_f rfl rfl rfl (X.or_tt (X.or_tt h_10))) rfl ?_
        refine X.opR rfl (X.pickor_t (y := !decide (y2.2.2 = 0)) rfl (X.or_tt (X.or_tt h_10)) rfl) rfl ?_
        refine X.opR rfl rfl rfl ?_
        iterate 2 refine X.off (X.off_f rfl rfl rfl (X.or_tt (X.or_tt (X.or_tt h_10)))) rfl ?_
        refine X.opR rfl (X.pickor_t (y := !decide (y2.1 = 132)) rfl (X.or_tt (X.or_tt (X.or_tt h_10))) rfl) rfl ?_
        refine X.opR rfl rfl rfl ?_
        iterate 2 refine X.off (X.off_f rfl rfl rfl (X.or_tt (X.or_tt (X.or_tt (X.or_tt h_10))))) rfl ?_
        refine X.opR rfl (X.pickor_t (y := !decide (y2.2.1 = 15)) rfl (X.or_tt (X.or_tt (X.or_tt (X.or_tt h_10)))) rfl) rfl ?_
        refine X.opR rfl rfl rfl ?_
        iterate 2 refine X.off (X.off_f rfl rfl rfl (X.or_tt (X.or_tt (X.or_tt (X.or_tt (X.or_tt h_10)))))) rfl ?_
        refine X.opR rfl (X.pickor_t (y := !decide (y3.2 = 0)) rfl (X.or_tt (X.or_tt (X.or_tt (X.or_tt (X.or_tt h_10))))) rfl) rfl ?_
        refine X.opR rfl rfl rfl ?_
        iterate 3 refine X.off (X.off_f rfl rfl rfl (X.or_tt (X.or_tt (X.or_tt (X.or_tt (X.or_tt (X.or_tt h_10))))))) rfl ?_
        refine X.opR rfl (X.pickor_t (y := !decide ((y3.1.length : Int) = 3)) rfl (X.or_tt (X.or_tt (X.or_tt (X.or_tt (X.or_tt (X.or_tt h_10)))))) rfl) rfl ?_
        refine X.opR rfl rfl rfl ?_
        iterate 2 refine X.off (X.off_f rfl rfl rfl (X.or_tt (X.or_tt (X.or_tt (X.or_tt (X.or_tt (X.or_tt (X.or_tt h_10)))))))) rfl ?_
        refine X.opR rfl (X.pickor_t (y := !decide (y4.2 = 0)) rfl (X.or_tt (X.or_tt (X.or_tt (X.or_tt (X.or_tt (X.or_tt (X.or_tt h_10))))))) rfl) rfl ?_
        refine X.opR rfl rfl rfl ?_
        iterate 2 refine X.off (X.off_f rfl rfl rfl (X.or_tt (X.or_tt (X.or_tt (X.or_tt (X.or_tt (X.or_tt (X.or_tt (X.or_tt h_10))))))))) rfl ?_
        refine X.opR rfl (X.pickor_t (y := !decide (y5.2 = 0)) rfl (X.or_tt (X.or_tt (X.or_tt (X.or_tt (X.or_tt (X.or_tt (X.or_tt (X.or_tt h_10)))))))) rfl) rfl ?_
        refine X.opR rfl rfl rfl ?_
        iterate 2 refine X.off (X.off_f rfl rfl rfl (X.or_tt (X.or_tt (X.or_tt (X.or_tt (X.or_tt (X.or_tt (X.or_tt (X.or_tt (X.or_tt h_10)))))))))) rfl ?_
        refine X.opR rfl (X.pickor_t (y := !decide (y6.2 = 0)) rfl (X.or_tt (X.or_tt (X.or_tt (X.or_tt (X.or_tt (X.or_tt (X.or_tt (X.or_tt (X.or_tt h_10))))))))) rfl) rfl ?_
        refine X.opR rfl rfl rfl ?_
        iterate 3 refine X.off (X.off_f rfl rfl rfl (X.or_tt (X.or_tt (X.or_tt (X.or_tt (X.or_tt (X.or_tt (X.or_tt (X.or_tt (X.or_tt (X.or_tt h_10))))))))))) rfl ?_
        refine X.opR rfl (X.pickor_t (y := !decide ((y6.1.length : Int) = 0)) rfl (X.or_tt (X.or_tt (X.or_tt (X.or_tt (X.or_tt (X.or_tt (X.or_tt (X.or_tt (X.or_tt (X.or_tt h_10)))))))))) rfl) rfl ?_
        refine GS.opsNil ?_
        exact X.norm _ hg rfl (W.sub_cons rfl (W.sub_cons rfl (W.sub_cons rfl (W.sub_cons rfl W.sub_nil))))
      · refine X.split ((((!decide (y.2 = 0)) || (!decide (y.1 = 20))) || (!decide (y1.2 = 0)))) (fun h_11 => ?_) (fun h_11 => ?_)
        · iterate 3 refine X.opR rfl rfl rfl ?_
          iterate 2 refine X.opR (X.on_f rfl rfl rfl h_9) rfl rfl ?_
          refine X.opR rfl (X.pickor_f (y := !decide (y.1 = 20)) rfl h_9 rfl) rfl ?_
          refine X.opR rfl rfl rfl ?_
          iterate 2 refine X.opR (X.on_f rfl rfl rfl h_10) rfl rfl ?_
          refine X.opR rfl (X.pickor_f (y := !decide (y1.2 = 0)) rfl h_10 rfl) rfl ?_
          refine X.opR rfl rfl rfl ?_
          iterate 2 refine X.off (X.off_f rfl rfl rfl h_11) rfl ?_
          refine X.opR rfl (X.pickor_t (y := !decide (y1.1 = 138)) rfl h_11 rfl) rfl ?_
          refine X.opR rfl rfl rfl ?_
          iterate 2 refine X.off (X.off_f rfl rfl rfl (X.or_tt h_11)) rfl ?_
          refine X.opR rfl (X.pickor_t (y := !decide (y2.2.2 = 0)) rfl (X.or_tt h_11) rfl) rfl ?_
          refine X.opR rfl rfl rfl ?_
          iterate 2 refine X.off (X.off_f rfl rfl rfl (X.or_tt (X.or_tt h_11))) rfl ?_
          refine X.opR rfl (X.pickor_t (y := !decide (y2.1 = 132)) rfl (X.or_tt (X.or_tt h_11)) rfl) rfl ?_
          refine X.opR rfl rfl rfl ?_
          iterate 2 refine X.off (X.off_f rfl rfl rfl (X.or_tt (X.or_tt (X.or_tt h_11)))) rfl ?_
          refine X.opR rfl (X.pickor_t (y := !decide (y2.2.1 = 15)) rfl (X.or_tt (X.or_tt (X.or_tt h_11))) rfl) rfl ?_
          refine X.opR rfl rfl rfl ?_
          iterate 2 refine X.off (X.off_f rfl rfl rfl (X.or_tt (X.or_tt (X.or_tt (X.or_tt h_11))))) rfl ?_
          refine X.opR rfl (X.pickor_t (y := !decide (y3.2 = 0)) rfl (X.or_tt (X.or_tt (X.or_tt (X.or_tt h_11)))) rfl) rfl ?_
          refine X.opR rfl rfl rfl ?_
          iterate 3 refine X.off (X.off_f rfl rfl rfl (X.or_tt (X.or_tt (X.or_tt (X.or_tt (X.or_tt h_11)))))) rfl ?_
          refine X.opR rfl (X.pickor_t (y := !decide ((y3.1.length : Int) = 3)) rfl (X.or_tt (X.or_tt (X.or_tt (X.or_tt (X.or_tt h_11))))) rfl) rfl ?_
          refine X.opR rfl rfl rfl ?_
          iterate 2 refine X.off (X.off_f rfl rfl rfl (X.or_tt (X.or_tt (X.or_tt (X.or_tt (X.or_tt (X.or_tt h_11))))))) rfl ?_
          refine X.opR rfl (X.pickor_t (y := !decide (y4.2 = 0)) rfl (X.or_tt (X.or_tt (X.or_tt (X.or_tt (X.or_tt (X.or_tt h_11)))))) rfl) rfl ?_
          refine X.opR rfl rfl rfl ?_
          iterate 2 refine X.off (X.off_f rfl rfl rfl (X.or_tt (X.or_tt (X.or_tt (X.or_tt (X.or_tt (X.or_tt (X.or_tt h_11)))))))) rfl ?_
          refine X.opR rfl (X.pickor_t (y := !decide (y5.2 = 0)) rfl (X.or_tt (X.or_tt (X.or_tt (X.or_tt (X.or_tt (X.or_tt (X.or_tt h_11))))))) rfl) rfl ?_
          refine X.opR rfl rfl rfl ?_
          iterate 2 refine X.off (X.off_f rfl rfl rfl (X.or_tt (X.or_tt (X.or_tt (X.or_tt (X.or_tt (X.or_tt (X.or_tt (X.or_tt h_11))))))))) rfl ?_
          refine X.opR rfl (X.pickor_t (y := !decide (y6.2 = 0)) rfl (X.or_tt (X.or_tt (X.or_tt (X.or_tt (X.or_tt (X.or_tt (X.or_tt (X.or_tt h_11)))))))) rfl) rfl ?_
          refine X.opR rfl rfl rfl ?_
          iterate 3 refine X.off (X.off_f rfl rfl rfl (X.or_tt (X.or_tt (X.or_tt (X.or_tt (X.or_tt (X.or_tt (X.or_tt (X.or_tt (X.or_tt h_11)))))))))) rfl ?_
          refine X.opR rfl (X.pickor_t (y := !decide ((y6.1.length : Int) = 0)) rfl (X.or_tt (X.or_tt (X.or_tt (X.or_tt (X.or_tt (X.or_tt (X.or_tt (X.or_tt (X.or_tt h_11))))))))) rfl) rfl ?_
          refine GS.opsNil ?_
          exact X.norm _ hg rfl (W.sub_cons rfl (W.sub_cons rfl (W.sub_cons rfl (W.sub_cons rfl W.sub_nil))))
        · refine X.split (((((!decide (y.2 = 0)) || (!decide (y.1 = 20))) || (!decide (y1.2 = 0))) || (!decide (y1.1 = 138)))) (fun h_12 => ?_) (fun h_12 => ?_)
          · iterate 3 refine X.opR rfl rfl rfl ?_
            iterate 2 refine X.opR (X.on_f rfl rfl rfl h_9) rfl rfl ?_
            refine X.opR rfl (X.pickor_f (y := !decide (y.1 = 20)) rfl h_9 rfl) rfl ?_
            refine X.opR rfl rfl rfl ?_
            iterate 2 refine X.opR (X.on_f rfl rfl rfl h_10) rfl rfl ?_
            refine X.opR rfl (X.pickor_f (y := !decide (y1.2 = 0)) rfl h_10 rfl) rfl ?_
            refine X.opR rfl rfl rfl ?_
            iterate 2 refine X.opR (X.on_f rfl rfl rfl h_11) rfl rfl ?_
            refine X.opR rfl (X.pickor_f (y := !decide (y1.1 = 138)) rfl h_11 rfl) rfl ?_
            refine X.opR rfl rfl rfl ?_
            iterate 2 refine X.off (X.off_f rfl rfl rfl h_12) rfl ?_
            refine X.opR rfl (X.pickor_t (y := !decide (y2.2.2 = 0)) rfl h_12 rfl) rfl ?_
            refine X.opR rfl rfl rfl ?_
            iterate 2 refine X.off (X.off_f rfl rfl rfl (X.or_tt h_12)) rfl ?_
            refine X.opR rfl (X.pickor_t (y := !decide (y2.1 = 132)) rfl (X.or_tt h_12) rfl) rfl ?_
            refine X.opR rfl rfl rfl ?_
            iterate 2 refine X.off (X.off_f rfl rfl rfl (X.or_tt (X.or_tt h_12))) rfl ?_
            refine X.opR rfl (X.pickor_t (y := !decide (y2.2.1 = 15)) rfl (X.or_tt (X.or_tt h_12)) rfl) rfl ?_
            refine X.opR rfl rfl rfl ?_
            iterate 2 refine X.off (X.off_f rfl rfl rfl (X.or_tt (X.or_tt (X.or_tt h_12)))) rfl ?_
            refine X.opR rfl (X.pickor_t (y := !decide (y3.2 = 0)) rfl (X.or_tt (X.or_tt (X.or_tt h_12))) rfl) rfl ?_
            refine X.opR rfl rfl rfl ?_
            iterate 3 refine X.off (X.off_f rfl rfl rfl (X.or_tt (X.or_tt (X.or_tt (X.or_tt h_12))))) rfl ?_
            refine X.opR rfl (X.pickor_t (y := !decide ((y3.1.length : Int) = 3)) rfl (X.or_tt (X.or_tt (X.or_tt (X.or_tt h_12)))) rfl) rfl ?_
            refine X.opR rfl rfl rfl ?_
            iterate 2 refine X.off (X.off_f rfl rfl rfl (X.or_tt (X.or_tt (X.or_tt (X.or_tt (X.or_tt h_12)))))) rfl ?_
            refine X.opR rfl (X.pickor_t (y := !decide (y4.2 = 0)) rfl (X.or_tt (X.or_tt (X.or_tt (X.or_tt (X.or_tt h_12))))) rfl) rfl ?_
            refine X.opR rfl rfl rfl ?_
            iterate 2 refine X.off (X.off_f rfl rfl rfl (X.or_tt (X.or_tt (X.or_tt (X.or_tt (X.or_tt (X.or_tt h_12))))))) rfl ?_
            refine X.opR rfl (X.pickor_t (y := !decide (y5.2 = 0)) rfl (X.or_tt (X.or_tt (X.or_tt (X.or_tt (X.or_tt (X.or_tt h_12)))))) rfl) rfl ?_
            refine X.opR rfl rfl rfl ?_
            iterate 2 refine X.off (X.off_f rfl rfl rfl (X.or_tt (X.or_tt (X.or_tt (X.or_tt (X.or_tt (X.or_tt (X.or_tt h_12)))))))) rfl ?_
            refine X.opR rfl (X.pickor_t (y := !decide (y6.2 = 0)) rfl (X.or_tt (X.or_tt (X.or_tt (X.or_tt (X.or_tt (X.or_tt (X.or_tt h_12))))))) rfl) rfl ?_
            refine X.opR rfl rfl rfl ?_
            iterate 3 refine X.off (X.off_f rfl rfl rfl (X.or_tt (X.or_tt (X.or_tt (X.or_tt (X.or_tt (X.or_tt (X.or_tt (X.or_tt h_12))))))))) rfl ?_
            refine X.opR rfl (X.pickor_t (y := !decide ((y6.1.length : Int) = 0)) rfl (X.or_tt (X.or_tt (X.or_tt (X.or_tt (X.or_tt (X.or_tt (X.or_tt (X.or_tt h_12)))))))) rfl) rfl ?_
            refine GS.opsNil ?_
            exact X.norm _ hg rfl (W.sub_cons rfl (W.sub_cons rfl (W.sub_cons rfl (W.sub_cons rfl W.sub_nil))))
          · refine X.split ((((((!decide (y.2 = 0)) || (!decide (y.1 = 20))) || (!decide (y1.2 = 0))) || (!decide (y1.1 = 138))) || (!decide (y2.2.2 = 0)))) (fun h_13 => ?_) (fun h_13 => ?_)
            · iterate 3 refine X.opR rfl rfl rfl ?_
              iterate 2 refine X.opR (X.on_f rfl rfl rfl h_9) rfl rfl ?_
              refine X.opR rfl (X.pickor_f (y := !decide (y.1 = 20)) rfl h_9 rfl) rfl ?_
              refine X.opR rfl rfl rfl ?_
              iterate 2 refine X.opR (X.on_f rfl rfl rfl h_10) rfl rfl ?_
              refine X.opR rfl (X.pickor_f (y := !decide (y1.2 = 0)) rfl h_10 rfl) rfl ?_
              refine X.opR rfl rfl rfl ?_
              iterate 2 refine X.opR (X.on_f rfl rfl rfl h_11) rfl rfl ?_
              refine X.opR rfl (X.pickor_f (y := !decide (y1.1 = 138)) rfl h_11 rfl) rfl ?_
              refine X.opR rfl rfl rfl ?_
              iterate 2 refine X.opR (X.on_f rfl rfl rfl h_12) rfl rfl ?_
              refine X.opR rfl (X.pickor_f (y := !decide (y2.2.2 = 0)) rfl h_12 rfl) rfl ?_
              refine X.opR rfl rfl rfl ?_
              iterate 2 refine X.off (X.off_f rfl rfl rfl h_13) rfl ?_
              refine X.opR rfl (X.pickor_t (y := !decide (y2.1 = 132)) rfl h_13 rfl) rfl ?_
              refine X.opR rfl rfl rfl ?_
              iterate 2 refine X.off (X.off_f rfl rfl rfl (X.or_tt h_13)) rfl ?_
              refine X.opR rfl (X.pickor_t (y := !decide (y2.2.1 = 15)) rfl (X.or_tt h_13) rfl) rfl ?_
              refine X.opR rfl rfl rfl ?_
              iterate 2 refine X.off (X.off_f rfl rfl rfl (X.or_tt (X.or_tt h_13))) rfl ?_
              refine X.opR rfl (X.pickor_t (y := !decide (y3.2 = 0)) rfl (X.or_tt (X.or_tt h_13)) rfl) rfl ?_
              refine X.opR rfl rfl rfl ?_
              iterate 3 refine X.off (X.off_f rfl rfl rfl (X.or_tt (X.or_tt (X.or_tt h_13)))) rfl ?_
              refine X.opR rfl (X.pickor_t (y := !decide ((y3.1.length : Int) = 3)) rfl (X.or_tt (X.or_tt (X.or_tt h_13))) rfl) rfl ?_
              refine X.opR rfl rfl rfl ?_
              iterate 2 refine X.off (X.off_f rfl rfl rfl (X.or_tt (X.or_tt (X.or_tt (X.or_tt h_13))))) rfl ?_
              refine X.opR rfl (X.pickor_t (y := !decide (y4.2 = 0)) rfl (X.or_tt (X.or_tt (X.or_tt (X.or_tt h_13)))) rfl) rfl ?_
              refine X.opR rfl rfl rfl ?_
              iterate 2 refine X.off (X.off_f rfl rfl rfl (X.or_tt (X.or_tt (X.or_tt (X.or_tt (X.or_tt h_13)))))) rfl ?_
              refine X.opR rfl (X.pickor_t (y := !decide (y5.2 = 0)) rfl (X.or_tt (X.or_tt (X.or_tt (X.or_tt (X.or_tt h_13))))) rfl) rfl ?_
              refine X.opR rfl rfl rfl ?_
              iterate 2 refine X.off (X.off_f rfl rfl rfl (X.or_tt (X.or_tt (X.or_tt (X.or_tt (X.or_tt (X.or_tt h_13))))))) rfl ?_
              refine X.opR rfl (X.pickor_t (y := !decide (y6.2 = 0)) rfl (X.or_tt (X.or_tt (X.or_tt (X.or_tt (X.or_tt (X.or_tt h_13)))))) rfl) rfl ?_
              refine X.opR rfl rfl rfl ?_
              iterate 3 refine X.off (X.off_f rfl rfl rfl (X.or_tt (X.or_tt (X.or_tt (X.or_tt (X.or_tt (X.or_tt (X.or_tt h_13)))))))) rfl ?_
              refine X.opR rfl (X.pickor_t (y := !decide ((y6.1.length : Int) = 0)) rfl (X.or_tt (X.or_tt (X.or_tt (X.or_tt (X.or_tt (X.or_tt (X.or_tt h_13))))))) rfl) rfl ?_
              refine GS.opsNil ?_
              exact X.norm _ hg rfl (W.sub_cons rfl (W.sub_cons rfl (W.sub_cons rfl (W.sub_cons rfl W.sub_nil))))
            · refine X.split (((((((!decide (y.2 = 0)) || (!decide (y.1 = 20))) || (!decide (y1.2 = 0))) || (!decide (y1.1 = 138))) || (!decide (y2.2.2 = 0))) || (!decide (y2.1 = 132)))) (fun h_14 => ?_) (fun h_14 => ?_)
              · iterate 3 refine X.opR rfl rfl rfl ?_
                iterate 2 refine X.opR (X.on_f rfl rfl rfl h_9) rfl rfl ?_
                refine X.opR rfl (X.pickor_f (y := !decide (y.1 = 20)) rfl h_9 rfl) rfl ?_
                refine X.opR rfl rfl rfl ?_
                iterate 2 refine X.opR (X.on_f rfl rfl rfl h_10) rfl rfl ?_
                refine X.opR rfl (X.pickor_f (y := !decide (y1.2 = 0)) rfl h_10 rfl) rfl ?_
                refine X.opR rfl rfl rfl ?_
                iterate 2 refine X.opR (X.on_f rfl rfl rfl h_11) rfl rfl ?_
                refine X.opR rfl (X.pickor_f (y := !decide (y1.1 = 138)) rfl h_11 rfl) rfl ?_
                refine X.opR rfl rfl rfl ?_
                iterate 2 refine X.opR (X.on_f rfl rfl rfl h_12) rfl rfl ?_
                refine X.opR rfl (X.pickor_f (y := !decide (y2.2.2 = 0)) rfl h_12 rfl) rfl ?_
                refine X.opR rfl rfl rfl ?_
                iterate 2 refine X.opR (X.on_f rfl rfl rfl h_13) rfl rfl ?_
                refine X.opR rfl (X.pickor_f (y := !decide (y2.1 = 132)) rfl h_13 rfl) rfl ?_
                refine X.opR rfl rfl rfl ?_
                iterate 2 refine X.off (X.off_f rfl rfl rfl h_14) rfl ?_
                refine X.opR rfl (X.pickor_t (y := !decide (y2.2.1 = 15)) rfl h_14 rfl) rfl ?_
                refine X.opR rfl rfl rfl ?_
                iterate 2 refine X.off (X.off_f rfl rfl rfl (X.or_tt h_14)) rfl ?_
                refine X.opR rfl (X.pickor_t (y := !decide (y3.2 = 0)) rfl (X.or_tt h_14) rfl) rfl ?_
                refine X.opR rfl rfl rfl ?_
                iterate 3 refine X.off (X.off_f rfl rfl rfl (X.or_tt (X.or_tt h_14))) rfl ?_
                refine X.opR rfl (X.pickor_t (y := !decide ((y3.1.length : Int) = 3)) rfl (X.or_tt (X.or_tt h_14)) rfl) rfl ?_
                refine X.opR rfl rfl rfl ?_
                iterate 2 refine X.off (X.off_f rfl rfl rfl (X.or_tt (X.or_tt (X.or_tt h_14)))) rfl ?_
                refine X.opR rfl (X.pickor_t (y := !decide (y4.2 = 0)) rfl (X.or_tt (X.or_tt (X.or_tt h_14))) rfl) rfl ?_
                refine X.opR rfl rfl rfl ?_
                iterate 2 refine X.off (X.off_f rfl rfl rfl (X.or_tt (X.or_tt (X.or_tt (X.or_tt h_14))))) rfl ?_
                refine X.opR rfl (X.pickor_t (y := !decide (y5.2 = 0)) rfl (X.or_tt (X.or_tt (X.or_tt (X.or_tt h_14)))) rfl) rfl ?_
                refine X.opR rfl rfl rfl ?_
                iterate 2 refine X.off (X.off_f rfl rfl rfl (X.or_tt (X.or_tt (X.or_tt (X.or_tt (X.or_tt h_14)))))) rfl ?_
                refine X.opR rfl (X.pickor_t (y := !decide (y6.2 = 0)) rfl (X.or_tt (X.or_tt (X.or_tt (X.or_tt (X.or_tt h_14))))) rfl) rfl ?_
                refine X.opR rfl rfl rfl ?_
                iterate 3 refine X.off (X.off_f rfl rfl rfl (X.or_tt (X.or_tt (X.or_tt (X.or_tt (X.or_tt (X.or_tt h_14))))))) rfl ?_
                refine X.opR rfl (X.pickor_t (y := !decide ((y6.1.length : Int) = 0)) rfl (X.or_tt (X.or_tt (X.or_tt (X.or_tt (X.or_tt (X.or_tt h_14)))))) rfl) rfl ?_
                refine GS.opsNil ?_
                exact X.norm _ hg rfl (W.sub_cons rfl (W.sub_cons rfl (W.sub_cons rfl (W.sub_cons rfl W.sub_nil))))
              · refine X.split ((((((((!decide (y.2 = 0)) || (!decide (y.1 = 20))) || (!decide (y1.2 = 0))) || (!decide (y1.1 = 138))) || (!decide (y2.2.2 = 0))) || (!decide (y2.1 = 132))) || (!decide (y2.2.1 = 15)))) (fun h_15 => ?_) (fun h_15 => ?_)
                · iterate 3 refine X.opR rfl rfl rfl ?_
                  iterate 2 refine X.opR (X.on_f rfl rfl rfl h_9) rfl rfl ?_
                  refine X.opR rfl (X.pickor_f (y := !decide (y.1 = 20)) rfl h_9 rfl) rfl ?_
                  refine X.opR rfl rfl rfl ?_
                  iterate 2 refine X.opR (X.on_f rfl rfl rfl h_10) rfl rfl ?_
                  refine X.opR rfl (X.pickor_f (y := !decide (y1.2 = 0)) rfl h_10 rfl) rfl ?_
                  refine X.opR rfl rfl rfl ?_
                  iterate 2 refine X.opR (X.on_f rfl rfl rfl h_11) rfl rfl ?_
                  refine X.opR rfl (X.pickor_f (y := !decide (y1.1 = 138)) rfl h_11 rfl) rfl ?_
                  refine X.opR rfl rfl rfl ?_
                  iterate 2 refine X.opR (X.on_f rfl rfl rfl h_12) rfl rfl ?_
                  refine X.opR rfl (X.pickor_f (y := !decide (y2.2.2 = 0)) rfl h_12 rfl) rfl ?_
                  refine X.opR rfl rfl rfl ?_
                  iterate 2 refine X.opR (X.on_f rfl rfl rfl h_13) rfl rfl ?_
                  refine X.opR rfl (X.pickor_f (y := !decide (y2.1 = 132)) rfl h_13 rfl) rfl ?_
                  refine X.opR rfl rfl rfl ?_
                  iterate 2 refine X.opR (X.on_f rfl rfl rfl h_14) rfl rfl ?_
                  refine X.opR rfl (X.pickor_f (y := !decide (y2.2.1 = 15)) rfl h_14 rfl) rfl ?_
                  refine X.opR rfl rfl rfl ?_
                  iterate 2 refine X.off (X.off_f rfl rfl rfl h_15) rfl ?_
                  refine X.opR rfl (X.pickor_t (y := !decide (y3.2 = 0)) rfl h_15 rfl) rfl ?_
                  refine X.opR rfl rfl rfl ?_
                  iterate 3 refine X.off (X.off_f rfl rfl rfl (X.or_tt h_15)) rfl ?_
                  refine X.opR rfl (X.pickor_t (y := !decide ((y3.1.length : Int) = 3)) rfl (X.or_tt h_15) rfl) rfl ?_
                  refine X.opR rfl rfl rfl ?_
                  iterate 2 refine X.off (X.off_f rfl rfl rfl (X.or_tt (X.or_tt h_15))) rfl ?_
                  refine X.opR rfl (X.pickor_t (y := !decide (y4.2 = 0)) rfl (X.or_tt (X.or_tt h_15)) rfl) rfl ?_
                  refine X.opR rfl rfl rfl ?_
                  iterate 2 refine X.off (X.off_f rfl rfl rfl (X.or_tt (X.or_tt (X.or_tt h_15)))) rfl ?_
                  refine X.opR rfl (X.pickor_t (y := !decide (y5.2 = 0)) rfl (X.or_tt (X.or_tt (X.or_tt h_15))) rfl) rfl ?_
                  refine X.opR rfl rfl rfl ?_
                  iterate 2 refine X.off (X.off_f rfl rfl rfl (X.or_tt (X.or_tt (X.or_tt (X.or_tt h_15))))) rfl ?_
                  refine X.opR rfl (X.pickor_t (y := !decide (y6.2 = 0)) rfl (X.or_tt (X.or_tt (X.or_tt (X.or_tt h_15)))) rfl) rfl ?_
                  refine X.opR rfl rfl rfl ?_
                  iterate 3 refine X.off (X.off_f rfl rfl rfl (X.or_tt (X.or_tt (X.or_tt (X.or_tt (X.or_tt h_15)))))) rfl ?_
                  refine X.opR rfl (X.pickor_t (y := !decide ((y6.1.length : Int) = 0)) rfl (X.or_tt (X.or_tt (X.or_tt (X.or_tt (X.or_tt h_15))))) rfl) rfl ?_
                  refine GS.opsNil ?_
                  exact X.norm _ hg rfl (W.sub_cons rfl (W.sub_cons rfl (W.sub_cons rfl (W.sub_cons rfl W.sub_nil))))
                · refine X.split (((((((((!decide (y.2 = 0)) || (!decide (y.1 = 20))) || (!decide (y1.2 = 0))) || (!decide (y1.1 = 138))) || (!decide (y2.2.2 = 0))) || (!decide (y2.1 = 132))) || (!decide (y2.2.1 = 15))) || (!decide (y3.2 = 0)))) (fun h_16 => ?_) (fun h_16 => ?_)
                  · iterate 3 refine X.opR rfl rfl rfl ?_
                    iterate 2 refine X.opR (X.on_f rfl rfl rfl h_9) rfl rfl ?_
                    refine X.opR rfl (X.pickor_f (y := !decide (y.1 = 20)) rfl h_9 rfl) rfl ?_
                    refine X.opR rfl rfl rfl ?_
                    iterate 2 refine X.opR (X.on_f rfl rfl rfl h_10) rfl rfl ?_
                    refine X.opR rfl (X.pickor_f (y := !decide (y1.2 = 0)) rfl h_10 rfl) rfl ?_
                    refine X.opR rfl rfl rfl ?_
                    iterate 2 refine X.opR (X.on_f rfl rfl rfl h_11) rfl rfl ?_
                    refine X.opR rfl (X.pickor_f (y := !decide (y1.1 = 138)) rfl h_11 rfl) rfl ?_
                    refine X.opR rfl rfl rfl ?_
                    iterate 2 refine X.opR (X.on_f rfl rfl rfl h_12) rfl rfl ?_
                    refine X.opR rfl (X.pickor_f (y := !decide (y2.2.2 = 0)) rfl h_12 rfl) rfl ?_
                    refine X.opR rfl rfl rfl ?_
                    iterate 2 refine X.opR (X.on_f rfl rfl rfl h_13) rfl rfl ?_
                    refine X.opR rfl (X.pickor_f (y := !decide (y2.1 = 132)) rfl h_13 rfl) rfl ?_
                    refine X.opR rfl rfl rfl ?_
                    iterate 2 refine X.opR (X.on_f rfl rfl rfl h_14) rfl rfl ?_
                    refine X.opR rfl (X.pickor_f (y := !decide (y2.2.1 = 15)) rfl h_14 rfl) rfl ?_
                    refine X.opR rfl rfl rfl ?_
                    iterate 2 refine X.opR (X.on_f rfl rfl rfl h_15) rfl rfl ?_
                    refine X.opR rfl (X.pickor_f (y := !decide (y3.2 = 0)) rfl h_15 rfl) rfl ?_
                    refine X.opR rfl rfl rfl ?_
                    iterate 3 refine X.off (X.off_f rfl rfl rfl h_16) rfl ?_
                    refine X.opR rfl (X.pickor_t (y := !decide ((y3.1.length : Int) = 3)) rfl h_16 rfl) rfl ?_
                    refine X.opR rfl rfl rfl ?_
                    iterate 2 refine X.off (X.off_f rfl rfl rfl (X.or_tt h_16)) rfl ?_
                    refine X.opR rfl (X.pickor_t (y := !decide (y4.2 = 0)) rfl (X.or_tt h_16) rfl) rfl ?_
                    refine X.opR rfl rfl rfl ?_
                    iterate 2 refine X.off (X.off_f rfl rfl rfl (X.or_tt (X.or_tt h_16))) rfl ?_
                    refine X.opR rfl (X.pickor_t (y := !decide (y5.2 = 0)) rfl (X.or_tt (X.or_tt h_16)) rfl) rfl ?_
                    refine X.opR rfl rfl rfl ?_
                    iterate 2 refine X.off (X.off_f rfl rfl rfl (X.or_tt (X.or_tt (X.or_tt h_16)))) rfl ?_
                    refine X.opR rfl (X.pickor_t (y := !decide (y6.2 = 0)) rfl (X.or_tt (X.or_tt (X.or_tt h_16))) rfl) rfl ?_
                    refine X.opR rfl rfl rfl ?_
                    iterate 3 refine X.off (X.off_f rfl rfl rfl (X.or_tt (X.or_tt (X.or_tt (X.or_tt h_16))))) rfl ?_
                    refine X.opR rfl (X.pickor_t (y := !decide ((y6.1.length : Int) = 0)) rfl (X.or_tt (X.or_tt (X.or_tt (X.or_tt h_16)))) rfl) rfl ?_
                    refine GS.opsNil ?_
                    exact X.norm _ hg rfl (W.sub_cons rfl (W.sub_cons rfl (W.sub_cons rfl (W.sub_cons rfl W.sub_nil))))
                  · refine X.split ((((((((((!decide (y.2 = 0)) || (!decide (y.1 = 20))) || (!decide (y1.2 = 0))) || (!decide (y1.1 = 138))) || (!decide (y2.2.2 = 0))) || (!decide (y2.1 = 132))) || (!decide (y2.2.1 = 15))) || (!decide (y3.2 = 0))) || (!decide ((y3.1.length : Int) = 3)))) (fun h_17 => ?_) (fun h_17 => ?_)
                    · iterate 3 refine X.opR rfl rfl rfl ?_
                      iterate 2 refine X.opR (X.on_f rfl rfl rfl h_9) rfl rfl ?_
                      refine X.opR rfl (X.pickor_f (y := !decide (y.1 = 20)) rfl h_9 rfl) rfl ?_
                      refine X.opR rfl rfl rfl ?_
                      iterate 2 refine X.opR (X.on_f rfl rfl rfl h_10) rfl rfl ?_
                      refine X.opR rfl (X.pickor_f (y := !decide (y1.2 = 0)) rfl h_10 rfl) rfl ?_
                      refine X.opR rfl rfl rfl ?_
                      iterate 2 refine X.opR (X.on_f rfl rfl rfl h_11) rfl rfl ?_
                      refine X.opR rfl (X.pickor_f (y := !decide (y1.1 = 138)) rfl h_11 rfl) rfl ?_
                      refine X.opR rfl rfl rfl ?_
                      iterate 2 refine X.opR (X.on_f rfl rfl rfl h_12) rfl rfl ?_
                      refine X.opR rfl (X.pickor_f (y := !decide (y2.2.2 = 0)) rfl h_12 rfl) rfl ?_
                      refine X.opR rfl rfl rfl ?_
                      iterate 2 refine X.opR (X.on_f rfl rfl rfl h_13) rfl rfl ?_
                      refine X.opR rfl (X.pickor_f (y := !decide (y2.1 = 132)) rfl h_13 rfl) rfl ?_
                      refine X.opR rfl rfl rfl ?_
                      iterate 2 refine X.opR (X.on_f rfl rfl rfl h_14) rfl rfl ?_
                      refine X.opR rfl (X.pickor_f (y := !decide (y2.2.1 = 15)) rfl h_14 rfl) rfl ?_
                      refine X.opR rfl rfl rfl ?_
                      iterate 2 refine X.opR (X.on_f rfl rfl rfl h_15) rfl rfl ?_
                      refine X.opR rfl (X.pickor_f (y := !decide (y3.2 = 0)) rfl h_15 rfl) rfl ?_
                      refine X.opR rfl rfl rfl ?_
                      refine X.opR (X.on_f rfl rfl rfl h_16) rfl rfl ?_
                      refine X.opR (X.on_f rfl rfl rfl h_16) (X.lenF rfl rfl rfl) rfl ?_
                      refine X.opR (X.on_f rfl rfl rfl h_16) rfl rfl ?_
                      refine X.opR rfl (X.pickor_f (y := !decide ((y3.1.length : Int) = 3)) rfl h_16 rfl) rfl ?_
                      refine X.opR rfl rfl rfl ?_
                      iterate 2 refine X.off (X.off_f rfl rfl rfl h_17) rfl ?_
                      refine X.opR rfl (X.pickor_t (y := !decide (y4.2 = 0)) rfl h_17 rfl) rfl ?_
                      refine X.opR rfl rfl rfl ?_
                      iterate 2 refine X.off (X.off_f rfl rfl rfl (X.or_tt h_17)) rfl ?_
                      refine X.opR rfl (X.pickor_t (y := !decide (y5.2 = 0)) rfl (X.or_tt h_17) rfl) rfl ?_
                      refine X.opR rfl rfl rfl ?_
                      iterate 2 refine X.off (X.off_f rfl rfl rfl (X.or_tt (X.or_tt h_17))) rfl ?_
                      refine X.opR rfl (X.pickor_t (y := !decide (y6.2 = 0)) rfl (X.or_tt (X.or_tt h_17)) rfl) rfl ?_
                      refine X.opR rfl rfl rfl ?_
                      iterate 3 refine X.off (X.off_f rfl rfl rfl (X.or_tt (X.or_tt (X.or_tt h_17)))) rfl ?_
                      refine X.opR rfl (X.pickor_t (y := !decide ((y6.1.length : Int) = 0)) rfl (X.or_tt (X.or_tt (X.or_tt h_17))) rfl) rfl ?_
                      refine GS.opsNil ?_
                      exact X.norm _ hg rfl (W.sub_cons rfl (W.sub_cons rfl (W.sub_cons rfl (W.sub_cons rfl W.sub_nil))))
                    · refine X.split (((((((((((!decide (y.2 = 0)) || (!decide (y.1 = 20))) || (!decide (y1.2 = 0))) || (!decide (y1.1 = 138))) || (!decide (y2.2.2 = 0))) || (!decide (y2.1 = 132))) || (!decide (y2.2.1 = 15))) || (!decide (y3.2 = 0))) || (!decide ((y3.1.length : Int) = 3))) || (!decide (y4.2 = 0)))) (fun h_18 => ?_) (fun h_18 => ?_)
                      · iterate 3 refine X.opR rfl rfl rfl ?_
                        iterate 2 refine X.opR (X.on_f rfl rfl rfl h_9) rfl rfl ?_
                        refine X.opR rfl (X.pickor_f (y := !decide (y.1 = 20)) rfl h_9 rfl) rfl ?_
                        refine X.opR rfl rfl rfl ?_
                        iterate 2 refine X.opR (X.on_f rfl rfl rfl h_10) rfl rfl ?_
                        refine X.opR rfl (X.pickor_f (y := !decide (y1.2 = 0)) rfl h_10 rfl) rfl ?_
                        refine X.opR rfl rfl rfl ?_
                        iterate 2 refine X.opR (X.on_f rfl rfl rfl h_11) rfl rfl ?_
                        refine X.opR rfl (X.pickor_f (y := !decide (y1.1 = 138)) rfl h_11 rfl) rfl ?_
                        refine X.opR rfl rfl rfl ?_
                        iterate 2 refine X.opR (X.on_f rfl rfl rfl h_12) rfl rfl ?_
                        refine X.opR rfl (X.pickor_f (y := !decide (y2.2.2 = 0)) rfl h_12 rfl) rfl ?_
                        refine X.opR rfl rfl rfl ?_
                        iterate 2 refine X.opR (X.on_f rfl rfl rfl h_13) rfl rfl ?_
                        refine X.opR rfl (X.pickor_f (y := !decide (y2.1 = 132)) rfl h_13 rfl) rfl ?_
                        refine X.opR rfl rfl rfl ?_
                        iterate 2 refine X.opR (X.on_f rfl rfl rfl h_14) rfl rfl ?_
                        refine X.opR rfl (X.pickor_f (y := !decide (y2.2.1 = 15)) rfl h_14 rfl) rfl ?_
                        refine X.opR rfl rfl rfl ?_
                        iterate 2 refine X.opR (X.on_f rfl rfl rfl h_15) rfl rfl ?_
                        refine X.opR rfl (X.pickor_f (y := !decide (y3.2 = 0)) rfl h_15 rfl) rfl ?_
                        refine X.opR rfl rfl rfl ?_
                        refine X.opR (X.on_f rfl rfl rfl h_16) rfl rfl ?_
                        refine X.opR (X.on_f rfl rfl rfl h_16) (X.lenF rfl rfl rfl) rfl ?_
                        refine X.opR (X.on_f rfl rfl rfl h_16) rfl rfl ?_
                        refine X.opR rfl (X.pickor_f (y := !decide ((y3.1.length : Int) = 3)) rfl h_16 rfl) rfl ?_
                        refine X.opR rfl rfl rfl ?_
                        iterate 2 refine X.opR (X.on_f rfl rfl rfl h_17) rfl rfl ?_
                        refine X.opR rfl (X.pickor_f (y := !decide (y4.2 = 0)) rfl h_17 rfl) rfl ?_
                        refine X.opR rfl rfl rfl ?_
                        iterate 2 refine X.off (X.off_f rfl rfl rfl h_18) rfl ?_
                        refine X.opR rfl (X.pickor_t (y := !decide (y5.2 = 0)) rfl h_18 rfl) rfl ?_
                        refine X.opR rfl rfl rfl ?_
                        iterate 2 refine X.off (X.off_f rfl rfl rfl (X.or_tt h_18)) rfl ?_
                        refine X.opR rfl (X.pickor_t (y := !decide (y6.2 = 0)) rfl (X.or_tt h_18) rfl) rfl ?_
                        refine X.opR rfl rfl rfl ?_
                        iterate 3 refine X.off (X.off_f rfl rfl rfl (X.or_tt (X.or_tt h_18))) rfl ?_
                        refine X.opR rfl (X.pickor_t (y := !decide ((y6.1.length : Int) = 0)) rfl (X.or_tt (X.or_tt h_18)) rfl) rfl ?_
                        refine GS.opsNil ?_
                        exact X.norm _ hg rfl (W.sub_cons rfl (W.sub_cons rfl (W.sub_cons rfl (W.sub_cons rfl W.sub_nil))))
                      · refine X.split ((((((((((((!decide (y.2 = 0)) || (!decide (y.1 = 20))) || (!decide (y1.2 = 0))) || (!decide (y1.1 = 138))) || (!decide (y2.2.2 = 0))) || (!decide (y2.1 = 132))) || (!decide (y2.2.1 = 15))) || (!decide (y3.2 = 0))) || (!decide ((y3.1.length : Int) = 3))) || (!decide (y4.2 = 0))) || (!decide (y5.2 = 0)))) (fun h_19 => ?_) (fun h_19 => ?_)
                        · iterate 3 refine X.opR rfl rfl rfl ?_
                          iterate 2 refine X.opR (X.on_f rfl rfl rfl h_9) rfl rfl ?_
                          refine X.opR rfl (X.pickor_f (y := !decide (y.1 = 20)) rfl h_9 rfl) rfl ?_
                          refine X.opR rfl rfl rfl ?_
                          iterate 2 refine X.opR (X.on_f rfl rfl rfl h_10) rfl rfl ?_
                          refine X.opR rfl (X.pickor_f (y := !decide (y1.2 = 0)) rfl h_10 rfl) rfl ?_
                          refine X.opR rfl rfl rfl ?_
                          iterate 2 refine X.opR (X.on_f rfl rfl rfl h_11) rfl rfl ?_
                          refine X.opR rfl (X.pickor_f (y := !decide (y1.1 = 138)) rfl h_11 rfl) rfl ?_
                          refine X.opR rfl rfl rfl ?_
                          iterate 2 refine X.opR (X.on_f rfl rfl rfl h_12) rfl rfl ?_
                          refine X.opR rfl (X.pickor_f (y := !decide (y2.2.2 = 0)) rfl h_12 rfl) rfl ?_
                          refine X.opR rfl rfl rfl ?_
                          iterate 2 refine X.opR (X.on_f rfl rfl rfl h_13) rfl rfl ?_
                          refine X.opR rfl (X.pickor_f (y := !decide (y2.1 = 132)) rfl h_13 rfl) rfl ?_
                          refine X.opR rfl rfl rfl ?_
                          iterate 2 refine X.opR (X.on_f rfl rfl rfl h_14) rfl rfl ?_
                          refine X.opR rfl (X.pickor_f (y := !decide (y2.2.1 = 15)) rfl h_14 rfl) rfl ?_
                          refine X.opR rfl rfl rfl ?_
                          iterate 2 refine X.opR (X.on_f rfl rfl rfl h_15) rfl rfl ?_
                          refine X.opR rfl (X.pickor_f (y := !decide (y3.2 = 0)) rfl h_15 rfl) rfl ?_
                          refine X.opR rfl rfl rfl ?_
                          refine X.opR (X.on_f rfl rfl rfl h_16) rfl rfl ?_
                          refine X.opR (X.on_f rfl rfl rfl h_16) (X.lenF rfl rfl rfl) rfl ?_
                          refine X.opR (X.on_f rfl rfl rfl h_16) rfl rfl ?_
                          refine X.opR rfl (X.pickor_f (y := !decide ((y3.1.length : Int) = 3)) rfl h_16 rfl) rfl ?_
                          refine X.opR rfl rfl rfl ?_
                          iterate 2 refine X.opR (X.on_f rfl rfl rfl h_17) rfl rfl ?_
                          refine X.opR rfl (X.pickor_f (y := !decide (y4.2 = 0)) rfl h_17 rfl) rfl ?_
                          refine X.opR rfl rfl rfl ?_
                          iterate 2 refine X.opR (X.on_f rfl rfl rfl h_18) rfl rfl ?_
                          refine X.opR rfl (X.pickor_f (y := !decide (y5.2 = 0)) rfl h_18 rfl) rfl ?_
                          refine X.opR rfl rfl rfl ?_
                          iterate 2 refine X.off (X.off_f rfl rfl rfl h_19) rfl ?_
                          refine X.opR rfl (X.pickor_t (y := !decide (y6.2 = 0)) rfl h_19 rfl) rfl ?_
                          refine X.opR rfl rfl rfl ?_
                          iterate 3 refine X.off (X.off_f rfl rfl rfl (X.or_tt h_19)) rfl ?_
                          refine X.opR rfl (X.pickor_t (y := !decide ((y6.1.length : Int) = 0)) rfl (X.or_tt h_19) rfl) rfl ?_
                          refine GS.opsNil ?_
                          exact X.norm _ hg rfl (W.sub_cons rfl (W.sub_cons rfl (W.sub_cons rfl (W.sub_cons rfl W.sub_nil))))
                        · refine X.split (((((((((((((!decide (y.2 = 0)) || (!decide (y.1 = 20))) || (!decide (y1.2 = 0))) || (!decide (y1.1 = 138))) || (!decide (y2.2.2 = 0))) || (!decide (y2.1 = 132))) || (!decide (y2.2.1 = 15))) || (!decide (y3.2 = 0))) || (!decide ((y3.1.length : Int) = 3))) || (!decide (y4.2 = 0))) || (!decide (y5.2 = 0))) || (!decide (y6.2 = 0)))) (fun h_20 => ?_) (fun h_20 => ?_)
                          · iterate 3 refine X.opR rfl rfl rfl ?_
                            iterate 2 refine X.opR (X.on_f rfl rfl rfl h_9) rfl rfl ?_
                            refine X.opR rfl (X.pickor_f (y := !decide (y.1 = 20)) rfl h_9 rfl) rfl ?_
                            refine X.opR rfl rfl rfl ?_
                            iterate 2 refine X.opR (X.on_f rfl rfl rfl h_10) rfl rfl ?_
                            refine X.opR rfl (X.pickor_f (y := !decide (y1.2 = 0)) rfl h_10 rfl) rfl ?_
                            refine X.opR rfl rfl rfl ?_
                            iterate 2 refine X.opR (X.on_f rfl rfl rfl h_11) rfl rfl ?_
                            refine X.opR rfl (X.pickor_f (y := !decide (y1.1 = 138)) rfl h_11 rfl) rfl ?_
                            refine X.opR rfl rfl rfl ?_
                            iterate 2 refine X.opR (X.on_f rfl rfl rfl h_12) rfl rfl ?_
                            refine X.opR rfl (X.pickor_f (y := !decide (y2.2.2 = 0)) rfl h_12 rfl) rfl ?_
                            refine X.opR rfl rfl rfl ?_
                            iterate 2 refine X.opR (X.on_f rfl rfl rfl h_13) rfl rfl ?_
                            refine X.opR rfl (X.pickor_f (y := !decide (y2.1 = 132)) rfl h_13 rfl) rfl ?_
                            refine X.opR rfl rfl rfl ?_
                            iterate 2 refine X.opR (X.on_f rfl rfl rfl h_14) rfl rfl ?_
                            refine X.opR rfl (X.pickor_f (y := !decide (y2.2.1 = 15)) rfl h_14 rfl) rfl ?_
                            refine X.opR rfl rfl rfl ?_
                            iterate 2 refine X.opR (X.on_f rfl rfl rfl h_15) rfl rfl ?_
                            refine X.opR rfl (X.pickor_f (y := !decide (y3.2 = 0)) rfl h_15 rfl) rfl ?_
                            refine X.opR rfl rfl rfl ?_
                            refine X.opR (X.on_f rfl rfl rfl h_16) rfl rfl ?_
                            refine X.opR (X.on_f rfl rfl rfl h_16) (X.lenF rfl rfl rfl) rfl ?_
                            refine X.opR (X.on_f rfl rfl rfl h_16) rfl rfl ?_
                            refine X.opR rfl (X.pickor_f (y := !decide ((y3.1.length : Int) = 3)) rfl h_16 rfl) rfl ?_
                            refine X.opR rfl rfl rfl ?_
                            iterate 2 refine X.opR (X.on_f rfl rfl rfl h_17) rfl rfl ?_
                            refine X.opR rfl (X.pickor_f (y := !decide (y4.2 = 0)) rfl h_17 rfl) rfl ?_
                            refine X.opR rfl rfl rfl ?_
                            iterate 2 refine X.opR (X.on_f rfl rfl rfl h_18) rfl rfl ?_
                            refine X.opR rfl (X.pickor_f (y := !decide (y5.2 = 0)) rfl h_18 rfl) rfl ?_
                            refine X.opR rfl rfl rfl ?_
                            iterate 2 refine X.opR (X.on_f rfl rfl rfl h_19) rfl rfl ?_
                            refine X.opR rfl (X.pickor_f (y := !decide (y6.2 = 0)) rfl h_19 rfl) rfl ?_
                            refine X.opR rfl rfl rfl ?_
                            iterate 3 refine X.off (X.off_f rfl rfl rfl h_20) rfl ?_
                            refine X.opR rfl (X.pickor_t (y := !decide ((y6.1.length : Int) = 0)) rfl h_20 rfl) rfl ?_
                            refine GS.opsNil ?_
                            exact X.norm _ hg rfl (W.sub_cons rfl (W.sub_cons rfl (W.sub_cons rfl (W.sub_cons rfl W.sub_nil))))
                          · iterate 3 refine X.opR rfl rfl rfl ?_
                            iterate 2 refine X.opR (X.on_f rfl rfl rfl h_9) rfl rfl ?_
                            refine X.opR rfl (X.pickor_f (y := !decide (y.1 = 20)) rfl h_9 rfl) rfl ?_
                            refine X.opR rfl rfl rfl ?_
                            iterate 2 refine X.opR (X.on_f rfl rfl rfl h_10) rfl rfl ?_
                            refine X.opR rfl (X.pickor_f (y := !decide (y1.2 = 0)) rfl h_10 rfl) rfl ?_
                            refine X.opR rfl rfl rfl ?_
                            iterate 2 refine X.opR (X.on_f rfl rfl rfl h_11) rfl rfl ?_
                            refine X.opR rfl (X.pickor_f (y := !decide (y1.1 = 138)) rfl h_11 rfl) rfl ?_
                            refine X.opR rfl rfl rfl ?_
                            iterate 2 refine X.opR (X.on_f rfl rfl rfl h_12) rfl rfl ?_
                            refine X.opR rfl (X.pickor_f (y := !decide (y2.2.2 = 0)) rfl h_12 rfl) rfl ?_
                            refine X.opR rfl rfl rfl ?_
                            iterate 2 refine X.opR (X.on_f rfl rfl rfl h_13) rfl rfl ?_
                            refine X.opR rfl (X.pickor_f (y := !decide (y2.1 = 132)) rfl h_13 rfl) rfl ?_
                            refine X.opR rfl rfl rfl ?_
                            iterate 2 refine X.opR (X.on_f rfl rfl rfl h_14) rfl rfl ?_
                            refine X.opR rfl (X.pickor_f (y := !decide (y2.2.1 = 15)) rfl h_14 rfl) rfl ?_
                            refine X.opR rfl rfl rfl ?_
                            iterate 2 refine X.opR (X.on_f rfl rfl rfl h_15) rfl rfl ?_
                            refine X.opR rfl (X.pickor_f (y := !decide (y3.2 = 0)) rfl h_15 rfl) rfl ?_
                            refine X.opR rfl rfl rfl ?_
                            refine X.opR (X.on_f rfl rfl rfl h_16) rfl rfl ?_
                            refine X.opR (X.on_f rfl rfl rfl h_16) (X.lenF rfl rfl rfl) rfl ?_
                            refine X.opR (X.on_f rfl rfl rfl h_16) rfl rfl ?_
                            refine X.opR rfl (X.pickor_f (y := !decide ((y3.1.length : Int) = 3)) rfl h_16 rfl) rfl ?_
                            refine X.opR rfl rfl rfl ?_
                            iterate 2 refine X.opR (X.on_f rfl rfl rfl h_17) rfl rfl ?_
                            refine X.opR rfl (X.pickor_f (y := !decide (y4.2 = 0)) rfl h_17 rfl) rfl ?_
                            refine X.opR rfl rfl rfl ?_
                            iterate 2 refine X.opR (X.on_f rfl rfl rfl h_18) rfl rfl ?_
                            refine X.opR rfl (X.pickor_f (y := !decide (y5.2 = 0)) rfl h_18 rfl) rfl ?_
                            refine X.opR rfl rfl rfl ?_
                            iterate 2 refine X.opR (X.on_f rfl rfl rfl h_19) rfl rfl ?_
                            refine X.opR rfl (X.pickor_f (y := !decide (y6.2 = 0)) rfl h_19 rfl) rfl ?_
                            refine X.opR rfl rfl rfl ?_
                            refine X.opR (X.on_f rfl rfl rfl h_20) rfl rfl ?_
                            refine X.opR (X.on_f rfl rfl rfl h_20) (X.lenF rfl rfl rfl) rfl ?_
                            refine X.opR (X.on_f rfl rfl rfl h_20) rfl rfl ?_
                            refine X.opR rfl (X.pickor_f (y := !decide ((y6.1.length : Int) = 0)) rfl h_20 rfl) rfl ?_
                            refine GS.opsNil ?_
                            exact X.norm _ hg rfl (W.sub_cons rfl (W.sub_cons rfl (W.sub_cons rfl (W.sub_cons rfl W.sub_nil))))
  refine X.cond rfl (fun h_21 => ?_) (fun h_21 => ?_)
  · replace hM := ite_t h_21 hM
    refine GS.seq ?_
    refine GS.region ?_
    refine X.opR rfl rfl rfl ?_
    refine GS.opsNil ?_
    have hE := Option.some.inj hM
    subst hE
    exact GS.ret ⟨_, rfl, ⟨30, rfl⟩⟩
  · replace hM := ite_f h_21 hM
    refine GS.skip ?_
    iterate 2 refine GS.seq ?_
    obtain ⟨y7, h_22, hM⟩ := bind_of hM
    obtain ⟨y8, h_23, hM⟩ := gb_of hM
    refine GS.region ?_
    refine X.midS ⟨[(1, (V.ptr 0 0 0)), (140, (V.b ((!y7) || (!y8))))], [.rows 3 [(e_api_Water (law02_example))]], 0, none, 200⟩ ?_ ?_
    · intro hg
      refine X.split (!y7) (fun h_24 => ?_) (fun h_24 => ?_)
      · iterate 5 refine X.opR rfl rfl rfl ?_
        refine X.opW rfl rfl rfl rfl ?_
        refine X.callF (ok_ref02_SameStands h_22) rfl rfl rfl (m := 9) rfl (.cons (.shut (n := 9) rfl) (.cons (FR.arg ⟨30, rfl⟩) .nil)) ?_
        iterate 2 refine X.opR rfl rfl rfl ?_
        iterate 7 refine X.off (X.off_f rfl rfl rfl h_24) rfl ?_
        refine X.opR rfl (X.pickor_t (y := !y8) rfl h_24 rfl) rfl ?_
        refine GS.opsNil ?_
        exact X.gc [some 0] hg rfl rfl rfl (gk_cons rfl ⟨9, rfl⟩ (gk_cons rfl ⟨9, rfl⟩ gk_nil)) (gb_box rfl rfl ⟨9, rfl⟩ gb_nil)
      · iterate 5 refine X.opR rfl rfl rfl ?_
        refine X.opW rfl rfl rfl rfl ?_
        refine X.callF (ok_ref02_SameStands h_22) rfl rfl rfl (m := 9) rfl (.cons (.shut (n := 9) rfl) (.cons (FR.arg ⟨30, rfl⟩) .nil)) ?_
        iterate 2 refine X.opR rfl rfl rfl ?_
        iterate 4 refine X.opR (X.on_f rfl rfl rfl h_24) rfl rfl ?_
        refine X.opW (X.on_f rfl rfl rfl h_24) rfl rfl rfl ?_
        refine X.callF (ok_ref02_SameSpans (h_23 (X.nt h_24))) (X.on_f rfl rfl rfl h_24) rfl rfl (m := 9) rfl (.cons (.shut (n := 9) rfl) (.cons (FR.arg ⟨30, rfl⟩) .nil)) ?_
        refine X.opR (X.on_f rfl rfl rfl h_24) rfl rfl ?_
        refine X.opR rfl (X.pickor_f (y := !y8) rfl h_24 rfl) rfl ?_
        refine GS.opsNil ?_
        exact X.gc [some 0] hg rfl rfl rfl (gk_cons rfl ⟨9, rfl⟩ (gk_cons rfl ⟨9, rfl⟩ gk_nil)) (gb_box rfl rfl ⟨9, rfl⟩ gb_nil)
    refine X.cond rfl (fun h_25 => ?_) (fun h_25 => ?_)
    · replace hM := ite_t h_25 hM
      refine GS.seq ?_
      refine GS.region ?_
      refine X.opR rfl rfl rfl ?_
      refine GS.opsNil ?_
      have hE := Option.some.inj hM
      subst hE
      exact GS.ret ⟨_, rfl, ⟨30, rfl⟩⟩
    · replace hM := ite_f h_25 hM
      refine GS.skip ?_
      refine GS.seq ?_
      obtain ⟨x1, h_26, hM⟩ := bind_of hM
      obtain ⟨x2, h_27, hM⟩ := bind_of hM
      obtain ⟨y9, h_28, hM⟩ := bind_of hM
      refine X.draw (by kernel_rfl) ?_
      iterate 2 refine X.dop rfl rfl rfl rfl (by kernel_rfl) rfl rfl ?_
      refine X.dop rfl (X.indexF (f := e_api_Cycle) h_26 (fun _ => rfl) rfl rfl rfl rfl) rfl rfl (by kernel_rfl) rfl rfl ?_
      refine X.dop rfl (X.loadF h_26 rfl rfl rfl) rfl rfl (by kernel_rfl) rfl rfl ?_
      iterate 2 refine X.dop rfl rfl rfl rfl (by kernel_rfl) rfl rfl ?_
      refine X.dop rfl (X.indexF (f := e_api_Cycle) h_27 (fun _ => rfl) rfl rfl rfl rfl) rfl rfl (by kernel_rfl) rfl rfl ?_
      refine X.dop rfl (X.loadF h_27 rfl rfl rfl) rfl rfl (by kernel_rfl) rfl rfl ?_
      refine X.dcall (ok_tide_Together h_28) rfl rfl rfl (by kernel_rfl) rfl (.cons (.shut (n := 9) rfl) (.cons (.shut (n := 9) rfl) .nil)) ?_
      iterate 4 refine X.dop rfl rfl rfl rfl (by kernel_rfl) rfl rfl ?_
      refine X.dop0 rfl rfl rfl rfl (by kernel_rfl) rfl ?_
      refine X.dop rfl rfl rfl rfl (by kernel_rfl) rfl rfl ?_
      refine X.dnil ?_
      refine X.norm [(1, (V.ptr 0 0 0)), (18, (V.ptr 1 0 0)), (19, (V.i y9.2))] ?_ rfl (W.sub_cons rfl (W.sub_cons rfl (W.sub_cons rfl W.sub_nil)))
      refine GS.seq ?_
      refine GS.region ?_
      iterate 4 refine X.opR rfl rfl rfl ?_
      refine X.opW rfl rfl rfl rfl ?_
      refine X.opR rfl rfl rfl ?_
      refine GS.opsNil ?_
      refine GS.seq ?_
      obtain ⟨y10, h_29, hM⟩ := bind_of hM
      refine GS.region ?_
      iterate 2 refine X.opR rfl rfl rfl ?_
      refine X.callF (ok_tide_Levels h_29) rfl rfl rfl (m := 9) rfl (.cons (.shut (n := 9) rfl) (.cons (FR.arg ⟨30, rfl⟩) .nil)) ?_
      iterate 3 refine X.opR rfl rfl rfl ?_
      refine X.opW rfl rfl rfl rfl ?_
      refine X.op0W rfl rfl rfl ?_
      refine X.opR rfl rfl rfl ?_
      refine GS.opsNil ?_
      refine GS.seq ?_
      obtain ⟨y11, h_30, hM⟩ := bind_of hM
      refine GS.region ?_
      iterate 2 refine X.opR rfl rfl rfl ?_
      refine X.callF (ok_tide_Rests h_30) rfl rfl rfl (m := 9) rfl (.cons (.shut (n := 9) rfl) (.cons (FR.arg ⟨30, rfl⟩) .nil)) ?_
      iterate 7 refine X.opR rfl rfl rfl ?_
      refine GS.opsNil ?_
      refine GS.seq ?_
      obtain ⟨y12, h_31, hM⟩ := gb_of hM
      refine GS.region ?_
      refine X.midS ⟨[(0, (V.b (((((((decide (y9.2 = 0)) && y12) && (decide (y10.2 = 0))) && (decide (y10.1 = (⟨101, 108⟩ : api_Span)))) && (decide (y11.2.2 = 0))) && (decide (y11.1 = 4))) && (decide (y11.2.1 = 3)))))], [], 0, none, 200⟩ ?_ ?_
      · intro hg
        refine X.split (decide (y9.2 = 0)) (fun h_32 => ?_) (fun h_32 => ?_)
        · refine X.split (((decide (y9.2 = 0)) && y12)) (fun h_33 => ?_) (fun h_33 => ?_)
          · refine X.split ((((decide (y9.2 = 0)) && y12) && (decide (y10.2 = 0)))) (fun h_34 => ?_) (fun h_34 => ?_)
            · refine X.split (((((decide (y9.2 = 0)) && y12) && (decide (y10.2 = 0))) && (decide (y10.1 = (⟨101, 108⟩ : api_Span))))) (fun h_35 => ?_) (fun h_35 => ?_)
              · refine X.split ((((((decide (y9.2 = 0)) && y12) && (decide (y10.2 = 0))) && (decide (y10.1 = (⟨101, 108⟩ : api_Span)))) && (decide (y11.2.2 = 0)))) (fun h_36 => ?_) (fun h_36 => ?_)
                · refine X.split (((((((decide (y9.2 = 0)) && y12) && (decide (y10.2 = 0))) && (decide (y10.1 = (⟨101, 108⟩ : api_Span)))) && (decide (y11.2.2 = 0))) && (decide (y11.1 = 4)))) (fun h_37 => ?_) (fun h_37 => ?_)
                  · iterate 3 refine X.opR rfl rfl rfl ?_
                    refine X.opR (X.on_t rfl rfl rfl h_32) rfl rfl ?_
                    refine X.opW (X.on_t rfl rfl rfl h_32) rfl rfl rfl ?_
                    refine X.opR (X.on_t rfl rfl rfl h_32) rfl rfl ?_
                    refine X.callF (ok_ref02_SameCycle (h_31 h_32)) (X.on_t rfl rfl rfl h_32) rfl rfl (m := 9) rfl (.cons (.shut (n := 9) rfl) (.cons (FR.arg ⟨30, rfl⟩) .nil)) ?_
                    refine X.opR rfl (X.pickand_t (y := y12) rfl h_32 rfl) rfl ?_
                    refine X.opR rfl rfl rfl ?_
                    iterate 2 refine X.opR (X.on_t rfl rfl rfl h_33) rfl rfl ?_
                    refine X.opR rfl (X.pickand_t (y := decide (y10.2 = 0)) rfl h_33 rfl) rfl ?_
                    refine X.opR rfl rfl rfl ?_
                    iterate 2 refine X.opR (X.on_t rfl rfl rfl h_34) rfl rfl ?_
                    refine X.opR (X.on_t rfl rfl rfl h_34) (X.eqlE (eq_api_Span y10.1 (⟨101, 108⟩ : api_Span)) rfl rfl) rfl ?_
                    refine X.opR rfl (X.pickand_t (y := decide (y10.1 = (⟨101, 108⟩ : api_Span))) rfl h_34 rfl) rfl ?_
                    refine X.opR rfl rfl rfl ?_
                    iterate 2 refine X.opR (X.on_t rfl rfl rfl h_35) rfl rfl ?_
                    refine X.opR rfl (X.pickand_t (y := decide (y11.2.2 = 0)) rfl h_35 rfl) rfl ?_
                    refine X.opR rfl rfl rfl ?_
                    iterate 2 refine X.opR (X.on_t rfl rfl rfl h_36) rfl rfl ?_
                    refine X.opR rfl (X.pickand_t (y := decide (y11.1 = 4)) rfl h_36 rfl) rfl ?_
                    refine X.opR rfl rfl rfl ?_
                    iterate 2 refine X.opR (X.on_t rfl rfl rfl h_37) rfl rfl ?_
                    refine X.opR rfl (X.pickand_t (y := decide (y11.2.1 = 3)) rfl h_37 rfl) rfl ?_
                    refine X.opR rfl rfl rfl ?_
                    refine GS.opsNil ?_
                    exact X.gc [] hg rfl rfl rfl (gk_cons rfl ⟨9, rfl⟩ gk_nil) (gb_nil)
                  · iterate 3 refine X.opR rfl rfl rfl ?_
                    refine X.opR (X.on_t rfl rfl rfl h_32) rfl rfl ?_
                    refine X.opW (X.on_t rfl rfl rfl h_32) rfl rfl rfl ?_
                    refine X.opR (X.on_t rfl rfl rfl h_32) rfl rfl ?_
                    refine X.callF (ok_ref02_SameCycle (h_31 h_32)) (X.on_t rfl rfl rfl h_32) rfl rfl (m := 9) rfl (.cons (.shut (n := 9) rfl) (.cons (FR.arg ⟨30, rfl⟩) .nil)) ?_
                    refine X.opR rfl (X.pickand_t (y := y12) rfl h_32 rfl) rfl ?_
                    refine X.opR rfl rfl rfl ?_
                    iterate 2 refine X.opR (X.on_t rfl rfl rfl h_33) rfl rfl ?_
                    refine X.opR rfl (X.pickand_t (y := decide (y10.2 = 0)) rfl h_33 rfl) rfl ?_
                    refine X.opR rfl rfl rfl ?_
                    iterate 2 refine X.opR (X.on_t rfl rfl rfl h_34) rfl rfl ?_
                    refine X.opR (X.on_t rfl rfl rfl h_34) (X.eqlE (eq_api_Span y10.1 (⟨101, 108⟩ : api_Span)) rfl rfl) rfl ?_
                    refine X.opR rfl (X.pickand_t (y := decide (y10.1 = (⟨101, 108⟩ : api_Span))) rfl h_34 rfl) rfl ?_
                    refine X.opR rfl rfl rfl ?_
                    iterate 2 refine X.opR (X.on_t rfl rfl rfl h_35) rfl rfl ?_
                    refine X.opR rfl (X.pickand_t (y := decide (y11.2.2 = 0)) rfl h_35 rfl) rfl ?_
                    refine X.opR rfl rfl rfl ?_
                    iterate 2 refine X.opR (X.on_t rfl rfl rfl h_36) rfl rfl ?_
                    refine X.opR rfl (X.pickand_t (y := decide (y11.1 = 4)) rfl h_36 rfl) rfl ?_
                    refine X.opR rfl rfl rfl ?_
                    iterate 2 refine X.off (X.off_t rfl rfl rfl h_37) rfl ?_
                    refine X.opR rfl (X.pickand_f (y := decide (y11.2.1 = 3)) rfl h_37 rfl) rfl ?_
                    refine X.opR rfl rfl rfl ?_
                    refine GS.opsNil ?_
                    exact X.gc [] hg rfl rfl rfl (gk_cons rfl ⟨9, rfl⟩ gk_nil) (gb_nil)
                · iterate 3 refine X.opR rfl rfl rfl ?_
                  refine X.opR (X.on_t rfl rfl rfl h_32) rfl rfl ?_
                  refine X.opW (X.on_t rfl rfl rfl h_32) rfl rfl rfl ?_
                  refine X.opR (X.on_t rfl rfl rfl h_32) rfl rfl ?_
                  refine X.callF (ok_ref02_SameCycle (h_31 h_32)) (X.on_t rfl rfl rfl h_32) rfl rfl (m := 9) rfl (.cons (.shut (n := 9) rfl) (.cons (FR.arg ⟨30, rfl⟩) .nil)) ?_
                  refine X.opR rfl (X.pickand_t (y := y12) rfl h_32 rfl) rfl ?_
                  refine X.opR rfl rfl rfl ?_
                  iterate 2 refine X.opR (X.on_t rfl rfl rfl h_33) rfl rfl ?_
                  refine X.opR rfl (X.pickand_t (y := decide (y10.2 = 0)) rfl h_33 rfl) rfl ?_
                  refine X.opR rfl rfl rfl ?_
                  iterate 2 refine X.opR (X.on_t rfl rfl rfl h_34) rfl rfl ?_
                  refine X.opR (X.on_t rfl rfl rfl h_34) (X.eqlE (eq_api_Span y10.1 (⟨101, 108⟩ : api_Span)) rfl rfl) rfl ?_
                  refine X.opR rfl (X.pickand_t (y := decide (y10.1 = (⟨101, 108⟩ : api_Span))) rfl h_34 rfl) rfl ?_
                  refine X.opR rfl rfl rfl ?_
                  iterate 2 refine X.opR (X.on_t rfl rfl rfl h_35) rfl rfl ?_
                  refine X.opR rfl (X.pickand_t (y := decide (y11.2.2 = 0)) rfl h_35 rfl) rfl ?_
                  refine X.opR rfl rfl rfl ?_
                  iterate 2 refine X.off (X.off_t rfl rfl rfl h_36) rfl ?_
                  refine X.opR rfl (X.pickand_f (y := decide (y11.1 = 4)) rfl h_36 rfl) rfl ?_
                  refine X.opR rfl rfl rfl ?_
                  iterate 2 refine X.off (X.off_t rfl rfl rfl (X.and_ff h_36)) rfl ?_
                  refine X.opR rfl (X.pickand_f (y := decide (y11.2.1 = 3)) rfl (X.and_ff h_36) rfl) rfl ?_
                  refine X.opR rfl rfl rfl ?_
                  refine GS.opsNil ?_
                  exact X.gc [] hg rfl rfl rfl (gk_cons rfl ⟨9, rfl⟩ gk_nil) (gb_nil)
              · iterate 3 refine X.opR rfl rfl rfl ?_
                refine X.opR (X.on_t rfl rfl rfl h_32) rfl rfl ?_
                refine X.opW (X.on_t rfl rfl rfl h_32) rfl rfl rfl ?_
                refine X.opR (X.on_t rfl rfl rfl h_32) rfl rfl ?_
                refine X.callF (ok_ref02_SameCycle (h_31 h_32)) (X.on_t rfl rfl rfl h_32) rfl rfl (m := 9) rfl (.cons (.shut (n := 9) rfl) (.cons (FR.arg ⟨30, rfl⟩) .nil)) ?_
                refine X.opR rfl (X.pickand_t (y := y12) rfl h_32 rfl) rfl ?_
                refine X.opR rfl rfl rfl ?_
                iterate 2 refine X.opR (X.on_t rfl rfl rfl h_33) rfl rfl ?_
                refine X.opR rfl (X.pickand_t (y := decide (y10.2 = 0)) rfl h_33 rfl) rfl ?_
                refine X.opR rfl rfl rfl ?_
                iterate 2 refine X.opR (X.on_t rfl rfl rfl h_34) rfl rfl ?_
                refine X.opR (X.on_t rfl rfl rfl h_34) (X.eqlE (eq_api_Span y10.1 (⟨101, 108⟩ : api_Span)) rfl rfl) rfl ?_
                refine X.opR rfl (X.pickand_t (y := decide (y10.1 = (⟨101, 108⟩ : api_Span))) rfl h_34 rfl) rfl ?_
                refine X.opR rfl rfl rfl ?_
                iterate 2 refine X.off (X.off_t rfl rfl rfl h_35) rfl ?_
                refine X.opR rfl (X.pickand_f (y := decide (y11.2.2 = 0)) rfl h_35 rfl) rfl ?_
                refine X.opR rfl rfl rfl ?_
                iterate 2 refine X.off (X.off_t rfl rfl rfl (X.and_ff h_35)) rfl ?_
                refine X.opR rfl (X.pickand_f (y := decide (y11.1 = 4)) rfl (X.and_ff h_35) rfl) rfl ?_
                refine X.opR rfl rfl rfl ?_
                iterate 2 refine X.off (X.off_t rfl rfl rfl (X.and_ff (X.and_ff h_35))) rfl ?_
                refine X.opR rfl (X.pickand_f (y := decide (y11.2.1 = 3)) rfl (X.and_ff (X.and_ff h_35)) rfl) rfl ?_
                refine X.opR rfl rfl rfl ?_
                refine GS.opsNil ?_
                exact X.gc [] hg rfl rfl rfl (gk_cons rfl ⟨9, rfl⟩ gk_nil) (gb_nil)
            · iterate 3 refine X.opR rfl rfl rfl ?_
              refine X.opR (X.on_t rfl rfl rfl h_32) rfl rfl ?_
              refine X.opW (X.on_t rfl rfl rfl h_32) rfl rfl rfl ?_
              refine X.opR (X.on_t rfl rfl rfl h_32) rfl rfl ?_
              refine X.callF (ok_ref02_SameCycle (h_31 h_32)) (X.on_t rfl rfl rfl h_32) rfl rfl (m := 9) rfl (.cons (.shut (n := 9) rfl) (.cons (FR.arg ⟨30, rfl⟩) .nil)) ?_
              refine X.opR rfl (X.pickand_t (y := y12) rfl h_32 rfl) rfl ?_
              refine X.opR rfl rfl rfl ?_
              iterate 2 refine X.opR (X.on_t rfl rfl rfl h_33) rfl rfl ?_
              refine X.opR rfl (X.pickand_t (y := decide (y10.2 = 0)) rfl h_33 rfl) rfl ?_
              refine X.opR rfl rfl rfl ?_
              iterate 3 refine X.off (X.off_t rfl rfl rfl h_34) rfl ?_
              refine X.opR rfl (X.pickand_f (y := decide (y10.1 = (⟨101, 108⟩ : api_Span))) rfl h_34 rfl) rfl ?_
              refine X.opR rfl rfl rfl ?_
              iterate 2 refine X.off (X.off_t rfl rfl rfl (X.and_ff h_34)) rfl ?_
              refine X.opR rfl (X.pickand_f (y := decide (y11.2.2 = 0)) rfl (X.and_ff h_34) rfl) rfl ?_
              refine X.opR rfl rfl rfl ?_
              iterate 2 refine X.off (X.off_t rfl rfl rfl (X.and_ff (X.and_ff h_34))) rfl ?_
              refine X.opR rfl (X.pickand_f (y := decide (y11.1 = 4)) rfl (X.and_ff (X.and_ff h_34)) rfl) rfl ?_
              refine X.opR rfl rfl rfl ?_
              iterate 2 refine X.off (X.off_t rfl rfl rfl (X.and_ff (X.and_ff (X.and_ff h_34)))) rfl ?_
              refine X.opR rfl (X.pickand_f (y := decide (y11.2.1 = 3)) rfl (X.and_ff (X.and_ff (X.and_ff h_34))) rfl) rfl ?_
              refine X.opR rfl rfl rfl ?_
              refine GS.opsNil ?_
              exact X.gc [] hg rfl rfl rfl (gk_cons rfl ⟨9, rfl⟩ gk_nil) (gb_nil)
          · iterate 3 refine X.opR rfl rfl rfl ?_
            refine X.opR (X.on_t rfl rfl rfl h_32) rfl rfl ?_
            refine X.opW (X.on_t rfl rfl rfl h_32) rfl rfl rfl ?_
            refine X.opR (X.on_t rfl rfl rfl h_32) rfl rfl ?_
            refine X.callF (ok_ref02_SameCycle (h_31 h_32)) (X.on_t rfl rfl rfl h_32) rfl rfl (m := 9) rfl (.cons (.shut (n := 9) rfl) (.cons (FR.arg ⟨30, rfl⟩) .nil)) ?_
            refine X.opR rfl (X.pickand_t (y := y12) rfl h_32 rfl) rfl ?_
            refine X.opR rfl rfl rfl ?_
            iterate 2 refine X.off (X.off_t rfl rfl rfl h_33) rfl ?_
            refine X.opR rfl (X.pickand_f (y := decide (y10.2 = 0)) rfl h_33 rfl) rfl ?_
            refine X.opR rfl rfl rfl ?_
            iterate 3 refine X.off (X.off_t rfl rfl rfl (X.and_ff h_33)) rfl ?_
            refine X.opR rfl (X.pickand_f (y := decide (y10.1 = (⟨101, 108⟩ : api_Span))) rfl (X.and_ff h_33) rfl) rfl ?_
            refine X.opR rfl rfl rfl ?_
            iterate 2 refine X.off (X.off_t rfl rfl rfl (X.and_ff (X.and_ff h_33))) rfl ?_
            refine X.opR rfl (X.pickand_f (y := decide (y11.2.2 = 0)) rfl (X.and_ff (X.and_ff h_33)) rfl) rfl ?_
            refine X.opR rfl rfl rfl ?_
            iterate 2 refine X.off (X.off_t rfl rfl rfl (X.and_ff (X.and_ff (X.and_ff h_33)))) rfl ?_
            refine X.opR rfl (X.pickand_f (y := decide (y11.1 = 4)) rfl (X.and_ff (X.and_ff (X.and_ff h_33))) rfl) rfl ?_
            refine X.opR rfl rfl rfl ?_
            iterate 2 refine X.off (X.off_t rfl rfl rfl (X.and_ff (X.and_ff (X.and_ff (X.and_ff h_33))))) rfl ?_
            refine X.opR rfl (X.pickand_f (y := decide (y11.2.1 = 3)) rfl (X.and_ff (X.and_ff (X.and_ff (X.and_ff h_33)))) rfl) rfl ?_
            refine X.opR rfl rfl rfl ?_
            refine GS.opsNil ?_
            exact X.gc [] hg rfl rfl rfl (gk_cons rfl ⟨9, rfl⟩ gk_nil) (gb_nil)
        · iterate 3 refine X.opR rfl rfl rfl ?_
          iterate 4 refine X.off (X.off_t rfl rfl rfl h_32) rfl ?_
          refine X.opR rfl (X.pickand_f (y := y12) rfl h_32 rfl) rfl ?_
          refine X.opR rfl rfl rfl ?_
          iterate 2 refine X.off (X.off_t rfl rfl rfl (X.and_ff h_32)) rfl ?_
          refine X.opR rfl (X.pickand_f (y := decide (y10.2 = 0)) rfl (X.and_ff h_32) rfl) rfl ?_
          refine X.opR rfl rfl rfl ?_
          iterate 3 refine X.off (X.off_t rfl rfl rfl (X.and_ff (X.and_ff h_32))) rfl ?_
          refine X.opR rfl (X.pickand_f (y := decide (y10.1 = (⟨101, 108⟩ : api_Span))) rfl (X.and_ff (X.and_ff h_32)) rfl) rfl ?_
          refine X.opR rfl rfl rfl ?_
          iterate 2 refine X.off (X.off_t rfl rfl rfl (X.and_ff (X.and_ff (X.and_ff h_32)))) rfl ?_
          refine X.opR rfl (X.pickand_f (y := decide (y11.2.2 = 0)) rfl (X.and_ff (X.and_ff (X.and_ff h_32))) rfl) rfl ?_
          refine X.opR rfl rfl rfl ?_
          iterate 2 refine X.off (X.off_t rfl rfl rfl (X.and_ff (X.and_ff (X.and_ff (X.and_ff h_32))))) rfl ?_
          refine X.opR rfl (X.pickand_f (y := decide (y11.1 = 4)) rfl (X.and_ff (X.and_ff (X.and_ff (X.and_ff h_32)))) rfl) rfl ?_
          refine X.opR rfl rfl rfl ?_
          iterate 2 refine X.off (X.off_t rfl rfl rfl (X.and_ff (X.and_ff (X.and_ff (X.and_ff (X.and_ff h_32)))))) rfl ?_
          refine X.opR rfl (X.pickand_f (y := decide (y11.2.1 = 3)) rfl (X.and_ff (X.and_ff (X.and_ff (X.and_ff (X.and_ff h_32))))) rfl) rfl ?_
          refine X.opR rfl rfl rfl ?_
          refine GS.opsNil ?_
          exact X.gc [] hg rfl rfl rfl (gk_cons rfl ⟨9, rfl⟩ gk_nil) (gb_nil)
      have hE := Option.some.inj hM
      subst hE
      exact GS.ret ⟨_, rfl, ⟨30, rfl⟩⟩

set_option maxHeartbeats 4000000 in
theorem ok_law02_TideMoreGauges {w : api_Water} {l : (List api_Gauge)} {at_ : Int} {r : Bool} (hM : law02_TideMoreGauges w l at_ = some r) : Ct Try.prog 5 [(e_api_Water w), (V.sl (List.map e_api_Gauge l)), (V.lit (.int .u8 at_))] (V.b r) := by
  refine ct_of_gs CC_ok rfl ?_
  unfold law02_TideMoreGauges at hM
  refine GS.seq ?_
  refine GS.region ?_
  refine X.opW rfl rfl rfl rfl ?_
  refine X.opR rfl rfl rfl ?_
  refine GS.opsNil ?_
  iterate 2 refine GS.seq ?_
  obtain ⟨y, h_1, hM⟩ := bind_of hM
  refine GS.region ?_
  refine X.mid [(1, (V.sl (List.map e_api_Gauge l))), (2, (V.lit (.int .u8 at_))), (3, (V.ptr 0 0 0)), (31, (V.b (((!y) || (decide (60 < (l.length : Int)))) || (decide ((l.length : Int) = 0)))))] ?_ ?_
  · intro hg
    refine X.split (!y) (fun h_2 => ?_) (fun h_2 => ?_)
    · refine X.opR rfl rfl rfl ?_
      refine X.call (ok_law02_few h_1) rfl rfl rfl (.cons (.shut (n := 9) rfl) .nil) ?_
      iterate 2 refine X.opR rfl rfl rfl ?_
      iterate 3 refine X.off (X.off_f rfl rfl rfl h_2) rfl ?_
      refine X.opR rfl (X.pickor_t (y := decide (60 < (l.length : Int))) rfl h_2 rfl) rfl ?_
      refine X.opR rfl rfl rfl ?_
      iterate 3 refine X.off (X.off_f rfl rfl rfl (X.or_tt h_2)) rfl ?_
      refine X.opR rfl (X.pickor_t (y := decide ((l.length : Int) = 0)) rfl (X.or_tt h_2) rfl) rfl ?_
      refine GS.opsNil ?_
      exact X.norm _ hg rfl (W.sub_cons rfl (W.sub_cons rfl (W.sub_cons rfl (W.sub_cons rfl W.sub_nil))))
    · refine X.split (((!y) || (decide (60 < (l.length : Int))))) (fun h_3 => ?_) (fun h_3 => ?_)
      · refine X.opR rfl rfl rfl ?_
        refine X.call (ok_law02_few h_1) rfl rfl rfl (.cons (.shut (n := 9) rfl) .nil) ?_
        iterate 2 refine X.opR rfl rfl rfl ?_
        refine X.opR (X.on_f rfl rfl rfl h_2) rfl rfl ?_
        refine X.opR (X.on_f rfl rfl rfl h_2) (X.lenF rfl rfl rfl) rfl ?_
        refine X.opR (X.on_f rfl rfl rfl h_2) rfl rfl ?_
        refine X.opR rfl (X.pickor_f (y := decide (60 < (l.length : Int))) rfl h_2 rfl) rfl ?_
        refine X.opR rfl rfl rfl ?_
        iterate 3 refine X.off (X.off_f rfl rfl rfl h_3) rfl ?_
        refine X.opR rfl (X.pickor_t (y := decide ((l.length : Int) = 0)) rfl h_3 rfl) rfl ?_
        refine GS.opsNil ?_
        exact X.norm _ hg rfl (W.sub_cons rfl (W.sub_cons rfl (W.sub_cons rfl (W.sub_cons rfl W.sub_nil))))
      · refine X.opR rfl rfl rfl ?_
        refine X.call (ok_law02_few h_1) rfl rfl rfl (.cons (.shut (n := 9) rfl) .nil) ?_
        iterate 2 refine X.opR rfl rfl rfl ?_
        refine X.opR (X.on_f rfl rfl rfl h_2) rfl rfl ?_
        refine X.opR (X.on_f rfl rfl rfl h_2) (X.lenF rfl rfl rfl) rfl ?_
        refine X.opR (X.on_f rfl rfl rfl h_2) rfl rfl ?_
        refine X.opR rfl (X.pickor_f (y := decide (60 < (l.length : Int))) rfl h_2 rfl) rfl ?_
        refine X.opR rfl rfl rfl ?_
        refine X.opR (X.on_f rfl rfl rfl h_3) rfl rfl ?_
        refine X.opR (X.on_f rfl rfl rfl h_3) (X.lenF rfl rfl rfl) rfl ?_
        refine X.opR (X.on_f rfl rfl rfl h_3) rfl rfl ?_
        refine X.opR rfl (X.pickor_f (y := decide ((l.length : Int) = 0)) rfl h_3 rfl) rfl ?_
        refine GS.opsNil ?_
        exact X.norm _ hg rfl (W.sub_cons rfl (W.sub_cons rfl (W.sub_cons rfl (W.sub_cons rfl W.sub_nil))))
  refine X.cond rfl (fun h_4 => ?_) (fun h_4 => ?_)
  · replace hM := ite_t h_4 hM
    refine GS.seq ?_
    obtain ⟨y1, h_5, hM⟩ := bind_of hM
    refine GS.region ?_
    refine X.call (ok_law02_sanity h_5) rfl rfl rfl .nil ?_
    refine X.opR rfl rfl rfl ?_
    refine GS.opsNil ?_
    have hE := Option.some.inj hM
    subst hE
    exact GS.ret ⟨_, rfl, ⟨30, rfl⟩⟩
  · replace hM := ite_f h_4 hM
    refine GS.skip ?_
    refine GS.seq ?_
    obtain ⟨y2, h_6, hM⟩ := bind_of hM
    refine GS.region ?_
    iterate 2 refine X.opR rfl rfl rfl ?_
    refine X.call (ok_tide_Levels h_6) rfl rfl rfl (.cons (.shut (n := 9) rfl) (.cons (.shut (n := 9) rfl) .nil)) ?_
    iterate 3 refine X.opR rfl rfl rfl ?_
    refine X.opW rfl rfl rfl rfl ?_
    refine X.op0W rfl rfl rfl ?_
    refine X.opR rfl rfl rfl ?_
    refine GS.opsNil ?_
    iterate 2 refine GS.seq ?_
    refine GS.region ?_
    iterate 2 refine X.opR rfl rfl rfl ?_
    refine GS.opsNil ?_
    refine X.cond rfl (fun h_7 => ?_) (fun h_7 => ?_)
    · replace hM := ite_t h_7 hM
      refine GS.seq ?_
      obtain ⟨y3, h_8, hM⟩ := bind_of hM
      refine GS.region ?_
      refine X.call (ok_law02_sanity h_8) rfl rfl rfl .nil ?_
      refine X.opR rfl rfl rfl ?_
      refine GS.opsNil ?_
      have hE := Option.some.inj hM
      subst hE
      exact GS.ret ⟨_, rfl, ⟨30, rfl⟩⟩
    · replace hM := ite_f h_7 hM
      refine GS.skip ?_
      refine GS.seq ?_
      obtain ⟨q, h_9, hM⟩ := bind_of hM
      refine GS.region ?_
      refine X.opR rfl rfl rfl ?_
      refine X.opR rfl (X.convE rfl rfl rfl rfl) rfl ?_
      refine X.opR rfl rfl rfl ?_
      refine X.opR rfl (X.lenF rfl rfl rfl) rfl ?_
      refine X.opR rfl (X.remE h_9 rfl rfl) rfl ?_
      refine X.opR rfl rfl rfl ?_
      refine GS.opsNil ?_
      refine GS.seq ?_
      obtain ⟨l1, h_10, hM⟩ := bind_of hM
      obtain ⟨l2, h_11, hM⟩ := bind_of hM
      obtain ⟨l3, h_12, hM⟩ := bind_of hM
      obtain ⟨l4, h_13, hM⟩ := bind_of hM
      obtain ⟨y4, h_14, hM⟩ := bind_of hM
      refine X.draw (by kernel_rfl) ?_
      iterate 4 refine X.dop rfl rfl rfl rfl (by kernel_rfl) rfl rfl ?_
      refine X.dop rfl (X.sliceF (f := e_api_Gauge) h_10 (fun _ => rfl) rfl rfl rfl rfl rfl rfl (X.boundA_int rfl)) rfl rfl (by kernel_rfl) rfl rfl ?_
      refine X.dop rfl (X.appO (f := e_api_Gauge) h_11 (fun _ => rfl) rfl rfl rfl rfl rfl rfl rfl rfl rfl rfl) rfl rfl (by kernel_rfl) rfl rfl ?_
      iterate 2 refine X.dop rfl rfl rfl rfl (by kernel_rfl) rfl rfl ?_
      refine X.dop rfl (X.addE rfl rfl) rfl rfl (by kernel_rfl) rfl rfl ?_
      refine X.dop rfl (X.sliceF (f := e_api_Gauge) h_12 (fun _ => rfl) rfl rfl rfl rfl rfl (X.boundA_int rfl) rfl) rfl rfl (by kernel_rfl) rfl rfl ?_
      refine X.dop rfl (X.appO (f := e_api_Gauge) h_13 (fun _ => rfl) rfl rfl rfl rfl rfl rfl rfl rfl rfl rfl) rfl rfl (by kernel_rfl) rfl rfl ?_
      refine X.dcallF (ok_tide_Levels h_14) rfl rfl rfl (by kernel_rfl) rfl (m := 9) rfl (.cons (.shut (n := 9) rfl) (.cons (FR.arg (FR.osl (f := e_api_Gauge) (l := l4) 9 rfl rfl (fun _ => rfl))) .nil)) ?_
      iterate 4 refine X.dop rfl rfl rfl rfl (by kernel_rfl) rfl rfl ?_
      refine X.dop0 rfl rfl rfl rfl (by kernel_rfl) rfl ?_
      refine X.dop rfl rfl rfl rfl (by kernel_rfl) rfl rfl ?_
      refine X.dnil ?_
      refine X.norm [(1, (V.sl (List.map e_api_Gauge l))), (3, (V.ptr 0 0 0)), (7, (V.ptr 1 0 0)), (10, (V.ptr 5 0 0)), (11, (V.i y4.2))] ?_ rfl (W.sub_cons rfl (W.sub_cons rfl (W.sub_cons rfl (W.sub_cons rfl (W.sub_cons rfl W.sub_nil)))))
      refine GS.seq ?_
      obtain ⟨y5, h_15, hM⟩ := bind_of hM
      refine GS.region ?_
      iterate 2 refine X.opR rfl rfl rfl ?_
      refine X.call (ok_tide_Rests h_15) rfl rfl rfl (.cons (.shut (n := 9) rfl) (.cons (.shut (n := 9) rfl) .nil)) ?_
      iterate 7 refine X.opR rfl rfl rfl ?_
      refine GS.opsNil ?_
      refine GS.seq ?_
      refine GS.region ?_
      refine X.opR rfl rfl rfl ?_
      refine GS.opsNil ?_
      iterate 2 refine GS.seq ?_
      refine GS.region ?_
      refine X.opR rfl rfl rfl ?_
      refine GS.opsNil ?_
      refine X.join (τ := (List api_Gauge)) (fun v => law02_TideMoreGauges_j1 w y2 y4 y5 v = some r) (fun v => ⟨[(3, (V.ptr 0 0 0)), (7, (V.ptr 1 0 0)), (10, (V.ptr 2 0 0)), (11, (V.i y4.2)), (14, (V.i y5.2.2)), (15, (ovl 3 v))], [.rows 3 [(e_api_Water w)], .rows 2 [(e_api_Span y2.1)], .rows 2 [(e_api_Span y4.1)], obl 4 e_api_Gauge v], 0, none, 136⟩) ?_ ?_
      · intro l5 hM
        replace hM : law02_TideMoreGauges_j1 w y2 y4 y5 l5 = some r := hM
        unfold law02_TideMoreGauges_j1 at hM
        refine GS.seq ?_
        obtain ⟨y6, h_16, hM⟩ := bind_of hM
        refine GS.region ?_
        iterate 2 refine X.opR rfl rfl rfl ?_
        refine X.callF (ok_tide_Levels h_16) rfl rfl rfl (m := 9) rfl (.cons (.shut (n := 9) rfl) (.cons (FR.arg (FR.ovl (f := e_api_Gauge) (l := l5) 9 rfl rfl (fun _ => rfl))) .nil)) ?_
        iterate 3 refine X.opR rfl rfl rfl ?_
        refine X.opW rfl rfl rfl rfl ?_
        refine X.op0W rfl rfl rfl ?_
        refine X.opR rfl rfl rfl ?_
        refine GS.opsNil ?_
        refine GS.seq ?_
        obtain ⟨y7, h_17, hM⟩ := bind_of hM
        refine GS.region ?_
        refine X.mid [(6, (V.b ((((((y7 && (decide (y4.2 = 0))) && (decide (y4.1.Lo ≤ y2.1.Lo))) && (decide (y2.1.Hi ≤ y4.1.Hi))) && (decide (y5.2.2 = 0))) && (decide (y6.2 = 0))) && (decide (y6.1 = y2.1)))))] ?_ ?_
        · intro hg
          refine X.split (y7) (fun h_18 => ?_) (fun h_18 => ?_)
          · refine X.split ((y7 && (decide (y4.2 = 0)))) (fun h_19 => ?_) (fun h_19 => ?_)
            · refine X.split (((y7 && (decide (y4.2 = 0))) && (decide (y4.1.Lo ≤ y2.1.Lo)))) (fun h_20 => ?_) (fun h_20 => ?_)
              · refine X.split ((((y7 && (decide (y4.2 = 0))) && (decide (y4.1.Lo ≤ y2.1.Lo))) && (decide (y2.1.Hi ≤ y4.1.Hi)))) (fun h_21 => ?_) (fun h_21 => ?_)
                · refine X.split (((((y7 && (decide (y4.2 = 0))) && (decide (y4.1.Lo ≤ y2.1.Lo))) && (decide (y2.1.Hi ≤ y4.1.Hi))) && (decide (y5.2.2 = 0)))) (fun h_22 => ?_) (fun h_22 => ?_)
                  · refine X.split ((((((y7 && (decide (y4.2 = 0))) && (decide (y4.1.Lo ≤ y2.1.Lo))) && (decide (y2.1.Hi ≤ y4.1.Hi))) && (decide (y5.2.2 = 0))) && (decide (y6.2 = 0)))) (fun h_23 => ?_) (fun h_23 => ?_)
                    · refine X.call (ok_law02_sanity h_17) rfl rfl rfl .nil ?_
                      refine X.opR rfl rfl rfl ?_
                      iterate 2 refine X.opR (X.on_t rfl rfl rfl h_18) rfl rfl ?_
                      refine X.opR rfl (X.pickand_t (y := decide (y4.2 = 0)) rfl h_18 rfl) rfl ?_
                      refine X.opR rfl rfl rfl ?_
                      iterate 5 refine X.opR (X.on_t rfl rfl rfl h_19) rfl rfl ?_
                      refine X.opR rfl (X.pickand_t (y := decide (y4.1.Lo ≤ y2.1.Lo)) rfl h_19 rfl) rfl ?_
                      refine X.opR rfl rfl rfl ?_
                      iterate 5 refine X.opR (X.on_t rfl rfl rfl h_20) rfl rfl ?_
                      refine X.opR rfl (X.pickand_t (y := decide (y2.1.Hi ≤ y4.1.Hi)) rfl h_20 rfl) rfl ?_
                      refine X.opR rfl rfl rfl ?_
                      iterate 2 refine X.opR (X.on_t rfl rfl rfl h_21) rfl rfl ?_
                      refine X.opR rfl (X.pickand_t (y := decide (y5.2.2 = 0)) rfl h_21 rfl) rfl ?_
                      refine X.opR rfl rfl rfl ?_
                      iterate 2 refine X.opR (X.on_t rfl rfl rfl h_22) rfl rfl ?_
                      refine X.opR rfl (X.pickand_t (y := decide (y6.2 = 0)) rfl h_22 rfl) rfl ?_
                      refine X.opR rfl rfl rfl ?_
                      iterate 2 refine X.opR (X.on_t rfl rfl rfl h_23) rfl rfl ?_
                      refine X.opR (X.on_t rfl rfl rfl h_23) (X.eqlE (eq_api_Span y6.1 y2.1) rfl rfl) rfl ?_
                      refine X.opR rfl (X.pickand_t (y := decide (y6.1 = y2.1)) rfl h_23 rfl) rfl ?_
                      refine X.opR rfl rfl rfl ?_
                      refine GS.opsNil ?_
                      exact X.norm _ hg rfl (W.sub_cons rfl W.sub_nil)
                    · refine X.call (ok_law02_sanity h_17) rfl rfl rfl .nil ?_
                      refine X.opR rfl rfl rfl ?_
                      iterate 2 refine X.opR (X.on_t rfl rfl rfl h_18) rfl rfl ?_
                      refine X.opR rfl (X.pickand_t (y := decide (y4.2 = 0)) rfl h_18 rfl) rfl ?_
                      refine X.opR rfl rfl rfl ?_
                      iterate 5 refine X.opR (X.on_t rfl rfl rfl h_19) rfl rfl ?_
                      refine X.opR rfl (X.pickand_t (y := decide (y4.1.Lo ≤ y2.1.Lo)) rfl h_19 rfl) rfl ?_
                      refine X.opR rfl rfl rfl ?_
                      iterate 5 refine X.opR (X.on_t rfl rfl rfl h_20) rfl rfl ?_
                      refine X.opR rfl (X.pickand_t (y := decide (y2.1.Hi ≤ y4.1.Hi)) rfl h_20 rfl) rfl ?_
                      refine X.opR rfl rfl rfl ?_
                      iterate 2 refine X.opR (X.on_t rfl rfl rfl h_21) rfl rfl ?_
                      refine X.opR rfl (X.pickand_t (y := decide (y5.2.2 = 0)) rfl h_21 rfl) rfl ?_
                      refine X.opR rfl rfl rfl ?_
                      iterate 2 refine X.opR (X.on_t rfl rfl rfl h_22) rfl rfl ?_
                      refine X.opR rfl (X.pickand_t (y := decide (y6.2 = 0)) rfl h_22 rfl) rfl ?_
                      refine X.opR rfl rfl rfl ?_
                      iterate 3 refine X.off (X.off_t rfl rfl rfl h_23) rfl ?_
                      refine X.opR rfl (X.pickand_f (y := decide (y6.1 = y2.1)) rfl h_23 rfl) rfl ?_
                      refine X.opR rfl rfl rfl ?_
                      refine GS.opsNil ?_
                      exact X.norm _ hg rfl (W.sub_cons rfl W.sub_nil)
                  · refine X.call (ok_law02_sanity h_17) rfl rfl rfl .nil ?_
                    refine X.opR rfl rfl rfl ?_
                    iterate 2 refine X.opR (X.on_t rfl rfl rfl h_18) rfl rfl ?_
                    refine X.opR rfl (X.pickand_t (y := decide (y4.2 = 0)) rfl h_18 rfl) rfl ?_
                    refine X.opR rfl rfl rfl ?_
                    iterate 5 refine X.opR (X.on_t rfl rfl rfl h_19) rfl rfl ?_
                    refine X.opR rfl (X.pickand_t (y := decide (y4.1.Lo ≤ y2.1.Lo)) rfl h_19 rfl) rfl ?_
                    refine X.opR rfl rfl rfl ?_
                    iterate 5 refine X.opR (X.on_t rfl rfl rfl h_20) rfl rfl ?_
                    refine X.opR rfl (X.pickand_t (y := decide (y2.1.Hi ≤ y4.1.Hi)) rfl h_20 rfl) rfl ?_
                    refine X.opR rfl rfl rfl ?_
                    iterate 2 refine X.opR (X.on_t rfl rfl rfl h_21) rfl rfl ?_
                    refine X.opR rfl (X.pickand_t (y := decide (y5.2.2 = 0)) rfl h_21 rfl) rfl ?_
                    refine X.opR rfl rfl rfl ?_
                    iterate 2 refine X.off (X.off_t rfl rfl rfl h_22) rfl ?_
                    refine X.opR rfl (X.pickand_f (y := decide (y6.2 = 0)) rfl h_22 rfl) rfl ?_
                    refine X.opR rfl rfl rfl ?_
                    iterate 3 refine X.off (X.off_t rfl rfl rfl (X.and_ff h_22)) rfl ?_
                    refine X.opR rfl (X.pickand_f (y := decide (y6.1 = y2.1)) rfl (X.and_ff h_22) rfl) rfl ?_
                    refine X.opR rfl rfl rfl ?_
                    refine GS.opsNil ?_
                    exact X.norm _ hg rfl (W.sub_cons rfl W.sub_nil)
                · refine X.call (ok_law02_sanity h_17) rfl rfl rfl .nil ?_
                  refine X.opR rfl rfl rfl ?_
                  iterate 2 refine X.opR (X.on_t rfl rfl rfl h_18) rfl rfl ?_
                  refine X.opR rfl (X.pickand_t (y := decide (y4.2 = 0)) rfl h_18 rfl) rfl ?_
                  refine X.opR rfl rfl rfl ?_
                  iterate 5 refine X.opR (X.on_t rfl rfl rfl h_19) rfl rfl ?_
                  refine X.opR rfl (X.pickand_t (y := decide (y4.1.Lo ≤ y2.1.Lo)) rfl h_19 rfl) rfl ?_
                  refine X.opR rfl rfl rfl ?_
                  iterate 5 refine X.opR (X.on_t rfl rfl rfl h_20) rfl rfl ?_
                  refine X.opR rfl (X.pickand_t (y := decide (y2.1.Hi ≤ y4.1.Hi)) rfl h_20 rfl) rfl ?_
                  refine X.opR rfl rfl rfl ?_
                  iterate 2 refine X.off (X.off_t rfl rfl rfl h_21) rfl ?_
                  refine X.opR rfl (X.pickand_f (y := decide (y5.2.2 = 0)) rfl h_21 rfl) rfl ?_
                  refine X.opR rfl rfl rfl ?_
                  iterate 2 refine X.off (X.off_t rfl rfl rfl (X.and_ff h_21)) rfl ?_
                  refine X.opR rfl (X.pickand_f (y := decide (y6.2 = 0)) rfl (X.and_ff h_21) rfl) rfl ?_
                  refine X.opR rfl rfl rfl ?_
                  iterate 3 refine X.off (X.off_t rfl rfl rfl (X.and_ff (X.and_ff h_21))) rfl ?_
                  refine X.opR rfl (X.pickand_f (y := decide (y6.1 = y2.1)) rfl (X.and_ff (X.and_ff h_21)) rfl) rfl ?_
                  refine X.opR rfl rfl rfl ?_
                  refine GS.opsNil ?_
                  exact X.norm _ hg rfl (W.sub_cons rfl W.sub_nil)
              · refine X.call (ok_law02_sanity h_17) rfl rfl rfl .nil ?_
                refine X.opR rfl rfl rfl ?_
                iterate 2 refine X.opR (X.on_t rfl rfl rfl h_18) rfl rfl ?_
                refine X.opR rfl (X.pickand_t (y := decide (y4.2 = 0)) rfl h_18 rfl) rfl ?_
                refine X.opR rfl rfl rfl ?_
                iterate 5 refine X.opR (X.on_t rfl rfl rfl h_19) rfl rfl ?_
                refine X.opR rfl (X.pickand_t (y := decide (y4.1.Lo ≤ y2.1.Lo)) rfl h_19 rfl) rfl ?_
                refine X.opR rfl rfl rfl ?_
                iterate 5 refine X.off (X.off_t rfl rfl rfl h_20) rfl ?_
                refine X.opR rfl (X.pickand_f (y := decide (y2.1.Hi ≤ y4.1.Hi)) rfl h_20 rfl) rfl ?_
                refine X.opR rfl rfl rfl ?_
                iterate 2 refine X.off (X.off_t rfl rfl rfl (X.and_ff h_20)) rfl ?_
                refine X.opR rfl (X.pickand_f (y := decide (y5.2.2 = 0)) rfl (X.and_ff h_20) rfl) rfl ?_
                refine X.opR rfl rfl rfl ?_
                iterate 2 refine X.off (X.off_t rfl rfl rfl (X.and_ff (X.and_ff h_20))) rfl ?_
                refine X.opR rfl (X.pickand_f (y := decide (y6.2 = 0)) rfl (X.and_ff (X.and_ff h_20)) rfl) rfl ?_
                refine X.opR rfl rfl rfl ?_
                iterate 3 refine X.off (X.off_t rfl rfl rfl (X.and_ff (X.and_ff (X.and_ff h_20)))) rfl ?_
                refine X.opR rfl (X.pickand_f (y := decide (y6.1 = y2.1)) rfl (X.and_ff (X.and_ff (X.and_ff h_20))) rfl) rfl ?_
                refine X.opR rfl rfl rfl ?_
                refine GS.opsNil ?_
                exact X.norm _ hg rfl (W.sub_cons rfl W.sub_nil)
            · refine X.call (ok_law02_sanity h_17) rfl rfl rfl .nil ?_
              refine X.opR rfl rfl rfl ?_
              iterate 2 refine X.opR (X.on_t rfl rfl rfl h_18) rfl rfl ?_
              refine X.opR rfl (X.pickand_t (y := decide (y4.2 = 0)) rfl h_18 rfl) rfl ?_
              refine X.opR rfl rfl rfl ?_
              iterate 5 refine X.off (X.off_t rfl rfl rfl h_19) rfl ?_
              refine X.opR rfl (X.pickand_f (y := decide (y4.1.Lo ≤ y2.1.Lo)) rfl h_19 rfl) rfl ?_
              refine X.opR rfl rfl rfl ?_
              iterate 5 refine X.off (X.off_t rfl rfl rfl (X.and_ff h_19)) rfl ?_
              refine X.opR rfl (X.pickand_f (y := decide (y2.1.Hi ≤ y4.1.Hi)) rfl (X.and_ff h_19) rfl) rfl ?_
              refine X.opR rfl rfl rfl ?_
              iterate 2 refine X.off (X.off_t rfl rfl rfl (X.and_ff (X.and_ff h_19))) rfl ?_
              refine X.opR rfl (X.pickand_f (y := decide (y5.2.2 = 0)) rfl (X.and_ff (X.and_ff h_19)) rfl) rfl ?_
              refine X.opR rfl rfl rfl ?_
              iterate 2 refine X.off (X.off_t rfl rfl rfl (X.and_ff (X.and_ff (X.and_ff h_19)))) rfl ?_
              refine X.opR rfl (X.pickand_f (y := decide (y6.2 = 0)) rfl (X.and_ff (X.and_ff (X.and_ff h_19))) rfl) rfl ?_
              refine X.opR rfl rfl rfl ?_
              iterate 3 refine X.off (X.off_t rfl rfl rfl (X.and_ff (X.and_ff (X.and_ff (X.and_ff h_19))))) rfl ?_
              refine X.opR rfl (X.pickand_f (y := decide (y6.1 = y2.1)) rfl (X.and_ff (X.and_ff (X.and_ff (X.and_ff h_19)))) rfl) rfl ?_
              refine X.opR rfl rfl rfl ?_
              refine GS.opsNil ?_
              exact X.norm _ hg rfl (W.sub_cons rfl W.sub_nil)
          · refine X.call (ok_law02_sanity h_17) rfl rfl rfl .nil ?_
            refine X.opR rfl rfl rfl ?_
            iterate 2 refine X.off (X.off_t rfl rfl rfl h_18) rfl ?_
            refine X.opR rfl (X.pickand_f (y := decide (y4.2 = 0)) rfl h_18 rfl) rfl ?_
            refine X.opR rfl rfl rfl ?_
            iterate 5 refine X.off (X.off_t rfl rfl rfl (X.and_ff h_18)) rfl ?_
            refine X.opR rfl (X.pickand_f (y := decide (y4.1.Lo ≤ y2.1.Lo)) rfl (X.and_ff h_18) rfl) rfl ?_
            refine X.opR rfl rfl rfl ?_
            iterate 5 refine X.off (X.off_t rfl rfl rfl (X.and_ff (X.and_ff h_18))) rfl ?_
            refine X.opR rfl (X.pickand_f (y := decide (y2.1.Hi ≤ y4.1.Hi)) rfl (X.and_ff (X.and_ff h_18)) rfl) rfl ?_
            refine X.opR rfl rfl rfl ?_
            iterate 2 refine X.off (X.off_t rfl rfl rfl (X.and_ff (X.and_ff (X.and_ff h_18)))) rfl ?_
            refine X.opR rfl (X.pickand_f (y := decide (y5.2.2 = 0)) rfl (X.and_ff (X.and_ff (X.and_ff h_18))) rfl) rfl ?_
            refine X.opR rfl rfl rfl ?_
            iterate 2 refine X.off (X.off_t rfl rfl rfl (X.and_ff (X.and_ff (X.and_ff (X.and_ff h_18))))) rfl ?_
            refine X.opR rfl (X.pickand_f (y := decide (y6.2 = 0)) rfl (X.and_ff (X.and_ff (X.and_ff (X.and_ff h_18)))) rfl) rfl ?_
            refine X.opR rfl rfl rfl ?_
            iterate 3 refine X.off (X.off_t rfl rfl rfl (X.and_ff (X.and_ff (X.and_ff (X.and_ff (X.and_ff h_18)))))) rfl ?_
            refine X.opR rfl (X.pickand_f (y := decide (y6.1 = y2.1)) rfl (X.and_ff (X.and_ff (X.and_ff (X.and_ff (X.and_ff h_18))))) rfl) rfl ?_
            refine X.opR rfl rfl rfl ?_
            refine GS.opsNil ?_
            exact X.norm _ hg rfl (W.sub_cons rfl W.sub_nil)
        have hE := Option.some.inj hM
        subst hE
        exact GS.ret ⟨_, rfl, ⟨30, rfl⟩⟩
      · intro hj_1
        refine GS.block ?_
        refine X.gc [some 0, some 1, some 5, none] (X.loop (σ := (Int × (List api_Gauge))) (fun v => ⟨[(1, (V.sl (List.map e_api_Gauge l))), (3, (V.ptr 0 0 0)), (7, (V.ptr 1 0 0)), (10, (V.ptr 2 0 0)), (11, (V.i y4.2)), (12, (V.i y5.1)), (13, (V.i y5.2.1)), (14, (V.i y5.2.2)), (15, (ovl 3 v.2)), (16, (V.i v.1))], [.rows 3 [(e_api_Water w)], .rows 2 [(e_api_Span y2.1)], .rows 2 [(e_api_Span y4.1)], obl 4 e_api_Gauge v.2], 0, none, 136⟩) hM ?_ rfl) rfl rfl rfl (gk_cons rfl ⟨9, rfl⟩ (gk_cons rfl ⟨9, rfl⟩ (gk_cons rfl ⟨9, rfl⟩ (gk_cons rfl ⟨9, rfl⟩ (gk_cons rfl ⟨9, rfl⟩ (gk_cons rfl ⟨9, rfl⟩ (gk_cons rfl ⟨9, rfl⟩ (gk_cons rfl ⟨9, rfl⟩ (gk_cons rfl ⟨9, rfl⟩ (gk_cons rfl ⟨9, rfl⟩ gk_nil)))))))))) (gb_box rfl rfl ⟨9, rfl⟩ (gb_box rfl rfl ⟨9, rfl⟩ (gb_box rfl rfl ⟨9, rfl⟩ (gb_pad' rfl gb_nil))))
        rintro ⟨i, l8⟩ b_1 hM hc_2 hr_1
        rw [law02_TideMoreGauges_b2] at hM
        iterate 2 refine GS.seq ?_
        refine GS.region ?_
        iterate 2 refine X.opR rfl rfl rfl ?_
        refine X.opR rfl (X.lenF rfl rfl rfl) rfl ?_
        refine X.opR rfl rfl rfl ?_
        refine GS.opsNil ?_
        refine X.cond rfl (fun h_24 => ?_) (fun h_24 => ?_)
        · replace hM := ite_t h_24 hM
          refine GS.skip ?_
          refine GS.seq ?_
          refine X.join (τ := (List api_Gauge)) (fun v => law02_TideMoreGauges_j3 i v = some b_1) (fun v => ⟨[(1, (V.sl (List.map e_api_Gauge l))), (3, (V.ptr 0 0 0)), (7, (V.ptr 1 0 0)), (10, (V.ptr 2 0 0)), (11, (V.i y4.2)), (12, (V.i y5.1)), (13, (V.i y5.2.1)), (14, (V.i y5.2.2)), (15, (ovl 3 v)), (16, (V.i i))], [.rows 3 [(e_api_Water w)], .rows 2 [(e_api_Span y2.1)], .rows 2 [(e_api_Span y4.1)], obl 4 e_api_Gauge v], 0, none, 136⟩) ?_ ?_
          · intro l6 hM
            replace hM : law02_TideMoreGauges_j3 i l6 = some b_1 := hM
            unfold law02_TideMoreGauges_j3 at hM
            refine GS.region ?_
            refine X.opR rfl rfl rfl ?_
            refine X.opR rfl (X.addE rfl rfl) rfl ?_
            refine X.opR rfl rfl rfl ?_
            refine GS.opsNil ?_
            have hE := Option.some.inj hM
            exact X.gc [some 0, some 1, some 2, some 3] (hc_2 (w64 (i + 1), l6) hE.symm) rfl rfl rfl (gk_cons rfl ⟨9, rfl⟩ (gk_cons rfl ⟨9, rfl⟩ (gk_cons rfl ⟨9, rfl⟩ (gk_cons rfl ⟨9, rfl⟩ (gk_cons rfl ⟨9, rfl⟩ (gk_cons rfl ⟨9, rfl⟩ (gk_cons rfl ⟨9, rfl⟩ (gk_cons rfl ⟨9, rfl⟩ (gk_cons rfl (rn_ovl rfl) (gk_cons rfl ⟨9, rfl⟩ gk_nil)))))))))) (gb_box rfl rfl ⟨9, rfl⟩ (gb_box rfl rfl ⟨9, rfl⟩ (gb_box rfl rfl ⟨9, rfl⟩ (gb_obl 9 rfl rfl (fun _ => rfl) gb_nil))))
          · intro hj_3
            refine GS.block ?_
            refine GS.seq ?_
            obtain ⟨x, h_25, hM⟩ := bind_of hM
            obtain ⟨x1, h_26, hM⟩ := gb_of hM
            refine GS.region ?_
            refine X.mid [(1, (V.sl (List.map e_api_Gauge l))), (3, (V.ptr 0 0 0)), (7, (V.ptr 1 0 0)), (10, (V.ptr 2 0 0)), (11, (V.i y4.2)), (12, (V.i y5.1)), (13, (V.i y5.2.1)), (14, (V.i y5.2.2)), (15, (ovl 3 l8)), (16, (V.i i)), (90, (V.b ((decide (x.ID = y5.1)) || (decide (x1.ID = y5.2.1)))))] ?_ ?_
            · intro hg
              refine X.split (decide (x.ID = y5.1)) (fun h_27 => ?_) (fun h_27 => ?_)
              · iterate 2 refine X.opR rfl rfl rfl ?_
                refine X.opR rfl (X.indexF (f := e_api_Gauge) h_25 (fun _ => rfl) rfl rfl rfl rfl) rfl ?_
                refine X.opR rfl rfl rfl ?_
                refine X.opR rfl (X.loadF h_25 rfl rfl rfl) rfl ?_
                iterate 3 refine X.opR rfl rfl rfl ?_
                iterate 7 refine X.off (X.off_f rfl rfl rfl h_27) rfl ?_
                refine X.opR rfl (X.pickor_t (y := decide (x1.ID = y5.2.1)) rfl h_27 rfl) rfl ?_
                refine GS.opsNil ?_
                exact X.norm _ hg rfl (W.sub_cons rfl (W.sub_cons rfl (W.sub_cons rfl (W.sub_cons rfl (W.sub_cons rfl (W.sub_cons rfl (W.sub_cons rfl (W.sub_cons rfl (W.sub_cons rfl (W.sub_cons rfl (W.sub_cons rfl W.sub_nil)))))))))))
              · iterate 2 refine X.opR rfl rfl rfl ?_
                refine X.opR rfl (X.indexF (f := e_api_Gauge) h_25 (fun _ => rfl) rfl rfl rfl rfl) rfl ?_
                refine X.opR rfl rfl rfl ?_
                refine X.opR rfl (X.loadF h_25 rfl rfl rfl) rfl ?_
                iterate 3 refine X.opR rfl rfl rfl ?_
                iterate 2 refine X.opR (X.on_f rfl rfl rfl h_27) rfl rfl ?_
                refine X.opR (X.on_f rfl rfl rfl h_27) (X.indexF (f := e_api_Gauge) (h_26 (X.nt h_27)) (fun _ => rfl) rfl rfl rfl rfl) rfl ?_
                refine X.opR (X.on_f rfl rfl rfl h_27) rfl rfl ?_
                refine X.opR (X.on_f rfl rfl rfl h_27) (X.loadF (h_26 (X.nt h_27)) rfl rfl rfl) rfl ?_
                iterate 2 refine X.opR (X.on_f rfl rfl rfl h_27) rfl rfl ?_
                refine X.opR rfl (X.pickor_f (y := decide (x1.ID = y5.2.1)) rfl h_27 rfl) rfl ?_
                refine GS.opsNil ?_
                exact X.norm _ hg rfl (W.sub_cons rfl (W.sub_cons rfl (W.sub_cons rfl (W.sub_cons rfl (W.sub_cons rfl (W.sub_cons rfl (W.sub_cons rfl (W.sub_cons rfl (W.sub_cons rfl (W.sub_cons rfl (W.sub_cons rfl W.sub_nil)))))))))))
            refine X.cond rfl (fun h_28 => ?_) (fun h_28 => ?_)
            · replace hM := ite_t h_28 hM
              obtain ⟨x2, h_29, hM⟩ := bind_of hM
              obtain ⟨l7, h_30, hM⟩ := bind_of hM
              refine GS.region ?_
              iterate 3 refine X.opR rfl rfl rfl ?_
              refine X.opR rfl (X.indexF (f := e_api_Gauge) h_29 (fun _ => rfl) rfl rfl rfl rfl) rfl ?_
              refine X.opR rfl (X.loadF h_29 rfl rfl rfl) rfl ?_
              refine X.opW rfl rfl rfl rfl ?_
              refine X.appN (f := e_api_Gauge) h_30 (fun _ => rfl) (by rfl) (by rfl) (by rfl) (by rfl) (by rfl) (by rfl) (by rfl) (by rfl) (by rfl) (by rfl) (by rfl) (by exact rfl) (by rfl) (by rfl) ?_
              refine X.opR rfl rfl rfl ?_
              refine GS.opsNil ?_
              refine GS.endB ?_
              exact X.gc [some 0, some 1, some 2, some 5] (hj_3 l7 hM) rfl rfl rfl (gk_cons rfl ⟨9, rfl⟩ (gk_cons rfl ⟨9, rfl⟩ (gk_cons rfl ⟨9, rfl⟩ (gk_cons rfl ⟨9, rfl⟩ (gk_cons rfl ⟨9, rfl⟩ (gk_cons rfl ⟨9, rfl⟩ (gk_cons rfl ⟨9, rfl⟩ (gk_cons rfl ⟨9, rfl⟩ (gk_cons rfl (rv_ne (app_ne h_30) rfl) (gk_cons rfl ⟨9, rfl⟩ gk_nil)))))))))) (gb_box rfl rfl ⟨9, rfl⟩ (gb_box rfl rfl ⟨9, rfl⟩ (gb_box rfl rfl ⟨9, rfl⟩ (gb_obl' 9 (app_ne h_30) rfl rfl (fun _ => rfl) gb_nil))))
            · replace hM := ite_f h_28 hM
              refine GS.skip ?_
              refine GS.endB ?_
              exact X.gc [some 0, some 1, some 2, some 3] (hj_3 l8 hM) rfl rfl rfl (gk_cons rfl ⟨9, rfl⟩ (gk_cons rfl ⟨9, rfl⟩ (gk_cons rfl ⟨9, rfl⟩ (gk_cons rfl ⟨9, rfl⟩ (gk_cons rfl ⟨9, rfl⟩ (gk_cons rfl ⟨9, rfl⟩ (gk_cons rfl ⟨9, rfl⟩ (gk_cons rfl ⟨9, rfl⟩ (gk_cons rfl (rn_ovl rfl) (gk_cons rfl ⟨9, rfl⟩ gk_nil)))))))))) (gb_box rfl rfl ⟨9, rfl⟩ (gb_box rfl rfl ⟨9, rfl⟩ (gb_box rfl rfl ⟨9, rfl⟩ (gb_obl 9 rfl rfl (fun _ => rfl) gb_nil))))
        · replace hM := ite_f h_24 hM
          refine GS.exit rfl ?_
          obtain ⟨y_1, hM, hy⟩ := map_of hM
          rw [hr_1 _ hy.symm] at hM
          exact X.gc [some 0, some 1, some 2, some 3] (hj_1 l8 hM) rfl rfl rfl (gk_cons rfl ⟨9, rfl⟩ (gk_cons rfl ⟨9, rfl⟩ (gk_cons rfl ⟨9, rfl⟩ (gk_cons rfl ⟨9, rfl⟩ (gk_cons rfl ⟨9, rfl⟩ (gk_cons rfl (rn_ovl rfl) gk_nil)))))) (gb_box rfl rfl ⟨9, rfl⟩ (gb_box rfl rfl ⟨9, rfl⟩ (gb_box rfl rfl ⟨9, rfl⟩ (gb_obl 9 rfl rfl (fun _ => rfl) gb_nil))))

end Go.Proofs.Ytphmekpaalfliaa
