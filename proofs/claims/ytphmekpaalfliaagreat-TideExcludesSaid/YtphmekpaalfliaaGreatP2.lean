/- The program's functions compute the plain ones. Conditions: none. Printed by a program (wip/tools/xg.py). -/
import Derived.Test.YtphmekpaalfliaaGreatP1
set_option linter.unusedVariables false
set_option linter.unusedSimpArgs false
namespace Go.Proofs.YtphmekpaalfliaaGreat
open Go Go.Am Go.Proofs Go.Mx

set_option maxHeartbeats 4000000 in
theorem ok_tide_read {w : api_Water} {l : (List api_Gauge)} {r : (List tide_known) × Int} (hM : tide_read w l = some r) : Ct Tryz.prog 37 [(e_api_Water w), (V.sl (List.map e_api_Gauge l))] (V.tup [(V.sl (List.map e_tide_known r.1)), (V.i r.2)]) := by
  refine ct_of_gs CC_ok rfl ?_
  unfold tide_read at hM
  refine GS.seq ?_
  refine GS.region ?_
  refine X.opW rfl rfl rfl rfl ?_
  iterate 2 refine X.opR rfl rfl rfl ?_
  refine GS.opsNil ?_
  iterate 2 refine GS.seq ?_
  obtain ⟨y, h_1, hM⟩ := bind_of hM
  refine GS.region ?_
  refine X.opR rfl rfl rfl ?_
  refine X.call (ok_tide_Check h_1) rfl rfl rfl (.cons (.shut (n := 9) rfl) .nil) ?_
  refine X.opR rfl rfl rfl ?_
  refine GS.opsNil ?_
  refine GS.seq ?_
  refine GS.region ?_
  iterate 2 refine X.opR rfl rfl rfl ?_
  refine GS.opsNil ?_
  refine X.cond rfl (fun h_2 => ?_) (fun h_2 => ?_)
  · replace hM := ite_t h_2 hM
    refine GS.seq ?_
    refine GS.region ?_
    iterate 3 refine X.opR rfl rfl rfl ?_
    refine GS.opsNil ?_
    have hE := Option.some.inj hM
    subst hE
    exact GS.ret ⟨_, rfl, ⟨30, rfl⟩⟩
  · replace hM := ite_f h_2 hM
    refine GS.skip ?_
    iterate 2 refine GS.seq ?_
    refine GS.region ?_
    refine X.opR rfl rfl rfl ?_
    refine X.opR rfl (X.lenF rfl rfl rfl) rfl ?_
    refine X.opR rfl rfl rfl ?_
    refine GS.opsNil ?_
    refine X.cond rfl (fun h_3 => ?_) (fun h_3 => ?_)
    · replace hM := ite_t h_3 hM
      refine GS.seq ?_
      refine GS.region ?_
      iterate 2 refine X.opR rfl rfl rfl ?_
      refine GS.opsNil ?_
      have hE := Option.some.inj hM
      subst hE
      exact GS.ret ⟨_, rfl, ⟨30, rfl⟩⟩
    · replace hM := ite_f h_3 hM
      refine GS.skip ?_
      iterate 2 refine GS.seq ?_
      refine GS.region ?_
      refine X.opR rfl rfl rfl ?_
      refine X.opR rfl (X.lenF rfl rfl rfl) rfl ?_
      refine X.opR rfl rfl rfl ?_
      refine GS.opsNil ?_
      refine X.join (τ := Unit) (fun v => tide_read_j1 w l = some r) (fun v => ⟨[(1, (V.sl (List.map e_api_Gauge l))), (2, (V.ptr 0 0 0))], [.rows 3 [(e_api_Water w)]], 0, none, 64⟩) ?_ ?_
      · intro _ hM
        replace hM : tide_read_j1 w l = some r := hM
        unfold tide_read_j1 at hM
        refine GS.seq ?_
        obtain ⟨y1, h_4, hM⟩ := bind_of hM
        refine GS.region ?_
        iterate 2 refine X.opR rfl rfl rfl ?_
        refine X.call (ok_tide_knowns h_4) rfl rfl rfl (.cons (.shut (n := 9) rfl) (.cons (.shut (n := 9) rfl) .nil)) ?_
        iterate 2 refine X.opR rfl rfl rfl ?_
        refine GS.opsNil ?_
        have hE := Option.some.inj hM
        subst hE
        exact GS.ret ⟨_, rfl, ⟨30, rfl⟩⟩
      · intro hj_1
        refine GS.block ?_
        refine X.gc [some 0] (X.loop (σ := Int) (fun v => ⟨[(1, (V.sl (List.map e_api_Gauge l))), (2, (V.ptr 0 0 0)), (17, (V.sl (List.map e_api_Gauge l))), (18, (V.i (l.length : Int))), (19, (V.i v))], [.rows 3 [(e_api_Water w)]], 0, none, 64⟩) hM ?_ rfl) rfl rfl rfl (gk_cons rfl ⟨9, rfl⟩ (gk_cons rfl ⟨9, rfl⟩ (gk_cons rfl ⟨9, rfl⟩ (gk_cons rfl ⟨9, rfl⟩ (gk_cons rfl ⟨9, rfl⟩ gk_nil))))) (gb_box rfl rfl ⟨9, rfl⟩ gb_nil)
        intro x1 b_1 hM hc_2 hr_1
        rw [tide_read_b2] at hM
        refine GS.seq ?_
        refine GS.region ?_
        refine X.opR rfl rfl rfl ?_
        refine GS.opsNil ?_
        refine GS.seq ?_
        refine X.cond rfl (fun h_5 => ?_) (fun h_5 => ?_)
        · replace hM := ite_t h_5 hM
          refine GS.skip ?_
          refine GS.seq ?_
          refine GS.block ?_
          refine GS.seq ?_
          obtain ⟨x, h_6, hM⟩ := bind_of hM
          refine GS.region ?_
          refine X.opR rfl rfl rfl ?_
          refine X.opR rfl (X.indexF (f := e_api_Gauge) h_6 (fun _ => rfl) rfl rfl rfl rfl) rfl ?_
          refine X.opR rfl (X.loadF h_6 rfl rfl rfl) rfl ?_
          refine X.opW rfl rfl rfl rfl ?_
          refine X.opR rfl rfl rfl ?_
          refine X.op0W rfl rfl rfl ?_
          refine GS.opsNil ?_
          iterate 2 refine GS.seq ?_
          refine GS.region ?_
          refine X.mid [(1, (V.sl (List.map e_api_Gauge l))), (2, (V.ptr 0 0 0)), (7, (V.i x1)), (8, (V.ptr 1 0 0)), (17, (V.sl (List.map e_api_Gauge l))), (18, (V.i (l.length : Int))), (19, (V.i x1)), (54, (V.b (((((!(tide_within x.ID 1 1099511627776)) || (!(tide_minute x.Tick))) || (decide (x.Read.Hi < x.Read.Lo))) || (decide (x.Read.Lo < (-40000)))) || (decide (40000 < x.Read.Hi)))))] ?_ ?_
          · intro hg
            refine X.split (!(tide_within x.ID 1 1099511627776)) (fun h_7 => ?_) (fun h_7 => ?_)
            · iterate 2 refine X.opR rfl rfl rfl ?_
              refine X.call (ok_tide_within x.ID 1 1099511627776) rfl rfl rfl (.cons (.shut (n := 9) rfl) (.cons (.shut (n := 9) rfl) (.cons (.shut (n := 9) rfl) .nil))) ?_
              iterate 2 refine X.opR rfl rfl rfl ?_
              iterate 4 refine X.off (X.off_f rfl rfl rfl h_7) rfl ?_
              refine X.opR rfl (X.pickor_t (y := !(tide_minute x.Tick)) rfl h_7 rfl) rfl ?_
              refine X.opR rfl rfl rfl ?_
              iterate 7 refine X.off (X.off_f rfl rfl rfl (X.or_tt h_7)) rfl ?_
              refine X.opR rfl (X.pickor_t (y := decide (x.Read.Hi < x.Read.Lo)) rfl (X.or_tt h_7) rfl) rfl ?_
              refine X.opR rfl rfl rfl ?_
              iterate 4 refine X.off (X.off_f rfl rfl rfl (X.or_tt (X.or_tt h_7))) rfl ?_
              refine X.opR rfl (X.pickor_t (y := decide (x.Read.Lo < (-40000))) rfl (X.or_tt (X.or_tt h_7)) rfl) rfl ?_
              refine X.opR rfl rfl rfl ?_
              iterate 4 refine X.off (X.off_f rfl rfl rfl (X.or_tt (X.or_tt (X.or_tt h_7)))) rfl ?_
              refine X.opR rfl (X.pickor_t (y := decide (40000 < x.Read.Hi)) rfl (X.or_tt (X.or_tt (X.or_tt h_7))) rfl) rfl ?_
              refine GS.opsNil ?_
              exact X.norm _ hg rfl (W.sub_cons rfl (W.sub_cons rfl (W.sub_cons rfl (W.sub_cons rfl (W.sub_cons rfl (W.sub_cons rfl (W.sub_cons rfl (W.sub_cons rfl W.sub_nil))))))))
            · refine X.split (((!(tide_within x.ID 1 1099511627776)) || (!(tide_minute x.Tick)))) (fun h_8 => ?_) (fun h_8 => ?_)
              · iterate 2 refine X.opR rfl rfl rfl ?_
                refine X.call (ok_tide_within x.ID 1 1099511627776) rfl rfl rfl (.cons (.shut (n := 9) rfl) (.cons (.shut (n := 9) rfl) (.cons (.shut (n := 9) rfl) .nil))) ?_
                iterate 2 refine X.opR rfl rfl rfl ?_
                iterate 2 refine X.opR (X.on_f rfl rfl rfl h_7) rfl rfl ?_
                refine X.call (ok_tide_minute x.Tick) (X.on_f rfl rfl rfl h_7) rfl rfl (.cons (.shut (n := 9) rfl) .nil) ?_
                refine X.opR (X.on_f rfl rfl rfl h_7) rfl rfl ?_
                refine X.opR rfl (X.pickor_f (y := !(tide_minute x.Tick)) rfl h_7 rfl) rfl ?_
                refine X.opR rfl rfl rfl ?_
                iterate 7 refine X.off (X.off_f rfl rfl rfl h_8) rfl ?_
                refine X.opR rfl (X.pickor_t (y := decide (x.Read.Hi < x.Read.Lo)) rfl h_8 rfl) rfl ?_
                refine X.opR rfl rfl rfl ?_
                iterate 4 refine X.off (X.off_f rfl rfl rfl (X.or_tt h_8)) rfl ?_
                refine X.opR rfl (X.pickor_t (y := decide (x.Read.Lo < (-40000))) rfl (X.or_tt h_8) rfl) rfl ?_
                refine X.opR rfl rfl rfl ?_
                iterate 4 refine X.off (X.off_f rfl rfl rfl (X.or_tt (X.or_tt h_8))) rfl ?_
                refine X.opR rfl (X.pickor_t (y := decide (40000 < x.Read.Hi)) rfl (X.or_tt (X.or_tt h_8)) rfl) rfl ?_
                refine GS.opsNil ?_
                exact X.norm _ hg rfl (W.sub_cons rfl (W.sub_cons rfl (W.sub_cons rfl (W.sub_cons rfl (W.sub_cons rfl (W.sub_cons rfl (W.sub_cons rfl (W.sub_cons rfl W.sub_nil))))))))
              · refine X.split ((((!(tide_within x.ID 1 1099511627776)) || (!(tide_minute x.Tick))) || (decide (x.Read.Hi < x.Read.Lo)))) (fun h_9 => ?_) (fun h_9 => ?_)
                · iterate 2 refine X.opR rfl rfl rfl ?_
                  refine X.call (ok_tide_within x.ID 1 1099511627776) rfl rfl rfl (.cons (.shut (n := 9) rfl) (.cons (.shut (n := 9) rfl) (.cons (.shut (n := 9) rfl) .nil))) ?_
                  iterate 2 refine X.opR rfl rfl rfl ?_
                  iterate 2 refine X.opR (X.on_f rfl rfl rfl h_7) rfl rfl ?_
                  refine X.call (ok_tide_minute x.Tick) (X.on_f rfl rfl rfl h_7) rfl rfl (.cons (.shut (n := 9) rfl) .nil) ?_
                  refine X.opR (X.on_f rfl rfl rfl h_7) rfl rfl ?_
                  refine X.opR rfl (X.pickor_f (y := !(tide_minute x.Tick)) rfl h_7 rfl) rfl ?_
                  refine X.opR rfl rfl rfl ?_
                  iterate 7 refine X.opR (X.on_f rfl rfl rfl h_8) rfl rfl ?_
                  refine X.opR rfl (X.pickor_f (y := decide (x.Read.Hi < x.Read.Lo)) rfl h_8 rfl) rfl ?_
                  refine X.opR rfl rfl rfl ?_
                  iterate 4 refine X.off (X.off_f rfl rfl rfl h_9) rfl ?_
                  refine X.opR rfl (X.pickor_t (y := decide (x.Read.Lo < (-40000))) rfl h_9 rfl) rfl ?_
                  refine X.opR rfl rfl rfl ?_
                  iterate 4 refine X.off (X.off_f rfl rfl rfl (X.or_tt h_9)) rfl ?_
                  refine X.opR rfl (X.pickor_t (y := decide (40000 < x.Read.Hi)) rfl (X.or_tt h_9) rfl) rfl ?_
                  refine GS.opsNil ?_
                  exact X.norm _ hg rfl (W.sub_cons rfl (W.sub_cons rfl (W.sub_cons rfl (W.sub_cons rfl (W.sub_cons rfl (W.sub_cons rfl (W.sub_cons rfl (W.sub_cons rfl W.sub_nil))))))))
                · refine X.split (((((!(tide_within x.ID 1 1099511627776)) || (!(tide_minute x.Tick))) || (decide (x.Read.Hi < x.Read.Lo))) || (decide (x.Read.Lo < (-40000))))) (fun h_10 => ?_) (fun h_10 => ?_)
                  · iterate 2 refine X.opR rfl rfl rfl ?_
                    refine X.call (ok_tide_within x.ID 1 1099511627776) rfl rfl rfl (.cons (.shut (n := 9) rfl) (.cons (.shut (n := 9) rfl) (.cons (.shut (n := 9) rfl) .nil))) ?_
                    iterate 2 refine X.opR rfl rfl rfl ?_
                    iterate 2 refine X.opR (X.on_f rfl rfl rfl h_7) rfl rfl ?_
                    refine X.call (ok_tide_minute x.Tick) (X.on_f rfl rfl rfl h_7) rfl rfl (.cons (.shut (n := 9) rfl) .nil) ?_
                    refine X.opR (X.on_f rfl rfl rfl h_7) rfl rfl ?_
                    refine X.opR rfl (X.pickor_f (y := !(tide_minute x.Tick)) rfl h_7 rfl) rfl ?_
                    refine X.opR rfl rfl rfl ?_
                    iterate 7 refine X.opR (X.on_f rfl rfl rfl h_8) rfl rfl ?_
                    refine X.opR rfl (X.pickor_f (y := decide (x.Read.Hi < x.Read.Lo)) rfl h_8 rfl) rfl ?_
                    refine X.opR rfl rfl rfl ?_
                    iterate 4 refine X.opR (X.on_f rfl rfl rfl h_9) rfl rfl ?_
                    refine X.opR rfl (X.pickor_f (y := decide (x.Read.Lo < (-40000))) rfl h_9 rfl) rfl ?_
                    refine X.opR rfl rfl rfl ?_
                    iterate 4 refine X.off (X.off_f rfl rfl rfl h_10) rfl ?_
                    refine X.opR rfl (X.pickor_t (y := decide (40000 < x.Read.Hi)) rfl h_10 rfl) rfl ?_
                    refine GS.opsNil ?_
                    exact X.norm _ hg rfl (W.sub_cons rfl (W.sub_cons rfl (W.sub_cons rfl (W.sub_cons rfl (W.sub_cons rfl (W.sub_cons rfl (W.sub_cons rfl (W.sub_cons rfl W.sub_nil))))))))
                  · iterate 2 refine X.opR rfl rfl rfl ?_
                    refine X.call (ok_tide_within x.ID 1 1099511627776) rfl rfl rfl (.cons (.shut (n := 9) rfl) (.cons (.shut (n := 9) rfl) (.cons (.shut (n := 9) rfl) .nil))) ?_
                    iterate 2 refine X.opR rfl rfl rfl ?_
                    iterate 2 refine X.opR (X.on_f rfl rfl rfl h_7) rfl rfl ?_
                    refine X.call (ok_tide_minute x.Tick) (X.on_f rfl rfl rfl h_7) rfl rfl (.cons (.shut (n := 9) rfl) .nil) ?_
                    refine X.opR (X.on_f rfl rfl rfl h_7) rfl rfl ?_
                    refine X.opR rfl (X.pickor_f (y := !(tide_minute x.Tick)) rfl h_7 rfl) rfl ?_
                    refine X.opR rfl rfl rfl ?_
                    iterate 7 refine X.opR (X.on_f rfl rfl rfl h_8) rfl rfl ?_
                    refine X.opR rfl (X.pickor_f (y := decide (x.Read.Hi < x.Read.Lo)) rfl h_8 rfl) rfl ?_
                    refine X.opR rfl rfl rfl ?_
                    iterate 4 refine X.opR (X.on_f rfl rfl rfl h_9) rfl rfl ?_
                    refine X.opR rfl (X.pickor_f (y := decide (x.Read.Lo < (-40000))) rfl h_9 rfl) rfl ?_
                    refine X.opR rfl rfl rfl ?_
                    iterate 4 refine X.opR (X.on_f rfl rfl rfl h_10) rfl rfl ?_
                    refine X.opR rfl (X.pickor_f (y := decide (40000 < x.Read.Hi)) rfl h_10 rfl) rfl ?_
                    refine GS.opsNil ?_
                    exact X.norm _ hg rfl (W.sub_cons rfl (W.sub_cons rfl (W.sub_cons rfl (W.sub_cons rfl (W.sub_cons rfl (W.sub_cons rfl (W.sub_cons rfl (W.sub_cons rfl W.sub_nil))))))))
          refine X.cond rfl (fun h_11 => ?_) (fun h_11 => ?_)
          · replace hM := ite_t h_11 hM
            refine GS.seq ?_
            refine GS.region ?_
            iterate 2 refine X.opR rfl rfl rfl ?_
            refine GS.opsNil ?_
            have hE := Option.some.inj hM
            replace hE := hr_1 _ hE.symm
            subst hE
            exact GS.ret ⟨_, rfl, ⟨30, rfl⟩⟩
          · replace hM := ite_f h_11 hM
            refine GS.skip ?_
            refine GS.seq ?_
            obtain ⟨l1, h_12, hM⟩ := bind_of hM
            obtain ⟨y2, h_13, hM⟩ := bind_of hM
            refine GS.region ?_
            iterate 2 refine X.opR rfl rfl rfl ?_
            refine X.opR rfl (X.sliceF (f := e_api_Gauge) h_12 (fun _ => rfl) rfl rfl rfl rfl rfl rfl (X.boundA_int rfl)) rfl ?_
            refine X.opR rfl rfl rfl ?_
            refine X.callF (ok_slices_ContainsFunc_api_Gauge__tide_read_1 h_13) rfl rfl rfl (m := 9) rfl (.cons (.shut (n := 9) rfl) (.cons (FR.arg ⟨30, rfl⟩) .nil)) ?_
            refine GS.opsNil ?_
            refine X.cond rfl (fun h_14 => ?_) (fun h_14 => ?_)
            · replace hM := ite_t h_14 hM
              refine GS.seq ?_
              refine GS.region ?_
              iterate 2 refine X.opR rfl rfl rfl ?_
              refine GS.opsNil ?_
              have hE := Option.some.inj hM
              replace hE := hr_1 _ hE.symm
              subst hE
              exact GS.ret ⟨_, rfl, ⟨30, rfl⟩⟩
            · replace hM := ite_f h_14 hM
              refine GS.skip ?_
              refine GS.endB ?_
              refine GS.region ?_
              refine X.opR rfl (X.addE rfl rfl) rfl ?_
              refine X.opR rfl rfl rfl ?_
              refine GS.opsNil ?_
              have hE := Option.some.inj hM
              exact X.gc [some 0] (hc_2 (w64 (x1 + 1)) hE.symm) rfl rfl rfl (gk_cons rfl ⟨9, rfl⟩ (gk_cons rfl ⟨9, rfl⟩ (gk_cons rfl ⟨9, rfl⟩ (gk_cons rfl ⟨9, rfl⟩ (gk_cons rfl ⟨9, rfl⟩ gk_nil))))) (gb_box rfl rfl ⟨9, rfl⟩ gb_nil)
        · replace hM := ite_f h_5 hM
          refine GS.exit rfl ?_
          obtain ⟨y_1, hM, hy⟩ := map_of hM
          rw [hr_1 _ hy.symm] at hM
          exact X.gc [some 0] (hj_1 () hM) rfl rfl rfl (gk_cons rfl ⟨9, rfl⟩ (gk_cons rfl ⟨9, rfl⟩ gk_nil)) (gb_box rfl rfl ⟨9, rfl⟩ gb_nil)

theorem ok_tide_levels {l : (List tide_known)} {but : Int} {r : api_Span} (hM : tide_levels l but = some r) : Ct Tryz.prog 39 [(V.sl (List.map e_tide_known l)), (V.i but)] (e_api_Span r) := by
  refine ct_of_gs CC_ok rfl ?_
  unfold tide_levels at hM
  refine GS.seq ?_
  refine GS.region ?_
  refine X.opW rfl rfl rfl rfl ?_
  refine GS.opsNil ?_
  refine GS.seq ?_
  refine GS.region ?_
  refine X.call ok_tide_every rfl rfl rfl .nil ?_
  refine X.opW rfl rfl rfl rfl ?_
  refine X.op0W rfl rfl rfl ?_
  refine GS.opsNil ?_
  iterate 2 refine GS.seq ?_
  refine GS.region ?_
  refine X.opR rfl rfl rfl ?_
  refine X.opR rfl (X.lenF rfl rfl rfl) rfl ?_
  refine X.opR rfl rfl rfl ?_
  refine GS.opsNil ?_
  refine X.join (τ := Int × Int) (fun v => tide_levels_j1 v.1 v.2 = some r) (fun v => ⟨[(4, (V.ptr 0 0 0)), (5, (V.ptr 1 0 0))], [.rows 2 [(V.agg [(V.i 0), (V.i 0)])], .rows 2 [(V.agg [(V.i v.1), (V.i v.2)])]], 0, none, 25⟩) ?_ ?_
  · rintro ⟨Lo, Hi⟩ hM
    replace hM : tide_levels_j1 Lo Hi = some r := hM
    unfold tide_levels_j1 at hM
    refine GS.seq ?_
    refine GS.region ?_
    refine X.opR rfl rfl rfl ?_
    refine X.op0W rfl rfl rfl ?_
    refine GS.opsNil ?_
    have hE := Option.some.inj hM
    subst hE
    exact GS.ret ⟨_, rfl, ⟨30, rfl⟩⟩
  · intro hj_1
    refine GS.block ?_
    refine X.gc [some 0, some 1] (X.loop (σ := (Int × Int × Int)) (fun v => ⟨[(1, (V.i but)), (4, (V.ptr 0 0 0)), (5, (V.ptr 1 0 0)), (9, (V.sl (List.map e_tide_known l))), (10, (V.i (l.length : Int))), (11, (V.i v.1))], [.rows 2 [(V.agg [(V.i 0), (V.i 0)])], .rows 2 [(V.agg [(V.i v.2.1), (V.i v.2.2)])]], 0, none, 25⟩) hM ?_ rfl) rfl rfl rfl (gk_cons rfl ⟨9, rfl⟩ (gk_cons rfl ⟨9, rfl⟩ (gk_cons rfl ⟨9, rfl⟩ (gk_cons rfl ⟨9, rfl⟩ (gk_cons rfl ⟨9, rfl⟩ (gk_cons rfl ⟨9, rfl⟩ gk_nil)))))) (gb_box rfl rfl ⟨9, rfl⟩ (gb_box rfl rfl ⟨9, rfl⟩ gb_nil))
    rintro ⟨x1, Lo2, Hi2⟩ b_1 hM hc_2 hr_1
    rw [tide_levels_b2] at hM
    refine GS.seq ?_
    refine GS.region ?_
    refine X.opR rfl rfl rfl ?_
    refine GS.opsNil ?_
    refine GS.seq ?_
    refine X.cond rfl (fun h_1 => ?_) (fun h_1 => ?_)
    · replace hM := ite_t h_1 hM
      refine GS.skip ?_
      refine GS.seq ?_
      refine X.join (τ := Int × Int) (fun v => tide_levels_j3 x1 v.1 v.2 = some b_1) (fun v => ⟨[(1, (V.i but)), (4, (V.ptr 0 0 0)), (5, (V.ptr 1 0 0)), (9, (V.sl (List.map e_tide_known l))), (10, (V.i (l.length : Int))), (11, (V.i x1))], [.rows 2 [(V.agg [(V.i 0), (V.i 0)])], .rows 2 [(V.agg [(V.i v.1), (V.i v.2)])]], 0, none, 25⟩) ?_ ?_
      · rintro ⟨Lo1, Hi1⟩ hM
        replace hM : tide_levels_j3 x1 Lo1 Hi1 = some b_1 := hM
        unfold tide_levels_j3 at hM
        refine GS.region ?_
        refine X.opR rfl (X.addE rfl rfl) rfl ?_
        refine X.opR rfl rfl rfl ?_
        refine GS.opsNil ?_
        have hE := Option.some.inj hM
        exact X.gc [some 0, some 1] (hc_2 (w64 (x1 + 1), Lo1, Hi1) hE.symm) rfl rfl rfl (gk_cons rfl ⟨9, rfl⟩ (gk_cons rfl ⟨9, rfl⟩ (gk_cons rfl ⟨9, rfl⟩ (gk_cons rfl ⟨9, rfl⟩ (gk_cons rfl ⟨9, rfl⟩ (gk_cons rfl ⟨9, rfl⟩ gk_nil)))))) (gb_box rfl rfl ⟨9, rfl⟩ (gb_box rfl rfl ⟨9, rfl⟩ gb_nil))
      · intro hj_3
        refine GS.block ?_
        refine GS.seq ?_
        obtain ⟨x, h_2, hM⟩ := bind_of hM
        refine GS.region ?_
        refine X.opR rfl rfl rfl ?_
        refine X.opR rfl (X.indexF (f := e_tide_known) h_2 (fun _ => rfl) rfl rfl rfl rfl) rfl ?_
        refine X.opR rfl (X.loadF h_2 rfl rfl rfl) rfl ?_
        refine X.opW rfl rfl rfl rfl ?_
        refine X.opR rfl rfl rfl ?_
        refine X.op0W rfl rfl rfl ?_
        refine GS.opsNil ?_
        refine GS.seq ?_
        refine GS.region ?_
        iterate 3 refine X.opR rfl rfl rfl ?_
        refine GS.opsNil ?_
        refine X.cond rfl (fun h_3 => ?_) (fun h_3 => ?_)
        · replace hM := ite_t h_3 hM
          refine GS.region ?_
          iterate 3 refine X.opR rfl rfl rfl ?_
          refine X.call (ok_tide_both (⟨Lo2, Hi2⟩ : api_Span) x.levels) rfl rfl rfl (.cons (.shut (n := 9) rfl) (.cons (.shut (n := 9) rfl) .nil)) ?_
          refine X.op0W rfl rfl rfl ?_
          refine GS.opsNil ?_
          refine GS.endB ?_
          exact X.gc [some 0, some 1] (hj_3 ((tide_both (⟨Lo2, Hi2⟩ : api_Span) x.levels).Lo, (tide_both (⟨Lo2, Hi2⟩ : api_Span) x.levels).Hi) hM) rfl rfl rfl (gk_cons rfl ⟨9, rfl⟩ (gk_cons rfl ⟨9, rfl⟩ (gk_cons rfl ⟨9, rfl⟩ (gk_cons rfl ⟨9, rfl⟩ (gk_cons rfl ⟨9, rfl⟩ (gk_cons rfl ⟨9, rfl⟩ gk_nil)))))) (gb_box rfl rfl ⟨9, rfl⟩ (gb_box rfl rfl ⟨9, rfl⟩ gb_nil))
        · replace hM := ite_f h_3 hM
          refine GS.skip ?_
          refine GS.endB ?_
          exact X.gc [some 0, some 1] (hj_3 (Lo2, Hi2) hM) rfl rfl rfl (gk_cons rfl ⟨9, rfl⟩ (gk_cons rfl ⟨9, rfl⟩ (gk_cons rfl ⟨9, rfl⟩ (gk_cons rfl ⟨9, rfl⟩ (gk_cons rfl ⟨9, rfl⟩ (gk_cons rfl ⟨9, rfl⟩ gk_nil)))))) (gb_box rfl rfl ⟨9, rfl⟩ (gb_box rfl rfl ⟨9, rfl⟩ gb_nil))
    · replace hM := ite_f h_1 hM
      refine GS.exit rfl ?_
      obtain ⟨y_1, hM, hy⟩ := map_of hM
      rw [hr_1 _ hy.symm] at hM
      exact X.gc [some 0, some 1] (hj_1 (Lo2, Hi2) hM) rfl rfl rfl (gk_cons rfl ⟨9, rfl⟩ (gk_cons rfl ⟨9, rfl⟩ gk_nil)) (gb_box rfl rfl ⟨9, rfl⟩ (gb_box rfl rfl ⟨9, rfl⟩ gb_nil))

theorem ok_tide_none (s : api_Span) : Ct Tryz.prog 38 [(e_api_Span s)] (V.b (tide_none s)) := by
  refine ct_of_gs CC_ok rfl ?_
  generalize hM : tide_none s = r
  unfold tide_none at hM
  refine GS.seq ?_
  refine GS.region ?_
  refine X.opW rfl rfl rfl rfl ?_
  refine X.opR rfl rfl rfl ?_
  refine GS.opsNil ?_
  refine GS.seq ?_
  refine GS.region ?_
  iterate 6 refine X.opR rfl rfl rfl ?_
  refine GS.opsNil ?_
  subst hM
  exact GS.ret ⟨_, rfl, ⟨30, rfl⟩⟩

theorem ok_tide_Levels {w : api_Water} {l : (List api_Gauge)} {r : api_Span × Int} (hM : tide_Levels w l = some r) : Ct Tryz.prog 12 [(e_api_Water w), (V.sl (List.map e_api_Gauge l))] (V.tup [(e_api_Span r.1), (V.i r.2)]) := by
  refine ct_of_gs CC_ok rfl ?_
  unfold tide_Levels at hM
  refine GS.seq ?_
  refine GS.region ?_
  iterate 2 refine X.opW rfl rfl rfl rfl ?_
  refine X.opR rfl rfl rfl ?_
  refine GS.opsNil ?_
  refine GS.seq ?_
  obtain ⟨y, h_1, hM⟩ := bind_of hM
  refine GS.region ?_
  iterate 2 refine X.opR rfl rfl rfl ?_
  refine X.call (ok_tide_read h_1) rfl rfl rfl (.cons (.shut (n := 9) rfl) (.cons (.shut (n := 9) rfl) .nil)) ?_
  iterate 5 refine X.opR rfl rfl rfl ?_
  refine GS.opsNil ?_
  iterate 2 refine GS.seq ?_
  refine GS.region ?_
  iterate 2 refine X.opR rfl rfl rfl ?_
  refine GS.opsNil ?_
  refine X.cond rfl (fun h_2 => ?_) (fun h_2 => ?_)
  · replace hM := ite_t h_2 hM
    refine GS.seq ?_
    refine GS.region ?_
    iterate 2 refine X.opR rfl rfl rfl ?_
    refine X.op0W rfl rfl rfl ?_
    refine X.opR rfl rfl rfl ?_
    refine GS.opsNil ?_
    have hE := Option.some.inj hM
    subst hE
    exact GS.ret ⟨_, rfl, ⟨30, rfl⟩⟩
  · replace hM := ite_f h_2 hM
    refine GS.skip ?_
    refine GS.seq ?_
    obtain ⟨y1, h_3, hM⟩ := bind_of hM
    refine GS.region ?_
    refine X.opR rfl rfl rfl ?_
    refine X.call (ok_tide_levels h_3) rfl rfl rfl (.cons (.shut (n := 9) rfl) (.cons (.shut (n := 9) rfl) .nil)) ?_
    refine X.opW rfl rfl rfl rfl ?_
    refine X.op0W rfl rfl rfl ?_
    refine GS.opsNil ?_
    iterate 2 refine GS.seq ?_
    refine GS.region ?_
    refine X.opR rfl rfl rfl ?_
    refine X.call (ok_tide_none y1) rfl rfl rfl (.cons (.shut (n := 9) rfl) .nil) ?_
    refine GS.opsNil ?_
    refine X.cond rfl (fun h_4 => ?_) (fun h_4 => ?_)
    · replace hM := ite_t h_4 hM
      refine GS.seq ?_
      refine GS.region ?_
      refine X.opR rfl rfl rfl ?_
      refine X.op0W rfl rfl rfl ?_
      refine X.opR rfl rfl rfl ?_
      refine GS.opsNil ?_
      have hE := Option.some.inj hM
      subst hE
      exact GS.ret ⟨_, rfl, ⟨30, rfl⟩⟩
    · replace hM := ite_f h_4 hM
      refine GS.skip ?_
      refine GS.seq ?_
      refine GS.region ?_
      refine X.opR rfl rfl rfl ?_
      refine X.op0W rfl rfl rfl ?_
      refine X.opR rfl rfl rfl ?_
      refine GS.opsNil ?_
      have hE := Option.some.inj hM
      subst hE
      exact GS.ret ⟨_, rfl, ⟨30, rfl⟩⟩

theorem ok_tide_Rests_1 {n : Int} {c : (List tide_known)} {r : Int} (hM : tide_Rests_1 n c = some r) : Ct Tryz.prog 43 [(V.i n), (V.fptr [(V.sl (List.map e_tide_known c))] 0 0)] (V.i r) := by
  refine ct_of_gs CC_ok rfl ?_
  unfold tide_Rests_1 at hM
  refine GS.seq ?_
  refine GS.region ?_
  refine X.opR rfl rfl rfl ?_
  refine GS.opsNil ?_
  refine GS.seq ?_
  refine GS.region ?_
  refine X.opR rfl rfl rfl ?_
  refine GS.opsNil ?_
  iterate 2 refine GS.seq ?_
  refine GS.region ?_
  refine X.opR rfl rfl rfl ?_
  refine X.opR rfl (X.lenF rfl rfl rfl) rfl ?_
  refine X.opR rfl rfl rfl ?_
  refine GS.opsNil ?_
  refine X.join (τ := Int) (fun v => tide_Rests_1_j1 v = some r) (fun v => ⟨[(4, (V.i v))], [], 0, none, 42⟩) ?_ ?_
  · intro id hM
    replace hM : tide_Rests_1_j1 id = some r := hM
    unfold tide_Rests_1_j1 at hM
    refine GS.seq ?_
    refine GS.region ?_
    iterate 2 refine X.opR rfl rfl rfl ?_
    refine GS.opsNil ?_
    have hE := Option.some.inj hM
    subst hE
    exact GS.ret ⟨_, rfl, ⟨30, rfl⟩⟩
  · intro hj_1
    refine GS.block ?_
    refine X.gc [] (X.loop (σ := (Int × Int)) (fun v => ⟨[(0, (V.i n)), (4, (V.i v.1)), (7, (V.sl (List.map e_tide_known c))), (8, (V.i (c.length : Int))), (9, (V.i v.2))], [], 0, none, 42⟩) hM ?_ rfl) rfl rfl rfl (gk_cons rfl ⟨9, rfl⟩ (gk_cons rfl ⟨9, rfl⟩ (gk_cons rfl ⟨9, rfl⟩ (gk_cons rfl ⟨9, rfl⟩ (gk_cons rfl ⟨9, rfl⟩ gk_nil))))) (gb_nil)
    rintro ⟨id2, x1⟩ b_1 hM hc_2 hr_1
    rw [tide_Rests_1_b2] at hM
    refine GS.seq ?_
    refine GS.region ?_
    refine X.opR rfl rfl rfl ?_
    refine GS.opsNil ?_
    refine GS.seq ?_
    refine X.cond rfl (fun h_1 => ?_) (fun h_1 => ?_)
    · replace hM := ite_t h_1 hM
      refine GS.skip ?_
      refine GS.seq ?_
      refine X.join (τ := Int) (fun v => tide_Rests_1_j3 x1 v = some b_1) (fun v => ⟨[(0, (V.i n)), (4, (V.i v)), (7, (V.sl (List.map e_tide_known c))), (8, (V.i (c.length : Int))), (9, (V.i x1))], [], 0, none, 42⟩) ?_ ?_
      · intro id1 hM
        replace hM : tide_Rests_1_j3 x1 id1 = some b_1 := hM
        unfold tide_Rests_1_j3 at hM
        refine GS.region ?_
        refine X.opR rfl (X.addE rfl rfl) rfl ?_
        refine X.opR rfl rfl rfl ?_
        refine GS.opsNil ?_
        have hE := Option.some.inj hM
        exact X.gc [] (hc_2 (id1, w64 (x1 + 1)) hE.symm) rfl rfl rfl (gk_cons rfl ⟨9, rfl⟩ (gk_cons rfl ⟨9, rfl⟩ (gk_cons rfl ⟨9, rfl⟩ (gk_cons rfl ⟨9, rfl⟩ (gk_cons rfl ⟨9, rfl⟩ gk_nil))))) (gb_nil)
      · intro hj_3
        refine GS.block ?_
        refine GS.seq ?_
        obtain ⟨x, h_2, hM⟩ := bind_of hM
        refine GS.region ?_
        refine X.opR rfl (X.indexF (f := e_tide_known) h_2 (fun _ => rfl) rfl rfl rfl rfl) rfl ?_
        refine X.opR rfl (X.loadF h_2 rfl rfl rfl) rfl ?_
        refine X.opW rfl rfl rfl rfl ?_
        refine X.op0W rfl rfl rfl ?_
        refine GS.opsNil ?_
        refine GS.seq ?_
        refine GS.region ?_
        refine X.mid [(0, (V.i n)), (4, (V.i id2)), (6, (V.ptr 0 0 0)), (7, (V.sl (List.map e_tide_known c))), (8, (V.i (c.length : Int))), (9, (V.i x1)), (36, (V.b (((tide_level n) && (!(tide_within n x.levels.Lo x.levels.Hi))) && ((decide (id2 = 0)) || (decide (x.Gauge.ID < id2))))))] ?_ ?_
        · intro hg
          refine X.split ((tide_level n)) (fun h_3 => ?_) (fun h_3 => ?_)
          · refine X.split (((tide_level n) && (!(tide_within n x.levels.Lo x.levels.Hi)))) (fun h_4 => ?_) (fun h_4 => ?_)
            · refine X.split (decide (id2 = 0)) (fun h_5 => ?_) (fun h_5 => ?_)
              · refine X.opR rfl rfl rfl ?_
                refine X.call (ok_tide_level n) rfl rfl rfl (.cons (.shut (n := 9) rfl) .nil) ?_
                refine X.opR rfl rfl rfl ?_
                iterate 7 refine X.opR (X.on_t rfl rfl rfl h_3) rfl rfl ?_
                refine X.call (ok_tide_within n x.levels.Lo x.levels.Hi) (X.on_t rfl rfl rfl h_3) rfl rfl (.cons (.shut (n := 9) rfl) (.cons (.shut (n := 9) rfl) (.cons (.shut (n := 9) rfl) .nil))) ?_
                refine X.opR (X.on_t rfl rfl rfl h_3) rfl rfl ?_
                refine X.opR rfl (X.pickand_t (y := !(tide_within n x.levels.Lo x.levels.Hi)) rfl h_3 rfl) rfl ?_
                refine X.opR rfl rfl rfl ?_
                iterate 3 refine X.opR (X.on_t rfl rfl rfl h_4) rfl rfl ?_
                iterate 5 refine X.off (X.off_f rfl rfl rfl h_5) rfl ?_
                refine X.opR (X.on_t rfl rfl rfl h_4) (X.pickor_t (y := decide (x.Gauge.ID < id2)) rfl h_5 rfl) rfl ?_
                refine X.opR rfl (X.pickand_t (y := ((decide (id2 = 0)) || (decide (x.Gauge.ID < id2)))) rfl h_4 rfl) rfl ?_
                refine GS.opsNil ?_
                exact X.norm _ hg rfl (W.sub_cons rfl (W.sub_cons rfl (W.sub_cons rfl (W.sub_cons rfl (W.sub_cons rfl (W.sub_cons rfl (W.sub_cons rfl W.sub_nil)))))))
              · refine X.opR rfl rfl rfl ?_
                refine X.call (ok_tide_level n) rfl rfl rfl (.cons (.shut (n := 9) rfl) .nil) ?_
                refine X.opR rfl rfl rfl ?_
                iterate 7 refine X.opR (X.on_t rfl rfl rfl h_3) rfl rfl ?_
                refine X.call (ok_tide_within n x.levels.Lo x.levels.Hi) (X.on_t rfl rfl rfl h_3) rfl rfl (.cons (.shut (n := 9) rfl) (.cons (.shut (n := 9) rfl) (.cons (.shut (n := 9) rfl) .nil))) ?_
                refine X.opR (X.on_t rfl rfl rfl h_3) rfl rfl ?_
                refine X.opR rfl (X.pickand_t (y := !(tide_within n x.levels.Lo x.levels.Hi)) rfl h_3 rfl) rfl ?_
                refine X.opR rfl rfl rfl ?_
                iterate 3 refine X.opR (X.on_t rfl rfl rfl h_4) rfl rfl ?_
                iterate 5 refine X.opR (X.on_f rfl rfl rfl h_5) rfl rfl ?_
                refine X.opR (X.on_t rfl rfl rfl h_4) (X.pickor_f (y := decide (x.Gauge.ID < id2)) rfl h_5 rfl) rfl ?_
                refine X.opR rfl (X.pickand_t (y := ((decide (id2 = 0)) || (decide (x.Gauge.ID < id2)))) rfl h_4 rfl) rfl ?_
                refine GS.opsNil ?_
                exact X.norm _ hg rfl (W.sub_cons rfl (W.sub_cons rfl (W.sub_cons rfl (W.sub_cons rfl (W.sub_cons rfl (W.sub_cons rfl (W.sub_cons rfl W.sub_nil)))))))
            · refine X.opR rfl rfl rfl ?_
              refine X.call (ok_tide_level n) rfl rfl rfl (.cons (.shut (n := 9) rfl) .nil) ?_
              refine X.opR rfl rfl rfl ?_
              iterate 7 refine X.opR (X.on_t rfl rfl rfl h_3) rfl rfl ?_
              refine X.call (ok_tide_within n x.levels.Lo x.levels.Hi) (X.on_t rfl rfl rfl h_3) rfl rfl (.cons (.shut (n := 9) rfl) (.cons (.shut (n := 9) rfl) (.cons (.shut (n := 9) rfl) .nil))) ?_
              refine X.opR (X.on_t rfl rfl rfl h_3) rfl rfl ?_
              refine X.opR rfl (X.pickand_t (y := !(tide_within n x.levels.Lo x.levels.Hi)) rfl h_3 rfl) rfl ?_
              refine X.opR rfl rfl rfl ?_
              iterate 3 refine X.off (X.off_t rfl rfl rfl h_4) rfl ?_
              iterate 5 refine X.off rfl rfl ?_
              refine X.off (X.off_t rfl rfl rfl h_4) rfl ?_
              refine X.opR rfl (X.pickand_f (y := ((decide (id2 = 0)) || (decide (x.Gauge.ID < id2)))) rfl h_4 rfl) rfl ?_
              refine GS.opsNil ?_
              exact X.norm _ hg rfl (W.sub_cons rfl (W.sub_cons rfl (W.sub_cons rfl (W.sub_cons rfl (W.sub_cons rfl (W.sub_cons rfl (W.sub_cons rfl W.sub_nil)))))))
          · refine X.opR rfl rfl rfl ?_
            refine X.call (ok_tide_level n) rfl rfl rfl (.cons (.shut (n := 9) rfl) .nil) ?_
            refine X.opR rfl rfl rfl ?_
            iterate 9 refine X.off (X.off_t rfl rfl rfl h_3) rfl ?_
            refine X.opR rfl (X.pickand_f (y := !(tide_within n x.levels.Lo x.levels.Hi)) rfl h_3 rfl) rfl ?_
            refine X.opR rfl rfl rfl ?_
            iterate 3 refine X.off (X.off_t rfl rfl rfl (X.and_ff h_3)) rfl ?_
            iterate 5 refine X.off rfl rfl ?_
            refine X.off (X.off_t rfl rfl rfl (X.and_ff h_3)) rfl ?_
            refine X.opR rfl (X.pickand_f (y := ((decide (id2 = 0)) || (decide (x.Gauge.ID < id2)))) rfl (X.and_ff h_3) rfl) rfl ?_
            refine GS.opsNil ?_
            exact X.norm _ hg rfl (W.sub_cons rfl (W.sub_cons rfl (W.sub_cons rfl (W.sub_cons rfl (W.sub_cons rfl (W.sub_cons rfl (W.sub_cons rfl W.sub_nil)))))))
        refine X.cond rfl (fun h_6 => ?_) (fun h_6 => ?_)
        · replace hM := ite_t h_6 hM
          refine GS.region ?_
          iterate 4 refine X.opR rfl rfl rfl ?_
          refine GS.opsNil ?_
          refine GS.endB ?_
          exact X.gc [] (hj_3 x.Gauge.ID hM) rfl rfl rfl (gk_cons rfl ⟨9, rfl⟩ (gk_cons rfl ⟨9, rfl⟩ (gk_cons rfl ⟨9, rfl⟩ (gk_cons rfl ⟨9, rfl⟩ (gk_cons rfl ⟨9, rfl⟩ gk_nil))))) (gb_nil)
        · replace hM := ite_f h_6 hM
          refine GS.skip ?_
          refine GS.endB ?_
          exact X.gc [] (hj_3 id2 hM) rfl rfl rfl (gk_cons rfl ⟨9, rfl⟩ (gk_cons rfl ⟨9, rfl⟩ (gk_cons rfl ⟨9, rfl⟩ (gk_cons rfl ⟨9, rfl⟩ (gk_cons rfl ⟨9, rfl⟩ gk_nil))))) (gb_nil)
    · replace hM := ite_f h_1 hM
      refine GS.exit rfl ?_
      obtain ⟨y_1, hM, hy⟩ := map_of hM
      rw [hr_1 _ hy.symm] at hM
      exact X.gc [] (hj_1 id2 hM) rfl rfl rfl (gk_cons rfl ⟨9, rfl⟩ gk_nil) (gb_nil)

theorem ok_tide_Rests {w : api_Water} {l : (List api_Gauge)} {r : Int × Int × Int} (hM : tide_Rests w l = some r) : Ct Tryz.prog 14 [(e_api_Water w), (V.sl (List.map e_api_Gauge l))] (V.tup [(V.i r.1), (V.i r.2.1), (V.i r.2.2)]) := by
  refine ct_of_gs CC_ok rfl ?_
  unfold tide_Rests at hM
  refine GS.seq ?_
  refine GS.region ?_
  refine X.opW rfl rfl rfl rfl ?_
  iterate 3 refine X.opR rfl rfl rfl ?_
  refine GS.opsNil ?_
  refine GS.seq ?_
  obtain ⟨y, h_1, hM⟩ := bind_of hM
  refine GS.region ?_
  iterate 2 refine X.opR rfl rfl rfl ?_
  refine X.call (ok_tide_Levels h_1) rfl rfl rfl (.cons (.shut (n := 9) rfl) (.cons (.shut (n := 9) rfl) .nil)) ?_
  iterate 3 refine X.opR rfl rfl rfl ?_
  refine X.opW rfl rfl rfl rfl ?_
  refine X.op0W rfl rfl rfl ?_
  refine X.opR rfl rfl rfl ?_
  refine GS.opsNil ?_
  iterate 2 refine GS.seq ?_
  refine GS.region ?_
  iterate 2 refine X.opR rfl rfl rfl ?_
  refine GS.opsNil ?_
  refine X.cond rfl (fun h_2 => ?_) (fun h_2 => ?_)
  · replace hM := ite_t h_2 hM
    refine GS.seq ?_
    refine GS.region ?_
    iterate 4 refine X.opR rfl rfl rfl ?_
    refine GS.opsNil ?_
    have hE := Option.some.inj hM
    subst hE
    exact GS.ret ⟨_, rfl, ⟨30, rfl⟩⟩
  · replace hM := ite_f h_2 hM
    refine GS.skip ?_
    refine GS.seq ?_
    obtain ⟨y1, h_3, hM⟩ := bind_of hM
    refine GS.region ?_
    iterate 2 refine X.opR rfl rfl rfl ?_
    refine X.call (ok_tide_knowns h_3) rfl rfl rfl (.cons (.shut (n := 9) rfl) (.cons (.shut (n := 9) rfl) .nil)) ?_
    refine X.opW rfl rfl rfl rfl ?_
    refine X.op0W rfl rfl rfl ?_
    refine GS.opsNil ?_
    refine GS.seq ?_
    refine GS.region ?_
    iterate 2 refine X.opR rfl rfl rfl ?_
    refine GS.opsNil ?_
    refine GS.seq ?_
    obtain ⟨y2, h_4, hM⟩ := bind_of hM
    obtain ⟨y3, h_5, hM⟩ := bind_of hM
    refine X.drawc (by kernel_rfl) rfl ?_
    iterate 3 refine X.cop rfl rfl rfl rfl ?_
    refine X.cop rfl (X.subE rfl rfl) rfl rfl ?_
    refine X.ccallF (ok_tide_Rests_1 h_4) rfl rfl rfl rfl (m := 9) rfl (.cons (.shut (n := 9) rfl) (.cons (FR.arg ⟨30, rfl⟩) .nil)) ?_
    iterate 3 refine X.cop rfl rfl rfl rfl ?_
    refine X.cop rfl (X.addE rfl rfl) rfl rfl ?_
    refine X.ccallF (ok_tide_Rests_1 h_5) rfl rfl rfl rfl (m := 9) rfl (.cons (.shut (n := 9) rfl) (.cons (FR.arg ⟨30, rfl⟩) .nil)) ?_
    iterate 3 refine X.cop rfl rfl rfl rfl ?_
    refine X.cnil ?_
    refine X.norm [(4, (V.i y2)), (5, (V.i y3)), (6, (V.i 0))] ?_ rfl (W.sub_cons rfl (W.sub_cons rfl (W.sub_cons rfl W.sub_nil)))
    have hE := Option.some.inj hM
    subst hE
    exact GS.ret ⟨_, rfl, ⟨30, rfl⟩⟩

theorem ok_ref02_SameInts {a : (List Int)} {b : (List Int)} {r : Bool} (hM : ref02_SameInts a b = some r) : Ct Tryz.prog 11 [(V.sl (List.map V.i a)), (V.sl (List.map V.i b))] (V.b r) := by
  refine ct_of_gs CC_ok rfl ?_
  unfold ref02_SameInts at hM
  refine GS.seq ?_
  refine GS.region ?_
  refine X.opR rfl rfl rfl ?_
  refine GS.opsNil ?_
  iterate 2 refine GS.seq ?_
  refine GS.region ?_
  refine X.opR rfl rfl rfl ?_
  refine X.opR rfl (X.lenF rfl rfl rfl) rfl ?_
  refine X.opR rfl rfl rfl ?_
  refine X.opR rfl (X.lenF rfl rfl rfl) rfl ?_
  refine X.opR rfl rfl rfl ?_
  refine GS.opsNil ?_
  refine X.cond rfl (fun h_1 => ?_) (fun h_1 => ?_)
  · replace hM := ite_t h_1 hM
    refine GS.seq ?_
    refine GS.region ?_
    refine X.opR rfl rfl rfl ?_
    refine GS.opsNil ?_
    have hE := Option.some.inj hM
    subst hE
    exact GS.ret ⟨_, rfl, ⟨30, rfl⟩⟩
  · replace hM := ite_f h_1 hM
    refine GS.skip ?_
    iterate 2 refine GS.seq ?_
    refine GS.region ?_
    refine X.opR rfl rfl rfl ?_
    refine GS.opsNil ?_
    refine X.join (τ := Unit) (fun v => ref02_SameInts_j1 = some r) (fun v => ⟨[], [], 0, none, 26⟩) ?_ ?_
    · intro _ hM
      replace hM : ref02_SameInts_j1 = some r := hM
      unfold ref02_SameInts_j1 at hM
      refine GS.seq ?_
      refine GS.region ?_
      refine X.opR rfl rfl rfl ?_
      refine GS.opsNil ?_
      have hE := Option.some.inj hM
      subst hE
      exact GS.ret ⟨_, rfl, ⟨30, rfl⟩⟩
    · intro hj_1
      refine GS.block ?_
      refine X.gc [] (X.loop (σ := Int) (fun v => ⟨[(0, (V.sl (List.map V.i a))), (1, (V.sl (List.map V.i b))), (5, (V.i v))], [], 0, none, 26⟩) hM ?_ rfl) rfl rfl rfl (gk_cons rfl ⟨9, rfl⟩ (gk_cons rfl ⟨9, rfl⟩ (gk_cons rfl ⟨9, rfl⟩ gk_nil))) (gb_nil)
      intro i b_1 hM hc_2 hr_1
      rw [ref02_SameInts_b2] at hM
      iterate 2 refine GS.seq ?_
      refine GS.region ?_
      iterate 2 refine X.opR rfl rfl rfl ?_
      refine X.opR rfl (X.lenF rfl rfl rfl) rfl ?_
      refine X.opR rfl rfl rfl ?_
      refine GS.opsNil ?_
      refine X.cond rfl (fun h_2 => ?_) (fun h_2 => ?_)
      · replace hM := ite_t h_2 hM
        refine GS.skip ?_
        refine GS.seq ?_
        refine GS.block ?_
        refine GS.seq ?_
        obtain ⟨x, h_3, hM⟩ := bind_of hM
        obtain ⟨x1, h_4, hM⟩ := bind_of hM
        refine X.drawc (by kernel_rfl) rfl ?_
        iterate 2 refine X.cop rfl rfl rfl rfl ?_
        refine X.cop rfl (X.indexF (f := V.i) h_3 (fun _ => rfl) rfl rfl rfl rfl) rfl rfl ?_
        refine X.cop rfl (X.loadF h_3 rfl rfl rfl) rfl rfl ?_
        iterate 2 refine X.cop rfl rfl rfl rfl ?_
        refine X.cop rfl (X.indexF (f := V.i) h_4 (fun _ => rfl) rfl rfl rfl rfl) rfl rfl ?_
        refine X.cop rfl (X.loadF h_4 rfl rfl rfl) rfl rfl ?_
        refine X.cop rfl rfl rfl rfl ?_
        refine X.cnil ?_
        refine X.norm [(0, (V.sl (List.map V.i a))), (1, (V.sl (List.map V.i b))), (5, (V.i i)), (25, (V.b (!decide (x = x1))))] ?_ rfl (W.sub_cons rfl (W.sub_cons rfl (W.sub_cons rfl (W.sub_cons rfl W.sub_nil))))
        refine X.cond rfl (fun h_5 => ?_) (fun h_5 => ?_)
        · replace hM := ite_t h_5 hM
          refine GS.seq ?_
          refine GS.region ?_
          refine X.opR rfl rfl rfl ?_
          refine GS.opsNil ?_
          have hE := Option.some.inj hM
          replace hE := hr_1 _ hE.symm
          subst hE
          exact GS.ret ⟨_, rfl, ⟨30, rfl⟩⟩
        · replace hM := ite_f h_5 hM
          refine GS.skip ?_
          refine GS.endB ?_
          refine GS.region ?_
          refine X.opR rfl rfl rfl ?_
          refine X.opR rfl (X.addE rfl rfl) rfl ?_
          refine X.opR rfl rfl rfl ?_
          refine GS.opsNil ?_
          have hE := Option.some.inj hM
          exact X.gc [] (hc_2 (w64 (i + 1)) hE.symm) rfl rfl rfl (gk_cons rfl ⟨9, rfl⟩ (gk_cons rfl ⟨9, rfl⟩ (gk_cons rfl ⟨9, rfl⟩ gk_nil))) (gb_nil)
      · replace hM := ite_f h_2 hM
        refine GS.exit rfl ?_
        obtain ⟨y_1, hM, hy⟩ := map_of hM
        rw [hr_1 _ hy.symm] at hM
        exact X.gc [] (hj_1 () hM) rfl rfl rfl (gk_nil) (gb_nil)

theorem ok_ref02_SameCycle {a : api_Cycle} {b : api_Cycle} {r : Bool} (hM : ref02_SameCycle a b = some r) : Ct Tryz.prog 32 [(e_api_Cycle a), (e_api_Cycle b)] (V.b r) := by
  refine ct_of_gs CC_ok rfl ?_
  unfold ref02_SameCycle at hM
  refine GS.seq ?_
  refine GS.region ?_
  iterate 2 refine X.opW rfl rfl rfl rfl ?_
  refine X.opR rfl rfl rfl ?_
  refine GS.opsNil ?_
  refine GS.seq ?_
  obtain ⟨y, h_1, hM⟩ := bind_of hM
  refine GS.region ?_
  iterate 4 refine X.opR rfl rfl rfl ?_
  refine X.call (ok_ref02_SameInts h_1) rfl rfl rfl (.cons (.shut (n := 9) rfl) (.cons (.shut (n := 9) rfl) .nil)) ?_
  refine X.opR rfl rfl rfl ?_
  refine GS.opsNil ?_
  refine GS.seq ?_
  refine GS.region ?_
  refine X.mid [(4, (V.b (((y && (decide (a.ID = b.ID))) && (decide (a.Begin = b.Begin))) && (decide (a.Every = b.Every)))))] ?_ ?_
  · intro hg
    refine X.split (y) (fun h_2 => ?_) (fun h_2 => ?_)
    · refine X.split ((y && (decide (a.ID = b.ID)))) (fun h_3 => ?_) (fun h_3 => ?_)
      · refine X.split (((y && (decide (a.ID = b.ID))) && (decide (a.Begin = b.Begin)))) (fun h_4 => ?_) (fun h_4 => ?_)
        · iterate 2 refine X.opR rfl rfl rfl ?_
          iterate 5 refine X.opR (X.on_t rfl rfl rfl h_2) rfl rfl ?_
          refine X.opR rfl (X.pickand_t (y := decide (a.ID = b.ID)) rfl h_2 rfl) rfl ?_
          refine X.opR rfl rfl rfl ?_
          iterate 5 refine X.opR (X.on_t rfl rfl rfl h_3) rfl rfl ?_
          refine X.opR rfl (X.pickand_t (y := decide (a.Begin = b.Begin)) rfl h_3 rfl) rfl ?_
          refine X.opR rfl rfl rfl ?_
          iterate 5 refine X.opR (X.on_t rfl rfl rfl h_4) rfl rfl ?_
          refine X.opR rfl (X.pickand_t (y := decide (a.Every = b.Every)) rfl h_4 rfl) rfl ?_
          refine X.opR rfl rfl rfl ?_
          refine GS.opsNil ?_
          exact X.norm _ hg rfl (W.sub_cons rfl W.sub_nil)
        · iterate 2 refine X.opR rfl rfl rfl ?_
          iterate 5 refine X.opR (X.on_t rfl rfl rfl h_2) rfl rfl ?_
          refine X.opR rfl (X.pickand_t (y := decide (a.ID = b.ID)) rfl h_2 rfl) rfl ?_
          refine X.opR rfl rfl rfl ?_
          iterate 5 refine X.opR (X.on_t rfl rfl rfl h_3) rfl rfl ?_
          refine X.opR rfl (X.pickand_t (y := decide (a.Begin = b.Begin)) rfl h_3 rfl) rfl ?_
          refine X.opR rfl rfl rfl ?_
          iterate 5 refine X.off (X.off_t rfl rfl rfl h_4) rfl ?_
          refine X.opR rfl (X.pickand_f (y := decide (a.Every = b.Every)) rfl h_4 rfl) rfl ?_
          refine X.opR rfl rfl rfl ?_
          refine GS.opsNil ?_
          exact X.norm _ hg rfl (W.sub_cons rfl W.sub_nil)
      · iterate 2 refine X.opR rfl rfl rfl ?_
        iterate 5 refine X.opR (X.on_t rfl rfl rfl h_2) rfl rfl ?_
        refine X.opR rfl (X.pickand_t (y := decide (a.ID = b.ID)) rfl h_2 rfl) rfl ?_
        refine X.opR rfl rfl rfl ?_
        iterate 5 refine X.off (X.off_t rfl rfl rfl h_3) rfl ?_
        refine X.opR rfl (X.pickand_f (y := decide (a.Begin = b.Begin)) rfl h_3 rfl) rfl ?_
        refine X.opR rfl rfl rfl ?_
        iterate 5 refine X.off (X.off_t rfl rfl rfl (X.and_ff h_3)) rfl ?_
        refine X.opR rfl (X.pickand_f (y := decide (a.Every = b.Every)) rfl (X.and_ff h_3) rfl) rfl ?_
        refine X.opR rfl rfl rfl ?_
        refine GS.opsNil ?_
        exact X.norm _ hg rfl (W.sub_cons rfl W.sub_nil)
    · iterate 2 refine X.opR rfl rfl rfl ?_
      iterate 5 refine X.off (X.off_t rfl rfl rfl h_2) rfl ?_
      refine X.opR rfl (X.pickand_f (y := decide (a.ID = b.ID)) rfl h_2 rfl) rfl ?_
      refine X.opR rfl rfl rfl ?_
      iterate 5 refine X.off (X.off_t rfl rfl rfl (X.and_ff h_2)) rfl ?_
      refine X.opR rfl (X.pickand_f (y := decide (a.Begin = b.Begin)) rfl (X.and_ff h_2) rfl) rfl ?_
      refine X.opR rfl rfl rfl ?_
      iterate 5 refine X.off (X.off_t rfl rfl rfl (X.and_ff (X.and_ff h_2))) rfl ?_
      refine X.opR rfl (X.pickand_f (y := decide (a.Every = b.Every)) rfl (X.and_ff (X.and_ff h_2)) rfl) rfl ?_
      refine X.opR rfl rfl rfl ?_
      refine GS.opsNil ?_
      exact X.norm _ hg rfl (W.sub_cons rfl W.sub_nil)
  have hE := Option.some.inj hM
  subst hE
  exact GS.ret ⟨_, rfl, ⟨30, rfl⟩⟩

set_option maxHeartbeats 4000000 in
theorem ok_law02_sanity {r : Bool} (hM : law02_sanity = some r) : Ct Tryz.prog 6 [] (V.b r) := by
  refine ct_of_gs CC_ok rfl ?_
  unfold law02_sanity at hM
  refine GS.seq ?_
  refine GS.region ?_
  refine X.opR rfl rfl rfl ?_
  refine GS.opsNil ?_
  refine GS.seq ?_
  refine GS.region ?_
  refine X.call ok_law02_example rfl rfl rfl .nil ?_
  refine X.opW rfl rfl rfl rfl ?_
  refine X.op0W rfl rfl rfl ?_
  refine GS.opsNil ?_
  refine GS.seq ?_
  refine GS.region ?_
  refine X.opR rfl rfl rfl ?_
  refine X.opW rfl rfl rfl rfl ?_
  refine X.op0W rfl rfl rfl ?_
  refine GS.opsNil ?_
  refine GS.seq ?_
  obtain ⟨x, h_1, hM⟩ := bind_of hM
  obtain ⟨y, h_2, hM⟩ := bind_of hM
  refine GS.region ?_
  iterate 2 refine X.opR rfl rfl rfl ?_
  refine X.opR rfl (X.indexF (f := e_api_Cycle) h_1 (fun _ => rfl) rfl rfl rfl rfl) rfl ?_
  refine X.opR rfl (X.loadF h_1 rfl rfl rfl) rfl ?_
  refine X.call (ok_tide_Value h_2) rfl rfl rfl (.cons (.shut (n := 9) rfl) (.cons (.shut (n := 9) rfl) .nil)) ?_
  iterate 5 refine X.opR rfl rfl rfl ?_
  refine GS.opsNil ?_
  refine GS.seq ?_
  obtain ⟨y1, h_3, hM⟩ := bind_of hM
  refine GS.region ?_
  refine X.opR rfl rfl rfl ?_
  refine X.call (ok_tide_Height h_3) rfl rfl rfl (.cons (.shut (n := 9) rfl) (.cons (.shut (n := 9) rfl) .nil)) ?_
  iterate 5 refine X.opR rfl rfl rfl ?_
  refine GS.opsNil ?_
  refine GS.seq ?_
  obtain ⟨y2, h_4, hM⟩ := bind_of hM
  refine GS.region ?_
  iterate 2 refine X.opR rfl rfl rfl ?_
  refine X.call (ok_tide_Highest h_4) rfl rfl rfl (.cons (.shut (n := 9) rfl) (.cons (.shut (n := 9) rfl) .nil)) ?_
  iterate 7 refine X.opR rfl rfl rfl ?_
  refine GS.opsNil ?_
  refine GS.seq ?_
  obtain ⟨y3, h_5, hM⟩ := bind_of hM
  refine GS.region ?_
  iterate 2 refine X.opR rfl rfl rfl ?_
  refine X.call (ok_tide_Stands h_5) rfl rfl rfl (.cons (.shut (n := 9) rfl) (.cons (.shut (n := 9) rfl) .nil)) ?_
  iterate 5 refine X.opR rfl rfl rfl ?_
  refine GS.opsNil ?_
  refine GS.seq ?_
  obtain ⟨y4, h_6, hM⟩ := bind_of hM
  refine GS.region ?_
  iterate 2 refine X.opR rfl rfl rfl ?_
  refine X.call (ok_tide_LowWaters h_6) rfl rfl rfl (.cons (.shut (n := 9) rfl) (.cons (.shut (n := 9) rfl) .nil)) ?_
  iterate 5 refine X.opR rfl rfl rfl ?_
  refine GS.opsNil ?_
  refine GS.seq ?_
  obtain ⟨y5, h_7, hM⟩ := bind_of hM
  refine GS.region ?_
  iterate 2 refine X.opR rfl rfl rfl ?_
  refine X.call (ok_tide_Windows h_7) rfl rfl rfl (.cons (.shut (n := 9) rfl) (.cons (.shut (n := 9) rfl) (.cons (.shut (n := 9) rfl) .nil))) ?_
  iterate 5 refine X.opR rfl rfl rfl ?_
  refine GS.opsNil ?_
  refine GS.seq ?_
  obtain ⟨y6, h_8, hM⟩ := bind_of hM
  refine GS.region ?_
  iterate 2 refine X.opR rfl rfl rfl ?_
  refine X.call (ok_tide_Prove h_8) rfl rfl rfl (.cons (.shut (n := 9) rfl) (.cons (.shut (n := 9) rfl) (.cons (.shut (n := 9) rfl) .nil))) ?_
  iterate 5 refine X.opR rfl rfl rfl ?_
  refine GS.opsNil ?_
  iterate 2 refine GS.seq ?_
  refine GS.region ?_
  refine X.mid [(1, (V.ptr 0 0 0)), (12, (V.sl (List.map e_api_Stand y4.1))), (14, (V.sl (List.map e_api_Span y5.1))), (123, (V.b (((((((((((((!decide (y.2 = 0)) || (!decide (y.1 = 20))) || (!decide (y1.2 = 0))) || (!decide (y1.1 = 138))) || (!decide (y2.2.2 = 0))) || (!decide (y2.1 = 132))) || (!decide (y2.2.1 = 15))) || (!decide (y3.2 = 0))) || (!decide ((y3.1.length : Int) = 3))) || (!decide (y4.2 = 0))) || (!decide (y5.2 = 0))) || (!decide (y6.2 = 0))) || (!decide ((y6.1.length : Int) = 0)))))] ?_ ?_
  · intro hg
    refine X.split (!decide (y.2 = 0)) (fun h_9 => ?_) (fun h_9 => ?_)
    · iterate 3 refine X.opR rfl rfl rfl ?_
      iterate 2 refine X.off (X.off_f rfl rfl rfl h_9) rfl ?_
      refine X.opR rfl (X.pickor_t (y := !decide (y.1 = 20)) rfl h_9 rfl) rfl ?_
      refine X.opR rfl rfl rfl ?_
      iterate 2 refine X.off (X.off_f rfl rfl rfl (X.or_tt h_9)) rfl ?_
      refine X.opR rfl (X.pickor_t (y := !decide (y1.2 = 0)) rfl (X.or_tt h_9) rfl) rfl ?_
      refine X.opR rfl rfl rfl ?_
      iterate 2 refine X.off (X.off_f rfl rfl rfl (X.or_tt (X.or_tt h_9))) rfl ?_
      refine X.opR rfl (X.pickor_t (y := !decide (y1.1 = 138)) rfl (X.or_tt (X.or_tt h_9)) rfl) rfl ?_
      refine X.opR rfl rfl rfl ?_
      iterate 2 refine X.off (X.off_f rfl rfl rfl (X.or_tt (X.or_tt (X.or_tt h_9)))) rfl ?_
      refine X.opR rfl (X.pickor_t (y := !decide (y2.2.2 = 0)) rfl (X.or_tt (X.or_tt (X.or_tt h_9))) rfl) rfl ?_
      refine X.opR rfl rfl rfl ?_
      iterate 2 refine X.off (X.off_f rfl rfl rfl (X.or_tt (X.or_tt (X.or_tt (X.or_tt h_9))))) rfl ?_
      refine X.opR rfl (X.pickor_t (y := !decide (y2.1 = 132)) rfl (X.or_tt (X.or_tt (X.or_tt (X.or_tt h_9)))) rfl) rfl ?_
      refine X.opR rfl rfl rfl ?_
      iterate 2 refine X.off (X.off_f rfl rfl rfl (X.or_tt (X.or_tt (X.or_tt (X.or_tt (X.or_tt h_9)))))) rfl ?_
      refine X.opR rfl (X.pickor_t (y := !decide (y2.2.1 = 15)) rfl (X.or_tt (X.or_tt (X.or_tt (X.or_tt (X.or_tt h_9))))) rfl) rfl ?_
      refine X.opR rfl rfl rfl ?_
      iterate 2 refine X.off (X.off_f rfl rfl rfl (X.or_tt (X.or_tt (X.or_tt (X.or_tt (X.or_tt (X.or_tt h_9))))))) rfl ?_
      refine X.opR rfl (X.pickor_t (y := !decide (y3.2 = 0)) rfl (X.or_tt (X.or_tt (X.or_tt (X.or_tt (X.or_tt (X.or_tt h_9)))))) rfl) rfl ?_
      refine X.opR rfl rfl rfl ?_
      iterate 3 refine X.off (X.off_f rfl rfl rfl (X.or_tt (X.or_tt (X.or_tt (X.or_tt (X.or_tt (X.or_tt (X.or_tt h_9)))))))) rfl ?_
      refine X.opR rfl (X.pickor_t (y := !decide ((y3.1.length : Int) = 3)) rfl (X.or_tt (X.or_tt (X.or_tt (X.or_tt (X.or_tt (X.or_tt (X.or_tt h_9))))))) rfl) rfl ?_
      refine X.opR rfl rfl rfl ?_
      iterate 2 refine X.off (X.off_f rfl rfl rfl (X.or_tt (X.or_tt (X.or_tt (X.or_tt (X.or_tt (X.or_tt (X.or_tt (X.or_tt h_9))))))))) rfl ?_
      refine X.opR rfl (X.pickor_t (y := !decide (y4.2 = 0)) rfl (X.or_tt (X.or_tt (X.or_tt (X.or_tt (X.or_tt (X.or_tt (X.or_tt (X.or_tt h_9)))))))) rfl) rfl ?_
      refine X.opR rfl rfl rfl ?_
      iterate 2 refine X.off (X.off_f rfl rfl rfl (X.or_tt (X.or_tt (X.or_tt (X.or_tt (X.or_tt (X.or_tt (X.or_tt (X.or_tt (X.or_tt h_9)))))))))) rfl ?_
      refine X.opR rfl (X.pickor_t (y := !decide (y5.2 = 0)) rfl (X.or_tt (X.or_tt (X.or_tt (X.or_tt (X.or_tt (X.or_tt (X.or_tt (X.or_tt (X.or_tt h_9))))))))) rfl) rfl ?_
      refine X.opR rfl rfl rfl ?_
      iterate 2 refine X.off (X.off_f rfl rfl rfl (X.or_tt (X.or_tt (X.or_tt (X.or_tt (X.or_tt (X.or_tt (X.or_tt (X.or_tt (X.or_tt (X.or_tt h_9))))))))))) rfl ?_
      refine X.opR rfl (X.pickor_t (y := !decide (y6.2 = 0)) rfl (X.or_tt (X.or_tt (X.or_tt (X.or_tt (X.or_tt (X.or_tt (X.or_tt (X.or_tt (X.or_tt (X.or_tt h_9)))))))))) rfl) rfl ?_
      refine X.opR rfl rfl rfl ?_
      iterate 3 refine X.off (X.off_f rfl rfl rfl (X.or_tt (X.or_tt (X.or_tt (X.or_tt (X.or_tt (X.or_tt (X.or_tt (X.or_tt (X.or_tt (X.or_tt (X.or_tt h_9)))))))))))) rfl ?_
      refine X.opR rfl (X.pickor_t (y := !decide ((y6.1.length : Int) = 0)) rfl (X.or_tt (X.or_tt (X.or_tt (X.or_tt (X.or_tt (X.or_tt (X.or_tt (X.or_tt (X.or_tt (X.or_tt (X.or_tt h_9))))))))))) rfl) rfl ?_
      refine GS.opsNil ?_
      exact X.norm _ hg rfl (W.sub_cons rfl (W.sub_cons rfl (W.sub_cons rfl (W.sub_cons rfl W.sub_nil))))
    · refine X.split (((!decide (y.2 = 0)) || (!decide (y.1 = 20)))) (fun h_10 => ?_) (fun h_10 => ?_)
      · iterate 3 refine X.opR rfl rfl rfl ?_
        iterate 2 refine X.opR (X.on_f rfl rfl rfl h_9) rfl rfl ?_
        refine X.opR rfl (X.pickor_f (y := !decide (y.1 = 20)) rfl h_9 rfl) rfl ?_
        refine X.opR rfl rfl rfl ?_
        iterate 2 refine X.off (X.off_f rfl rfl rfl h_10) rfl ?_
        refine X.opR rfl (X.pickor_t (y := !decide (y1.2 = 0)) rfl h_10 rfl) rfl ?_
        refine X.opR rfl rfl rfl ?_
        iterate 2 refine X.off (X.off_f rfl rfl rfl (X.or_tt h_10)) rfl ?_
        refine X.opR rfl (X.pickor_t (y := !decide (y1.1 = 138)) rfl (X.or_tt h_10) rfl) rfl ?_
        refine X.opR rfl rfl rfl ?_
        iterate 2 refine X.off (X.off_f rfl rfl rfl (X.or_tt (X.or_tt h_10))) rfl ?_
        refine X.opR rfl (X.pickor_t (y := !decide (y2.2.2 = 0)) rfl (X.or_tt (X.or_tt h_10)) rfl) rfl ?_
        refine X.opR rfl rfl rfl ?_
        iterate 2 refine X.off (X.off_f rfl rfl rfl (X.or_tt (X.or_tt (X.or_tt h_10)))) rfl ?_
        refine X.opR rfl (X.pickor_t (y := !decide (y2.1 = 132)) rfl (X.or_tt (X.or_tt (X.or_tt h_10))) rfl) rfl ?_
        refine X.opR rfl rfl rfl ?_
        iterate 2 refine X.off (X.off_f rfl rfl rfl (X.or_tt (X.or_tt (X.or_tt (X.or_tt h_10))))) rfl ?_
        refine X.opR rfl (X.pickor_t (y := !decide (y2.2.1 = 15)) rfl (X.or_tt (X.or_tt (X.or_tt (X.or_tt h_10)))) rfl) rfl ?_
        refine X.opR rfl rfl rfl ?_
        iterate 2 refine X.off (X.off_f rfl rfl rfl (X.or_tt (X.or_tt (X.or_tt (X.or_tt (X.or_tt h_10)))))) rfl ?_
        refine X.opR rfl (X.pickor_t (y := !decide (y3.2 = 0)) rfl (X.or_tt (X.or_tt (X.or_tt (X.or_tt (X.or_tt h_10))))) rfl) rfl ?_
        refine X.opR rfl rfl rfl ?_
        iterate 3 refine X.off (X.off_f rfl rfl rfl (X.or_tt (X.or_tt (X.or_tt (X.or_tt (X.or_tt (X.or_tt h_10))))))) rfl ?_
        refine X.opR rfl (X.pickor_t (y := !decide ((y3.1.length : Int) = 3)) rfl (X.or_tt (X.or_tt (X.or_tt (X.or_tt (X.or_tt (X.or_tt h_10)))))) rfl) rfl ?_
        refine X.opR rfl rfl rfl ?_
        iterate 2 refine X.off (X.off_f rfl rfl rfl (X.or_tt (X.or_tt (X.or_tt (X.or_tt (X.or_tt (X.or_tt (X.or_tt h_10)))))))) rfl ?_
        refine X.opR rfl (X.pickor_t (y := !decide (y4.2 = 0)) rfl (X.or_tt (X.or_tt (X.or_tt (X.or_tt (X.or_tt (X.or_tt (X.or_tt h_10))))))) rfl) rfl ?_
        refine X.opR rfl rfl rfl ?_
        iterate 2 refine X.off (X.off_f rfl rfl rfl (X.or_tt (X.or_tt (X.or_tt (X.or_tt (X.or_tt (X.or_tt (X.or_tt (X.or_tt h_10))))))))) rfl ?_
        refine X.opR rfl (X.pickor_t (y := !decide (y5.2 = 0)) rfl (X.or_tt (X.or_tt (X.or_tt (X.or_tt (X.or_tt (X.or_tt (X.or_tt (X.or_tt h_10)))))))) rfl) rfl ?_
        refine X.opR rfl rfl rfl ?_
        iterate 2 refine X.off (X.off_f rfl rfl rfl (X.or_tt (X.or_tt (X.or_tt (X.or_tt (X.or_tt (X.or_tt (X.or_tt (X.or_tt (X.or_tt h_10)))))))))) rfl ?_
        refine X.opR rfl (X.pickor_t (y := !decide (y6.2 = 0)) rfl (X.or_tt (X.or_tt (X.or_tt (X.or_tt (X.or_tt (X.or_tt (X.or_tt (X.or_tt (X.or_tt h_10))))))))) rfl) rfl ?_
        refine X.opR rfl rfl rfl ?_
        iterate 3 refine X.off (X.off_f rfl rfl rfl (X.or_tt (X.or_tt (X.or_tt (X.or_tt (X.or_tt (X.or_tt (X.or_tt (X.or_tt (X.or_tt (X.or_tt h_10))))))))))) rfl ?_
        refine X.opR rfl (X.pickor_t (y := !decide ((y6.1.length : Int) = 0)) rfl (X.or_tt (X.or_tt (X.or_tt (X.or_tt (X.or_tt (X.or_tt (X.or_tt (X.or_tt (X.or_tt (X.or_tt h_10)))))))))) rfl) rfl ?_
        refine GS.opsNil ?_
        exact X.norm _ hg rfl (W.sub_cons rfl (W.sub_cons rfl (W.sub_cons rfl (W.sub_cons rfl W.sub_nil))))
      · refine X.split ((((!decide (y.2 = 0)) || (!decide (y.1 = 20))) || (!decide (y1.2 = 0)))) (fun h_11 => ?_) (fun h_11 => ?_)
        · iterate 3 refine X.opR rfl rfl rfl ?_
          iterate 2 refine X.opR (X.on_f rfl rfl rfl h_9) rfl rfl ?_
          refine X.opR rfl (X.pickor_f (y := !decide (y.1 = 20)) rfl h_9 rfl) rfl ?_
          refine X.opR rfl rfl rfl ?_
          iterate 2 refine X.opR (X.on_f rfl rfl rfl h_10) rfl rfl ?_
          refine X.opR rfl (X.pickor_f (y := !decide (y1.2 = 0)) rfl h_10 rfl) rfl ?_
          refine X.opR rfl rfl rfl ?_
          iterate 2 refine X.off (X.off_f rfl rfl rfl h_11) rfl ?_
          refine X.opR rfl (X.pickor_t (y := !decide (y1.1 = 138)) rfl h_11 rfl) rfl ?_
          refine X.opR rfl rfl rfl ?_
          iterate 2 refine X.off (X.off_f rfl rfl rfl (X.or_tt h_11)) rfl ?_
          refine X.opR rfl (X.pickor_t (y := !decide (y2.2.2 = 0)) rfl (X.or_tt h_11) rfl) rfl ?_
          refine X.opR rfl rfl rfl ?_
          iterate 2 refine X.off (X.off_f rfl rfl rfl (X.or_tt (X.or_tt h_11))) rfl ?_
          refine X.opR rfl (X.pickor_t (y := !decide (y2.1 = 132)) rfl (X.or_tt (X.or_tt h_11)) rfl) rfl ?_
          refine X.opR rfl rfl rfl ?_
          iterate 2 refine X.off (X.off_f rfl rfl rfl (X.or_tt (X.or_tt (X.or_tt h_11)))) rfl ?_
          refine X.opR rfl (X.pickor_t (y := !decide (y2.2.1 = 15)) rfl (X.or_tt (X.or_tt (X.or_tt h_11))) rfl) rfl ?_
          refine X.opR rfl rfl rfl ?_
          iterate 2 refine X.off (X.off_f rfl rfl rfl (X.or_tt (X.or_tt (X.or_tt (X.or_tt h_11))))) rfl ?_
          refine X.opR rfl (X.pickor_t (y := !decide (y3.2 = 0)) rfl (X.or_tt (X.or_tt (X.or_tt (X.or_tt h_11)))) rfl) rfl ?_
          refine X.opR rfl rfl rfl ?_
          iterate 3 refine X.off (X.off_f rfl rfl rfl (X.or_tt (X.or_tt (X.or_tt (X.or_tt (X.or_tt h_11)))))) rfl ?_
          refine X.opR rfl (X.pickor_t (y := !decide ((y3.1.length : Int) = 3)) rfl (X.or_tt (X.or_tt (X.or_tt (X.or_tt (X.or_tt h_11))))) rfl) rfl ?_
          refine X.opR rfl rfl rfl ?_
          iterate 2 refine X.off (X.off_f rfl rfl rfl (X.or_tt (X.or_tt (X.or_tt (X.or_tt (X.or_tt (X.or_tt h_11))))))) rfl ?_
          refine X.opR rfl (X.pickor_t (y := !decide (y4.2 = 0)) rfl (X.or_tt (X.or_tt (X.or_tt (X.or_tt (X.or_tt (X.or_tt h_11)))))) rfl) rfl ?_
          refine X.opR rfl rfl rfl ?_
          iterate 2 refine X.off (X.off_f rfl rfl rfl (X.or_tt (X.or_tt (X.or_tt (X.or_tt (X.or_tt (X.or_tt (X.or_tt h_11)))))))) rfl ?_
          refine X.opR rfl (X.pickor_t (y := !decide (y5.2 = 0)) rfl (X.or_tt (X.or_tt (X.or_tt (X.or_tt (X.or_tt (X.or_tt (X.or_tt h_11))))))) rfl) rfl ?_
          refine X.opR rfl rfl rfl ?_
          iterate 2 refine X.off (X.off_f rfl rfl rfl (X.or_tt (X.or_tt (X.or_tt (X.or_tt (X.or_tt (X.or_tt (X.or_tt (X.or_tt h_11))))))))) rfl ?_
          refine X.opR rfl (X.pickor_t (y := !decide (y6.2 = 0)) rfl (X.or_tt (X.or_tt (X.or_tt (X.or_tt (X.or_tt (X.or_tt (X.or_tt (X.or_tt h_11)))))))) rfl) rfl ?_
          refine X.opR rfl rfl rfl ?_
          iterate 3 refine X.off (X.off_f rfl rfl rfl (X.or_tt (X.or_tt (X.or_tt (X.or_tt (X.or_tt (X.or_tt (X.or_tt (X.or_tt (X.or_tt h_11)))))))))) rfl ?_
          refine X.opR rfl (X.pickor_t (y := !decide ((y6.1.length : Int) = 0)) rfl (X.or_tt (X.or_tt (X.or_tt (X.or_tt (X.or_tt (X.or_tt (X.or_tt (X.or_tt (X.or_tt h_11))))))))) rfl) rfl ?_
          refine GS.opsNil ?_
          exact X.norm _ hg rfl (W.sub_cons rfl (W.sub_cons rfl (W.sub_cons rfl (W.sub_cons rfl W.sub_nil))))
        · refine X.split (((((!decide (y.2 = 0)) || (!decide (y.1 = 20))) || (!decide (y1.2 = 0))) || (!decide (y1.1 = 138)))) (fun h_12 => ?_) (fun h_12 => ?_)
          · iterate 3 refine X.opR rfl rfl rfl ?_
            iterate 2 refine X.opR (X.on_f rfl rfl rfl h_9) rfl rfl ?_
            refine X.opR rfl (X.pickor_f (y := !decide (y.1 = 20)) rfl h_9 rfl) rfl ?_
            refine X.opR rfl rfl rfl ?_
            iterate 2 refine X.opR (X.on_f rfl rfl rfl h_10) rfl rfl ?_
            refine X.opR rfl (X.pickor_f (y := !decide (y1.2 = 0)) rfl h_10 rfl) rfl ?_
            refine X.opR rfl rfl rfl ?_
            iterate 2 refine X.opR (X.on_f rfl rfl rfl h_11) rfl rfl ?_
            refine X.opR rfl (X.pickor_f (y := !decide (y1.1 = 138)) rfl h_11 rfl) rfl ?_
            refine X.opR rfl rfl rfl ?_
            iterate 2 refine X.off (X.off_f rfl rfl rfl h_12) rfl ?_
            refine X.opR rfl (X.pickor_t (y := !decide (y2.2.2 = 0)) rfl h_12 rfl) rfl ?_
            refine X.opR rfl rfl rfl ?_
            iterate 2 refine X.off (X.off_f rfl rfl rfl (X.or_tt h_12)) rfl ?_
            refine X.opR rfl (X.pickor_t (y := !decide (y2.1 = 132)) rfl (X.or_tt h_12) rfl) rfl ?_
            refine X.opR rfl rfl rfl ?_
            iterate 2 refine X.off (X.off_f rfl rfl rfl (X.or_tt (X.or_tt h_12))) rfl ?_
            refine X.opR rfl (X.pickor_t (y := !decide (y2.2.1 = 15)) rfl (X.or_tt (X.or_tt h_12)) rfl) rfl ?_
            refine X.opR rfl rfl rfl ?_
            iterate 2 refine X.off (X.off_f rfl rfl rfl (X.or_tt (X.or_tt (X.or_tt h_12)))) rfl ?_
            refine X.opR rfl (X.pickor_t (y := !decide (y3.2 = 0)) rfl (X.or_tt (X.or_tt (X.or_tt h_12))) rfl) rfl ?_
            refine X.opR rfl rfl rfl ?_
            iterate 3 refine X.off (X.off_f rfl rfl rfl (X.or_tt (X.or_tt (X.or_tt (X.or_tt h_12))))) rfl ?_
            refine X.opR rfl (X.pickor_t (y := !decide ((y3.1.length : Int) = 3)) rfl (X.or_tt (X.or_tt (X.or_tt (X.or_tt h_12)))) rfl) rfl ?_
            refine X.opR rfl rfl rfl ?_
            iterate 2 refine X.off (X.off_f rfl rfl rfl (X.or_tt (X.or_tt (X.or_tt (X.or_tt (X.or_tt h_12)))))) rfl ?_
            refine X.opR rfl (X.pickor_t (y := !decide (y4.2 = 0)) rfl (X.or_tt (X.or_tt (X.or_tt (X.or_tt (X.or_tt h_12))))) rfl) rfl ?_
            refine X.opR rfl rfl rfl ?_
            iterate 2 refine X.off (X.off_f rfl rfl rfl (X.or_tt (X.or_tt (X.or_tt (X.or_tt (X.or_tt (X.or_tt h_12))))))) rfl ?_
            refine X.opR rfl (X.pickor_t (y := !decide (y5.2 = 0)) rfl (X.or_tt (X.or_tt (X.or_tt (X.or_tt (X.or_tt (X.or_tt h_12)))))) rfl) rfl ?_
            refine X.opR rfl rfl rfl ?_
            iterate 2 refine X.off (X.off_f rfl rfl rfl (X.or_tt (X.or_tt (X.or_tt (X.or_tt (X.or_tt (X.or_tt (X.or_tt h_12)))))))) rfl ?_
            refine X.opR rfl (X.pickor_t (y := !decide (y6.2 = 0)) rfl (X.or_tt (X.or_tt (X.or_tt (X.or_tt (X.or_tt (X.or_tt (X.or_tt h_12))))))) rfl) rfl ?_
            refine X.opR rfl rfl rfl ?_
            iterate 3 refine X.off (X.off_f rfl rfl rfl (X.or_tt (X.or_tt (X.or_tt (X.or_tt (X.or_tt (X.or_tt (X.or_tt (X.or_tt h_12))))))))) rfl ?_
            refine X.opR rfl (X.pickor_t (y := !decide ((y6.1.length : Int) = 0)) rfl (X.or_tt (X.or_tt (X.or_tt (X.or_tt (X.or_tt (X.or_tt (X.or_tt (X.or_tt h_12)))))))) rfl) rfl ?_
            refine GS.opsNil ?_
            exact X.norm _ hg rfl (W.sub_cons rfl (W.sub_cons rfl (W.sub_cons rfl (W.sub_cons rfl W.sub_nil))))
          · refine X.split ((((((!decide (y.2 = 0)) || (!decide (y.1 = 20))) || (!decide (y1.2 = 0))) || (!decide (y1.1 = 138))) || (!decide (y2.2.2 = 0)))) (fun h_13 => ?_) (fun h_13 => ?_)
            · iterate 3 refine X.opR rfl rfl rfl ?_
              iterate 2 refine X.opR (X.on_f rfl rfl rfl h_9) rfl rfl ?_
              refine X.opR rfl (X.pickor_f (y := !decide (y.1 = 20)) rfl h_9 rfl) rfl ?_
              refine X.opR rfl rfl rfl ?_
              iterate 2 refine X.opR (X.on_f rfl rfl rfl h_10) rfl rfl ?_
              refine X.opR rfl (X.pickor_f (y := !decide (y1.2 = 0)) rfl h_10 rfl) rfl ?_
              refine X.opR rfl rfl rfl ?_
              iterate 2 refine X.opR (X.on_f rfl rfl rfl h_11) rfl rfl ?_
              refine X.opR rfl (X.pickor_f (y := !decide (y1.1 = 138)) rfl h_11 rfl) rfl ?_
              refine X.opR rfl rfl rfl ?_
              iterate 2 refine X.opR (X.on_f rfl rfl rfl h_12) rfl rfl ?_
              refine X.opR rfl (X.pickor_f (y := !decide (y2.2.2 = 0)) rfl h_12 rfl) rfl ?_
              refine X.opR rfl rfl rfl ?_
              iterate 2 refine X.off (X.off_f rfl rfl rfl h_13) rfl ?_
              refine X.opR rfl (X.pickor_t (y := !decide (y2.1 = 132)) rfl h_13 rfl) rfl ?_
              refine X.opR rfl rfl rfl ?_
              iterate 2 refine X.off (X.off_f rfl rfl rfl (X.or_tt h_13)) rfl ?_
              refine X.opR rfl (X.pickor_t (y := !decide (y2.2.1 = 15)) rfl (X.or_tt h_13) rfl) rfl ?_
              refine X.opR rfl rfl rfl ?_
              iterate 2 refine X.off (X.off_f rfl rfl rfl (X.or_tt (X.or_tt h_13))) rfl ?_
              refine X.opR rfl (X.pickor_t (y := !decide (y3.2 = 0)) rfl (X.or_tt (X.or_tt h_13)) rfl) rfl ?_
              refine X.opR rfl rfl rfl ?_
              iterate 3 refine X.off (X.off_f rfl rfl rfl (X.or_tt (X.or_tt (X.or_tt h_13)))) rfl ?_
              refine X.opR rfl (X.pickor_t (y := !decide ((y3.1.length : Int) = 3)) rfl (X.or_tt (X.or_tt (X.or_tt h_13))) rfl) rfl ?_
              refine X.opR rfl rfl rfl ?_
              iterate 2 refine X.off (X.off_f rfl rfl rfl (X.or_tt (X.or_tt (X.or_tt (X.or_tt h_13))))) rfl ?_
              refine X.opR rfl (X.pickor_t (y := !decide (y4.2 = 0)) rfl (X.or_tt (X.or_tt (X.or_tt (X.or_tt h_13)))) rfl) rfl ?_
              refine X.opR rfl rfl rfl ?_
              iterate 2 refine X.off (X.off_f rfl rfl rfl (X.or_tt (X.or_tt (X.or_tt (X.or_tt (X.or_tt h_13)))))) rfl ?_
              refine X.opR rfl (X.pickor_t (y := !decide (y5.2 = 0)) rfl (X.or_tt (X.or_tt (X.or_tt (X.or_tt (X.or_tt h_13))))) rfl) rfl ?_
              refine X.opR rfl rfl rfl ?_
              iterate 2 refine X.off (X.off_f rfl rfl rfl (X.or_tt (X.or_tt (X.or_tt (X.or_tt (X.or_tt (X.or_tt h_13))))))) rfl ?_
              refine X.opR rfl (X.pickor_t (y := !decide (y6.2 = 0)) rfl (X.or_tt (X.or_tt (X.or_tt (X.or_tt (X.or_tt (X.or_tt h_13)))))) rfl) rfl ?_
              refine X.opR rfl rfl rfl ?_
              iterate 3 refine X.off (X.off_f rfl rfl rfl (X.or_tt (X.or_tt (X.or_tt (X.or_tt (X.or_tt (X.or_tt (X.or_tt h_13)))))))) rfl ?_
              refine X.opR rfl (X.pickor_t (y := !decide ((y6.1.length : Int) = 0)) rfl (X.or_tt (X.or_tt (X.or_tt (X.or_tt (X.or_tt (X.or_tt (X.or_tt h_13))))))) rfl) rfl ?_
              refine GS.opsNil ?_
              exact X.norm _ hg rfl (W.sub_cons rfl (W.sub_cons rfl (W.sub_cons rfl (W.sub_cons rfl W.sub_nil))))
            · refine X.split (((((((!decide (y.2 = 0)) || (!decide (y.1 = 20))) || (!decide (y1.2 = 0))) || (!decide (y1.1 = 138))) || (!decide (y2.2.2 = 0))) || (!decide (y2.1 = 132)))) (fun h_14 => ?_) (fun h_14 => ?_)
              · iterate 3 refine X.opR rfl rfl rfl ?_
                iterate 2 refine X.opR (X.on_f rfl rfl rfl h_9) rfl rfl ?_
                refine X.opR rfl (X.pickor_f (y := !decide (y.1 = 20)) rfl h_9 rfl) rfl ?_
                refine X.opR rfl rfl rfl ?_
                iterate 2 refine X.opR (X.on_f rfl rfl rfl h_10) rfl rfl ?_
                refine X.opR rfl (X.pickor_f (y := !decide (y1.2 = 0)) rfl h_10 rfl) rfl ?_
                refine X.opR rfl rfl rfl ?_
                iterate 2 refine X.opR (X.on_f rfl rfl rfl h_11) rfl rfl ?_
                refine X.opR rfl (X.pickor_f (y := !decide (y1.1 = 138)) rfl h_11 rfl) rfl ?_
                refine X.opR rfl rfl rfl ?_
                iterate 2 refine X.opR (X.on_f rfl rfl rfl h_12) rfl rfl ?_
                refine X.opR rfl (X.pickor_f (y := !decide (y2.2.2 = 0)) rfl h_12 rfl) rfl ?_
                refine X.opR rfl rfl rfl ?_
                iterate 2 refine X.opR (X.on_f rfl rfl rfl h_13) rfl rfl ?_
                refine X.opR rfl (X.pickor_f (y := !decide (y2.1 = 132)) rfl h_13 rfl) rfl ?_
                refine X.opR rfl rfl rfl ?_
                iterate 2 refine X.off (X.off_f rfl rfl rfl h_14) rfl ?_
                refine X.opR rfl (X.pickor_t (y := !decide (y2.2.1 = 15)) rfl h_14 rfl) rfl ?_
                refine X.opR rfl rfl rfl ?_
                iterate 2 refine X.off (X.off_f rfl rfl rfl (X.or_tt h_14)) rfl ?_
                refine X.opR rfl (X.pickor_t (y := !decide (y3.2 = 0)) rfl (X.or_tt h_14) rfl) rfl ?_
                refine X.opR rfl rfl rfl ?_
                iterate 3 refine X.off (X.off_f rfl rfl rfl (X.or_tt (X.or_tt h_14))) rfl ?_
                refine X.opR rfl (X.pickor_t (y := !decide ((y3.1.length : Int) = 3)) rfl (X.or_tt (X.or_tt h_14)) rfl) rfl ?_
                refine X.opR rfl rfl rfl ?_
                iterate 2 refine X.off (X.off_f rfl rfl rfl (X.or_tt (X.or_tt (X.or_tt h_14)))) rfl ?_
                refine X.opR rfl (X.pickor_t (y := !decide (y4.2 = 0)) rfl (X.or_tt (X.or_tt (X.or_tt h_14))) rfl) rfl ?_
                refine X.opR rfl rfl rfl ?_
                iterate 2 refine X.off (X.off_f rfl rfl rfl (X.or_tt (X.or_tt (X.or_tt (X.or_tt h_14))))) rfl ?_
                refine X.opR rfl (X.pickor_t (y := !decide (y5.2 = 0)) rfl (X.or_tt (X.or_tt (X.or_tt (X.or_tt h_14)))) rfl) rfl ?_
                refine X.opR rfl rfl rfl ?_
                iterate 2 refine X.off (X.off_f rfl rfl rfl (X.or_tt (X.or_tt (X.or_tt (X.or_tt (X.or_tt h_14)))))) rfl ?_
                refine X.opR rfl (X.pickor_t (y := !decide (y6.2 = 0)) rfl (X.or_tt (X.or_tt (X.or_tt (X.or_tt (X.or_tt h_14))))) rfl) rfl ?_
                refine X.opR rfl rfl rfl ?_
                iterate 3 refine X.off (X.off_f rfl rfl rfl (X.or_tt (X.or_tt (X.or_tt (X.or_tt (X.or_tt (X.or_tt h_14))))))) rfl ?_
                refine X.opR rfl (X.pickor_t (y := !decide ((y6.1.length : Int) = 0)) rfl (X.or_tt (X.or_tt (X.or_tt (X.or_tt (X.or_tt (X.or_tt h_14)))))) rfl) rfl ?_
                refine GS.opsNil ?_
                exact X.norm _ hg rfl (W.sub_cons rfl (W.sub_cons rfl (W.sub_cons rfl (W.sub_cons rfl W.sub_nil))))
              · refine X.split ((((((((!decide (y.2 = 0)) || (!decide (y.1 = 20))) || (!decide (y1.2 = 0))) || (!decide (y1.1 = 138))) || (!decide (y2.2.2 = 0))) || (!decide (y2.1 = 132))) || (!decide (y2.2.1 = 15)))) (fun h_15 => ?_) (fun h_15 => ?_)
                · iterate 3 refine X.opR rfl rfl rfl ?_
                  iterate 2 refine X.opR (X.on_f rfl rfl rfl h_9) rfl rfl ?_
                  refine X.opR rfl (X.pickor_f (y := !decide (y.1 = 20)) rfl h_9 rfl) rfl ?_
                  refine X.opR rfl rfl rfl ?_
                  iterate 2 refine X.opR (X.on_f rfl rfl rfl h_10) rfl rfl ?_
                  refine X.opR rfl (X.pickor_f (y := !decide (y1.2 = 0)) rfl h_10 rfl) rfl ?_
                  refine X.opR rfl rfl rfl ?_
                  iterate 2 refine X.opR (X.on_f rfl rfl rfl h_11) rfl rfl ?_
                  refine X.opR rfl (X.pickor_f (y := !decide (y1.1 = 138)) rfl h_11 rfl) rfl ?_
                  refine X.opR rfl rfl rfl ?_
                  iterate 2 refine X.opR (X.on_f rfl rfl rfl h_12) rfl rfl ?_
                  refine X.opR rfl (X.pickor_f (y := !decide (y2.2.2 = 0)) rfl h_12 rfl) rfl ?_
                  refine X.opR rfl rfl rfl ?_
                  iterate 2 refine X.opR (X.on_f rfl rfl rfl h_13) rfl rfl ?_
                  refine X.opR rfl (X.pickor_f (y := !decide (y2.1 = 132)) rfl h_13 rfl) rfl ?_
                  refine X.opR rfl rfl rfl ?_
                  iterate 2 refine X.opR (X.on_f rfl rfl rfl h_14) rfl rfl ?_
                  refine X.opR rfl (X.pickor_f (y := !decide (y2.2.1 = 15)) rfl h_14 rfl) rfl ?_
                  refine X.opR rfl rfl rfl ?_
                  iterate 2 refine X.off (X.off_f rfl rfl rfl h_15) rfl ?_
                  refine X.opR rfl (X.pickor_t (y := !decide (y3.2 = 0)) rfl h_15 rfl) rfl ?_
                  refine X.opR rfl rfl rfl ?_
                  iterate 3 refine X.off (X.off_f rfl rfl rfl (X.or_tt h_15)) rfl ?_
                  refine X.opR rfl (X.pickor_t (y := !decide ((y3.1.length : Int) = 3)) rfl (X.or_tt h_15) rfl) rfl ?_
                  refine X.opR rfl rfl rfl ?_
                  iterate 2 refine X.off (X.off_f rfl rfl rfl (X.or_tt (X.or_tt h_15))) rfl ?_
                  refine X.opR rfl (X.pickor_t (y := !decide (y4.2 = 0)) rfl (X.or_tt (X.or_tt h_15)) rfl) rfl ?_
                  refine X.opR rfl rfl rfl ?_
                  iterate 2 refine X.off (X.off_f rfl rfl rfl (X.or_tt (X.or_tt (X.or_tt h_15)))) rfl ?_
                  refine X.opR rfl (X.pickor_t (y := !decide (y5.2 = 0)) rfl (X.or_tt (X.or_tt (X.or_tt h_15))) rfl) rfl ?_
                  refine X.opR rfl rfl rfl ?_
                  iterate 2 refine X.off (X.off_f rfl rfl rfl (X.or_tt (X.or_tt (X.or_tt (X.or_tt h_15))))) rfl ?_
                  refine X.opR rfl (X.pickor_t (y := !decide (y6.2 = 0)) rfl (X.or_tt (X.or_tt (X.or_tt (X.or_tt h_15)))) rfl) rfl ?_
                  refine X.opR rfl rfl rfl ?_
                  iterate 3 refine X.off (X.off_f rfl rfl rfl (X.or_tt (X.or_tt (X.or_tt (X.or_tt (X.or_tt h_15)))))) rfl ?_
                  refine X.opR rfl (X.pickor_t (y := !decide ((y6.1.length : Int) = 0)) rfl (X.or_tt (X.or_tt (X.or_tt (X.or_tt (X.or_tt h_15))))) rfl) rfl ?_
                  refine GS.opsNil ?_
                  exact X.norm _ hg rfl (W.sub_cons rfl (W.sub_cons rfl (W.sub_cons rfl (W.sub_cons rfl W.sub_nil))))
                · refine X.split (((((((((!decide (y.2 = 0)) || (!decide (y.1 = 20))) || (!decide (y1.2 = 0))) || (!decide (y1.1 = 138))) || (!decide (y2.2.2 = 0))) || (!decide (y2.1 = 132))) || (!decide (y2.2.1 = 15))) || (!decide (y3.2 = 0)))) (fun h_16 => ?_) (fun h_16 => ?_)
                  · iterate 3 refine X.opR rfl rfl rfl ?_
                    iterate 2 refine X.opR (X.on_f rfl rfl rfl h_9) rfl rfl ?_
                    refine X.opR rfl (X.pickor_f (y := !decide (y.1 = 20)) rfl h_9 rfl) rfl ?_
                    refine X.opR rfl rfl rfl ?_
                    iterate 2 refine X.opR (X.on_f rfl rfl rfl h_10) rfl rfl ?_
                    refine X.opR rfl (X.pickor_f (y := !decide (y1.2 = 0)) rfl h_10 rfl) rfl ?_
                    refine X.opR rfl rfl rfl ?_
                    iterate 2 refine X.opR (X.on_f rfl rfl rfl h_11) rfl rfl ?_
                    refine X.opR rfl (X.pickor_f (y := !decide (y1.1 = 138)) rfl h_11 rfl) rfl ?_
                    refine X.opR rfl rfl rfl ?_
                    iterate 2 refine X.opR (X.on_f rfl rfl rfl h_12) rfl rfl ?_
                    refine X.opR rfl (X.pickor_f (y := !decide (y2.2.2 = 0)) rfl h_12 rfl) rfl ?_
                    refine X.opR rfl rfl rfl ?_
                    iterate 2 refine X.opR (X.on_f rfl rfl rfl h_13) rfl rfl ?_
                    refine X.opR rfl (X.pickor_f (y := !decide (y2.1 = 132)) rfl h_13 rfl) rfl ?_
                    refine X.opR rfl rfl rfl ?_
                    iterate 2 refine X.opR (X.on_f rfl rfl rfl h_14) rfl rfl ?_
                    refine X.opR rfl (X.pickor_f (y := !decide (y2.2.1 = 15)) rfl h_14 rfl) rfl ?_
                    refine X.opR rfl rfl rfl ?_
                    iterate 2 refine X.opR (X.on_f rfl rfl rfl h_15) rfl rfl ?_
                    refine X.opR rfl (X.pickor_f (y := !decide (y3.2 = 0)) rfl h_15 rfl) rfl ?_
                    refine X.opR rfl rfl rfl ?_
                    iterate 3 refine X.off (X.off_f rfl rfl rfl h_16) rfl ?_
                    refine X.opR rfl (X.pickor_t (y := !decide ((y3.1.length : Int) = 3)) rfl h_16 rfl) rfl ?_
                    refine X.opR rfl rfl rfl ?_
                    iterate 2 refine X.off (X.off_f rfl rfl rfl (X.or_tt h_16)) rfl ?_
                    refine X.opR rfl (X.pickor_t (y := !decide (y4.2 = 0)) rfl (X.or_tt h_16) rfl) rfl ?_
                    refine X.opR rfl rfl rfl ?_
                    iterate 2 refine X.off (X.off_f rfl rfl rfl (X.or_tt (X.or_tt h_16))) rfl ?_
                    refine X.opR rfl (X.pickor_t (y := !decide (y5.2 = 0)) rfl (X.or_tt (X.or_tt h_16)) rfl) rfl ?_
                    refine X.opR rfl rfl rfl ?_
                    iterate 2 refine X.off (X.off_f rfl rfl rfl (X.or_tt (X.or_tt (X.or_tt h_16)))) rfl ?_
                    refine X.opR rfl (X.pickor_t (y := !decide (y6.2 = 0)) rfl (X.or_tt (X.or_tt (X.or_tt h_16))) rfl) rfl ?_
                    refine X.opR rfl rfl rfl ?_
                    iterate 3 refine X.off (X.off_f rfl rfl rfl (X.or_tt (X.or_tt (X.or_tt (X.or_tt h_16))))) rfl ?_
                    refine X.opR rfl (X.pickor_t (y := !decide ((y6.1.length : Int) = 0)) rfl (X.or_tt (X.or_tt (X.or_tt (X.or_tt h_16)))) rfl) rfl ?_
                    refine GS.opsNil ?_
                    exact X.norm _ hg rfl (W.sub_cons rfl (W.sub_cons rfl (W.sub_cons rfl (W.sub_cons rfl W.sub_nil))))
                  · refine X.split ((((((((((!decide (y.2 = 0)) || (!decide (y.1 = 20))) || (!decide (y1.2 = 0))) || (!decide (y1.1 = 138))) || (!decide (y2.2.2 = 0))) || (!decide (y2.1 = 132))) || (!decide (y2.2.1 = 15))) || (!decide (y3.2 = 0))) || (!decide ((y3.1.length : Int) = 3)))) (fun h_17 => ?_) (fun h_17 => ?_)
                    · iterate 3 refine X.opR rfl rfl rfl ?_
                      iterate 2 refine X.opR (X.on_f rfl rfl rfl h_9) rfl rfl ?_
                      refine X.opR rfl (X.pickor_f (y := !decide (y.1 = 20)) rfl h_9 rfl) rfl ?_
                      refine X.opR rfl rfl rfl ?_
                      iterate 2 refine X.opR (X.on_f rfl rfl rfl h_10) rfl rfl ?_
                      refine X.opR rfl (X.pickor_f (y := !decide (y1.2 = 0)) rfl h_10 rfl) rfl ?_
                      refine X.opR rfl rfl rfl ?_
                      iterate 2 refine X.opR (X.on_f rfl rfl rfl h_11) rfl rfl ?_
                      refine X.opR rfl (X.pickor_f (y := !decide (y1.1 = 138)) rfl h_11 rfl) rfl ?_
                      refine X.opR rfl rfl rfl ?_
                      iterate 2 refine X.opR (X.on_f rfl rfl rfl h_12) rfl rfl ?_
                      refine X.opR rfl (X.pickor_f (y := !decide (y2.2.2 = 0)) rfl h_12 rfl) rfl ?_
                      refine X.opR rfl rfl rfl ?_
                      iterate 2 refine X.opR (X.on_f rfl rfl rfl h_13) rfl rfl ?_
                      refine X.opR rfl (X.pickor_f (y := !decide (y2.1 = 132)) rfl h_13 rfl) rfl ?_
                      refine X.opR rfl rfl rfl ?_
                      iterate 2 refine X.opR (X.on_f rfl rfl rfl h_14) rfl rfl ?_
                      refine X.opR rfl (X.pickor_f (y := !decide (y2.2.1 = 15)) rfl h_14 rfl) rfl ?_
                      refine X.opR rfl rfl rfl ?_
                      iterate 2 refine X.opR (X.on_f rfl rfl rfl h_15) rfl rfl ?_
                      refine X.opR rfl (X.pickor_f (y := !decide (y3.2 = 0)) rfl h_15 rfl) rfl ?_
                      refine X.opR rfl rfl rfl ?_
                      refine X.opR (X.on_f rfl rfl rfl h_16) rfl rfl ?_
                      refine X.opR (X.on_f rfl rfl rfl h_16) (X.lenF rfl rfl rfl) rfl ?_
                      refine X.opR (X.on_f rfl rfl rfl h_16) rfl rfl ?_
                      refine X.opR rfl (X.pickor_f (y := !decide ((y3.1.length : Int) = 3)) rfl h_16 rfl) rfl ?_
                      refine X.opR rfl rfl rfl ?_
                      iterate 2 refine X.off (X.off_f rfl rfl rfl h_17) rfl ?_
                      refine X.opR rfl (X.pickor_t (y := !decide (y4.2 = 0)) rfl h_17 rfl) rfl ?_
                      refine X.opR rfl rfl rfl ?_
                      iterate 2 refine X.off (X.off_f rfl rfl rfl (X.or_tt h_17)) rfl ?_
                      refine X.opR rfl (X.pickor_t (y := !decide (y5.2 = 0)) rfl (X.or_tt h_17) rfl) rfl ?_
                      refine X.opR rfl rfl rfl ?_
                      iterate 2 refine X.off (X.off_f rfl rfl rfl (X.or_tt (X.or_tt h_17))) rfl ?_
                      refine X.opR rfl (X.pickor_t (y := !decide (y6.2 = 0)) rfl (X.or_tt (X.or_tt h_17)) rfl) rfl ?_
                      refine X.opR rfl rfl rfl ?_
                      iterate 3 refine X.off (X.off_f rfl rfl rfl (X.or_tt (X.or_tt (X.or_tt h_17)))) rfl ?_
                      refine X.opR rfl (X.pickor_t (y := !decide ((y6.1.length : Int) = 0)) rfl (X.or_tt (X.or_tt (X.or_tt h_17))) rfl) rfl ?_
                      refine GS.opsNil ?_
                      exact X.norm _ hg rfl (W.sub_cons rfl (W.sub_cons rfl (W.sub_cons rfl (W.sub_cons rfl W.sub_nil))))
                    · refine X.split (((((((((((!decide (y.2 = 0)) || (!decide (y.1 = 20))) || (!decide (y1.2 = 0))) || (!decide (y1.1 = 138))) || (!decide (y2.2.2 = 0))) || (!decide (y2.1 = 132))) || (!decide (y2.2.1 = 15))) || (!decide (y3.2 = 0))) || (!decide ((y3.1.length : Int) = 3))) || (!decide (y4.2 = 0)))) (fun h_18 => ?_) (fun h_18 => ?_)
                      · iterate 3 refine X.opR rfl rfl rfl ?_
                        iterate 2 refine X.opR (X.on_f rfl rfl rfl h_9) rfl rfl ?_
                        refine X.opR rfl (X.pickor_f (y := !decide (y.1 = 20)) rfl h_9 rfl) rfl ?_
                        refine X.opR rfl rfl rfl ?_
                        iterate 2 refine X.opR (X.on_f rfl rfl rfl h_10) rfl rfl ?_
                        refine X.opR rfl (X.pickor_f (y := !decide (y1.2 = 0)) rfl h_10 rfl) rfl ?_
                        refine X.opR rfl rfl rfl ?_
                        iterate 2 refine X.opR (X.on_f rfl rfl rfl h_11) rfl rfl ?_
                        refine X.opR rfl (X.pickor_f (y := !decide (y1.1 = 138)) rfl h_11 rfl) rfl ?_
                        refine X.opR rfl rfl rfl ?_
                        iterate 2 refine X.opR (X.on_f rfl rfl rfl h_12) rfl rfl ?_
                        refine X.opR rfl (X.pickor_f (y := !decide (y2.2.2 = 0)) rfl h_12 rfl) rfl ?_
                        refine X.opR rfl rfl rfl ?_
                        iterate 2 refine X.opR (X.on_f rfl rfl rfl h_13) rfl rfl ?_
                        refine X.opR rfl (X.pickor_f (y := !decide (y2.1 = 132)) rfl h_13 rfl) rfl ?_
                        refine X.opR rfl rfl rfl ?_
                        iterate 2 refine X.opR (X.on_f rfl rfl rfl h_14) rfl rfl ?_
                        refine X.opR rfl (X.pickor_f (y := !decide (y2.2.1 = 15)) rfl h_14 rfl) rfl ?_
                        refine X.opR rfl rfl rfl ?_
                        iterate 2 refine X.opR (X.on_f rfl rfl rfl h_15) rfl rfl ?_
                        refine X.opR rfl (X.pickor_f (y := !decide (y3.2 = 0)) rfl h_15 rfl) rfl ?_
                        refine X.opR rfl rfl rfl ?_
                        refine X.opR (X.on_f rfl rfl rfl h_16) rfl rfl ?_
                        refine X.opR (X.on_f rfl rfl rfl h_16) (X.lenF rfl rfl rfl) rfl ?_
                        refine X.opR (X.on_f rfl rfl rfl h_16) rfl rfl ?_
                        refine X.opR rfl (X.pickor_f (y := !decide ((y3.1.length : Int) = 3)) rfl h_16 rfl) rfl ?_
                        refine X.opR rfl rfl rfl ?_
                        iterate 2 refine X.opR (X.on_f rfl rfl rfl h_17) rfl rfl ?_
                        refine X.opR rfl (X.pickor_f (y := !decide (y4.2 = 0)) rfl h_17 rfl) rfl ?_
                        refine X.opR rfl rfl rfl ?_
                        iterate 2 refine X.off (X.off_f rfl rfl rfl h_18) rfl ?_
                        refine X.opR rfl (X.pickor_t (y := !decide (y5.2 = 0)) rfl h_18 rfl) rfl ?_
                        refine X.opR rfl rfl rfl ?_
                        iterate 2 refine X.off (X.off_f rfl rfl rfl (X.or_tt h_18)) rfl ?_
                        refine X.opR rfl (X.pickor_t (y := !decide (y6.2 = 0)) rfl (X.or_tt h_18) rfl) rfl ?_
                        refine X.opR rfl rfl rfl ?_
                        iterate 3 refine X.off (X.off_f rfl rfl rfl (X.or_tt (X.or_tt h_18))) rfl ?_
                        refine X.opR rfl (X.pickor_t (y := !decide ((y6.1.length : Int) = 0)) rfl (X.or_tt (X.or_tt h_18)) rfl) rfl ?_
                        refine GS.opsNil ?_
                        exact X.norm _ hg rfl (W.sub_cons rfl (W.sub_cons rfl (W.sub_cons rfl (W.sub_cons rfl W.sub_nil))))
                      · refine X.split ((((((((((((!decide (y.2 = 0)) || (!decide (y.1 = 20))) || (!decide (y1.2 = 0))) || (!decide (y1.1 = 138))) || (!decide (y2.2.2 = 0))) || (!decide (y2.1 = 132))) || (!decide (y2.2.1 = 15))) || (!decide (y3.2 = 0))) || (!decide ((y3.1.length : Int) = 3))) || (!decide (y4.2 = 0))) || (!decide (y5.2 = 0)))) (fun h_19 => ?_) (fun h_19 => ?_)
                        · iterate 3 refine X.opR rfl rfl rfl ?_
                          iterate 2 refine X.opR (X.on_f rfl rfl rfl h_9) rfl rfl ?_
                          refine X.opR rfl (X.pickor_f (y := !decide (y.1 = 20)) rfl h_9 rfl) rfl ?_
                          refine X.opR rfl rfl rfl ?_
                          iterate 2 refine X.opR (X.on_f rfl rfl rfl h_10) rfl rfl ?_
                          refine X.opR rfl (X.pickor_f (y := !decide (y1.2 = 0)) rfl h_10 rfl) rfl ?_
                          refine X.opR rfl rfl rfl ?_
                          iterate 2 refine X.opR (X.on_f rfl rfl rfl h_11) rfl rfl ?_
                          refine X.opR rfl (X.pickor_f (y := !decide (y1.1 = 138)) rfl h_11 rfl) rfl ?_
                          refine X.opR rfl rfl rfl ?_
                          iterate 2 refine X.opR (X.on_f rfl rfl rfl h_12) rfl rfl ?_
                          refine X.opR rfl (X.pickor_f (y := !decide (y2.2.2 = 0)) rfl h_12 rfl) rfl ?_
                          refine X.opR rfl rfl rfl ?_
                          iterate 2 refine X.opR (X.on_f rfl rfl rfl h_13) rfl rfl ?_
                          refine X.opR rfl (X.pickor_f (y := !decide (y2.1 = 132)) rfl h_13 rfl) rfl ?_
                          refine X.opR rfl rfl rfl ?_
                          iterate 2 refine X.opR (X.on_f rfl rfl rfl h_14) rfl rfl ?_
                          refine X.opR rfl (X.pickor_f (y := !decide (y2.2.1 = 15)) rfl h_14 rfl) rfl ?_
                          refine X.opR rfl rfl rfl ?_
                          iterate 2 refine X.opR (X.on_f rfl rfl rfl h_15) rfl rfl ?_
                          refine X.opR rfl (X.pickor_f (y := !decide (y3.2 = 0)) rfl h_15 rfl) rfl ?_
                          refine X.opR rfl rfl rfl ?_
                          refine X.opR (X.on_f rfl rfl rfl h_16) rfl rfl ?_
                          refine X.opR (X.on_f rfl rfl rfl h_16) (X.lenF rfl rfl rfl) rfl ?_
                          refine X.opR (X.on_f rfl rfl rfl h_16) rfl rfl ?_
                          refine X.opR rfl (X.pickor_f (y := !decide ((y3.1.length : Int) = 3)) rfl h_16 rfl) rfl ?_
                          refine X.opR rfl rfl rfl ?_
                          iterate 2 refine X.opR (X.on_f rfl rfl rfl h_17) rfl rfl ?_
                          refine X.opR rfl (X.pickor_f (y := !decide (y4.2 = 0)) rfl h_17 rfl) rfl ?_
                          refine X.opR rfl rfl rfl ?_
                          iterate 2 refine X.opR (X.on_f rfl rfl rfl h_18) rfl rfl ?_
                          refine X.opR rfl (X.pickor_f (y := !decide (y5.2 = 0)) rfl h_18 rfl) rfl ?_
                          refine X.opR rfl rfl rfl ?_
                          iterate 2 refine X.off (X.off_f rfl rfl rfl h_19) rfl ?_
                          refine X.opR rfl (X.pickor_t (y := !decide (y6.2 = 0)) rfl h_19 rfl) rfl ?_
                          refine X.opR rfl rfl rfl ?_
                          iterate 3 refine X.off (X.off_f rfl rfl rfl (X.or_tt h_19)) rfl ?_
                          refine X.opR rfl (X.pickor_t (y := !decide ((y6.1.length : Int) = 0)) rfl (X.or_tt h_19) rfl) rfl ?_
                          refine GS.opsNil ?_
                          exact X.norm _ hg rfl (W.sub_cons rfl (W.sub_cons rfl (W.sub_cons rfl (W.sub_cons rfl W.sub_nil))))
                        · refine X.split (((((((((((((!decide (y.2 = 0)) || (!decide (y.1 = 20))) || (!decide (y1.2 = 0))) || (!decide (y1.1 = 138))) || (!decide (y2.2.2 = 0))) || (!decide (y2.1 = 132))) || (!decide (y2.2.1 = 15))) || (!decide (y3.2 = 0))) || (!decide ((y3.1.length : Int) = 3))) || (!decide (y4.2 = 0))) || (!decide (y5.2 = 0))) || (!decide (y6.2 = 0)))) (fun h_20 => ?_) (fun h_20 => ?_)
                          · iterate 3 refine X.opR rfl rfl rfl ?_
                            iterate 2 refine X.opR (X.on_f rfl rfl rfl h_9) rfl rfl ?_
                            refine X.opR rfl (X.pickor_f (y := !decide (y.1 = 20)) rfl h_9 rfl) rfl ?_
                            refine X.opR rfl rfl rfl ?_
                            iterate 2 refine X.opR (X.on_f rfl rfl rfl h_10) rfl rfl ?_
                            refine X.opR rfl (X.pickor_f (y := !decide (y1.2 = 0)) rfl h_10 rfl) rfl ?_
                            refine X.opR rfl rfl rfl ?_
                            iterate 2 refine X.opR (X.on_f rfl rfl rfl h_11) rfl rfl ?_
                            refine X.opR rfl (X.pickor_f (y := !decide (y1.1 = 138)) rfl h_11 rfl) rfl ?_
                            refine X.opR rfl rfl rfl ?_
                            iterate 2 refine X.opR (X.on_f rfl rfl rfl h_12) rfl rfl ?_
                            refine X.opR rfl (X.pickor_f (y := !decide (y2.2.2 = 0)) rfl h_12 rfl) rfl ?_
                            refine X.opR rfl rfl rfl ?_
                            iterate 2 refine X.opR (X.on_f rfl rfl rfl h_13) rfl rfl ?_
                            refine X.opR rfl (X.pickor_f (y := !decide (y2.1 = 132)) rfl h_13 rfl) rfl ?_
                            refine X.opR rfl rfl rfl ?_
                            iterate 2 refine X.opR (X.on_f rfl rfl rfl h_14) rfl rfl ?_
                            refine X.opR rfl (X.pickor_f (y := !decide (y2.2.1 = 15)) rfl h_14 rfl) rfl ?_
                            refine X.opR rfl rfl rfl ?_
                            iterate 2 refine X.opR (X.on_f rfl rfl rfl h_15) rfl rfl ?_
                            refine X.opR rfl (X.pickor_f (y := !decide (y3.2 = 0)) rfl h_15 rfl) rfl ?_
                            refine X.opR rfl rfl rfl ?_
                            refine X.opR (X.on_f rfl rfl rfl h_16) rfl rfl ?_
                            refine X.opR (X.on_f rfl rfl rfl h_16) (X.lenF rfl rfl rfl) rfl ?_
                            refine X.opR (X.on_f rfl rfl rfl h_16) rfl rfl ?_
                            refine X.opR rfl (X.pickor_f (y := !decide ((y3.1.length : Int) = 3)) rfl h_16 rfl) rfl ?_
                            refine X.opR rfl rfl rfl ?_
                            iterate 2 refine X.opR (X.on_f rfl rfl rfl h_17) rfl rfl ?_
                            refine X.opR rfl (X.pickor_f (y := !decide (y4.2 = 0)) rfl h_17 rfl) rfl ?_
                            refine X.opR rfl rfl rfl ?_
                            iterate 2 refine X.opR (X.on_f rfl rfl rfl h_18) rfl rfl ?_
                            refine X.opR rfl (X.pickor_f (y := !decide (y5.2 = 0)) rfl h_18 rfl) rfl ?_
                            refine X.opR rfl rfl rfl ?_
                            iterate 2 refine X.opR (X.on_f rfl rfl rfl h_19) rfl rfl ?_
                            refine X.opR rfl (X.pickor_f (y := !decide (y6.2 = 0)) rfl h_19 rfl) rfl ?_
                            refine X.opR rfl rfl rfl ?_
                            iterate 3 refine X.off (X.off_f rfl rfl rfl h_20) rfl ?_
                            refine X.opR rfl (X.pickor_t (y := !decide ((y6.1.length : Int) = 0)) rfl h_20 rfl) rfl ?_
                            refine GS.opsNil ?_
                            exact X.norm _ hg rfl (W.sub_cons rfl (W.sub_cons rfl (W.sub_cons rfl (W.sub_cons rfl W.sub_nil))))
                          · iterate 3 refine X.opR rfl rfl rfl ?_
                            iterate 2 refine X.opR (X.on_f rfl rfl rfl h_9) rfl rfl ?_
                            refine X.opR rfl (X.pickor_f (y := !decide (y.1 = 20)) rfl h_9 rfl) rfl ?_
                            refine X.opR rfl rfl rfl ?_
                            iterate 2 refine X.opR (X.on_f rfl rfl rfl h_10) rfl rfl ?_
                            refine X.opR rfl (X.pickor_f (y := !decide (y1.2 = 0)) rfl h_10 rfl) rfl ?_
                            refine X.opR rfl rfl rfl ?_
                            iterate 2 refine X.opR (X.on_f rfl rfl rfl h_11) rfl rfl ?_
                            refine X.opR rfl (X.pickor_f (y := !decide (y1.1 = 138)) rfl h_11 rfl) rfl ?_
                            refine X.opR rfl rfl rfl ?_
                            iterate 2 refine X.opR (X.on_f rfl rfl rfl h_12) rfl rfl ?_
                            refine X.opR rfl (X.pickor_f (y := !decide (y2.2.2 = 0)) rfl h_12 rfl) rfl ?_
                            refine X.opR rfl rfl rfl ?_
                            iterate 2 refine X.opR (X.on_f rfl rfl rfl h_13) rfl rfl ?_
                            refine X.opR rfl (X.pickor_f (y := !decide (y2.1 = 132)) rfl h_13 rfl) rfl ?_
                            refine X.opR rfl rfl rfl ?_
                            iterate 2 refine X.opR (X.on_f rfl rfl rfl h_14) rfl rfl ?_
                            refine X.opR rfl (X.pickor_f (y := !decide (y2.2.1 = 15)) rfl h_14 rfl) rfl ?_
                            refine X.opR rfl rfl rfl ?_
                            iterate 2 refine X.opR (X.on_f rfl rfl rfl h_15) rfl rfl ?_
                            refine X.opR rfl (X.pickor_f (y := !decide (y3.2 = 0)) rfl h_15 rfl) rfl ?_
                            refine X.opR rfl rfl rfl ?_
                            refine X.opR (X.on_f rfl rfl rfl h_16) rfl rfl ?_
                            refine X.opR (X.on_f rfl rfl rfl h_16) (X.lenF rfl rfl rfl) rfl ?_
                            refine X.opR (X.on_f rfl rfl rfl h_16) rfl rfl ?_
                            refine X.opR rfl (X.pickor_f (y := !decide ((y3.1.length : Int) = 3)) rfl h_16 rfl) rfl ?_
                            refine X.opR rfl rfl rfl ?_
                            iterate 2 refine X.opR (X.on_f rfl rfl rfl h_17) rfl rfl ?_
                            refine X.opR rfl (X.pickor_f (y := !decide (y4.2 = 0)) rfl h_17 rfl) rfl ?_
                            refine X.opR rfl rfl rfl ?_
                            iterate 2 refine X.opR (X.on_f rfl rfl rfl h_18) rfl rfl ?_
                            refine X.opR rfl (X.pickor_f (y := !decide (y5.2 = 0)) rfl h_18 rfl) rfl ?_
                            refine X.opR rfl rfl rfl ?_
                            iterate 2 refine X.opR (X.on_f rfl rfl rfl h_19) rfl rfl ?_
                            refine X.opR rfl (X.pickor_f (y := !decide (y6.2 = 0)) rfl h_19 rfl) rfl ?_
                            refine X.opR rfl rfl rfl ?_
                            refine X.opR (X.on_f rfl rfl rfl h_20) rfl rfl ?_
                            refine X.opR (X.on_f rfl rfl rfl h_20) (X.lenF rfl rfl rfl) rfl ?_
                            refine X.opR (X.on_f rfl rfl rfl h_20) rfl rfl ?_
                            refine X.opR rfl (X.pickor_f (y := !decide ((y6.1.length : Int) = 0)) rfl h_20 rfl) rfl ?_
                            refine GS.opsNil ?_
                            exact X.norm _ hg rfl (W.sub_cons rfl (W.sub_cons rfl (W.sub_cons rfl (W.sub_cons rfl W.sub_nil))))
  refine X.cond rfl (fun h_21 => ?_) (fun h_21 => ?_)
  · replace hM := ite_t h_21 hM
    refine GS.seq ?_
    refine GS.region ?_
    refine X.opR rfl rfl rfl ?_
    refine GS.opsNil ?_
    have hE := Option.some.inj hM
    subst hE
    exact GS.ret ⟨_, rfl, ⟨30, rfl⟩⟩
  · replace hM := ite_f h_21 hM
    refine GS.skip ?_
    iterate 2 refine GS.seq ?_
    obtain ⟨y7, h_22, hM⟩ := bind_of hM
    obtain ⟨y8, h_23, hM⟩ := gb_of hM
    refine GS.region ?_
    refine X.midS ⟨[(1, (V.ptr 0 0 0)), (140, (V.b ((!y7) || (!y8))))], [.rows 3 [(e_api_Water (law02_example))]], 0, none, 200⟩ ?_ ?_
    · intro hg
      refine X.split (!y7) (fun h_24 => ?_) (fun h_24 => ?_)
      · iterate 5 refine X.opR rfl rfl rfl ?_
        refine X.opW rfl rfl rfl rfl ?_
        refine X.callF (ok_ref02_SameStands h_22) rfl rfl rfl (m := 9) rfl (.cons (.shut (n := 9) rfl) (.cons (FR.arg ⟨30, rfl⟩) .nil)) ?_
        iterate 2 refine X.opR rfl rfl rfl ?_
        iterate 7 refine X.off (X.off_f rfl rfl rfl h_24) rfl ?_
        refine X.opR rfl (X.pickor_t (y := !y8) rfl h_24 rfl) rfl ?_
        refine GS.opsNil ?_
        exact X.gc [some 0] hg rfl rfl rfl (gk_cons rfl ⟨9, rfl⟩ (gk_cons rfl ⟨9, rfl⟩ gk_nil)) (gb_box rfl rfl ⟨9, rfl⟩ gb_nil)
      · iterate 5 refine X.opR rfl rfl rfl ?_
        refine X.opW rfl rfl rfl rfl ?_
        refine X.callF (ok_ref02_SameStands h_22) rfl rfl rfl (m := 9) rfl (.cons (.shut (n := 9) rfl) (.cons (FR.arg ⟨30, rfl⟩) .nil)) ?_
        iterate 2 refine X.opR rfl rfl rfl ?_
        iterate 4 refine X.opR (X.on_f rfl rfl rfl h_24) rfl rfl ?_
        refine X.opW (H' := [.rows 3 [(e_api_Water (law02_example))], .rows 2 [(V.agg [(V.i 0), (V.i 39)])], .rows 3 (List.map e_api_Stand ([(⟨(⟨10, 14⟩ : api_Span), 102⟩ : api_Stand), (⟨(⟨25, 29⟩ : api_Span), 101⟩ : api_Stand)])), .rows 2 (List.map e_api_Span ([(⟨0, 9⟩ : api_Span), (⟨15, 24⟩ : api_Span), (⟨30, 39⟩ : api_Span)]))]) (X.on_f rfl rfl rfl h_24) rfl rfl rfl ?_
        refine X.callF (ok_ref02_SameSpans (h_23 (X.nt h_24))) (X.on_f rfl rfl rfl h_24) rfl rfl (m := 9) rfl (.cons (.shut (n := 9) rfl) (.cons (FR.arg ⟨30, rfl⟩) .nil)) ?_
        refine X.opR (X.on_f rfl rfl rfl h_24) rfl rfl ?_
        refine X.opR rfl (X.pickor_f (y := !y8) rfl h_24 rfl) rfl ?_
        refine GS.opsNil ?_
        exact X.gc [some 0] hg rfl rfl rfl (gk_cons rfl ⟨9, rfl⟩ (gk_cons rfl ⟨9, rfl⟩ gk_nil)) (gb_box rfl rfl ⟨9, rfl⟩ gb_nil)
    refine X.cond rfl (fun h_25 => ?_) (fun h_25 => ?_)
    · replace hM := ite_t h_25 hM
      refine GS.seq ?_
      refine GS.region ?_
      refine X.opR rfl rfl rfl ?_
      refine GS.opsNil ?_
      have hE := Option.some.inj hM
      subst hE
      exact GS.ret ⟨_, rfl, ⟨30, rfl⟩⟩
    · replace hM := ite_f h_25 hM
      refine GS.skip ?_
      refine GS.seq ?_
      obtain ⟨x1, h_26, hM⟩ := bind_of hM
      obtain ⟨x2, h_27, hM⟩ := bind_of hM
      obtain ⟨y9, h_28, hM⟩ := bind_of hM
      refine X.draw (by kernel_rfl) ?_
      iterate 2 refine X.dop rfl rfl rfl rfl (by kernel_rfl) rfl rfl ?_
      refine X.dop rfl (X.indexF (f := e_api_Cycle) h_26 (fun _ => rfl) rfl rfl rfl rfl) rfl rfl (by kernel_rfl) rfl rfl ?_
      refine X.dop rfl (X.loadF h_26 rfl rfl rfl) rfl rfl (by kernel_rfl) rfl rfl ?_
      iterate 2 refine X.dop rfl rfl rfl rfl (by kernel_rfl) rfl rfl ?_
      refine X.dop rfl (X.indexF (f := e_api_Cycle) h_27 (fun _ => rfl) rfl rfl rfl rfl) rfl rfl (by kernel_rfl) rfl rfl ?_
      refine X.dop rfl (X.loadF h_27 rfl rfl rfl) rfl rfl (by kernel_rfl) rfl rfl ?_
      refine X.dcall (ok_tide_Together h_28) rfl rfl rfl (by kernel_rfl) rfl (.cons (.shut (n := 9) rfl) (.cons (.shut (n := 9) rfl) .nil)) ?_
      iterate 4 refine X.dop rfl rfl rfl rfl (by kernel_rfl) rfl rfl ?_
      refine X.dop0 rfl rfl rfl rfl (by kernel_rfl) rfl ?_
      refine X.dop rfl rfl rfl rfl (by kernel_rfl) rfl rfl ?_
      refine X.dnil ?_
      refine X.norm [(1, (V.ptr 0 0 0)), (18, (V.ptr 1 0 0)), (19, (V.i y9.2))] ?_ rfl (W.sub_cons rfl (W.sub_cons rfl (W.sub_cons rfl W.sub_nil)))
      refine GS.seq ?_
      refine GS.region ?_
      iterate 4 refine X.opR rfl rfl rfl ?_
      refine X.opW rfl rfl rfl rfl ?_
      refine X.opR rfl rfl rfl ?_
      refine GS.opsNil ?_
      refine GS.seq ?_
      obtain ⟨y10, h_29, hM⟩ := bind_of hM
      refine GS.region ?_
      iterate 2 refine X.opR rfl rfl rfl ?_
      refine X.callF (ok_tide_Levels h_29) rfl rfl rfl (m := 9) rfl (.cons (.shut (n := 9) rfl) (.cons (FR.arg ⟨30, rfl⟩) .nil)) ?_
      iterate 3 refine X.opR rfl rfl rfl ?_
      refine X.opW (H' := [.rows 3 [(e_api_Water (law02_example))], .rows 4 [(e_api_Cycle y9.1)], .rows 4 (List.map e_api_Gauge ([(⟨3, 12, (⟨100, 110⟩ : api_Span)⟩ : api_Gauge), (⟨4, 15, (⟨133, 140⟩ : api_Span)⟩ : api_Gauge)])), .rows 2 [(V.agg [(V.i 0), (V.i 0)])]]) rfl rfl rfl rfl ?_
      refine X.op0W (H' := [.rows 3 [(e_api_Water (law02_example))], .rows 4 [(e_api_Cycle y9.1)], .rows 4 (List.map e_api_Gauge ([(⟨3, 12, (⟨100, 110⟩ : api_Span)⟩ : api_Gauge), (⟨4, 15, (⟨133, 140⟩ : api_Span)⟩ : api_Gauge)])), .rows 2 [(e_api_Span y10.1)]]) rfl rfl rfl ?_
      refine X.opR rfl rfl rfl ?_
      refine GS.opsNil ?_
      refine GS.seq ?_
      obtain ⟨y11, h_30, hM⟩ := bind_of hM
      refine GS.region ?_
      iterate 2 refine X.opR rfl rfl rfl ?_
      refine X.callF (ok_tide_Rests h_30) rfl rfl rfl (m := 9) rfl (.cons (.shut (n := 9) rfl) (.cons (FR.arg ⟨30, rfl⟩) .nil)) ?_
      iterate 7 refine X.opR rfl rfl rfl ?_
      refine GS.opsNil ?_
      refine GS.seq ?_
      obtain ⟨y12, h_31, hM⟩ := gb_of hM
      refine GS.region ?_
      refine X.midS ⟨[(0, (V.b (((((((decide (y9.2 = 0)) && y12) && (decide (y10.2 = 0))) && (decide (y10.1 = (⟨101, 108⟩ : api_Span)))) && (decide (y11.2.2 = 0))) && (decide (y11.1 = 4))) && (decide (y11.2.1 = 3)))))], [], 0, none, 200⟩ ?_ ?_
      · intro hg
        refine X.split (decide (y9.2 = 0)) (fun h_32 => ?_) (fun h_32 => ?_)
        · refine X.split (((decide (y9.2 = 0)) && y12)) (fun h_33 => ?_) (fun h_33 => ?_)
          · refine X.split ((((decide (y9.2 = 0)) && y12) && (decide (y10.2 = 0)))) (fun h_34 => ?_) (fun h_34 => ?_)
            · refine X.split (((((decide (y9.2 = 0)) && y12) && (decide (y10.2 = 0))) && (decide (y10.1 = (⟨101, 108⟩ : api_Span))))) (fun h_35 => ?_) (fun h_35 => ?_)
              · refine X.split ((((((decide (y9.2 = 0)) && y12) && (decide (y10.2 = 0))) && (decide (y10.1 = (⟨101, 108⟩ : api_Span)))) && (decide (y11.2.2 = 0)))) (fun h_36 => ?_) (fun h_36 => ?_)
                · refine X.split (((((((decide (y9.2 = 0)) && y12) && (decide (y10.2 = 0))) && (decide (y10.1 = (⟨101, 108⟩ : api_Span)))) && (decide (y11.2.2 = 0))) && (decide (y11.1 = 4)))) (fun h_37 => ?_) (fun h_37 => ?_)
                  · iterate 3 refine X.opR rfl rfl rfl ?_
                    refine X.opR (X.on_t rfl rfl rfl h_32) rfl rfl ?_
                    refine X.opW (H' := [.rows 3 [(e_api_Water (law02_example))], .rows 4 [(e_api_Cycle y9.1)], .rows 4 (List.map e_api_Gauge ([(⟨3, 12, (⟨100, 110⟩ : api_Span)⟩ : api_Gauge), (⟨4, 15, (⟨133, 140⟩ : api_Span)⟩ : api_Gauge)])), .rows 2 [(e_api_Span y10.1)], .rows 1 (List.map V.i ([2, 32, 21, 1, 32, 22, 1, 31, 22, 2, 31, 21]))]) (X.on_t rfl rfl rfl h_32) rfl rfl rfl ?_
                    refine X.opR (X.on_t rfl rfl rfl h_32) rfl rfl ?_
                    refine X.callF (ok_ref02_SameCycle (h_31 h_32)) (X.on_t rfl rfl rfl h_32) rfl rfl (m := 9) rfl (.cons (.shut (n := 9) rfl) (.cons (FR.arg ⟨30, rfl⟩) .nil)) ?_
                    refine X.opR rfl (X.pickand_t (y := y12) rfl h_32 rfl) rfl ?_
                    refine X.opR rfl rfl rfl ?_
                    iterate 2 refine X.opR (X.on_t rfl rfl rfl h_33) rfl rfl ?_
                    refine X.opR rfl (X.pickand_t (y := decide (y10.2 = 0)) rfl h_33 rfl) rfl ?_
                    refine X.opR rfl rfl rfl ?_
                    iterate 2 refine X.opR (X.on_t rfl rfl rfl h_34) rfl rfl ?_
                    refine X.opR (X.on_t rfl rfl rfl h_34) (X.eqlE (eq_api_Span y10.1 (⟨101, 108⟩ : api_Span)) rfl rfl) rfl ?_
                    refine X.opR rfl (X.pickand_t (y := decide (y10.1 = (⟨101, 108⟩ : api_Span))) rfl h_34 rfl) rfl ?_
                    refine X.opR rfl rfl rfl ?_
                    iterate 2 refine X.opR (X.on_t rfl rfl rfl h_35) rfl rfl ?_
                    refine X.opR rfl (X.pickand_t (y := decide (y11.2.2 = 0)) rfl h_35 rfl) rfl ?_
                    refine X.opR rfl rfl rfl ?_
                    iterate 2 refine X.opR (X.on_t rfl rfl rfl h_36) rfl rfl ?_
                    refine X.opR rfl (X.pickand_t (y := decide (y11.1 = 4)) rfl h_36 rfl) rfl ?_
                    refine X.opR rfl rfl rfl ?_
                    iterate 2 refine X.opR (X.on_t rfl rfl rfl h_37) rfl rfl ?_
                    refine X.opR rfl (X.pickand_t (y := decide (y11.2.1 = 3)) rfl h_37 rfl) rfl ?_
                    refine X.opR rfl rfl rfl ?_
                    refine GS.opsNil ?_
                    exact X.gc [] hg rfl rfl rfl (gk_cons rfl ⟨9, rfl⟩ gk_nil) (gb_nil)
                  · iterate 3 refine X.opR rfl rfl rfl ?_
                    refine X.opR (X.on_t rfl rfl rfl h_32) rfl rfl ?_
                    refine X.opW (H' := [.rows 3 [(e_api_Water (law02_example))], .rows 4 [(e_api_Cycle y9.1)], .rows 4 (List.map e_api_Gauge ([(⟨3, 12, (⟨100, 110⟩ : api_Span)⟩ : api_Gauge), (⟨4, 15, (⟨133, 140⟩ : api_Span)⟩ : api_Gauge)])), .rows 2 [(e_api_Span y10.1)], .rows 1 (List.map V.i ([2, 32, 21, 1, 32, 22, 1, 31, 22, 2, 31, 21]))]) (X.on_t rfl rfl rfl h_32) rfl rfl rfl ?_
                    refine X.opR (X.on_t rfl rfl rfl h_32) rfl rfl ?_
                    refine X.callF (ok_ref02_SameCycle (h_31 h_32)) (X.on_t rfl rfl rfl h_32) rfl rfl (m := 9) rfl (.cons (.shut (n := 9) rfl) (.cons (FR.arg ⟨30, rfl⟩) .nil)) ?_
                    refine X.opR rfl (X.pickand_t (y := y12) rfl h_32 rfl) rfl ?_
                    refine X.opR rfl rfl rfl ?_
                    iterate 2 refine X.opR (X.on_t rfl rfl rfl h_33) rfl rfl ?_
                    refine X.opR rfl (X.pickand_t (y := decide (y10.2 = 0)) rfl h_33 rfl) rfl ?_
                    refine X.opR rfl rfl rfl ?_
                    iterate 2 refine X.opR (X.on_t rfl rfl rfl h_34) rfl rfl ?_
                    refine X.opR (X.on_t rfl rfl rfl h_34) (X.eqlE (eq_api_Span y10.1 (⟨101, 108⟩ : api_Span)) rfl rfl) rfl ?_
                    refine X.opR rfl (X.pickand_t (y := decide (y10.1 = (⟨101, 108⟩ : api_Span))) rfl h_34 rfl) rfl ?_
                    refine X.opR rfl rfl rfl ?_
                    iterate 2 refine X.opR (X.on_t rfl rfl rfl h_35) rfl rfl ?_
                    refine X.opR rfl (X.pickand_t (y := decide (y11.2.2 = 0)) rfl h_35 rfl) rfl ?_
                    refine X.opR rfl rfl rfl ?_
                    iterate 2 refine X.opR (X.on_t rfl rfl rfl h_36) rfl rfl ?_
                    refine X.opR rfl (X.pickand_t (y := decide (y11.1 = 4)) rfl h_36 rfl) rfl ?_
                    refine X.opR rfl rfl rfl ?_
                    iterate 2 refine X.off (X.off_t rfl rfl rfl h_37) rfl ?_
                    refine X.opR rfl (X.pickand_f (y := decide (y11.2.1 = 3)) rfl h_37 rfl) rfl ?_
                    refine X.opR rfl rfl rfl ?_
                    refine GS.opsNil ?_
                    exact X.gc [] hg rfl rfl rfl (gk_cons rfl ⟨9, rfl⟩ gk_nil) (gb_nil)
                · iterate 3 refine X.opR rfl rfl rfl ?_
                  refine X.opR (X.on_t rfl rfl rfl h_32) rfl rfl ?_
                  refine X.opW (H' := [.rows 3 [(e_api_Water (law02_example))], .rows 4 [(e_api_Cycle y9.1)], .rows 4 (List.map e_api_Gauge ([(⟨3, 12, (⟨100, 110⟩ : api_Span)⟩ : api_Gauge), (⟨4, 15, (⟨133, 140⟩ : api_Span)⟩ : api_Gauge)])), .rows 2 [(e_api_Span y10.1)], .rows 1 (List.map V.i ([2, 32, 21, 1, 32, 22, 1, 31, 22, 2, 31, 21]))]) (X.on_t rfl rfl rfl h_32) rfl rfl rfl ?_
                  refine X.opR (X.on_t rfl rfl rfl h_32) rfl rfl ?_
                  refine X.callF (ok_ref02_SameCycle (h_31 h_32)) (X.on_t rfl rfl rfl h_32) rfl rfl (m := 9) rfl (.cons (.shut (n := 9) rfl) (.cons (FR.arg ⟨30, rfl⟩) .nil)) ?_
                  refine X.opR rfl (X.pickand_t (y := y12) rfl h_32 rfl) rfl ?_
                  refine X.opR rfl rfl rfl ?_
                  iterate 2 refine X.opR (X.on_t rfl rfl rfl h_33) rfl rfl ?_
                  refine X.opR rfl (X.pickand_t (y := decide (y10.2 = 0)) rfl h_33 rfl) rfl ?_
                  refine X.opR rfl rfl rfl ?_
                  iterate 2 refine X.opR (X.on_t rfl rfl rfl h_34) rfl rfl ?_
                  refine X.opR (X.on_t rfl rfl rfl h_34) (X.eqlE (eq_api_Span y10.1 (⟨101, 108⟩ : api_Span)) rfl rfl) rfl ?_
                  refine X.opR rfl (X.pickand_t (y := decide (y10.1 = (⟨101, 108⟩ : api_Span))) rfl h_34 rfl) rfl ?_
                  refine X.opR rfl rfl rfl ?_
                  iterate 2 refine X.opR (X.on_t rfl rfl rfl h_35) rfl rfl ?_
                  refine X.opR rfl (X.pickand_t (y := decide (y11.2.2 = 0)) rfl h_35 rfl) rfl ?_
                  refine X.opR rfl rfl rfl ?_
                  iterate 2 refine X.off (X.off_t rfl rfl rfl h_36) rfl ?_
                  refine X.opR rfl (X.pickand_f (y := decide (y11.1 = 4)) rfl h_36 rfl) rfl ?_
                  refine X.opR rfl rfl rfl ?_
                  iterate 2 refine X.off (X.off_t rfl rfl rfl (X.and_ff h_36)) rfl ?_
                  refine X.opR rfl (X.pickand_f (y := decide (y11.2.1 = 3)) rfl (X.and_ff h_36) rfl) rfl ?_
                  refine X.opR rfl rfl rfl ?_
                  refine GS.opsNil ?_
                  exact X.gc [] hg rfl rfl rfl (gk_cons rfl ⟨9, rfl⟩ gk_nil) (gb_nil)
              · iterate 3 refine X.opR rfl rfl rfl ?_
                refine X.opR (X.on_t rfl rfl rfl h_32) rfl rfl ?_
                refine X.opW (H' := [.rows 3 [(e_api_Water (law02_example))], .rows 4 [(e_api_Cycle y9.1)], .rows 4 (List.map e_api_Gauge ([(⟨3, 12, (⟨100, 110⟩ : api_Span)⟩ : api_Gauge), (⟨4, 15, (⟨133, 140⟩ : api_Span)⟩ : api_Gauge)])), .rows 2 [(e_api_Span y10.1)], .rows 1 (List.map V.i ([2, 32, 21, 1, 32, 22, 1, 31, 22, 2, 31, 21]))]) (X.on_t rfl rfl rfl h_32) rfl rfl rfl ?_
                refine X.opR (X.on_t rfl rfl rfl h_32) rfl rfl ?_
                refine X.callF (ok_ref02_SameCycle (h_31 h_32)) (X.on_t rfl rfl rfl h_32) rfl rfl (m := 9) rfl (.cons (.shut (n := 9) rfl) (.cons (FR.arg ⟨30, rfl⟩) .nil)) ?_
                refine X.opR rfl (X.pickand_t (y := y12) rfl h_32 rfl) rfl ?_
                refine X.opR rfl rfl rfl ?_
                iterate 2 refine X.opR (X.on_t rfl rfl rfl h_33) rfl rfl ?_
                refine X.opR rfl (X.pickand_t (y := decide (y10.2 = 0)) rfl h_33 rfl) rfl ?_
                refine X.opR rfl rfl rfl ?_
                iterate 2 refine X.opR (X.on_t rfl rfl rfl h_34) rfl rfl ?_
                refine X.opR (X.on_t rfl rfl rfl h_34) (X.eqlE (eq_api_Span y10.1 (⟨101, 108⟩ : api_Span)) rfl rfl) rfl ?_
                refine X.opR rfl (X.pickand_t (y := decide (y10.1 = (⟨101, 108⟩ : api_Span))) rfl h_34 rfl) rfl ?_
                refine X.opR rfl rfl rfl ?_
                iterate 2 refine X.off (X.off_t rfl rfl rfl h_35) rfl ?_
                refine X.opR rfl (X.pickand_f (y := decide (y11.2.2 = 0)) rfl h_35 rfl) rfl ?_
                refine X.opR rfl rfl rfl ?_
                iterate 2 refine X.off (X.off_t rfl rfl rfl (X.and_ff h_35)) rfl ?_
                refine X.opR rfl (X.pickand_f (y := decide (y11.1 = 4)) rfl (X.and_ff h_35) rfl) rfl ?_
                refine X.opR rfl rfl rfl ?_
                iterate 2 refine X.off (X.off_t rfl rfl rfl (X.and_ff (X.and_ff h_35))) rfl ?_
                refine X.opR rfl (X.pickand_f (y := decide (y11.2.1 = 3)) rfl (X.and_ff (X.and_ff h_35)) rfl) rfl ?_
                refine X.opR rfl rfl rfl ?_
                refine GS.opsNil ?_
                exact X.gc [] hg rfl rfl rfl (gk_cons rfl ⟨9, rfl⟩ gk_nil) (gb_nil)
            · iterate 3 refine X.opR rfl rfl rfl ?_
              refine X.opR (X.on_t rfl rfl rfl h_32) rfl rfl ?_
              refine X.opW (H' := [.rows 3 [(e_api_Water (law02_example))], .rows 4 [(e_api_Cycle y9.1)], .rows 4 (List.map e_api_Gauge ([(⟨3, 12, (⟨100, 110⟩ : api_Span)⟩ : api_Gauge), (⟨4, 15, (⟨133, 140⟩ : api_Span)⟩ : api_Gauge)])), .rows 2 [(e_api_Span y10.1)], .rows 1 (List.map V.i ([2, 32, 21, 1, 32, 22, 1, 31, 22, 2, 31, 21]))]) (X.on_t rfl rfl rfl h_32) rfl rfl rfl ?_
              refine X.opR (X.on_t rfl rfl rfl h_32) rfl rfl ?_
              refine X.callF (ok_ref02_SameCycle (h_31 h_32)) (X.on_t rfl rfl rfl h_32) rfl rfl (m := 9) rfl (.cons (.shut (n := 9) rfl) (.cons (FR.arg ⟨30, rfl⟩) .nil)) ?_
              refine X.opR rfl (X.pickand_t (y := y12) rfl h_32 rfl) rfl ?_
              refine X.opR rfl rfl rfl ?_
              iterate 2 refine X.opR (X.on_t rfl rfl rfl h_33) rfl rfl ?_
              refine X.opR rfl (X.pickand_t (y := decide (y10.2 = 0)) rfl h_33 rfl) rfl ?_
              refine X.opR rfl rfl rfl ?_
              iterate 3 refine X.off (X.off_t rfl rfl rfl h_34) rfl ?_
              refine X.opR rfl (X.pickand_f (y := decide (y10.1 = (⟨101, 108⟩ : api_Span))) rfl h_34 rfl) rfl ?_
              refine X.opR rfl rfl rfl ?_
              iterate 2 refine X.off (X.off_t rfl rfl rfl (X.and_ff h_34)) rfl ?_
              refine X.opR rfl (X.pickand_f (y := decide (y11.2.2 = 0)) rfl (X.and_ff h_34) rfl) rfl ?_
              refine X.opR rfl rfl rfl ?_
              iterate 2 refine X.off (X.off_t rfl rfl rfl (X.and_ff (X.and_ff h_34))) rfl ?_
              refine X.opR rfl (X.pickand_f (y := decide (y11.1 = 4)) rfl (X.and_ff (X.and_ff h_34)) rfl) rfl ?_
              refine X.opR rfl rfl rfl ?_
              iterate 2 refine X.off (X.off_t rfl rfl rfl (X.and_ff (X.and_ff (X.and_ff h_34)))) rfl ?_
              refine X.opR rfl (X.pickand_f (y := decide (y11.2.1 = 3)) rfl (X.and_ff (X.and_ff (X.and_ff h_34))) rfl) rfl ?_
              refine X.opR rfl rfl rfl ?_
              refine GS.opsNil ?_
              exact X.gc [] hg rfl rfl rfl (gk_cons rfl ⟨9, rfl⟩ gk_nil) (gb_nil)
          · iterate 3 refine X.opR rfl rfl rfl ?_
            refine X.opR (X.on_t rfl rfl rfl h_32) rfl rfl ?_
            refine X.opW (H' := [.rows 3 [(e_api_Water (law02_example))], .rows 4 [(e_api_Cycle y9.1)], .rows 4 (List.map e_api_Gauge ([(⟨3, 12, (⟨100, 110⟩ : api_Span)⟩ : api_Gauge), (⟨4, 15, (⟨133, 140⟩ : api_Span)⟩ : api_Gauge)])), .rows 2 [(e_api_Span y10.1)], .rows 1 (List.map V.i ([2, 32, 21, 1, 32, 22, 1, 31, 22, 2, 31, 21]))]) (X.on_t rfl rfl rfl h_32) rfl rfl rfl ?_
            refine X.opR (X.on_t rfl rfl rfl h_32) rfl rfl ?_
            refine X.callF (ok_ref02_SameCycle (h_31 h_32)) (X.on_t rfl rfl rfl h_32) rfl rfl (m := 9) rfl (.cons (.shut (n := 9) rfl) (.cons (FR.arg ⟨30, rfl⟩) .nil)) ?_
            refine X.opR rfl (X.pickand_t (y := y12) rfl h_32 rfl) rfl ?_
            refine X.opR rfl rfl rfl ?_
            iterate 2 refine X.off (X.off_t rfl rfl rfl h_33) rfl ?_
            refine X.opR rfl (X.pickand_f (y := decide (y10.2 = 0)) rfl h_33 rfl) rfl ?_
            refine X.opR rfl rfl rfl ?_
            iterate 3 refine X.off (X.off_t rfl rfl rfl (X.and_ff h_33)) rfl ?_
            refine X.opR rfl (X.pickand_f (y := decide (y10.1 = (⟨101, 108⟩ : api_Span))) rfl (X.and_ff h_33) rfl) rfl ?_
            refine X.opR rfl rfl rfl ?_
            iterate 2 refine X.off (X.off_t rfl rfl rfl (X.and_ff (X.and_ff h_33))) rfl ?_
            refine X.opR rfl (X.pickand_f (y := decide (y11.2.2 = 0)) rfl (X.and_ff (X.and_ff h_33)) rfl) rfl ?_
            refine X.opR rfl rfl rfl ?_
            iterate 2 refine X.off (X.off_t rfl rfl rfl (X.and_ff (X.and_ff (X.and_ff h_33)))) rfl ?_
            refine X.opR rfl (X.pickand_f (y := decide (y11.1 = 4)) rfl (X.and_ff (X.and_ff (X.and_ff h_33))) rfl) rfl ?_
            refine X.opR rfl rfl rfl ?_
            iterate 2 refine X.off (X.off_t rfl rfl rfl (X.and_ff (X.and_ff (X.and_ff (X.and_ff h_33))))) rfl ?_
            refine X.opR rfl (X.pickand_f (y := decide (y11.2.1 = 3)) rfl (X.and_ff (X.and_ff (X.and_ff (X.and_ff h_33)))) rfl) rfl ?_
            refine X.opR rfl rfl rfl ?_
            refine GS.opsNil ?_
            exact X.gc [] hg rfl rfl rfl (gk_cons rfl ⟨9, rfl⟩ gk_nil) (gb_nil)
        · iterate 3 refine X.opR rfl rfl rfl ?_
          iterate 4 refine X.off (X.off_t rfl rfl rfl h_32) rfl ?_
          refine X.opR rfl (X.pickand_f (y := y12) rfl h_32 rfl) rfl ?_
          refine X.opR rfl rfl rfl ?_
          iterate 2 refine X.off (X.off_t rfl rfl rfl (X.and_ff h_32)) rfl ?_
          refine X.opR rfl (X.pickand_f (y := decide (y10.2 = 0)) rfl (X.and_ff h_32) rfl) rfl ?_
          refine X.opR rfl rfl rfl ?_
          iterate 3 refine X.off (X.off_t rfl rfl rfl (X.and_ff (X.and_ff h_32))) rfl ?_
          refine X.opR rfl (X.pickand_f (y := decide (y10.1 = (⟨101, 108⟩ : api_Span))) rfl (X.and_ff (X.and_ff h_32)) rfl) rfl ?_
          refine X.opR rfl rfl rfl ?_
          iterate 2 refine X.off (X.off_t rfl rfl rfl (X.and_ff (X.and_ff (X.and_ff h_32)))) rfl ?_
          refine X.opR rfl (X.pickand_f (y := decide (y11.2.2 = 0)) rfl (X.and_ff (X.and_ff (X.and_ff h_32))) rfl) rfl ?_
          refine X.opR rfl rfl rfl ?_
          iterate 2 refine X.off (X.off_t rfl rfl rfl (X.and_ff (X.and_ff (X.and_ff (X.and_ff h_32))))) rfl ?_
          refine X.opR rfl (X.pickand_f (y := decide (y11.1 = 4)) rfl (X.and_ff (X.and_ff (X.and_ff (X.and_ff h_32)))) rfl) rfl ?_
          refine X.opR rfl rfl rfl ?_
          iterate 2 refine X.off (X.off_t rfl rfl rfl (X.and_ff (X.and_ff (X.and_ff (X.and_ff (X.and_ff h_32)))))) rfl ?_
          refine X.opR rfl (X.pickand_f (y := decide (y11.2.1 = 3)) rfl (X.and_ff (X.and_ff (X.and_ff (X.and_ff (X.and_ff h_32))))) rfl) rfl ?_
          refine X.opR rfl rfl rfl ?_
          refine GS.opsNil ?_
          exact X.gc [] hg rfl rfl rfl (gk_cons rfl ⟨9, rfl⟩ gk_nil) (gb_nil)
      have hE := Option.some.inj hM
      subst hE
      exact GS.ret ⟨_, rfl, ⟨30, rfl⟩⟩

theorem ok_slices_Clone_Cycle {l r : List api_Cycle} (hM : slices_Clone_Cycle l = some r) : Ct Tryz.prog 69 [V.sl (List.map e_api_Cycle l)] (V.sl (List.map e_api_Cycle r)) := by
  unfold slices_Clone_Cycle at hM
  have hr : r = l := by obtain ⟨_, e⟩ := app_of hM; simpa using e
  refine ct_of_gs CC_ok rfl ?_
  refine GS.seq ?_
  refine GS.region ?_
  refine X.opR rfl rfl rfl ?_
  refine GS.opsNil ?_
  iterate 2 refine GS.seq ?_
  refine GS.region ?_
  refine X.opR rfl rfl rfl ?_
  refine X.nilEq rfl rfl rfl rfl rfl rfl (fun h => ?_) ?_
  · have hl : r = [] := by rw [hr]; simpa using h
    subst hl
    refine GS.opsNil ?_
    refine GS.condT rfl ?_
    refine GS.seq ?_
    refine GS.region ?_
    refine X.opR rfl rfl rfl ?_
    refine GS.opsNil ?_
    exact GS.ret ⟨_, rfl, ⟨30, rfl⟩⟩
  · refine GS.opsNil ?_
    refine GS.condF rfl ?_
    refine GS.skip ?_
    refine GS.seq ?_
    refine GS.region ?_
    refine X.opW rfl rfl rfl rfl ?_
    refine X.opR rfl rfl rfl ?_
    refine X.opW rfl (X.appO (f := e_api_Cycle) (l := []) (xs := l) hM (fun _ => rfl) rfl rfl rfl rfl rfl rfl rfl rfl rfl rfl) rfl rfl ?_
    refine X.opR rfl rfl rfl ?_
    refine GS.opsNil ?_
    exact GS.ret ⟨_, rfl, FR.osl (f := e_api_Cycle) (l := r) 9 rfl rfl (fun _ => rfl)⟩
theorem clone_Cycle {all os : List Oper} {k : List It} {K : List (Nat × V)} {H : List Blk} {lo n d N : Nat} {rnd : Option Nat} {Q : Ex → St → Prop} {p : Op} {ty : TypeId} {pos : String} {after : Array Edge} {g : Option (Nat × Bool)} {l r : List api_Cycle} (hM : app [] l = some r) (hw : wants all K g = some true) (hc : callee K p = some (.fn 69 [.sl (l.map e_api_Cycle)])) (hd : Nat.blt d n = true) (hlo : Nat.ble lo H.length = true) {i : Nat} (hi : H.length + 1 = i)
    (h : ∀ z : Bool, GS CC N (.ops all os :: k) ⟨(d, ovlz z i r) :: K, H ++ [.dead, oblz z 4 e_api_Cycle r], lo, rnd, n⟩ Q) : GS CC N (.ops all (⟨some d, p, ty, pos, after, g⟩ :: os) :: k) ⟨K, H, lo, rnd, n⟩ Q := by
  subst hi
  have hr : r = l := by obtain ⟨_, e⟩ := app_of hM; simpa using e
  refine GS.im (s := ⟨K, H, lo, rnd, n⟩) (fun v H1 => ∃ z : Bool, v = ovlz z (H.length + 1) r ∧ H1 = H ++ [.dead, oblz z 4 e_api_Cycle r]) hw hc rfl ?_ (fun v H1 hT => ?_)
  · refine GS.seq ?_
    refine GS.region ?_
    refine X.opR rfl rfl rfl ?_
    refine GS.opsNil ?_
    iterate 2 refine GS.seq ?_
    refine GS.region ?_
    refine X.opR rfl rfl rfl ?_
    refine X.nilEq rfl rfl rfl rfl rfl rfl (fun h => ?_) ?_
    · have hl : r = [] := by rw [hr]; simpa using h
      subst hl
      refine GS.opsNil ?_
      refine GS.condT rfl ?_
      refine GS.seq ?_
      refine GS.region ?_
      refine X.opR rfl rfl rfl ?_
      refine GS.opsNil ?_
      refine GS.pad ?_
      refine GS.pad ?_
      exact GS.ret ⟨_, rfl, true, rfl, by simp [oblz]⟩
    · refine GS.opsNil ?_
      refine GS.condF rfl ?_
      refine GS.skip ?_
      refine GS.seq ?_
      refine GS.region ?_
      refine X.opW rfl (v := .osl H.length 0 0) (wr := [(H.length, .rows 4 [])]) rfl X.puts_end rfl ?_
      refine X.opR rfl rfl rfl ?_
      refine X.opW (H' := H ++ [.dead, .rows 4 (r.map e_api_Cycle)]) rfl (X.appO (f := e_api_Cycle) (l := []) (xs := l) (es := 4) hM (fun _ => rfl) rfl rfl rfl rfl rfl rfl X.hget_end hlo rfl rfl) ?_ rfl ?_
      · show hput (hput (H ++ [Blk.rows 4 []]) H.length Blk.dead) (H ++ [Blk.rows 4 []]).length (Blk.rows 4 (r.map e_api_Cycle)) = _
        have e1 : hput (H ++ [Blk.rows 4 []]) H.length Blk.dead = H ++ [Blk.dead] := X.puts_end' (B := .rows 4 []) (B' := .dead)
        rw [e1, show (H ++ [Blk.rows 4 []]).length = (H ++ [Blk.dead]).length by simp, hput_end]
        simp
      refine X.opR rfl rfl rfl ?_
      refine GS.opsNil ?_
      exact GS.ret ⟨_, rfl, false, by simp [ovlz], rfl⟩
  · obtain ⟨z, rfl, rfl⟩ := hT
    exact X.front rfl hd (h z) rfl

theorem delO_of {α : Type} {l r : List α} {i j : Int} (h : delO l i j = some r) : 0 ≤ i ∧ i < j ∧ j ≤ l.length ∧ r = l.take i.toNat ++ l.drop j.toNat := by
  unfold delO at h
  split at h
  · rename_i hc; exact ⟨hc.1, hc.2.1, hc.2.2, (Option.some.inj h).symm⟩
  · cases h
set_option maxHeartbeats 4000000 in
theorem del_Cycle {all os : List Oper} {k : List It} {K : List (Nat × V)} {H : List Blk} {lo n d id : Nat} {rnd : Option Nat} {Q : Ex → St → Prop} {p : Op} {ty : TypeId} {pos : String} {after : Array Edge} {g : Option (Nat × Bool)} {z : Bool} {l r : List api_Cycle} {i j : Int} (hM : delO l i j = some r) (hw : wants all K g = some true) (hc : callee K p = some (.fn 68 [ovlz z id l, .i i, .i j])) (hd : Nat.blt d n = true) (hlo : Nat.ble lo id = true) (hg : hget H id = oblz z 4 e_api_Cycle l)
    (h : GS CC 0 (.ops all os :: k) ⟨(d, .sl (r.map e_api_Cycle)) :: K, hput H id .dead, lo, rnd, n⟩ Q) : GS CC 0 (.ops all (⟨some d, p, ty, pos, after, g⟩ :: os) :: k) ⟨K, H, lo, rnd, n⟩ Q := by
  obtain ⟨q0, q1, q2, rfl⟩ := delO_of hM
  obtain ⟨a, rfl⟩ := Int.eq_ofNat_of_zero_le q0
  obtain ⟨b, rfl⟩ := Int.eq_ofNat_of_zero_le (by omega : 0 ≤ j)
  have hab : a < b := by omega
  have hbn : b ≤ l.length := by omega
  simp only [Int.toNat_natCast] at h
  have hne : l ≠ [] := by intro e; subst e; simp at hbn; omega
  rw [ovl_ne hne] at hc
  rw [obl_ne hne] at hg
  have hid : id ≤ H.length := Nat.le_of_lt (get_lt (hget_rows hg))
  have hlo' := Nat.le_of_ble_eq_true hlo
  have hml : (l.map e_api_Cycle).length = l.length := List.length_map ..
  refine GS.im (s := ⟨K, H, lo, rnd, n⟩) (fun v H1 => ∃ R : List V, v = .osl id 0 (a + (l.length - b)) ∧ H1 = hput H id (.rows 4 R) ∧ R.length = l.length ∧ R.take (a + (l.length - b)) = (l.take a ++ l.drop b).map e_api_Cycle) hw hc rfl ?_ (fun v H1 hT => ?_)
  · refine GS.seq ?_
    refine GS.region ?_
    refine X.opR rfl rfl rfl ?_
    refine GS.opsNil ?_
    refine GS.seq ?_
    refine GS.region ?_
    iterate 4 refine X.opR rfl rfl rfl ?_
    refine X.opR rfl (X.lenOn rfl rfl rfl) rfl ?_
    refine GS.sliceDrop rfl rfl rfl rfl rfl rfl rfl rfl (Nat.le_of_lt hab) hbn (Nat.le_refl _) rfl ?_
    refine GS.opsNil ?_
    iterate 2 refine GS.seq ?_
    refine GS.region ?_
    iterate 3 refine X.opR rfl rfl rfl ?_
    refine GS.opsNil ?_
    refine X.cond rfl (fun h => ?_) (fun _ => ?_)
    · have := of_decide_eq_true h; omega
    refine GS.skip ?_
    refine GS.seq ?_
    refine GS.region ?_
    refine X.opR rfl rfl rfl ?_
    refine X.opR rfl (X.lenOn rfl rfl rfl) rfl ?_
    refine X.opR rfl rfl rfl ?_
    refine GS.opsNil ?_
    refine GS.seq ?_
    refine X.midS ⟨[(7, V.i (l.length : Nat)), (0, V.osl id 0 (a + (l.length - b)))], puts H [(id, .rows 4 ((l.map e_api_Cycle).take a ++ (l.map e_api_Cycle).drop b ++ (l.map e_api_Cycle).drop (a + (l.length - b))))], lo, none, 33⟩ (fun hk => X.drawAll [[0, 1, 2, 3, 4, 5, 6, 7], [0, 1, 2, 4, 3, 5, 6, 7], [0, 1, 3, 2, 4, 5, 6, 7], [0, 1, 3, 4, 2, 5, 6, 7], [0, 1, 3, 4, 5, 2, 6, 7], [0, 1, 4, 2, 3, 5, 6, 7], [0, 1, 4, 3, 2, 5, 6, 7], [0, 1, 4, 3, 5, 2, 6, 7], [0, 3, 1, 2, 4, 5, 6, 7], [0, 3, 1, 4, 2, 5, 6, 7], [0, 3, 1, 4, 5, 2, 6, 7], [0, 3, 4, 1, 2, 5, 6, 7], [0, 3, 4, 1, 5, 2, 6, 7], [0, 3, 4, 5, 1, 2, 6, 7], [0, 4, 1, 2, 3, 5, 6, 7], [0, 4, 1, 3, 2, 5, 6, 7], [0, 4, 1, 3, 5, 2, 6, 7], [0, 4, 3, 1, 2, 5, 6, 7], [0, 4, 3, 1, 5, 2, 6, 7], [0, 4, 3, 5, 1, 2, 6, 7], [1, 0, 2, 3, 4, 5, 6, 7], [1, 0, 2, 4, 3, 5, 6, 7], [1, 0, 3, 2, 4, 5, 6, 7], [1, 0, 3, 4, 2, 5, 6, 7], [1, 0, 3, 4, 5, 2, 6, 7], [1, 0, 4, 2, 3, 5, 6, 7], [1, 0, 4, 3, 2, 5, 6, 7], [1, 0, 4, 3, 5, 2, 6, 7], [1, 3, 0, 2, 4, 5, 6, 7], [1, 3, 0, 4, 2, 5, 6, 7], [1, 3, 0, 4, 5, 2, 6, 7], [1, 3, 4, 0, 2, 5, 6, 7], [1, 3, 4, 0, 5, 2, 6, 7], [1, 3, 4, 5, 0, 2, 6, 7], [1, 4, 0, 2, 3, 5, 6, 7], [1, 4, 0, 3, 2, 5, 6, 7], [1, 4, 0, 3, 5, 2, 6, 7], [1, 4, 3, 0, 2, 5, 6, 7], [1, 4, 3, 0, 5, 2, 6, 7], [1, 4, 3, 5, 0, 2, 6, 7], [3, 0, 1, 2, 4, 5, 6, 7], [3, 0, 1, 4, 2, 5, 6, 7], [3, 0, 1, 4, 5, 2, 6, 7], [3, 0, 4, 1, 2, 5, 6, 7], [3, 0, 4, 1, 5, 2, 6, 7], [3, 0, 4, 5, 1, 2, 6, 7], [3, 1, 0, 2, 4, 5, 6, 7], [3, 1, 0, 4, 2, 5, 6, 7], [3, 1, 0, 4, 5, 2, 6, 7], [3, 1, 4, 0, 2, 5, 6, 7], [3, 1, 4, 0, 5, 2, 6, 7], [3, 1, 4, 5, 0, 2, 6, 7], [3, 4, 0, 1, 2, 5, 6, 7], [3, 4, 0, 1, 5, 2, 6, 7], [3, 4, 0, 5, 1, 2, 6, 7], [3, 4, 1, 0, 2, 5, 6, 7], [3, 4, 1, 0, 5, 2, 6, 7], [3, 4, 1, 5, 0, 2, 6, 7], [3, 4, 5, 0, 1, 2, 6, 7], [3, 4, 5, 1, 0, 2, 6, 7], [4, 0, 1, 2, 3, 5, 6, 7], [4, 0, 1, 3, 2, 5, 6, 7], [4, 0, 1, 3, 5, 2, 6, 7], [4, 0, 3, 1, 2, 5, 6, 7], [4, 0, 3, 1, 5, 2, 6, 7], [4, 0, 3, 5, 1, 2, 6, 7], [4, 1, 0, 2, 3, 5, 6, 7], [4, 1, 0, 3, 2, 5, 6, 7], [4, 1, 0, 3, 5, 2, 6, 7], [4, 1, 3, 0, 2, 5, 6, 7], [4, 1, 3, 0, 5, 2, 6, 7], [4, 1, 3, 5, 0, 2, 6, 7], [4, 3, 0, 1, 2, 5, 6, 7], [4, 3, 0, 1, 5, 2, 6, 7], [4, 3, 0, 5, 1, 2, 6, 7], [4, 3, 1, 0, 2, 5, 6, 7], [4, 3, 1, 0, 5, 2, 6, 7], [4, 3, 1, 5, 0, 2, 6, 7], [4, 3, 5, 0, 1, 2, 6, 7], [4, 3, 5, 1, 0, 2, 6, 7]] (by kernel_rfl) ?_) ?_
    · have h2 : a ≤ (l.map e_api_Cycle).length := by rw [hml]; omega
      have h3 : l.length ≤ (l.map e_api_Cycle).length := Nat.le_of_eq hml.symm
      refine X.all_cons ?_ ?_
      · iterate 2 refine X.opR rfl rfl rfl ?_
        refine X.opR rfl (X.slO (a := 0) (b := a) rfl rfl rfl rfl rfl hg rfl rfl (Nat.zero_le _) h2) rfl ?_
        iterate 2 refine X.opR rfl rfl rfl ?_
        refine X.opR rfl (X.slO (a := b) (b := l.length) rfl rfl rfl rfl rfl hg rfl rfl hbn h3) rfl ?_
        refine X.opW rfl (X.appI rfl rfl rfl rfl rfl rfl hg hml (fun r hr => by obtain ⟨x, _, rfl⟩ := List.mem_map.1 hr; rfl) hlo hab hbn) rfl rfl ?_
        refine X.opR rfl rfl rfl ?_
        exact GS.opsNil (X.norm _ hk rfl (W.sub_cons rfl (W.sub_cons rfl W.sub_nil)))
      refine X.all_cons ?_ ?_
      · iterate 2 refine X.opR rfl rfl rfl ?_
        refine X.opR rfl (X.slO (a := 0) (b := a) rfl rfl rfl rfl rfl hg rfl rfl (Nat.zero_le _) h2) rfl ?_
        iterate 2 refine X.opR rfl rfl rfl ?_
        refine X.opR rfl (X.slO (a := b) (b := l.length) rfl rfl rfl rfl rfl hg rfl rfl hbn h3) rfl ?_
        refine X.opW rfl (X.appI rfl rfl rfl rfl rfl rfl hg hml (fun r hr => by obtain ⟨x, _, rfl⟩ := List.mem_map.1 hr; rfl) hlo hab hbn) rfl rfl ?_
        refine X.opR rfl rfl rfl ?_
        exact GS.opsNil (X.norm _ hk rfl (W.sub_cons rfl (W.sub_cons rfl W.sub_nil)))
      refine X.all_cons ?_ ?_
      · iterate 3 refine X.opR rfl rfl rfl ?_
        refine X.opR rfl (X.slO (a := 0) (b := a) rfl rfl rfl rfl rfl hg rfl rfl (Nat.zero_le _) h2) rfl ?_
        refine X.opR rfl rfl rfl ?_
        refine X.opR rfl (X.slO (a := b) (b := l.length) rfl rfl rfl rfl rfl hg rfl rfl hbn h3) rfl ?_
        refine X.opW rfl (X.appI rfl rfl rfl rfl rfl rfl hg hml (fun r hr => by obtain ⟨x, _, rfl⟩ := List.mem_map.1 hr; rfl) hlo hab hbn) rfl rfl ?_
        refine X.opR rfl rfl rfl ?_
        exact GS.opsNil (X.norm _ hk rfl (W.sub_cons rfl (W.sub_cons rfl W.sub_nil)))
      refine X.all_cons ?_ ?_
      · iterate 4 refine X.opR rfl rfl rfl ?_
        refine X.opR rfl (X.slO (a := 0) (b := a) rfl rfl rfl rfl rfl hg rfl rfl (Nat.zero_le _) h2) rfl ?_
        refine X.opR rfl (X.slO (a := b) (b := l.length) rfl rfl rfl rfl rfl hg rfl rfl hbn h3) rfl ?_
        refine X.opW rfl (X.appI rfl rfl rfl rfl rfl rfl hg hml (fun r hr => by obtain ⟨x, _, rfl⟩ := List.mem_map.1 hr; rfl) hlo hab hbn) rfl rfl ?_
        refine X.opR rfl rfl rfl ?_
        exact GS.opsNil (X.norm _ hk rfl (W.sub_cons rfl (W.sub_cons rfl W.sub_nil)))
      refine X.all_cons ?_ ?_
      · iterate 4 refine X.opR rfl rfl rfl ?_
        refine X.opR rfl (X.slO (a := b) (b := l.length) rfl rfl rfl rfl rfl hg rfl rfl hbn h3) rfl ?_
        refine X.opR rfl (X.slO (a := 0) (b := a) rfl rfl rfl rfl rfl hg rfl rfl (Nat.zero_le _) h2) rfl ?_
        refine X.opW rfl (X.appI rfl rfl rfl rfl rfl rfl hg hml (fun r hr => by obtain ⟨x, _, rfl⟩ := List.mem_map.1 hr; rfl) hlo hab hbn) rfl rfl ?_
        refine X.opR rfl rfl rfl ?_
        exact GS.opsNil (X.norm _ hk rfl (W.sub_cons rfl (W.sub_cons rfl W.sub_nil)))
      refine X.all_cons ?_ ?_
      · iterate 3 refine X.opR rfl rfl rfl ?_
        refine X.opR rfl (X.slO (a := 0) (b := a) rfl rfl rfl rfl rfl hg rfl rfl (Nat.zero_le _) h2) rfl ?_
        refine X.opR rfl rfl rfl ?_
        refine X.opR rfl (X.slO (a := b) (b := l.length) rfl rfl rfl rfl rfl hg rfl rfl hbn h3) rfl ?_
        refine X.opW rfl (X.appI rfl rfl rfl rfl rfl rfl hg hml (fun r hr => by obtain ⟨x, _, rfl⟩ := List.mem_map.1 hr; rfl) hlo hab hbn) rfl rfl ?_
        refine X.opR rfl rfl rfl ?_
        exact GS.opsNil (X.norm _ hk rfl (W.sub_cons rfl (W.sub_cons rfl W.sub_nil)))
      refine X.all_cons ?_ ?_
      · iterate 4 refine X.opR rfl rfl rfl ?_
        refine X.opR rfl (X.slO (a := 0) (b := a) rfl rfl rfl rfl rfl hg rfl rfl (Nat.zero_le _) h2) rfl ?_
        refine X.opR rfl (X.slO (a := b) (b := l.length) rfl rfl rfl rfl rfl hg rfl rfl hbn h3) rfl ?_
        refine X.opW rfl (X.appI rfl rfl rfl rfl rfl rfl hg hml (fun r hr => by obtain ⟨x, _, rfl⟩ := List.mem_map.1 hr; rfl) hlo hab hbn) rfl rfl ?_
        refine X.opR rfl rfl rfl ?_
        exact GS.opsNil (X.norm _ hk rfl (W.sub_cons rfl (W.sub_cons rfl W.sub_nil)))
      refine X.all_cons ?_ ?_
      · iterate 4 refine X.opR rfl rfl rfl ?_
        refine X.opR rfl (X.slO (a := b) (b := l.length) rfl rfl rfl rfl rfl hg rfl rfl hbn h3) rfl ?_
        refine X.opR rfl (X.slO (a := 0) (b := a) rfl rfl rfl rfl rfl hg rfl rfl (Nat.zero_le _) h2) rfl ?_
        refine X.opW rfl (X.appI rfl rfl rfl rfl rfl rfl hg hml (fun r hr => by obtain ⟨x, _, rfl⟩ := List.mem_map.1 hr; rfl) hlo hab hbn) rfl rfl ?_
        refine X.opR rfl rfl rfl ?_
        exact GS.opsNil (X.norm _ hk rfl (W.sub_cons rfl (W.sub_cons rfl W.sub_nil)))
      refine X.all_cons ?_ ?_
      · iterate 3 refine X.opR rfl rfl rfl ?_
        refine X.opR rfl (X.slO (a := 0) (b := a) rfl rfl rfl rfl rfl hg rfl rfl (Nat.zero_le _) h2) rfl ?_
        refine X.opR rfl rfl rfl ?_
        refine X.opR rfl (X.slO (a := b) (b := l.length) rfl rfl rfl rfl rfl hg rfl rfl hbn h3) rfl ?_
        refine X.opW rfl (X.appI rfl rfl rfl rfl rfl rfl hg hml (fun r hr => by obtain ⟨x, _, rfl⟩ := List.mem_map.1 hr; rfl) hlo hab hbn) rfl rfl ?_
        refine X.opR rfl rfl rfl ?_
        exact GS.opsNil (X.norm _ hk rfl (W.sub_cons rfl (W.sub_cons rfl W.sub_nil)))
      refine X.all_cons ?_ ?_
      · iterate 4 refine X.opR rfl rfl rfl ?_
        refine X.opR rfl (X.slO (a := 0) (b := a) rfl rfl rfl rfl rfl hg rfl rfl (Nat.zero_le _) h2) rfl ?_
        refine X.opR rfl (X.slO (a := b) (b := l.length) rfl rfl rfl rfl rfl hg rfl rfl hbn h3) rfl ?_
        refine X.opW rfl (X.appI rfl rfl rfl rfl rfl rfl hg hml (fun r hr => by obtain ⟨x, _, rfl⟩ := List.mem_map.1 hr; rfl) hlo hab hbn) rfl rfl ?_
        refine X.opR rfl rfl rfl ?_
        exact GS.opsNil (X.norm _ hk rfl (W.sub_cons rfl (W.sub_cons rfl W.sub_nil)))
      refine X.all_cons ?_ ?_
      · iterate 4 refine X.opR rfl rfl rfl ?_
        refine X.opR rfl (X.slO (a := b) (b := l.length) rfl rfl rfl rfl rfl hg rfl rfl hbn h3) rfl ?_
        refine X.opR rfl (X.slO (a := 0) (b := a) rfl rfl rfl rfl rfl hg rfl rfl (Nat.zero_le _) h2) rfl ?_
        refine X.opW rfl (X.appI rfl rfl rfl rfl rfl rfl hg hml (fun r hr => by obtain ⟨x, _, rfl⟩ := List.mem_map.1 hr; rfl) hlo hab hbn) rfl rfl ?_
        refine X.opR rfl rfl rfl ?_
        exact GS.opsNil (X.norm _ hk rfl (W.sub_cons rfl (W.sub_cons rfl W.sub_nil)))
      refine X.all_cons ?_ ?_
      · iterate 4 refine X.opR rfl rfl rfl ?_
        refine X.opR rfl (X.slO (a := 0) (b := a) rfl rfl rfl rfl rfl hg rfl rfl (Nat.zero_le _) h2) rfl ?_
        refine X.opR rfl (X.slO (a := b) (b := l.length) rfl rfl rfl rfl rfl hg rfl rfl hbn h3) rfl ?_
        refine X.opW rfl (X.appI rfl rfl rfl rfl rfl rfl hg hml (fun r hr => by obtain ⟨x, _, rfl⟩ := List.mem_map.1 hr; rfl) hlo hab hbn) rfl rfl ?_
        refine X.opR rfl rfl rfl ?_
        exact GS.opsNil (X.norm _ hk rfl (W.sub_cons rfl (W.sub_cons rfl W.sub_nil)))
      refine X.all_cons ?_ ?_
      · iterate 4 refine X.opR rfl rfl rfl ?_
        refine X.opR rfl (X.slO (a := b) (b := l.length) rfl rfl rfl rfl rfl hg rfl rfl hbn h3) rfl ?_
        refine X.opR rfl (X.slO (a := 0) (b := a) rfl rfl rfl rfl rfl hg rfl rfl (Nat.zero_le _) h2) rfl ?_
        refine X.opW rfl (X.appI rfl rfl rfl rfl rfl rfl hg hml (fun r hr => by obtain ⟨x, _, rfl⟩ := List.mem_map.1 hr; rfl) hlo hab hbn) rfl rfl ?_
        refine X.opR rfl rfl rfl ?_
        exact GS.opsNil (X.norm _ hk rfl (W.sub_cons rfl (W.sub_cons rfl W.sub_nil)))
      refine X.all_cons ?_ ?_
      · iterate 3 refine X.opR rfl rfl rfl ?_
        refine X.opR rfl (X.slO (a := b) (b := l.length) rfl rfl rfl rfl rfl hg rfl rfl hbn h3) rfl ?_
        refine X.opR rfl rfl rfl ?_
        refine X.opR rfl (X.slO (a := 0) (b := a) rfl rfl rfl rfl rfl hg rfl rfl (Nat.zero_le _) h2) rfl ?_
        refine X.opW rfl (X.appI rfl rfl rfl rfl rfl rfl hg hml (fun r hr => by obtain ⟨x, _, rfl⟩ := List.mem_map.1 hr; rfl) hlo hab hbn) rfl rfl ?_
        refine X.opR rfl rfl rfl ?_
        exact GS.opsNil (X.norm _ hk rfl (W.sub_cons rfl (W.sub_cons rfl W.sub_nil)))
      refine X.all_cons ?_ ?_
      · iterate 3 refine X.opR rfl rfl rfl ?_
        refine X.opR rfl (X.slO (a := 0) (b := a) rfl rfl rfl rfl rfl hg rfl rfl (Nat.zero_le _) h2) rfl ?_
        refine X.opR rfl rfl rfl ?_
        refine X.opR rfl (X.slO (a := b) (b := l.length) rfl rfl rfl rfl rfl hg rfl rfl hbn h3) rfl ?_
        refine X.opW rfl (X.appI rfl rfl rfl rfl rfl rfl hg hml (fun r hr => by obtain ⟨x, _, rfl⟩ := List.mem_map.1 hr; rfl) hlo hab hbn) rfl rfl ?_
        refine X.opR rfl rfl rfl ?_
        exact GS.opsNil (X.norm _ hk rfl (W.sub_cons rfl (W.sub_cons rfl W.sub_nil)))
      refine X.all_cons ?_ ?_
      · iterate 4 refine X.opR rfl rfl rfl ?_
        refine X.opR rfl (X.slO (a := 0) (b := a) rfl rfl rfl rfl rfl hg rfl rfl (Nat.zero_le _) h2) rfl ?_
        refine X.opR rfl (X.slO (a := b) (b := l.length) rfl rfl rfl rfl rfl hg rfl rfl hbn h3) rfl ?_
        refine X.opW rfl (X.appI rfl rfl rfl rfl rfl rfl hg hml (fun r hr => by obtain ⟨x, _, rfl⟩ := List.mem_map.1 hr; rfl) hlo hab hbn) rfl rfl ?_
        refine X.opR rfl rfl rfl ?_
        exact GS.opsNil (X.norm _ hk rfl (W.sub_cons rfl (W.sub_cons rfl W.sub_nil)))
      refine X.all_cons ?_ ?_
      · iterate 4 refine X.opR rfl rfl rfl ?_
        refine X.opR rfl (X.slO (a := b) (b := l.length) rfl rfl rfl rfl rfl hg rfl rfl hbn h3) rfl ?_
        refine X.opR rfl (X.slO (a := 0) (b := a) rfl rfl rfl rfl rfl hg rfl rfl (Nat.zero_le _) h2) rfl ?_
        refine X.opW rfl (X.appI rfl rfl rfl rfl rfl rfl hg hml (fun r hr => by obtain ⟨x, _, rfl⟩ := List.mem_map.1 hr; rfl) hlo hab hbn) rfl rfl ?_
        refine X.opR rfl rfl rfl ?_
        exact GS.opsNil (X.norm _ hk rfl (W.sub_cons rfl (W.sub_cons rfl W.sub_nil)))
      refine X.all_cons ?_ ?_
      · iterate 4 refine X.opR rfl rfl rfl ?_
        refine X.opR rfl (X.slO (a := 0) (b := a) rfl rfl rfl rfl rfl hg rfl rfl (Nat.zero_le _) h2) rfl ?_
        refine X.opR rfl (X.slO (a := b) (b := l.length) rfl rfl rfl rfl rfl hg rfl rfl hbn h3) rfl ?_
        refine X.opW rfl (X.appI rfl rfl rfl rfl rfl rfl hg hml (fun r hr => by obtain ⟨x, _, rfl⟩ := List.mem_map.1 hr; rfl) hlo hab hbn) rfl rfl ?_
        refine X.opR rfl rfl rfl ?_
        exact GS.opsNil (X.norm _ hk rfl (W.sub_cons rfl (W.sub_cons rfl W.sub_nil)))
      refine X.all_cons ?_ ?_
      · iterate 4 refine X.opR rfl rfl rfl ?_
        refine X.opR rfl (X.slO (a := b) (b := l.length) rfl rfl rfl rfl rfl hg rfl rfl hbn h3) rfl ?_
        refine X.opR rfl (X.slO (a := 0) (b := a) rfl rfl rfl rfl rfl hg rfl rfl (Nat.zero_le _) h2) rfl ?_
        refine X.opW rfl (X.appI rfl rfl rfl rfl rfl rfl hg hml (fun r hr => by obtain ⟨x, _, rfl⟩ := List.mem_map.1 hr; rfl) hlo hab hbn) rfl rfl ?_
        refine X.opR rfl rfl rfl ?_
        exact GS.opsNil (X.norm _ hk rfl (W.sub_cons rfl (W.sub_cons rfl W.sub_nil)))
      refine X.all_cons ?_ ?_
      · iterate 3 refine X.opR rfl rfl rfl ?_
        refine X.opR rfl (X.slO (a := b) (b := l.length) rfl rfl rfl rfl rfl hg rfl rfl hbn h3) rfl ?_
        refine X.opR rfl rfl rfl ?_
        refine X.opR rfl (X.slO (a := 0) (b := a) rfl rfl rfl rfl rfl hg rfl rfl (Nat.zero_le _) h2) rfl ?_
        refine X.opW rfl (X.appI rfl rfl rfl rfl rfl rfl hg hml (fun r hr => by obtain ⟨x, _, rfl⟩ := List.mem_map.1 hr; rfl) hlo hab hbn) rfl rfl ?_
        refine X.opR rfl rfl rfl ?_
        exact GS.opsNil (X.norm _ hk rfl (W.sub_cons rfl (W.sub_cons rfl W.sub_nil)))
      refine X.all_cons ?_ ?_
      · iterate 2 refine X.opR rfl rfl rfl ?_
        refine X.opR rfl (X.slO (a := 0) (b := a) rfl rfl rfl rfl rfl hg rfl rfl (Nat.zero_le _) h2) rfl ?_
        iterate 2 refine X.opR rfl rfl rfl ?_
        refine X.opR rfl (X.slO (a := b) (b := l.length) rfl rfl rfl rfl rfl hg rfl rfl hbn h3) rfl ?_
        refine X.opW rfl (X.appI rfl rfl rfl rfl rfl rfl hg hml (fun r hr => by obtain ⟨x, _, rfl⟩ := List.mem_map.1 hr; rfl) hlo hab hbn) rfl rfl ?_
        refine X.opR rfl rfl rfl ?_
        exact GS.opsNil (X.norm _ hk rfl (W.sub_cons rfl (W.sub_cons rfl W.sub_nil)))
      refine X.all_cons ?_ ?_
      · iterate 2 refine X.opR rfl rfl rfl ?_
        refine X.opR rfl (X.slO (a := 0) (b := a) rfl rfl rfl rfl rfl hg rfl rfl (Nat.zero_le _) h2) rfl ?_
        iterate 2 refine X.opR rfl rfl rfl ?_
        refine X.opR rfl (X.slO (a := b) (b := l.length) rfl rfl rfl rfl rfl hg rfl rfl hbn h3) rfl ?_
        refine X.opW rfl (X.appI rfl rfl rfl rfl rfl rfl hg hml (fun r hr => by obtain ⟨x, _, rfl⟩ := List.mem_map.1 hr; rfl) hlo hab hbn) rfl rfl ?_
        refine X.opR rfl rfl rfl ?_
        exact GS.opsNil (X.norm _ hk rfl (W.sub_cons rfl (W.sub_cons rfl W.sub_nil)))
      refine X.all_cons ?_ ?_
      · iterate 3 refine X.opR rfl rfl rfl ?_
        refine X.opR rfl (X.slO (a := 0) (b := a) rfl rfl rfl rfl rfl hg rfl rfl (Nat.zero_le _) h2) rfl ?_
        refine X.opR rfl rfl rfl ?_
        refine X.opR rfl (X.slO (a := b) (b := l.length) rfl rfl rfl rfl rfl hg rfl rfl hbn h3) rfl ?_
        refine X.opW rfl (X.appI rfl rfl rfl rfl rfl rfl hg hml (fun r hr => by obtain ⟨x, _, rfl⟩ := List.mem_map.1 hr; rfl) hlo hab hbn) rfl rfl ?_
        refine X.opR rfl rfl rfl ?_
        exact GS.opsNil (X.norm _ hk rfl (W.sub_cons rfl (W.sub_cons rfl W.sub_nil)))
      refine X.all_cons ?_ ?_
      · iterate 4 refine X.opR rfl rfl rfl ?_
        refine X.opR rfl (X.slO (a := 0) (b := a) rfl rfl rfl rfl rfl hg rfl rfl (Nat.zero_le _) h2) rfl ?_
        refine X.opR rfl (X.slO (a := b) (b := l.length) rfl rfl rfl rfl rfl hg rfl rfl hbn h3) rfl ?_
        refine X.opW rfl (X.appI rfl rfl rfl rfl rfl rfl hg hml (fun r hr => by obtain ⟨x, _, rfl⟩ := List.mem_map.1 hr; rfl) hlo hab hbn) rfl rfl ?_
        refine X.opR rfl rfl rfl ?_
        exact GS.opsNil (X.norm _ hk rfl (W.sub_cons rfl (W.sub_cons rfl W.sub_nil)))
      refine X.all_cons ?_ ?_
      · iterate 4 refine X.opR rfl rfl rfl ?_
        refine X.opR rfl (X.slO (a := b) (b := l.length) rfl rfl rfl rfl rfl hg rfl rfl hbn h3) rfl ?_
        refine X.opR rfl (X.slO (a := 0) (b := a) rfl rfl rfl rfl rfl hg rfl rfl (Nat.zero_le _) h2) rfl ?_
        refine X.opW rfl (X.appI rfl rfl rfl rfl rfl rfl hg hml (fun r hr => by obtain ⟨x, _, rfl⟩ := List.mem_map.1 hr; rfl) hlo hab hbn) rfl rfl ?_
        refine X.opR rfl rfl rfl ?_
        exact GS.opsNil (X.norm _ hk rfl (W.sub_cons rfl (W.sub_cons rfl W.sub_nil)))
      refine X.all_cons ?_ ?_
      · iterate 3 refine X.opR rfl rfl rfl ?_
        refine X.opR rfl (X.slO (a := 0) (b := a) rfl rfl rfl rfl rfl hg rfl rfl (Nat.zero_le _) h2) rfl ?_
        refine X.opR rfl rfl rfl ?_
        refine X.opR rfl (X.slO (a := b) (b := l.length) rfl rfl rfl rfl rfl hg rfl rfl hbn h3) rfl ?_
        refine X.opW rfl (X.appI rfl rfl rfl rfl rfl rfl hg hml (fun r hr => by obtain ⟨x, _, rfl⟩ := List.mem_map.1 hr; rfl) hlo hab hbn) rfl rfl ?_
        refine X.opR rfl rfl rfl ?_
        exact GS.opsNil (X.norm _ hk rfl (W.sub_cons rfl (W.sub_cons rfl W.sub_nil)))
      refine X.all_cons ?_ ?_
      · iterate 4 refine X.opR rfl rfl rfl ?_
        refine X.opR rfl (X.slO (a := 0) (b := a) rfl rfl rfl rfl rfl hg rfl rfl (Nat.zero_le _) h2) rfl ?_
        refine X.opR rfl (X.slO (a := b) (b := l.length) rfl rfl rfl rfl rfl hg rfl rfl hbn h3) rfl ?_
        refine X.opW rfl (X.appI rfl rfl rfl rfl rfl rfl hg hml (fun r hr => by obtain ⟨x, _, rfl⟩ := List.mem_map.1 hr; rfl) hlo hab hbn) rfl rfl ?_
        refine X.opR rfl rfl rfl ?_
        exact GS.opsNil (X.norm _ hk rfl (W.sub_cons rfl (W.sub_cons rfl W.sub_nil)))
      refine X.all_cons ?_ ?_
      · iterate 4 refine X.opR rfl rfl rfl ?_
        refine X.opR rfl (X.slO (a := b) (b := l.length) rfl rfl rfl rfl rfl hg rfl rfl hbn h3) rfl ?_
        refine X.opR rfl (X.slO (a := 0) (b := a) rfl rfl rfl rfl rfl hg rfl rfl (Nat.zero_le _) h2) rfl ?_
        refine X.opW rfl (X.appI rfl rfl rfl rfl rfl rfl hg hml (fun r hr => by obtain ⟨x, _, rfl⟩ := List.mem_map.1 hr; rfl) hlo hab hbn) rfl rfl ?_
        refine X.opR rfl rfl rfl ?_
        exact GS.opsNil (X.norm _ hk rfl (W.sub_cons rfl (W.sub_cons rfl W.sub_nil)))
      refine X.all_cons ?_ ?_
      · iterate 3 refine X.opR rfl rfl rfl ?_
        refine X.opR rfl (X.slO (a := 0) (b := a) rfl rfl rfl rfl rfl hg rfl rfl (Nat.zero_le _) h2) rfl ?_
        refine X.opR rfl rfl rfl ?_
        refine X.opR rfl (X.slO (a := b) (b := l.length) rfl rfl rfl rfl rfl hg rfl rfl hbn h3) rfl ?_
        refine X.opW rfl (X.appI rfl rfl rfl rfl rfl rfl hg hml (fun r hr => by obtain ⟨x, _, rfl⟩ := List.mem_map.1 hr; rfl) hlo hab hbn) rfl rfl ?_
        refine X.opR rfl rfl rfl ?_
        exact GS.opsNil (X.norm _ hk rfl (W.sub_cons rfl (W.sub_cons rfl W.sub_nil)))
      refine X.all_cons ?_ ?_
      · iterate 4 refine X.opR rfl rfl rfl ?_
        refine X.opR rfl (X.slO (a := 0) (b := a) rfl rfl rfl rfl rfl hg rfl rfl (Nat.zero_le _) h2) rfl ?_
        refine X.opR rfl (X.slO (a := b) (b := l.length) rfl rfl rfl rfl rfl hg rfl rfl hbn h3) rfl ?_
        refine X.opW rfl (X.appI rfl rfl rfl rfl rfl rfl hg hml (fun r hr => by obtain ⟨x, _, rfl⟩ := List.mem_map.1 hr; rfl) hlo hab hbn) rfl rfl ?_
        refine X.opR rfl rfl rfl ?_
        exact GS.opsNil (X.norm _ hk rfl (W.sub_cons rfl (W.sub_cons rfl W.sub_nil)))
      refine X.all_cons ?_ ?_
      · iterate 4 refine X.opR rfl rfl rfl ?_
        refine X.opR rfl (X.slO (a := b) (b := l.length) rfl rfl rfl rfl rfl hg rfl rfl hbn h3) rfl ?_
        refine X.opR rfl (X.slO (a := 0) (b := a) rfl rfl rfl rfl rfl hg rfl rfl (Nat.zero_le _) h2) rfl ?_
        refine X.opW rfl (X.appI rfl rfl rfl rfl rfl rfl hg hml (fun r hr => by obtain ⟨x, _, rfl⟩ := List.mem_map.1 hr; rfl) hlo hab hbn) rfl rfl ?_
        refine X.opR rfl rfl rfl ?_
        exact GS.opsNil (X.norm _ hk rfl (W.sub_cons rfl (W.sub_cons rfl W.sub_nil)))
      refine X.all_cons ?_ ?_
      · iterate 4 refine X.opR rfl rfl rfl ?_
        refine X.opR rfl (X.slO (a := 0) (b := a) rfl rfl rfl rfl rfl hg rfl rfl (Nat.zero_le _) h2) rfl ?_
        refine X.opR rfl (X.slO (a := b) (b := l.length) rfl rfl rfl rfl rfl hg rfl rfl hbn h3) rfl ?_
        refine X.opW rfl (X.appI rfl rfl rfl rfl rfl rfl hg hml (fun r hr => by obtain ⟨x, _, rfl⟩ := List.mem_map.1 hr; rfl) hlo hab hbn) rfl rfl ?_
        refine X.opR rfl rfl rfl ?_
        exact GS.opsNil (X.norm _ hk rfl (W.sub_cons rfl (W.sub_cons rfl W.sub_nil)))
      refine X.all_cons ?_ ?_
      · iterate 4 refine X.opR rfl rfl rfl ?_
        refine X.opR rfl (X.slO (a := b) (b := l.length) rfl rfl rfl rfl rfl hg rfl rfl hbn h3) rfl ?_
        refine X.opR rfl (X.slO (a := 0) (b := a) rfl rfl rfl rfl rfl hg rfl rfl (Nat.zero_le _) h2) rfl ?_
        refine X.opW rfl (X.appI rfl rfl rfl rfl rfl rfl hg hml (fun r hr => by obtain ⟨x, _, rfl⟩ := List.mem_map.1 hr; rfl) hlo hab hbn) rfl rfl ?_
        refine X.opR rfl rfl rfl ?_
        exact GS.opsNil (X.norm _ hk rfl (W.sub_cons rfl (W.sub_cons rfl W.sub_nil)))
      refine X.all_cons ?_ ?_
      · iterate 3 refine X.opR rfl rfl rfl ?_
        refine X.opR rfl (X.slO (a := b) (b := l.length) rfl rfl rfl rfl rfl hg rfl rfl hbn h3) rfl ?_
        refine X.opR rfl rfl rfl ?_
        refine X.opR rfl (X.slO (a := 0) (b := a) rfl rfl rfl rfl rfl hg rfl rfl (Nat.zero_le _) h2) rfl ?_
        refine X.opW rfl (X.appI rfl rfl rfl rfl rfl rfl hg hml (fun r hr => by obtain ⟨x, _, rfl⟩ := List.mem_map.1 hr; rfl) hlo hab hbn) rfl rfl ?_
        refine X.opR rfl rfl rfl ?_
        exact GS.opsNil (X.norm _ hk rfl (W.sub_cons rfl (W.sub_cons rfl W.sub_nil)))
      refine X.all_cons ?_ ?_
      · iterate 3 refine X.opR rfl rfl rfl ?_
        refine X.opR rfl (X.slO (a := 0) (b := a) rfl rfl rfl rfl rfl hg rfl rfl (Nat.zero_le _) h2) rfl ?_
        refine X.opR rfl rfl rfl ?_
        refine X.opR rfl (X.slO (a := b) (b := l.length) rfl rfl rfl rfl rfl hg rfl rfl hbn h3) rfl ?_
        refine X.opW rfl (X.appI rfl rfl rfl rfl rfl rfl hg hml (fun r hr => by obtain ⟨x, _, rfl⟩ := List.mem_map.1 hr; rfl) hlo hab hbn) rfl rfl ?_
        refine X.opR rfl rfl rfl ?_
        exact GS.opsNil (X.norm _ hk rfl (W.sub_cons rfl (W.sub_cons rfl W.sub_nil)))
      refine X.all_cons ?_ ?_
      · iterate 4 refine X.opR rfl rfl rfl ?_
        refine X.opR rfl (X.slO (a := 0) (b := a) rfl rfl rfl rfl rfl hg rfl rfl (Nat.zero_le _) h2) rfl ?_
        refine X.opR rfl (X.slO (a := b) (b := l.length) rfl rfl rfl rfl rfl hg rfl rfl hbn h3) rfl ?_
        refine X.opW rfl (X.appI rfl rfl rfl rfl rfl rfl hg hml (fun r hr => by obtain ⟨x, _, rfl⟩ := List.mem_map.1 hr; rfl) hlo hab hbn) rfl rfl ?_
        refine X.opR rfl rfl rfl ?_
        exact GS.opsNil (X.norm _ hk rfl (W.sub_cons rfl (W.sub_cons rfl W.sub_nil)))
      refine X.all_cons ?_ ?_
      · iterate 4 refine X.opR rfl rfl rfl ?_
        refine X.opR rfl (X.slO (a := b) (b := l.length) rfl rfl rfl rfl rfl hg rfl rfl hbn h3) rfl ?_
        refine X.opR rfl (X.slO (a := 0) (b := a) rfl rfl rfl rfl rfl hg rfl rfl (Nat.zero_le _) h2) rfl ?_
        refine X.opW rfl (X.appI rfl rfl rfl rfl rfl rfl hg hml (fun r hr => by obtain ⟨x, _, rfl⟩ := List.mem_map.1 hr; rfl) hlo hab hbn) rfl rfl ?_
        refine X.opR rfl rfl rfl ?_
        exact GS.opsNil (X.norm _ hk rfl (W.sub_cons rfl (W.sub_cons rfl W.sub_nil)))
      refine X.all_cons ?_ ?_
      · iterate 4 refine X.opR rfl rfl rfl ?_
        refine X.opR rfl (X.slO (a := 0) (b := a) rfl rfl rfl rfl rfl hg rfl rfl (Nat.zero_le _) h2) rfl ?_
        refine X.opR rfl (X.slO (a := b) (b := l.length) rfl rfl rfl rfl rfl hg rfl rfl hbn h3) rfl ?_
        refine X.opW rfl (X.appI rfl rfl rfl rfl rfl rfl hg hml (fun r hr => by obtain ⟨x, _, rfl⟩ := List.mem_map.1 hr; rfl) hlo hab hbn) rfl rfl ?_
        refine X.opR rfl rfl rfl ?_
        exact GS.opsNil (X.norm _ hk rfl (W.sub_cons rfl (W.sub_cons rfl W.sub_nil)))
      refine X.all_cons ?_ ?_
      · iterate 4 refine X.opR rfl rfl rfl ?_
        refine X.opR rfl (X.slO (a := b) (b := l.length) rfl rfl rfl rfl rfl hg rfl rfl hbn h3) rfl ?_
        refine X.opR rfl (X.slO (a := 0) (b := a) rfl rfl rfl rfl rfl hg rfl rfl (Nat.zero_le _) h2) rfl ?_
        refine X.opW rfl (X.appI rfl rfl rfl rfl rfl rfl hg hml (fun r hr => by obtain ⟨x, _, rfl⟩ := List.mem_map.1 hr; rfl) hlo hab hbn) rfl rfl ?_
        refine X.opR rfl rfl rfl ?_
        exact GS.opsNil (X.norm _ hk rfl (W.sub_cons rfl (W.sub_cons rfl W.sub_nil)))
      refine X.all_cons ?_ ?_
      · iterate 3 refine X.opR rfl rfl rfl ?_
        refine X.opR rfl (X.slO (a := b) (b := l.length) rfl rfl rfl rfl rfl hg rfl rfl hbn h3) rfl ?_
        refine X.opR rfl rfl rfl ?_
        refine X.opR rfl (X.slO (a := 0) (b := a) rfl rfl rfl rfl rfl hg rfl rfl (Nat.zero_le _) h2) rfl ?_
        refine X.opW rfl (X.appI rfl rfl rfl rfl rfl rfl hg hml (fun r hr => by obtain ⟨x, _, rfl⟩ := List.mem_map.1 hr; rfl) hlo hab hbn) rfl rfl ?_
        refine X.opR rfl rfl rfl ?_
        exact GS.opsNil (X.norm _ hk rfl (W.sub_cons rfl (W.sub_cons rfl W.sub_nil)))
      refine X.all_cons ?_ ?_
      · iterate 3 refine X.opR rfl rfl rfl ?_
        refine X.opR rfl (X.slO (a := 0) (b := a) rfl rfl rfl rfl rfl hg rfl rfl (Nat.zero_le _) h2) rfl ?_
        refine X.opR rfl rfl rfl ?_
        refine X.opR rfl (X.slO (a := b) (b := l.length) rfl rfl rfl rfl rfl hg rfl rfl hbn h3) rfl ?_
        refine X.opW rfl (X.appI rfl rfl rfl rfl rfl rfl hg hml (fun r hr => by obtain ⟨x, _, rfl⟩ := List.mem_map.1 hr; rfl) hlo hab hbn) rfl rfl ?_
        refine X.opR rfl rfl rfl ?_
        exact GS.opsNil (X.norm _ hk rfl (W.sub_cons rfl (W.sub_cons rfl W.sub_nil)))
      refine X.all_cons ?_ ?_
      · iterate 4 refine X.opR rfl rfl rfl ?_
        refine X.opR rfl (X.slO (a := 0) (b := a) rfl rfl rfl rfl rfl hg rfl rfl (Nat.zero_le _) h2) rfl ?_
        refine X.opR rfl (X.slO (a := b) (b := l.length) rfl rfl rfl rfl rfl hg rfl rfl hbn h3) rfl ?_
        refine X.opW rfl (X.appI rfl rfl rfl rfl rfl rfl hg hml (fun r hr => by obtain ⟨x, _, rfl⟩ := List.mem_map.1 hr; rfl) hlo hab hbn) rfl rfl ?_
        refine X.opR rfl rfl rfl ?_
        exact GS.opsNil (X.norm _ hk rfl (W.sub_cons rfl (W.sub_cons rfl W.sub_nil)))
      refine X.all_cons ?_ ?_
      · iterate 4 refine X.opR rfl rfl rfl ?_
        refine X.opR rfl (X.slO (a := b) (b := l.length) rfl rfl rfl rfl rfl hg rfl rfl hbn h3) rfl ?_
        refine X.opR rfl (X.slO (a := 0) (b := a) rfl rfl rfl rfl rfl hg rfl rfl (Nat.zero_le _) h2) rfl ?_
        refine X.opW rfl (X.appI rfl rfl rfl rfl rfl rfl hg hml (fun r hr => by obtain ⟨x, _, rfl⟩ := List.mem_map.1 hr; rfl) hlo hab hbn) rfl rfl ?_
        refine X.opR rfl rfl rfl ?_
        exact GS.opsNil (X.norm _ hk rfl (W.sub_cons rfl (W.sub_cons rfl W.sub_nil)))
      refine X.all_cons ?_ ?_
      · iterate 4 refine X.opR rfl rfl rfl ?_
        refine X.opR rfl (X.slO (a := 0) (b := a) rfl rfl rfl rfl rfl hg rfl rfl (Nat.zero_le _) h2) rfl ?_
        refine X.opR rfl (X.slO (a := b) (b := l.length) rfl rfl rfl rfl rfl hg rfl rfl hbn h3) rfl ?_
        refine X.opW rfl (X.appI rfl rfl rfl rfl rfl rfl hg hml (fun r hr => by obtain ⟨x, _, rfl⟩ := List.mem_map.1 hr; rfl) hlo hab hbn) rfl rfl ?_
        refine X.opR rfl rfl rfl ?_
        exact GS.opsNil (X.norm _ hk rfl (W.sub_cons rfl (W.sub_cons rfl W.sub_nil)))
      refine X.all_cons ?_ ?_
      · iterate 4 refine X.opR rfl rfl rfl ?_
        refine X.opR rfl (X.slO (a := b) (b := l.length) rfl rfl rfl rfl rfl hg rfl rfl hbn h3) rfl ?_
        refine X.opR rfl (X.slO (a := 0) (b := a) rfl rfl rfl rfl rfl hg rfl rfl (Nat.zero_le _) h2) rfl ?_
        refine X.opW rfl (X.appI rfl rfl rfl rfl rfl rfl hg hml (fun r hr => by obtain ⟨x, _, rfl⟩ := List.mem_map.1 hr; rfl) hlo hab hbn) rfl rfl ?_
        refine X.opR rfl rfl rfl ?_
        exact GS.opsNil (X.norm _ hk rfl (W.sub_cons rfl (W.sub_cons rfl W.sub_nil)))
      refine X.all_cons ?_ ?_
      · iterate 3 refine X.opR rfl rfl rfl ?_
        refine X.opR rfl (X.slO (a := b) (b := l.length) rfl rfl rfl rfl rfl hg rfl rfl hbn h3) rfl ?_
        refine X.opR rfl rfl rfl ?_
        refine X.opR rfl (X.slO (a := 0) (b := a) rfl rfl rfl rfl rfl hg rfl rfl (Nat.zero_le _) h2) rfl ?_
        refine X.opW rfl (X.appI rfl rfl rfl rfl rfl rfl hg hml (fun r hr => by obtain ⟨x, _, rfl⟩ := List.mem_map.1 hr; rfl) hlo hab hbn) rfl rfl ?_
        refine X.opR rfl rfl rfl ?_
        exact GS.opsNil (X.norm _ hk rfl (W.sub_cons rfl (W.sub_cons rfl W.sub_nil)))
      refine X.all_cons ?_ ?_
      · iterate 3 refine X.opR rfl rfl rfl ?_
        refine X.opR rfl (X.slO (a := 0) (b := a) rfl rfl rfl rfl rfl hg rfl rfl (Nat.zero_le _) h2) rfl ?_
        refine X.opR rfl rfl rfl ?_
        refine X.opR rfl (X.slO (a := b) (b := l.length) rfl rfl rfl rfl rfl hg rfl rfl hbn h3) rfl ?_
        refine X.opW rfl (X.appI rfl rfl rfl rfl rfl rfl hg hml (fun r hr => by obtain ⟨x, _, rfl⟩ := List.mem_map.1 hr; rfl) hlo hab hbn) rfl rfl ?_
        refine X.opR rfl rfl rfl ?_
        exact GS.opsNil (X.norm _ hk rfl (W.sub_cons rfl (W.sub_cons rfl W.sub_nil)))
      refine X.all_cons ?_ ?_
      · iterate 4 refine X.opR rfl rfl rfl ?_
        refine X.opR rfl (X.slO (a := 0) (b := a) rfl rfl rfl rfl rfl hg rfl rfl (Nat.zero_le _) h2) rfl ?_
        refine X.opR rfl (X.slO (a := b) (b := l.length) rfl rfl rfl rfl rfl hg rfl rfl hbn h3) rfl ?_
        refine X.opW rfl (X.appI rfl rfl rfl rfl rfl rfl hg hml (fun r hr => by obtain ⟨x, _, rfl⟩ := List.mem_map.1 hr; rfl) hlo hab hbn) rfl rfl ?_
        refine X.opR rfl rfl rfl ?_
        exact GS.opsNil (X.norm _ hk rfl (W.sub_cons rfl (W.sub_cons rfl W.sub_nil)))
      refine X.all_cons ?_ ?_
      · iterate 4 refine X.opR rfl rfl rfl ?_
        refine X.opR rfl (X.slO (a := b) (b := l.length) rfl rfl rfl rfl rfl hg rfl rfl hbn h3) rfl ?_
        refine X.opR rfl (X.slO (a := 0) (b := a) rfl rfl rfl rfl rfl hg rfl rfl (Nat.zero_le _) h2) rfl ?_
        refine X.opW rfl (X.appI rfl rfl rfl rfl rfl rfl hg hml (fun r hr => by obtain ⟨x, _, rfl⟩ := List.mem_map.1 hr; rfl) hlo hab hbn) rfl rfl ?_
        refine X.opR rfl rfl rfl ?_
        exact GS.opsNil (X.norm _ hk rfl (W.sub_cons rfl (W.sub_cons rfl W.sub_nil)))
      refine X.all_cons ?_ ?_
      · iterate 4 refine X.opR rfl rfl rfl ?_
        refine X.opR rfl (X.slO (a := 0) (b := a) rfl rfl rfl rfl rfl hg rfl rfl (Nat.zero_le _) h2) rfl ?_
        refine X.opR rfl (X.slO (a := b) (b := l.length) rfl rfl rfl rfl rfl hg rfl rfl hbn h3) rfl ?_
        refine X.opW rfl (X.appI rfl rfl rfl rfl rfl rfl hg hml (fun r hr => by obtain ⟨x, _, rfl⟩ := List.mem_map.1 hr; rfl) hlo hab hbn) rfl rfl ?_
        refine X.opR rfl rfl rfl ?_
        exact GS.opsNil (X.norm _ hk rfl (W.sub_cons rfl (W.sub_cons rfl W.sub_nil)))
      refine X.all_cons ?_ ?_
      · iterate 4 refine X.opR rfl rfl rfl ?_
        refine X.opR rfl (X.slO (a := b) (b := l.length) rfl rfl rfl rfl rfl hg rfl rfl hbn h3) rfl ?_
        refine X.opR rfl (X.slO (a := 0) (b := a) rfl rfl rfl rfl rfl hg rfl rfl (Nat.zero_le _) h2) rfl ?_
        refine X.opW rfl (X.appI rfl rfl rfl rfl rfl rfl hg hml (fun r hr => by obtain ⟨x, _, rfl⟩ := List.mem_map.1 hr; rfl) hlo hab hbn) rfl rfl ?_
        refine X.opR rfl rfl rfl ?_
        exact GS.opsNil (X.norm _ hk rfl (W.sub_cons rfl (W.sub_cons rfl W.sub_nil)))
      refine X.all_cons ?_ ?_
      · iterate 3 refine X.opR rfl rfl rfl ?_
        refine X.opR rfl (X.slO (a := b) (b := l.length) rfl rfl rfl rfl rfl hg rfl rfl hbn h3) rfl ?_
        refine X.opR rfl rfl rfl ?_
        refine X.opR rfl (X.slO (a := 0) (b := a) rfl rfl rfl rfl rfl hg rfl rfl (Nat.zero_le _) h2) rfl ?_
        refine X.opW rfl (X.appI rfl rfl rfl rfl rfl rfl hg hml (fun r hr => by obtain ⟨x, _, rfl⟩ := List.mem_map.1 hr; rfl) hlo hab hbn) rfl rfl ?_
        refine X.opR rfl rfl rfl ?_
        exact GS.opsNil (X.norm _ hk rfl (W.sub_cons rfl (W.sub_cons rfl W.sub_nil)))
      refine X.all_cons ?_ ?_
      · iterate 4 refine X.opR rfl rfl rfl ?_
        refine X.opR rfl (X.slO (a := 0) (b := a) rfl rfl rfl rfl rfl hg rfl rfl (Nat.zero_le _) h2) rfl ?_
        refine X.opR rfl (X.slO (a := b) (b := l.length) rfl rfl rfl rfl rfl hg rfl rfl hbn h3) rfl ?_
        refine X.opW rfl (X.appI rfl rfl rfl rfl rfl rfl hg hml (fun r hr => by obtain ⟨x, _, rfl⟩ := List.mem_map.1 hr; rfl) hlo hab hbn) rfl rfl ?_
        refine X.opR rfl rfl rfl ?_
        exact GS.opsNil (X.norm _ hk rfl (W.sub_cons rfl (W.sub_cons rfl W.sub_nil)))
      refine X.all_cons ?_ ?_
      · iterate 4 refine X.opR rfl rfl rfl ?_
        refine X.opR rfl (X.slO (a := b) (b := l.length) rfl rfl rfl rfl rfl hg rfl rfl hbn h3) rfl ?_
        refine X.opR rfl (X.slO (a := 0) (b := a) rfl rfl rfl rfl rfl hg rfl rfl (Nat.zero_le _) h2) rfl ?_
        refine X.opW rfl (X.appI rfl rfl rfl rfl rfl rfl hg hml (fun r hr => by obtain ⟨x, _, rfl⟩ := List.mem_map.1 hr; rfl) hlo hab hbn) rfl rfl ?_
        refine X.opR rfl rfl rfl ?_
        exact GS.opsNil (X.norm _ hk rfl (W.sub_cons rfl (W.sub_cons rfl W.sub_nil)))
      refine X.all_cons ?_ ?_
      · iterate 3 refine X.opR rfl rfl rfl ?_
        refine X.opR rfl (X.slO (a := b) (b := l.length) rfl rfl rfl rfl rfl hg rfl rfl hbn h3) rfl ?_
        refine X.opR rfl rfl rfl ?_
        refine X.opR rfl (X.slO (a := 0) (b := a) rfl rfl rfl rfl rfl hg rfl rfl (Nat.zero_le _) h2) rfl ?_
        refine X.opW rfl (X.appI rfl rfl rfl rfl rfl rfl hg hml (fun r hr => by obtain ⟨x, _, rfl⟩ := List.mem_map.1 hr; rfl) hlo hab hbn) rfl rfl ?_
        refine X.opR rfl rfl rfl ?_
        exact GS.opsNil (X.norm _ hk rfl (W.sub_cons rfl (W.sub_cons rfl W.sub_nil)))
      refine X.all_cons ?_ ?_
      · iterate 4 refine X.opR rfl rfl rfl ?_
        refine X.opR rfl (X.slO (a := 0) (b := a) rfl rfl rfl rfl rfl hg rfl rfl (Nat.zero_le _) h2) rfl ?_
        refine X.opR rfl (X.slO (a := b) (b := l.length) rfl rfl rfl rfl rfl hg rfl rfl hbn h3) rfl ?_
        refine X.opW rfl (X.appI rfl rfl rfl rfl rfl rfl hg hml (fun r hr => by obtain ⟨x, _, rfl⟩ := List.mem_map.1 hr; rfl) hlo hab hbn) rfl rfl ?_
        refine X.opR rfl rfl rfl ?_
        exact GS.opsNil (X.norm _ hk rfl (W.sub_cons rfl (W.sub_cons rfl W.sub_nil)))
      refine X.all_cons ?_ ?_
      · iterate 4 refine X.opR rfl rfl rfl ?_
        refine X.opR rfl (X.slO (a := b) (b := l.length) rfl rfl rfl rfl rfl hg rfl rfl hbn h3) rfl ?_
        refine X.opR rfl (X.slO (a := 0) (b := a) rfl rfl rfl rfl rfl hg rfl rfl (Nat.zero_le _) h2) rfl ?_
        refine X.opW rfl (X.appI rfl rfl rfl rfl rfl rfl hg hml (fun r hr => by obtain ⟨x, _, rfl⟩ := List.mem_map.1 hr; rfl) hlo hab hbn) rfl rfl ?_
        refine X.opR rfl rfl rfl ?_
        exact GS.opsNil (X.norm _ hk rfl (W.sub_cons rfl (W.sub_cons rfl W.sub_nil)))
      refine X.all_cons ?_ ?_
      · iterate 3 refine X.opR rfl rfl rfl ?_
        refine X.opR rfl (X.slO (a := b) (b := l.length) rfl rfl rfl rfl rfl hg rfl rfl hbn h3) rfl ?_
        refine X.opR rfl rfl rfl ?_
        refine X.opR rfl (X.slO (a := 0) (b := a) rfl rfl rfl rfl rfl hg rfl rfl (Nat.zero_le _) h2) rfl ?_
        refine X.opW rfl (X.appI rfl rfl rfl rfl rfl rfl hg hml (fun r hr => by obtain ⟨x, _, rfl⟩ := List.mem_map.1 hr; rfl) hlo hab hbn) rfl rfl ?_
        refine X.opR rfl rfl rfl ?_
        exact GS.opsNil (X.norm _ hk rfl (W.sub_cons rfl (W.sub_cons rfl W.sub_nil)))
      refine X.all_cons ?_ ?_
      · iterate 2 refine X.opR rfl rfl rfl ?_
        refine X.opR rfl (X.slO (a := b) (b := l.length) rfl rfl rfl rfl rfl hg rfl rfl hbn h3) rfl ?_
        iterate 2 refine X.opR rfl rfl rfl ?_
        refine X.opR rfl (X.slO (a := 0) (b := a) rfl rfl rfl rfl rfl hg rfl rfl (Nat.zero_le _) h2) rfl ?_
        refine X.opW rfl (X.appI rfl rfl rfl rfl rfl rfl hg hml (fun r hr => by obtain ⟨x, _, rfl⟩ := List.mem_map.1 hr; rfl) hlo hab hbn) rfl rfl ?_
        refine X.opR rfl rfl rfl ?_
        exact GS.opsNil (X.norm _ hk rfl (W.sub_cons rfl (W.sub_cons rfl W.sub_nil)))
      refine X.all_cons ?_ ?_
      · iterate 2 refine X.opR rfl rfl rfl ?_
        refine X.opR rfl (X.slO (a := b) (b := l.length) rfl rfl rfl rfl rfl hg rfl rfl hbn h3) rfl ?_
        iterate 2 refine X.opR rfl rfl rfl ?_
        refine X.opR rfl (X.slO (a := 0) (b := a) rfl rfl rfl rfl rfl hg rfl rfl (Nat.zero_le _) h2) rfl ?_
        refine X.opW rfl (X.appI rfl rfl rfl rfl rfl rfl hg hml (fun r hr => by obtain ⟨x, _, rfl⟩ := List.mem_map.1 hr; rfl) hlo hab hbn) rfl rfl ?_
        refine X.opR rfl rfl rfl ?_
        exact GS.opsNil (X.norm _ hk rfl (W.sub_cons rfl (W.sub_cons rfl W.sub_nil)))
      refine X.all_cons ?_ ?_
      · iterate 3 refine X.opR rfl rfl rfl ?_
        refine X.opR rfl (X.slO (a := 0) (b := a) rfl rfl rfl rfl rfl hg rfl rfl (Nat.zero_le _) h2) rfl ?_
        refine X.opR rfl rfl rfl ?_
        refine X.opR rfl (X.slO (a := b) (b := l.length) rfl rfl rfl rfl rfl hg rfl rfl hbn h3) rfl ?_
        refine X.opW rfl (X.appI rfl rfl rfl rfl rfl rfl hg hml (fun r hr => by obtain ⟨x, _, rfl⟩ := List.mem_map.1 hr; rfl) hlo hab hbn) rfl rfl ?_
        refine X.opR rfl rfl rfl ?_
        exact GS.opsNil (X.norm _ hk rfl (W.sub_cons rfl (W.sub_cons rfl W.sub_nil)))
      refine X.all_cons ?_ ?_
      · iterate 4 refine X.opR rfl rfl rfl ?_
        refine X.opR rfl (X.slO (a := 0) (b := a) rfl rfl rfl rfl rfl hg rfl rfl (Nat.zero_le _) h2) rfl ?_
        refine X.opR rfl (X.slO (a := b) (b := l.length) rfl rfl rfl rfl rfl hg rfl rfl hbn h3) rfl ?_
        refine X.opW rfl (X.appI rfl rfl rfl rfl rfl rfl hg hml (fun r hr => by obtain ⟨x, _, rfl⟩ := List.mem_map.1 hr; rfl) hlo hab hbn) rfl rfl ?_
        refine X.opR rfl rfl rfl ?_
        exact GS.opsNil (X.norm _ hk rfl (W.sub_cons rfl (W.sub_cons rfl W.sub_nil)))
      refine X.all_cons ?_ ?_
      · iterate 4 refine X.opR rfl rfl rfl ?_
        refine X.opR rfl (X.slO (a := b) (b := l.length) rfl rfl rfl rfl rfl hg rfl rfl hbn h3) rfl ?_
        refine X.opR rfl (X.slO (a := 0) (b := a) rfl rfl rfl rfl rfl hg rfl rfl (Nat.zero_le _) h2) rfl ?_
        refine X.opW rfl (X.appI rfl rfl rfl rfl rfl rfl hg hml (fun r hr => by obtain ⟨x, _, rfl⟩ := List.mem_map.1 hr; rfl) hlo hab hbn) rfl rfl ?_
        refine X.opR rfl rfl rfl ?_
        exact GS.opsNil (X.norm _ hk rfl (W.sub_cons rfl (W.sub_cons rfl W.sub_nil)))
      refine X.all_cons ?_ ?_
      · iterate 4 refine X.opR rfl rfl rfl ?_
        refine X.opR rfl (X.slO (a := 0) (b := a) rfl rfl rfl rfl rfl hg rfl rfl (Nat.zero_le _) h2) rfl ?_
        refine X.opR rfl (X.slO (a := b) (b := l.length) rfl rfl rfl rfl rfl hg rfl rfl hbn h3) rfl ?_
        refine X.opW rfl (X.appI rfl rfl rfl rfl rfl rfl hg hml (fun r hr => by obtain ⟨x, _, rfl⟩ := List.mem_map.1 hr; rfl) hlo hab hbn) rfl rfl ?_
        refine X.opR rfl rfl rfl ?_
        exact GS.opsNil (X.norm _ hk rfl (W.sub_cons rfl (W.sub_cons rfl W.sub_nil)))
      refine X.all_cons ?_ ?_
      · iterate 4 refine X.opR rfl rfl rfl ?_
        refine X.opR rfl (X.slO (a := b) (b := l.length) rfl rfl rfl rfl rfl hg rfl rfl hbn h3) rfl ?_
        refine X.opR rfl (X.slO (a := 0) (b := a) rfl rfl rfl rfl rfl hg rfl rfl (Nat.zero_le _) h2) rfl ?_
        refine X.opW rfl (X.appI rfl rfl rfl rfl rfl rfl hg hml (fun r hr => by obtain ⟨x, _, rfl⟩ := List.mem_map.1 hr; rfl) hlo hab hbn) rfl rfl ?_
        refine X.opR rfl rfl rfl ?_
        exact GS.opsNil (X.norm _ hk rfl (W.sub_cons rfl (W.sub_cons rfl W.sub_nil)))
      refine X.all_cons ?_ ?_
      · iterate 3 refine X.opR rfl rfl rfl ?_
        refine X.opR rfl (X.slO (a := b) (b := l.length) rfl rfl rfl rfl rfl hg rfl rfl hbn h3) rfl ?_
        refine X.opR rfl rfl rfl ?_
        refine X.opR rfl (X.slO (a := 0) (b := a) rfl rfl rfl rfl rfl hg rfl rfl (Nat.zero_le _) h2) rfl ?_
        refine X.opW rfl (X.appI rfl rfl rfl rfl rfl rfl hg hml (fun r hr => by obtain ⟨x, _, rfl⟩ := List.mem_map.1 hr; rfl) hlo hab hbn) rfl rfl ?_
        refine X.opR rfl rfl rfl ?_
        exact GS.opsNil (X.norm _ hk rfl (W.sub_cons rfl (W.sub_cons rfl W.sub_nil)))
      refine X.all_cons ?_ ?_
      · iterate 3 refine X.opR rfl rfl rfl ?_
        refine X.opR rfl (X.slO (a := 0) (b := a) rfl rfl rfl rfl rfl hg rfl rfl (Nat.zero_le _) h2) rfl ?_
        refine X.opR rfl rfl rfl ?_
        refine X.opR rfl (X.slO (a := b) (b := l.length) rfl rfl rfl rfl rfl hg rfl rfl hbn h3) rfl ?_
        refine X.opW rfl (X.appI rfl rfl rfl rfl rfl rfl hg hml (fun r hr => by obtain ⟨x, _, rfl⟩ := List.mem_map.1 hr; rfl) hlo hab hbn) rfl rfl ?_
        refine X.opR rfl rfl rfl ?_
        exact GS.opsNil (X.norm _ hk rfl (W.sub_cons rfl (W.sub_cons rfl W.sub_nil)))
      refine X.all_cons ?_ ?_
      · iterate 4 refine X.opR rfl rfl rfl ?_
        refine X.opR rfl (X.slO (a := 0) (b := a) rfl rfl rfl rfl rfl hg rfl rfl (Nat.zero_le _) h2) rfl ?_
        refine X.opR rfl (X.slO (a := b) (b := l.length) rfl rfl rfl rfl rfl hg rfl rfl hbn h3) rfl ?_
        refine X.opW rfl (X.appI rfl rfl rfl rfl rfl rfl hg hml (fun r hr => by obtain ⟨x, _, rfl⟩ := List.mem_map.1 hr; rfl) hlo hab hbn) rfl rfl ?_
        refine X.opR rfl rfl rfl ?_
        exact GS.opsNil (X.norm _ hk rfl (W.sub_cons rfl (W.sub_cons rfl W.sub_nil)))
      refine X.all_cons ?_ ?_
      · iterate 4 refine X.opR rfl rfl rfl ?_
        refine X.opR rfl (X.slO (a := b) (b := l.length) rfl rfl rfl rfl rfl hg rfl rfl hbn h3) rfl ?_
        refine X.opR rfl (X.slO (a := 0) (b := a) rfl rfl rfl rfl rfl hg rfl rfl (Nat.zero_le _) h2) rfl ?_
        refine X.opW rfl (X.appI rfl rfl rfl rfl rfl rfl hg hml (fun r hr => by obtain ⟨x, _, rfl⟩ := List.mem_map.1 hr; rfl) hlo hab hbn) rfl rfl ?_
        refine X.opR rfl rfl rfl ?_
        exact GS.opsNil (X.norm _ hk rfl (W.sub_cons rfl (W.sub_cons rfl W.sub_nil)))
      refine X.all_cons ?_ ?_
      · iterate 4 refine X.opR rfl rfl rfl ?_
        refine X.opR rfl (X.slO (a := 0) (b := a) rfl rfl rfl rfl rfl hg rfl rfl (Nat.zero_le _) h2) rfl ?_
        refine X.opR rfl (X.slO (a := b) (b := l.length) rfl rfl rfl rfl rfl hg rfl rfl hbn h3) rfl ?_
        refine X.opW rfl (X.appI rfl rfl rfl rfl rfl rfl hg hml (fun r hr => by obtain ⟨x, _, rfl⟩ := List.mem_map.1 hr; rfl) hlo hab hbn) rfl rfl ?_
        refine X.opR rfl rfl rfl ?_
        exact GS.opsNil (X.norm _ hk rfl (W.sub_cons rfl (W.sub_cons rfl W.sub_nil)))
      refine X.all_cons ?_ ?_
      · iterate 4 refine X.opR rfl rfl rfl ?_
        refine X.opR rfl (X.slO (a := b) (b := l.length) rfl rfl rfl rfl rfl hg rfl rfl hbn h3) rfl ?_
        refine X.opR rfl (X.slO (a := 0) (b := a) rfl rfl rfl rfl rfl hg rfl rfl (Nat.zero_le _) h2) rfl ?_
        refine X.opW rfl (X.appI rfl rfl rfl rfl rfl rfl hg hml (fun r hr => by obtain ⟨x, _, rfl⟩ := List.mem_map.1 hr; rfl) hlo hab hbn) rfl rfl ?_
        refine X.opR rfl rfl rfl ?_
        exact GS.opsNil (X.norm _ hk rfl (W.sub_cons rfl (W.sub_cons rfl W.sub_nil)))
      refine X.all_cons ?_ ?_
      · iterate 3 refine X.opR rfl rfl rfl ?_
        refine X.opR rfl (X.slO (a := b) (b := l.length) rfl rfl rfl rfl rfl hg rfl rfl hbn h3) rfl ?_
        refine X.opR rfl rfl rfl ?_
        refine X.opR rfl (X.slO (a := 0) (b := a) rfl rfl rfl rfl rfl hg rfl rfl (Nat.zero_le _) h2) rfl ?_
        refine X.opW rfl (X.appI rfl rfl rfl rfl rfl rfl hg hml (fun r hr => by obtain ⟨x, _, rfl⟩ := List.mem_map.1 hr; rfl) hlo hab hbn) rfl rfl ?_
        refine X.opR rfl rfl rfl ?_
        exact GS.opsNil (X.norm _ hk rfl (W.sub_cons rfl (W.sub_cons rfl W.sub_nil)))
      refine X.all_cons ?_ ?_
      · iterate 4 refine X.opR rfl rfl rfl ?_
        refine X.opR rfl (X.slO (a := 0) (b := a) rfl rfl rfl rfl rfl hg rfl rfl (Nat.zero_le _) h2) rfl ?_
        refine X.opR rfl (X.slO (a := b) (b := l.length) rfl rfl rfl rfl rfl hg rfl rfl hbn h3) rfl ?_
        refine X.opW rfl (X.appI rfl rfl rfl rfl rfl rfl hg hml (fun r hr => by obtain ⟨x, _, rfl⟩ := List.mem_map.1 hr; rfl) hlo hab hbn) rfl rfl ?_
        refine X.opR rfl rfl rfl ?_
        exact GS.opsNil (X.norm _ hk rfl (W.sub_cons rfl (W.sub_cons rfl W.sub_nil)))
      refine X.all_cons ?_ ?_
      · iterate 4 refine X.opR rfl rfl rfl ?_
        refine X.opR rfl (X.slO (a := b) (b := l.length) rfl rfl rfl rfl rfl hg rfl rfl hbn h3) rfl ?_
        refine X.opR rfl (X.slO (a := 0) (b := a) rfl rfl rfl rfl rfl hg rfl rfl (Nat.zero_le _) h2) rfl ?_
        refine X.opW rfl (X.appI rfl rfl rfl rfl rfl rfl hg hml (fun r hr => by obtain ⟨x, _, rfl⟩ := List.mem_map.1 hr; rfl) hlo hab hbn) rfl rfl ?_
        refine X.opR rfl rfl rfl ?_
        exact GS.opsNil (X.norm _ hk rfl (W.sub_cons rfl (W.sub_cons rfl W.sub_nil)))
      refine X.all_cons ?_ ?_
      · iterate 3 refine X.opR rfl rfl rfl ?_
        refine X.opR rfl (X.slO (a := b) (b := l.length) rfl rfl rfl rfl rfl hg rfl rfl hbn h3) rfl ?_
        refine X.opR rfl rfl rfl ?_
        refine X.opR rfl (X.slO (a := 0) (b := a) rfl rfl rfl rfl rfl hg rfl rfl (Nat.zero_le _) h2) rfl ?_
        refine X.opW rfl (X.appI rfl rfl rfl rfl rfl rfl hg hml (fun r hr => by obtain ⟨x, _, rfl⟩ := List.mem_map.1 hr; rfl) hlo hab hbn) rfl rfl ?_
        refine X.opR rfl rfl rfl ?_
        exact GS.opsNil (X.norm _ hk rfl (W.sub_cons rfl (W.sub_cons rfl W.sub_nil)))
      refine X.all_cons ?_ ?_
      · iterate 4 refine X.opR rfl rfl rfl ?_
        refine X.opR rfl (X.slO (a := 0) (b := a) rfl rfl rfl rfl rfl hg rfl rfl (Nat.zero_le _) h2) rfl ?_
        refine X.opR rfl (X.slO (a := b) (b := l.length) rfl rfl rfl rfl rfl hg rfl rfl hbn h3) rfl ?_
        refine X.opW rfl (X.appI rfl rfl rfl rfl rfl rfl hg hml (fun r hr => by obtain ⟨x, _, rfl⟩ := List.mem_map.1 hr; rfl) hlo hab hbn) rfl rfl ?_
        refine X.opR rfl rfl rfl ?_
        exact GS.opsNil (X.norm _ hk rfl (W.sub_cons rfl (W.sub_cons rfl W.sub_nil)))
      refine X.all_cons ?_ ?_
      · iterate 4 refine X.opR rfl rfl rfl ?_
        refine X.opR rfl (X.slO (a := b) (b := l.length) rfl rfl rfl rfl rfl hg rfl rfl hbn h3) rfl ?_
        refine X.opR rfl (X.slO (a := 0) (b := a) rfl rfl rfl rfl rfl hg rfl rfl (Nat.zero_le _) h2) rfl ?_
        refine X.opW rfl (X.appI rfl rfl rfl rfl rfl rfl hg hml (fun r hr => by obtain ⟨x, _, rfl⟩ := List.mem_map.1 hr; rfl) hlo hab hbn) rfl rfl ?_
        refine X.opR rfl rfl rfl ?_
        exact GS.opsNil (X.norm _ hk rfl (W.sub_cons rfl (W.sub_cons rfl W.sub_nil)))
      refine X.all_cons ?_ ?_
      · iterate 3 refine X.opR rfl rfl rfl ?_
        refine X.opR rfl (X.slO (a := b) (b := l.length) rfl rfl rfl rfl rfl hg rfl rfl hbn h3) rfl ?_
        refine X.opR rfl rfl rfl ?_
        refine X.opR rfl (X.slO (a := 0) (b := a) rfl rfl rfl rfl rfl hg rfl rfl (Nat.zero_le _) h2) rfl ?_
        refine X.opW rfl (X.appI rfl rfl rfl rfl rfl rfl hg hml (fun r hr => by obtain ⟨x, _, rfl⟩ := List.mem_map.1 hr; rfl) hlo hab hbn) rfl rfl ?_
        refine X.opR rfl rfl rfl ?_
        exact GS.opsNil (X.norm _ hk rfl (W.sub_cons rfl (W.sub_cons rfl W.sub_nil)))
      refine X.all_cons ?_ ?_
      · iterate 2 refine X.opR rfl rfl rfl ?_
        refine X.opR rfl (X.slO (a := b) (b := l.length) rfl rfl rfl rfl rfl hg rfl rfl hbn h3) rfl ?_
        iterate 2 refine X.opR rfl rfl rfl ?_
        refine X.opR rfl (X.slO (a := 0) (b := a) rfl rfl rfl rfl rfl hg rfl rfl (Nat.zero_le _) h2) rfl ?_
        refine X.opW rfl (X.appI rfl rfl rfl rfl rfl rfl hg hml (fun r hr => by obtain ⟨x, _, rfl⟩ := List.mem_map.1 hr; rfl) hlo hab hbn) rfl rfl ?_
        refine X.opR rfl rfl rfl ?_
        exact GS.opsNil (X.norm _ hk rfl (W.sub_cons rfl (W.sub_cons rfl W.sub_nil)))
      refine X.all_cons ?_ ?_
      · iterate 2 refine X.opR rfl rfl rfl ?_
        refine X.opR rfl (X.slO (a := b) (b := l.length) rfl rfl rfl rfl rfl hg rfl rfl hbn h3) rfl ?_
        iterate 2 refine X.opR rfl rfl rfl ?_
        refine X.opR rfl (X.slO (a := 0) (b := a) rfl rfl rfl rfl rfl hg rfl rfl (Nat.zero_le _) h2) rfl ?_
        refine X.opW rfl (X.appI rfl rfl rfl rfl rfl rfl hg hml (fun r hr => by obtain ⟨x, _, rfl⟩ := List.mem_map.1 hr; rfl) hlo hab hbn) rfl rfl ?_
        refine X.opR rfl rfl rfl ?_
        exact GS.opsNil (X.norm _ hk rfl (W.sub_cons rfl (W.sub_cons rfl W.sub_nil)))
      exact X.all_nil
    · have hg2 : hget (puts H [(id, .rows 4 ((l.map e_api_Cycle).take a ++ (l.map e_api_Cycle).drop b ++ (l.map e_api_Cycle).drop (a + (l.length - b))))]) id = .rows 4 ((l.map e_api_Cycle).take a ++ (l.map e_api_Cycle).drop b ++ (l.map e_api_Cycle).drop (a + (l.length - b))) := hget_put hid
      have hl2 : ((l.map e_api_Cycle).take a ++ (l.map e_api_Cycle).drop b ++ (l.map e_api_Cycle).drop (a + (l.length - b))).length = l.length := by simp; omega
      refine GS.seq ?_
      refine GS.region ?_
      iterate 2 refine X.opR rfl rfl rfl ?_
      refine X.opR rfl (X.lenOn rfl rfl rfl) rfl ?_
      refine X.opR rfl rfl rfl ?_
      refine X.opR rfl (X.slO (a := a + (l.length - b)) (b := l.length) rfl rfl rfl rfl rfl hg2 rfl rfl (by omega) (by rw [hl2]; exact Nat.le_refl _)) rfl ?_
      refine X.op0W rfl (X.clrO rfl rfl rfl rfl rfl hg2 hl2 hlo (by omega)) rfl ?_
      refine GS.opsNil ?_
      refine GS.seq ?_
      refine GS.region ?_
      iterate 2 refine X.opR rfl rfl rfl ?_
      refine GS.opsNil ?_
      refine GS.ret ⟨_, rfl, _, rfl, hput_hput _ _ _ _ hid, ?_, ?_⟩
      · rw [List.length_append, List.length_take, List.length_replicate, hl2]; omega
      · rw [List.take_append_of_le_length (by rw [List.length_take, hl2]; omega), List.take_take, Nat.min_self, List.take_append_of_le_length (by simp; omega), List.take_of_length_le (by simp; omega)]
        simp
  · obtain ⟨R, rfl, rfl, hl, hR⟩ := hT
    refine X.front rfl hd ?_ rfl
    refine GS.freeze (l := R) (hget_put hid) hlo' (by omega) (by rw [hR]; intro v hv; obtain ⟨x, _, rfl⟩ := List.mem_map.1 hv; rfl) ?_
    rw [hR, hput_hput _ _ _ _ hid]
    exact h

theorem ok_tide_without {w : api_Water} {l : (List api_Gauge)} {agree : Bool} {r : (List Int)} (hM : tide_without w l agree = some r) : Ct Tryz.prog 33 [(e_api_Water w), (V.sl (List.map e_api_Gauge l)), (V.b agree)] (V.sl (List.map V.i r)) := by
  refine ct_of_gs CC_ok rfl ?_
  unfold tide_without at hM
  refine GS.seq ?_
  refine GS.region ?_
  refine X.opW rfl rfl rfl rfl ?_
  refine X.opR rfl rfl rfl ?_
  refine GS.opsNil ?_
  refine GS.seq ?_
  refine GS.region ?_
  refine X.opR rfl rfl rfl ?_
  refine GS.opsNil ?_
  iterate 2 refine GS.seq ?_
  refine GS.region ?_
  iterate 2 refine X.opR rfl rfl rfl ?_
  refine X.opR rfl (X.lenF rfl rfl rfl) rfl ?_
  refine X.opR rfl rfl rfl ?_
  refine GS.opsNil ?_
  refine X.join (τ := (List Int)) (fun v => tide_without_j1 v = some r) (fun v => ⟨[(7, (ovl 0 v))], [obl 1 V.i v], 0, none, 44⟩) ?_ ?_
  · intro l1 hM
    replace hM : tide_without_j1 l1 = some r := hM
    unfold tide_without_j1 at hM
    refine GS.seq ?_
    obtain ⟨l2, h_1, hM⟩ := bind_of hM
    refine GS.region ?_
    refine X.opR rfl rfl rfl ?_
    refine X.norm [(7, (ovl 0 l1)), (41, (ovl 0 l1))] ?_ rfl (W.sub_cons rfl (W.sub_cons rfl W.sub_nil))
    refine X.sortInt (z := true) h_1 sort_C sort_nil (fun _ _ _ h => h) (K' := [(7, (ovl 0 l2)), (41, (ovl 0 l2))]) (H' := [obl 1 V.i l2]) rfl rfl rfl rfl rfl rfl ?_ ?_ ?_
    · first | rfl | rw [X.ovlz_len (srtO_len h_1)] | simp only [ovl, X.ovlz_len (srtO_len h_1)] | simp only [srtO_len h_1]
    · first | rfl | (simp only [hput]; rfl)
    refine GS.opsNil ?_
    refine GS.seq ?_
    refine GS.region ?_
    iterate 2 refine X.opR rfl rfl rfl ?_
    refine GS.opsNil ?_
    have hE := Option.some.inj hM
    subst hE
    exact GS.ret ⟨_, rfl, FR.ovl (f := V.i) (l := l2) 9 rfl rfl (fun _ => rfl)⟩
  · intro hj_1
    refine GS.block ?_
    refine X.gc [some 0, none] (X.loop (σ := (Int × (List Int))) (fun v => ⟨[(1, (V.sl (List.map e_api_Gauge l))), (2, (V.b agree)), (3, (V.ptr 0 0 0)), (7, (ovl 1 v.2)), (12, (V.sl (List.map e_api_Cycle w.Cycles))), (13, (V.i (w.Cycles.length : Int))), (14, (V.i v.1))], [.rows 3 [(e_api_Water w)], obl 1 V.i v.2], 0, none, 44⟩) hM ?_ rfl) rfl rfl rfl (gk_cons rfl ⟨9, rfl⟩ (gk_cons rfl ⟨9, rfl⟩ (gk_cons rfl ⟨9, rfl⟩ (gk_cons rfl ⟨9, rfl⟩ (gk_cons rfl ⟨9, rfl⟩ (gk_cons rfl ⟨9, rfl⟩ (gk_cons rfl ⟨9, rfl⟩ gk_nil))))))) (gb_box rfl rfl ⟨9, rfl⟩ (gb_pad' rfl gb_nil))
    rintro ⟨x1, l7⟩ b_1 hM hc_2 hr_1
    rw [tide_without_b2] at hM
    refine GS.seq ?_
    refine GS.region ?_
    refine X.opR rfl rfl rfl ?_
    refine GS.opsNil ?_
    refine GS.seq ?_
    refine X.cond rfl (fun h_2 => ?_) (fun h_2 => ?_)
    · replace hM := ite_t h_2 hM
      refine GS.skip ?_
      refine GS.seq ?_
      refine X.join (τ := (List Int)) (fun v => tide_without_j3 x1 v = some b_1) (fun v => ⟨[(1, (V.sl (List.map e_api_Gauge l))), (2, (V.b agree)), (3, (V.ptr 0 0 0)), (7, (ovl 1 v)), (12, (V.sl (List.map e_api_Cycle w.Cycles))), (13, (V.i (w.Cycles.length : Int))), (14, (V.i x1))], [.rows 3 [(e_api_Water w)], obl 1 V.i v], 0, none, 44⟩) ?_ ?_
      · intro l3 hM
        replace hM : tide_without_j3 x1 l3 = some b_1 := hM
        unfold tide_without_j3 at hM
        refine GS.region ?_
        refine X.opR rfl (X.addE rfl rfl) rfl ?_
        refine X.opR rfl rfl rfl ?_
        refine GS.opsNil ?_
        have hE := Option.some.inj hM
        exact X.gc [some 0, some 1] (hc_2 (w64 (x1 + 1), l3) hE.symm) rfl rfl rfl (gk_cons rfl ⟨9, rfl⟩ (gk_cons rfl ⟨9, rfl⟩ (gk_cons rfl ⟨9, rfl⟩ (gk_cons rfl (rn_ovl rfl) (gk_cons rfl ⟨9, rfl⟩ (gk_cons rfl ⟨9, rfl⟩ (gk_cons rfl ⟨9, rfl⟩ gk_nil))))))) (gb_box rfl rfl ⟨9, rfl⟩ (gb_obl 9 rfl rfl (fun _ => rfl) gb_nil))
      · intro hj_3
        refine GS.block ?_
        refine GS.seq ?_
        obtain ⟨x, h_3, hM⟩ := bind_of hM
        refine GS.region ?_
        refine X.opR rfl rfl rfl ?_
        refine X.opR rfl (X.indexF (f := e_api_Cycle) h_3 (fun _ => rfl) rfl rfl rfl rfl) rfl ?_
        refine X.opR rfl (X.loadF h_3 rfl rfl rfl) rfl ?_
        refine X.opW rfl rfl rfl rfl ?_
        refine X.opR rfl rfl rfl ?_
        refine X.op0W rfl rfl rfl ?_
        refine GS.opsNil ?_
        refine GS.seq ?_
        refine GS.region ?_
        refine X.opR rfl rfl rfl ?_
        refine X.opW (H' := [.rows 3 [(e_api_Water w)], obl 1 V.i l7, .rows 4 [(e_api_Cycle x)], .rows 3 [(V.agg [(V.i 0), V.nil, V.nil])]]) rfl rfl rfl rfl ?_
        refine X.op0W (H' := [.rows 3 [(e_api_Water w)], obl 1 V.i l7, .rows 4 [(e_api_Cycle x)], .rows 3 [(e_api_Water w)]]) rfl rfl rfl ?_
        refine GS.opsNil ?_
        refine GS.seq ?_
        obtain ⟨l4, h_4, hM⟩ := bind_of hM
        obtain ⟨l5, h_5, hM⟩ := bind_of hM
        refine GS.region ?_
        iterate 2 refine X.opR rfl rfl rfl ?_
        refine clone_Cycle (r := l4) (i := 5) h_4 rfl rfl rfl rfl rfl (fun z_12 => ?_)
        iterate 2 refine X.opR rfl rfl rfl ?_
        refine X.opR rfl (X.addE rfl rfl) rfl ?_
        refine del_Cycle (z := z_12) h_5 rfl rfl rfl rfl rfl ?_
        refine X.opR rfl rfl rfl ?_
        refine X.op0W (H' := [.rows 3 [(e_api_Water w)], obl 1 V.i l7, .rows 4 [(e_api_Cycle x)], .rows 3 [(V.agg [(V.i w.Level), (V.sl (List.map e_api_Cycle l5)), (V.sl (List.map e_api_Shift w.Shifts))])], .dead, .dead]) rfl rfl rfl ?_
        refine GS.opsNil ?_
        refine GS.seq ?_
        obtain ⟨y, h_6, hM⟩ := bind_of hM
        obtain ⟨y1, h_7, hM⟩ := bind_of hM
        refine GS.region ?_
        iterate 2 refine X.opR rfl rfl rfl ?_
        refine X.call (ok_tide_knowns h_6) rfl rfl rfl (.cons (.shut (n := 9) rfl) (.cons (.shut (n := 9) rfl) .nil)) ?_
        refine X.call (ok_tide_levels h_7) rfl rfl rfl (.cons (.shut (n := 9) rfl) (.cons (.shut (n := 9) rfl) .nil)) ?_
        refine X.call (ok_tide_none y1) rfl rfl rfl (.cons (.shut (n := 9) rfl) .nil) ?_
        iterate 2 refine X.opR rfl rfl rfl ?_
        refine GS.opsNil ?_
        refine X.cond rfl (fun h_8 => ?_) (fun h_8 => ?_)
        · replace hM := ite_t h_8 hM
          obtain ⟨l6, h_9, hM⟩ := bind_of hM
          refine GS.region ?_
          iterate 3 refine X.opR rfl rfl rfl ?_
          refine X.opW (H' := [.rows 3 [(e_api_Water w)], obl 1 V.i l7, .rows 4 [(e_api_Cycle x)], .rows 3 [(V.agg [(V.i w.Level), (V.sl (List.map e_api_Cycle l5)), (V.sl (List.map e_api_Shift w.Shifts))])], .dead, .dead, .rows 1 (List.map V.i ([x.ID]))]) rfl rfl rfl rfl ?_
          refine X.appN (f := V.i) h_9 (fun _ => rfl) (by rfl) (by rfl) (by rfl) (by rfl) (by rfl) (by rfl) (by rfl) (by rfl) (by rfl) (by rfl) (by rfl) (by exact rfl) (by rfl) (by rfl) ?_
          refine X.opR rfl rfl rfl ?_
          refine GS.opsNil ?_
          refine GS.endB ?_
          exact X.gc [some 0, some 7] (hj_3 l6 hM) rfl rfl rfl (gk_cons rfl ⟨9, rfl⟩ (gk_cons rfl ⟨9, rfl⟩ (gk_cons rfl ⟨9, rfl⟩ (gk_cons rfl (rv_ne (app_ne h_9) rfl) (gk_cons rfl ⟨9, rfl⟩ (gk_cons rfl ⟨9, rfl⟩ (gk_cons rfl ⟨9, rfl⟩ gk_nil))))))) (gb_box rfl rfl ⟨9, rfl⟩ (gb_obl' 9 (app_ne h_9) rfl rfl (fun _ => rfl) gb_nil))
        · replace hM := ite_f h_8 hM
          refine GS.skip ?_
          refine GS.endB ?_
          exact X.gc [some 0, some 1] (hj_3 l7 hM) rfl rfl rfl (gk_cons rfl ⟨9, rfl⟩ (gk_cons rfl ⟨9, rfl⟩ (gk_cons rfl ⟨9, rfl⟩ (gk_cons rfl (rn_ovl rfl) (gk_cons rfl ⟨9, rfl⟩ (gk_cons rfl ⟨9, rfl⟩ (gk_cons rfl ⟨9, rfl⟩ gk_nil))))))) (gb_box rfl rfl ⟨9, rfl⟩ (gb_obl 9 rfl rfl (fun _ => rfl) gb_nil))
    · replace hM := ite_f h_2 hM
      refine GS.exit rfl ?_
      obtain ⟨y_1, hM, hy⟩ := map_of hM
      rw [hr_1 _ hy.symm] at hM
      exact X.gc [some 1] (hj_1 l7 hM) rfl rfl rfl (gk_cons rfl (rn_ovl rfl) gk_nil) (gb_obl 9 rfl rfl (fun _ => rfl) gb_nil)

theorem ok_tide_Shown {w : api_Water} {l : (List api_Gauge)} {r : (List Int) × Int} (hM : tide_Shown w l = some r) : Ct Tryz.prog 7 [(e_api_Water w), (V.sl (List.map e_api_Gauge l))] (V.tup [(V.sl (List.map V.i r.1)), (V.i r.2)]) := by
  refine ct_of_gs CC_ok rfl ?_
  unfold tide_Shown at hM
  refine GS.seq ?_
  refine GS.region ?_
  refine X.opW rfl rfl rfl rfl ?_
  iterate 2 refine X.opR rfl rfl rfl ?_
  refine GS.opsNil ?_
  iterate 2 refine GS.seq ?_
  obtain ⟨y, h_1, hM⟩ := bind_of hM
  refine GS.region ?_
  iterate 2 refine X.opR rfl rfl rfl ?_
  refine X.call (ok_tide_Levels h_1) rfl rfl rfl (.cons (.shut (n := 9) rfl) (.cons (.shut (n := 9) rfl) .nil)) ?_
  iterate 3 refine X.opR rfl rfl rfl ?_
  refine X.opW rfl rfl rfl rfl ?_
  refine X.op0W rfl rfl rfl ?_
  refine X.opR rfl rfl rfl ?_
  refine GS.opsNil ?_
  refine GS.seq ?_
  refine GS.region ?_
  iterate 2 refine X.opR rfl rfl rfl ?_
  refine GS.opsNil ?_
  refine X.cond rfl (fun h_2 => ?_) (fun h_2 => ?_)
  · replace hM := ite_t h_2 hM
    refine GS.seq ?_
    refine GS.region ?_
    iterate 3 refine X.opR rfl rfl rfl ?_
    refine GS.opsNil ?_
    have hE := Option.some.inj hM
    subst hE
    exact GS.ret ⟨_, rfl, ⟨30, rfl⟩⟩
  · replace hM := ite_f h_2 hM
    refine GS.skip ?_
    refine GS.seq ?_
    obtain ⟨y1, h_3, hM⟩ := bind_of hM
    refine GS.region ?_
    iterate 2 refine X.opR rfl rfl rfl ?_
    refine X.call (ok_tide_without h_3) rfl rfl rfl (.cons (.shut (n := 9) rfl) (.cons (.shut (n := 9) rfl) (.cons (.shut (n := 9) rfl) .nil))) ?_
    iterate 2 refine X.opR rfl rfl rfl ?_
    refine GS.opsNil ?_
    have hE := Option.some.inj hM
    subst hE
    exact GS.ret ⟨_, rfl, ⟨30, rfl⟩⟩

theorem ok_ref02_within (n : Int) (lo : Int) (hi : Int) : Ct Tryz.prog 74 [(V.i n), (V.i lo), (V.i hi)] (V.b (ref02_within n lo hi)) := by
  refine ct_of_gs CC_ok rfl ?_
  generalize hM : ref02_within n lo hi = r
  unfold ref02_within at hM
  refine GS.seq ?_
  refine GS.region ?_
  refine X.opR rfl rfl rfl ?_
  refine GS.opsNil ?_
  refine GS.seq ?_
  refine GS.region ?_
  refine X.mid [(6, (V.b ((decide (lo ≤ n)) && (decide (n ≤ hi)))))] ?_ ?_
  · intro hg
    refine X.split (decide (lo ≤ n)) (fun h_1 => ?_) (fun h_1 => ?_)
    · iterate 4 refine X.opR rfl rfl rfl ?_
      iterate 3 refine X.opR (X.on_t rfl rfl rfl h_1) rfl rfl ?_
      refine X.opR rfl (X.pickand_t (y := decide (n ≤ hi)) rfl h_1 rfl) rfl ?_
      refine X.opR rfl rfl rfl ?_
      refine GS.opsNil ?_
      exact X.norm _ hg rfl (W.sub_cons rfl W.sub_nil)
    · iterate 4 refine X.opR rfl rfl rfl ?_
      iterate 3 refine X.off (X.off_t rfl rfl rfl h_1) rfl ?_
      refine X.opR rfl (X.pickand_f (y := decide (n ≤ hi)) rfl h_1 rfl) rfl ?_
      refine X.opR rfl rfl rfl ?_
      refine GS.opsNil ?_
      exact X.norm _ hg rfl (W.sub_cons rfl W.sub_nil)
  subst hM
  exact GS.ret ⟨_, rfl, ⟨30, rfl⟩⟩

theorem ok_ref02_Right {c : api_Cycle} {r : Bool} (hM : ref02_Right c = some r) : Ct Tryz.prog 94 [(e_api_Cycle c)] (V.b r) := by
  refine ct_of_gs CC_ok rfl ?_
  unfold ref02_Right at hM
  refine GS.seq ?_
  refine GS.region ?_
  refine X.opW rfl rfl rfl rfl ?_
  refine X.opR rfl rfl rfl ?_
  refine GS.opsNil ?_
  refine GS.seq ?_
  refine GS.region ?_
  iterate 2 refine X.opR rfl rfl rfl ?_
  refine X.call (ok_ref02_within c.ID 1 1099511627776) rfl rfl rfl (.cons (.shut (n := 9) rfl) (.cons (.shut (n := 9) rfl) (.cons (.shut (n := 9) rfl) .nil))) ?_
  refine X.opR rfl rfl rfl ?_
  refine GS.opsNil ?_
  refine GS.seq ?_
  refine GS.region ?_
  iterate 2 refine X.opR rfl rfl rfl ?_
  refine X.call (ok_ref02_within c.Begin 0 1048576) rfl rfl rfl (.cons (.shut (n := 9) rfl) (.cons (.shut (n := 9) rfl) (.cons (.shut (n := 9) rfl) .nil))) ?_
  refine X.opR rfl rfl rfl ?_
  refine GS.opsNil ?_
  refine GS.seq ?_
  refine GS.region ?_
  iterate 2 refine X.opR rfl rfl rfl ?_
  refine X.call (ok_ref02_within c.Every 1 120) rfl rfl rfl (.cons (.shut (n := 9) rfl) (.cons (.shut (n := 9) rfl) (.cons (.shut (n := 9) rfl) .nil))) ?_
  refine X.opR rfl rfl rfl ?_
  refine GS.opsNil ?_
  refine GS.seq ?_
  refine GS.region ?_
  iterate 2 refine X.opR rfl rfl rfl ?_
  refine X.opR rfl (X.lenF rfl rfl rfl) rfl ?_
  refine X.call (ok_ref02_within (c.Heights.length : Int) 1 60) rfl rfl rfl (.cons (.shut (n := 9) rfl) (.cons (.shut (n := 9) rfl) (.cons (.shut (n := 9) rfl) .nil))) ?_
  refine X.opR rfl rfl rfl ?_
  refine GS.opsNil ?_
  iterate 2 refine GS.seq ?_
  refine GS.region ?_
  refine X.mid [(1, (V.ptr 0 0 0)), (35, (V.b ((((!(ref02_within c.ID 1 1099511627776)) || (!(ref02_within c.Begin 0 1048576))) || (!(ref02_within c.Every 1 120))) || (!(ref02_within (c.Heights.length : Int) 1 60)))))] ?_ ?_
  · intro hg
    refine X.split (!(ref02_within c.ID 1 1099511627776)) (fun h_1 => ?_) (fun h_1 => ?_)
    · iterate 3 refine X.opR rfl rfl rfl ?_
      iterate 2 refine X.off (X.off_f rfl rfl rfl h_1) rfl ?_
      refine X.opR rfl (X.pickor_t (y := !(ref02_within c.Begin 0 1048576)) rfl h_1 rfl) rfl ?_
      refine X.opR rfl rfl rfl ?_
      iterate 2 refine X.off (X.off_f rfl rfl rfl (X.or_tt h_1)) rfl ?_
      refine X.opR rfl (X.pickor_t (y := !(ref02_within c.Every 1 120)) rfl (X.or_tt h_1) rfl) rfl ?_
      refine X.opR rfl rfl rfl ?_
      iterate 2 refine X.off (X.off_f rfl rfl rfl (X.or_tt (X.or_tt h_1))) rfl ?_
      refine X.opR rfl (X.pickor_t (y := !(ref02_within (c.Heights.length : Int) 1 60)) rfl (X.or_tt (X.or_tt h_1)) rfl) rfl ?_
      refine GS.opsNil ?_
      exact X.norm _ hg rfl (W.sub_cons rfl (W.sub_cons rfl W.sub_nil))
    · refine X.split (((!(ref02_within c.ID 1 1099511627776)) || (!(ref02_within c.Begin 0 1048576)))) (fun h_2 => ?_) (fun h_2 => ?_)
      · iterate 3 refine X.opR rfl rfl rfl ?_
        iterate 2 refine X.opR (X.on_f rfl rfl rfl h_1) rfl rfl ?_
        refine X.opR rfl (X.pickor_f (y := !(ref02_within c.Begin 0 1048576)) rfl h_1 rfl) rfl ?_
        refine X.opR rfl rfl rfl ?_
        iterate 2 refine X.off (X.off_f rfl rfl rfl h_2) rfl ?_
        refine X.opR rfl (X.pickor_t (y := !(ref02_within c.Every 1 120)) rfl h_2 rfl) rfl ?_
        refine X.opR rfl rfl rfl ?_
        iterate 2 refine X.off (X.off_f rfl rfl rfl (X.or_tt h_2)) rfl ?_
        refine X.opR rfl (X.pickor_t (y := !(ref02_within (c.Heights.length : Int) 1 60)) rfl (X.or_tt h_2) rfl) rfl ?_
        refine GS.opsNil ?_
        exact X.norm _ hg rfl (W.sub_cons rfl (W.sub_cons rfl W.sub_nil))
      · refine X.split ((((!(ref02_within c.ID 1 1099511627776)) || (!(ref02_within c.Begin 0 1048576))) || (!(ref02_within c.Every 1 120)))) (fun h_3 => ?_) (fun h_3 => ?_)
        · iterate 3 refine X.opR rfl rfl rfl ?_
          iterate 2 refine X.opR (X.on_f rfl rfl rfl h_1) rfl rfl ?_
          refine X.opR rfl (X.pickor_f (y := !(ref02_within c.Begin 0 1048576)) rfl h_1 rfl) rfl ?_
          refine X.opR rfl rfl rfl ?_
          iterate 2 refine X.opR (X.on_f rfl rfl rfl h_2) rfl rfl ?_
          refine X.opR rfl (X.pickor_f (y := !(ref02_within c.Every 1 120)) rfl h_2 rfl) rfl ?_
          refine X.opR rfl rfl rfl ?_
          iterate 2 refine X.off (X.off_f rfl rfl rfl h_3) rfl ?_
          refine X.opR rfl (X.pickor_t (y := !(ref02_within (c.Heights.length : Int) 1 60)) rfl h_3 rfl) rfl ?_
          refine GS.opsNil ?_
          exact X.norm _ hg rfl (W.sub_cons rfl (W.sub_cons rfl W.sub_nil))
        · iterate 3 refine X.opR rfl rfl rfl ?_
          iterate 2 refine X.opR (X.on_f rfl rfl rfl h_1) rfl rfl ?_
          refine X.opR rfl (X.pickor_f (y := !(ref02_within c.Begin 0 1048576)) rfl h_1 rfl) rfl ?_
          refine X.opR rfl rfl rfl ?_
          iterate 2 refine X.opR (X.on_f rfl rfl rfl h_2) rfl rfl ?_
          refine X.opR rfl (X.pickor_f (y := !(ref02_within c.Every 1 120)) rfl h_2 rfl) rfl ?_
          refine X.opR rfl rfl rfl ?_
          iterate 2 refine X.opR (X.on_f rfl rfl rfl h_3) rfl rfl ?_
          refine X.opR rfl (X.pickor_f (y := !(ref02_within (c.Heights.length : Int) 1 60)) rfl h_3 rfl) rfl ?_
          refine GS.opsNil ?_
          exact X.norm _ hg rfl (W.sub_cons rfl (W.sub_cons rfl W.sub_nil))
  refine X.cond rfl (fun h_4 => ?_) (fun h_4 => ?_)
  · replace hM := ite_t h_4 hM
    refine GS.seq ?_
    refine GS.region ?_
    refine X.opR rfl rfl rfl ?_
    refine GS.opsNil ?_
    have hE := Option.some.inj hM
    subst hE
    exact GS.ret ⟨_, rfl, ⟨30, rfl⟩⟩
  · replace hM := ite_f h_4 hM
    refine GS.skip ?_
    iterate 2 refine GS.seq ?_
    refine GS.region ?_
    refine X.opR rfl rfl rfl ?_
    refine GS.opsNil ?_
    refine X.join (τ := Unit) (fun v => ref02_Right_j1 = some r) (fun v => ⟨[], [], 0, none, 51⟩) ?_ ?_
    · intro _ hM
      replace hM : ref02_Right_j1 = some r := hM
      unfold ref02_Right_j1 at hM
      refine GS.seq ?_
      refine GS.region ?_
      refine X.opR rfl rfl rfl ?_
      refine GS.opsNil ?_
      have hE := Option.some.inj hM
      subst hE
      exact GS.ret ⟨_, rfl, ⟨30, rfl⟩⟩
    · intro hj_1
      refine GS.block ?_
      refine X.gc [some 0] (X.loop (σ := Int) (fun v => ⟨[(1, (V.ptr 0 0 0)), (7, (V.i v))], [.rows 4 [(e_api_Cycle c)]], 0, none, 51⟩) hM ?_ rfl) rfl rfl rfl (gk_cons rfl ⟨9, rfl⟩ (gk_cons rfl ⟨9, rfl⟩ gk_nil)) (gb_box rfl rfl ⟨9, rfl⟩ gb_nil)
      intro i b_1 hM hc_2 hr_1
      rw [ref02_Right_b2] at hM
      iterate 2 refine GS.seq ?_
      refine GS.region ?_
      iterate 3 refine X.opR rfl rfl rfl ?_
      refine X.opR rfl (X.lenF rfl rfl rfl) rfl ?_
      refine X.opR rfl rfl rfl ?_
      refine GS.opsNil ?_
      refine X.cond rfl (fun h_5 => ?_) (fun h_5 => ?_)
      · replace hM := ite_t h_5 hM
        refine GS.skip ?_
        refine GS.seq ?_
        refine GS.block ?_
        refine GS.seq ?_
        obtain ⟨x, h_6, hM⟩ := bind_of hM
        refine GS.region ?_
        iterate 3 refine X.opR rfl rfl rfl ?_
        refine X.opR rfl (X.indexF (f := V.i) h_6 (fun _ => rfl) rfl rfl rfl rfl) rfl ?_
        refine X.opR rfl (X.loadF h_6 rfl rfl rfl) rfl ?_
        refine X.call (ok_ref02_within x (-4000) 4000) rfl rfl rfl (.cons (.shut (n := 9) rfl) (.cons (.shut (n := 9) rfl) (.cons (.shut (n := 9) rfl) .nil))) ?_
        refine X.opR rfl rfl rfl ?_
        refine GS.opsNil ?_
        refine GS.seq ?_
        refine GS.region ?_
        iterate 2 refine X.opR rfl rfl rfl ?_
        refine GS.opsNil ?_
        refine X.cond rfl (fun h_7 => ?_) (fun h_7 => ?_)
        · replace hM := ite_t h_7 hM
          refine GS.seq ?_
          refine GS.region ?_
          refine X.opR rfl rfl rfl ?_
          refine GS.opsNil ?_
          have hE := Option.some.inj hM
          replace hE := hr_1 _ hE.symm
          subst hE
          exact GS.ret ⟨_, rfl, ⟨30, rfl⟩⟩
        · replace hM := ite_f h_7 hM
          refine GS.skip ?_
          refine GS.endB ?_
          refine GS.region ?_
          refine X.opR rfl rfl rfl ?_
          refine X.opR rfl (X.addE rfl rfl) rfl ?_
          refine X.opR rfl rfl rfl ?_
          refine GS.opsNil ?_
          have hE := Option.some.inj hM
          exact X.gc [some 0] (hc_2 (w64 (i + 1)) hE.symm) rfl rfl rfl (gk_cons rfl ⟨9, rfl⟩ (gk_cons rfl ⟨9, rfl⟩ gk_nil)) (gb_box rfl rfl ⟨9, rfl⟩ gb_nil)
      · replace hM := ite_f h_5 hM
        refine GS.exit rfl ?_
        obtain ⟨y_1, hM, hy⟩ := map_of hM
        rw [hr_1 _ hy.symm] at hM
        exact X.gc [] (hj_1 () hM) rfl rfl rfl (gk_nil) (gb_nil)

set_option maxHeartbeats 4000000 in
theorem ok_ref02_shifted {l : (List api_Shift)} {r : Int} (hM : ref02_shifted l = some r) : Ct Tryz.prog 95 [(V.sl (List.map e_api_Shift l))] (V.i r) := by
  refine ct_of_gs CC_ok rfl ?_
  unfold ref02_shifted at hM
  refine GS.seq ?_
  refine GS.region ?_
  refine X.opR rfl rfl rfl ?_
  refine GS.opsNil ?_
  iterate 2 refine GS.seq ?_
  refine GS.region ?_
  refine X.opR rfl rfl rfl ?_
  refine GS.opsNil ?_
  refine X.join (τ := Unit) (fun v => ref02_shifted_j1 = some r) (fun v => ⟨[], [], 0, none, 65⟩) ?_ ?_
  · intro _ hM
    replace hM : ref02_shifted_j1 = some r := hM
    unfold ref02_shifted_j1 at hM
    refine GS.seq ?_
    refine GS.region ?_
    refine X.opR rfl rfl rfl ?_
    refine GS.opsNil ?_
    have hE := Option.some.inj hM
    subst hE
    exact GS.ret ⟨_, rfl, ⟨30, rfl⟩⟩
  · intro hj_1
    refine GS.block ?_
    refine X.gc [] (X.loop (σ := Int) (fun v => ⟨[(0, (V.sl (List.map e_api_Shift l))), (3, (V.i v))], [], 0, none, 65⟩) hM ?_ rfl) rfl rfl rfl (gk_cons rfl ⟨9, rfl⟩ (gk_cons rfl ⟨9, rfl⟩ gk_nil)) (gb_nil)
    intro i b_1 hM hc_2 hr_1
    rw [ref02_shifted_b2] at hM
    iterate 2 refine GS.seq ?_
    refine GS.region ?_
    iterate 2 refine X.opR rfl rfl rfl ?_
    refine X.opR rfl (X.lenF rfl rfl rfl) rfl ?_
    refine X.opR rfl rfl rfl ?_
    refine GS.opsNil ?_
    refine X.cond rfl (fun h_1 => ?_) (fun h_1 => ?_)
    · replace hM := ite_t h_1 hM
      refine GS.skip ?_
      refine GS.seq ?_
      refine GS.block ?_
      refine GS.seq ?_
      obtain ⟨x, h_2, hM⟩ := bind_of hM
      refine GS.region ?_
      iterate 2 refine X.opR rfl rfl rfl ?_
      refine X.opR rfl (X.indexF (f := e_api_Shift) h_2 (fun _ => rfl) rfl rfl rfl rfl) rfl ?_
      refine X.opR rfl rfl rfl ?_
      refine X.opR rfl (X.loadF h_2 rfl rfl rfl) rfl ?_
      refine X.call (ok_ref02_within x.Add (-4000) 4000) rfl rfl rfl (.cons (.shut (n := 9) rfl) (.cons (.shut (n := 9) rfl) (.cons (.shut (n := 9) rfl) .nil))) ?_
      refine X.opR rfl rfl rfl ?_
      refine GS.opsNil ?_
      iterate 2 refine GS.seq ?_
      obtain ⟨x1, h_3, hM⟩ := bind_of hM
      obtain ⟨x2, h_4, hM⟩ := gb_of hM
      obtain ⟨x3, h_5, hM⟩ := gb_of hM
      obtain ⟨x4, h_6, hM⟩ := gb_of hM
      refine X.mid [(0, (V.sl (List.map e_api_Shift l))), (3, (V.i i)), (47, (V.b ((((decide (x1.From < 0)) || (decide (x3.To < x2.From))) || (decide (728 < x4.To))) || (!(ref02_within x.Add (-4000) 4000)))))] ?_ ?_
      · intro hg
        refine X.split (decide (x1.From < 0)) (fun h_7 => ?_) (fun h_7 => ?_)
        · refine X.drawc (by kernel_rfl) rfl ?_
          iterate 2 refine X.cop rfl rfl rfl rfl ?_
          refine X.cop rfl (X.indexF (f := e_api_Shift) h_3 (fun _ => rfl) rfl rfl rfl rfl) rfl rfl ?_
          refine X.cop rfl rfl rfl rfl ?_
          refine X.cop rfl (X.loadF h_3 rfl rfl rfl) rfl rfl ?_
          iterate 2 refine X.cop rfl rfl rfl rfl ?_
          iterate 11 refine X.coff (X.off_f rfl rfl rfl h_7) rfl rfl ?_
          refine X.cop rfl (X.pickor_t (y := decide (x3.To < x2.From)) rfl h_7 rfl) rfl rfl ?_
          refine X.cop rfl rfl rfl rfl ?_
          iterate 6 refine X.coff (X.off_f rfl rfl rfl (X.or_tt h_7)) rfl rfl ?_
          refine X.cop rfl (X.pickor_t (y := decide (728 < x4.To)) rfl (X.or_tt h_7) rfl) rfl rfl ?_
          refine X.cop rfl rfl rfl rfl ?_
          iterate 2 refine X.coff (X.off_f rfl rfl rfl (X.or_tt (X.or_tt h_7))) rfl rfl ?_
          refine X.cop rfl (X.pickor_t (y := !(ref02_within x.Add (-4000) 4000)) rfl (X.or_tt (X.or_tt h_7)) rfl) rfl rfl ?_
          refine X.cnil ?_
          exact X.norm _ hg rfl (W.sub_cons rfl (W.sub_cons rfl (W.sub_cons rfl W.sub_nil)))
        · refine X.split (((decide (x1.From < 0)) || (decide (x3.To < x2.From)))) (fun h_8 => ?_) (fun h_8 => ?_)
          · refine X.drawc (by kernel_rfl) rfl ?_
            iterate 2 refine X.cop rfl rfl rfl rfl ?_
            refine X.cop rfl (X.indexF (f := e_api_Shift) h_3 (fun _ => rfl) rfl rfl rfl rfl) rfl rfl ?_
            refine X.cop rfl rfl rfl rfl ?_
            refine X.cop rfl (X.loadF h_3 rfl rfl rfl) rfl rfl ?_
            iterate 2 refine X.cop rfl rfl rfl rfl ?_
            iterate 2 refine X.cop (X.on_f rfl rfl rfl h_7) rfl rfl rfl ?_
            refine X.cop (X.on_f rfl rfl rfl h_7) (X.indexF (f := e_api_Shift) (h_4 (X.nt h_7)) (fun _ => rfl) rfl rfl rfl rfl) rfl rfl ?_
            refine X.cop (X.on_f rfl rfl rfl h_7) rfl rfl rfl ?_
            refine X.cop (X.on_f rfl rfl rfl h_7) (X.loadF (h_4 (X.nt h_7)) rfl rfl rfl) rfl rfl ?_
            iterate 2 refine X.cop (X.on_f rfl rfl rfl h_7) rfl rfl rfl ?_
            refine X.cop (X.on_f rfl rfl rfl h_7) (X.indexF (f := e_api_Shift) (h_5 (X.nt h_7)) (fun _ => rfl) rfl rfl rfl rfl) rfl rfl ?_
            refine X.cop (X.on_f rfl rfl rfl h_7) rfl rfl rfl ?_
            refine X.cop (X.on_f rfl rfl rfl h_7) (X.loadF (h_5 (X.nt h_7)) rfl rfl rfl) rfl rfl ?_
            refine X.cop (X.on_f rfl rfl rfl h_7) rfl rfl rfl ?_
            refine X.cop rfl (X.pickor_f (y := decide (x3.To < x2.From)) rfl h_7 rfl) rfl rfl ?_
            refine X.cop rfl rfl rfl rfl ?_
            iterate 6 refine X.coff (X.off_f rfl rfl rfl h_8) rfl rfl ?_
            refine X.cop rfl (X.pickor_t (y := decide (728 < x4.To)) rfl h_8 rfl) rfl rfl ?_
            refine X.cop rfl rfl rfl rfl ?_
            iterate 2 refine X.coff (X.off_f rfl rfl rfl (X.or_tt h_8)) rfl rfl ?_
            refine X.cop rfl (X.pickor_t (y := !(ref02_within x.Add (-4000) 4000)) rfl (X.or_tt h_8) rfl) rfl rfl ?_
            refine X.cnil ?_
            exact X.norm _ hg rfl (W.sub_cons rfl (W.sub_cons rfl (W.sub_cons rfl W.sub_nil)))
          · refine X.split ((((decide (x1.From < 0)) || (decide (x3.To < x2.From))) || (decide (728 < x4.To)))) (fun h_9 => ?_) (fun h_9 => ?_)
            · refine X.drawc (by kernel_rfl) rfl ?_
              iterate 2 refine X.cop rfl rfl rfl rfl ?_
              refine X.cop rfl (X.indexF (f := e_api_Shift) h_3 (fun _ => rfl) rfl rfl rfl rfl) rfl rfl ?_
              refine X.cop rfl rfl rfl rfl ?_
              refine X.cop rfl (X.loadF h_3 rfl rfl rfl) rfl rfl ?_
              iterate 2 refine X.cop rfl rfl rfl rfl ?_
              iterate 2 refine X.cop (X.on_f rfl rfl rfl h_7) rfl rfl rfl ?_
              refine X.cop (X.on_f rfl rfl rfl h_7) (X.indexF (f := e_api_Shift) (h_4 (X.nt h_7)) (fun _ => rfl) rfl rfl rfl rfl) rfl rfl ?_
              refine X.cop (X.on_f rfl rfl rfl h_7) rfl rfl rfl ?_
              refine X.cop (X.on_f rfl rfl rfl h_7) (X.loadF (h_4 (X.nt h_7)) rfl rfl rfl) rfl rfl ?_
              iterate 2 refine X.cop (X.on_f rfl rfl rfl h_7) rfl rfl rfl ?_
              refine X.cop (X.on_f rfl rfl rfl h_7) (X.indexF (f := e_api_Shift) (h_5 (X.nt h_7)) (fun _ => rfl) rfl rfl rfl rfl) rfl rfl ?_
              refine X.cop (X.on_f rfl rfl rfl h_7) rfl rfl rfl ?_
              refine X.cop (X.on_f rfl rfl rfl h_7) (X.loadF (h_5 (X.nt h_7)) rfl rfl rfl) rfl rfl ?_
              refine X.cop (X.on_f rfl rfl rfl h_7) rfl rfl rfl ?_
              refine X.cop rfl (X.pickor_f (y := decide (x3.To < x2.From)) rfl h_7 rfl) rfl rfl ?_
              refine X.cop rfl rfl rfl rfl ?_
              iterate 2 refine X.cop (X.on_f rfl rfl rfl h_8) rfl rfl rfl ?_
              refine X.cop (X.on_f rfl rfl rfl h_8) (X.indexF (f := e_api_Shift) (h_6 (X.nt h_8)) (fun _ => rfl) rfl rfl rfl rfl) rfl rfl ?_
              refine X.cop (X.on_f rfl rfl rfl h_8) rfl rfl rfl ?_
              refine X.cop (X.on_f rfl rfl rfl h_8) (X.loadF (h_6 (X.nt h_8)) rfl rfl rfl) rfl rfl ?_
              refine X.cop (X.on_f rfl rfl rfl h_8) rfl rfl rfl ?_
              refine X.cop rfl (X.pickor_f (y := decide (728 < x4.To)) rfl h_8 rfl) rfl rfl ?_
              refine X.cop rfl rfl rfl rfl ?_
              iterate 2 refine X.coff (X.off_f rfl rfl rfl h_9) rfl rfl ?_
              refine X.cop rfl (X.pickor_t (y := !(ref02_within x.Add (-4000) 4000)) rfl h_9 rfl) rfl rfl ?_
              refine X.cnil ?_
              exact X.norm _ hg rfl (W.sub_cons rfl (W.sub_cons rfl (W.sub_cons rfl W.sub_nil)))
            · refine X.drawc (by kernel_rfl) rfl ?_
              iterate 2 refine X.cop rfl rfl rfl rfl ?_
              refine X.cop rfl (X.indexF (f := e_api_Shift) h_3 (fun _ => rfl) rfl rfl rfl rfl) rfl rfl ?_
              refine X.cop rfl rfl rfl rfl ?_
              refine X.cop rfl (X.loadF h_3 rfl rfl rfl) rfl rfl ?_
              iterate 2 refine X.cop rfl rfl rfl rfl ?_
              iterate 2 refine X.cop (X.on_f rfl rfl rfl h_7) rfl rfl rfl ?_
              refine X.cop (X.on_f rfl rfl rfl h_7) (X.indexF (f := e_api_Shift) (h_4 (X.nt h_7)) (fun _ => rfl) rfl rfl rfl rfl) rfl rfl ?_
              refine X.cop (X.on_f rfl rfl rfl h_7) rfl rfl rfl ?_
              refine X.cop (X.on_f rfl rfl rfl h_7) (X.loadF (h_4 (X.nt h_7)) rfl rfl rfl) rfl rfl ?_
              iterate 2 refine X.cop (X.on_f rfl rfl rfl h_7) rfl rfl rfl ?_
              refine X.cop (X.on_f rfl rfl rfl h_7) (X.indexF (f := e_api_Shift) (h_5 (X.nt h_7)) (fun _ => rfl) rfl rfl rfl rfl) rfl rfl ?_
              refine X.cop (X.on_f rfl rfl rfl h_7) rfl rfl rfl ?_
              refine X.cop (X.on_f rfl rfl rfl h_7) (X.loadF (h_5 (X.nt h_7)) rfl rfl rfl) rfl rfl ?_
              refine X.cop (X.on_f rfl rfl rfl h_7) rfl rfl rfl ?_
              refine X.cop rfl (X.pickor_f (y := decide (x3.To < x2.From)) rfl h_7 rfl) rfl rfl ?_
              refine X.cop rfl rfl rfl rfl ?_
              iterate 2 refine X.cop (X.on_f rfl rfl rfl h_8) rfl rfl rfl ?_
              refine X.cop (X.on_f rfl rfl rfl h_8) (X.indexF (f := e_api_Shift) (h_6 (X.nt h_8)) (fun _ => rfl) rfl rfl rfl rfl) rfl rfl ?_
              refine X.cop (X.on_f rfl rfl rfl h_8) rfl rfl rfl ?_
              refine X.cop (X.on_f rfl rfl rfl h_8) (X.loadF (h_6 (X.nt h_8)) rfl rfl rfl) rfl rfl ?_
              refine X.cop (X.on_f rfl rfl rfl h_8) rfl rfl rfl ?_
              refine X.cop rfl (X.pickor_f (y := decide (728 < x4.To)) rfl h_8 rfl) rfl rfl ?_
              refine X.cop rfl rfl rfl rfl ?_
              iterate 2 refine X.cop (X.on_f rfl rfl rfl h_9) rfl rfl rfl ?_
              refine X.cop rfl (X.pickor_f (y := !(ref02_within x.Add (-4000) 4000)) rfl h_9 rfl) rfl rfl ?_
              refine X.cnil ?_
              exact X.norm _ hg rfl (W.sub_cons rfl (W.sub_cons rfl (W.sub_cons rfl W.sub_nil)))
      refine X.cond rfl (fun h_10 => ?_) (fun h_10 => ?_)
      · replace hM := ite_t h_10 hM
        refine GS.seq ?_
        refine GS.region ?_
        refine X.opR rfl rfl rfl ?_
        refine GS.opsNil ?_
        have hE := Option.some.inj hM
        replace hE := hr_1 _ hE.symm
        subst hE
        exact GS.ret ⟨_, rfl, ⟨30, rfl⟩⟩
      · replace hM := ite_f h_10 hM
        refine GS.skip ?_
        refine GS.seq ?_
        obtain ⟨x5, h_11, hM⟩ := gb_of hM
        obtain ⟨x6, h_12, hM⟩ := gb_of hM
        refine X.mid [(0, (V.sl (List.map e_api_Shift l))), (3, (V.i i)), (64, (V.b ((decide (0 < i)) && (decide (x5.From ≤ x6.To)))))] ?_ ?_
        · intro hg
          refine X.split (decide (0 < i)) (fun h_13 => ?_) (fun h_13 => ?_)
          · refine X.drawc (by kernel_rfl) rfl ?_
            iterate 3 refine X.cop rfl rfl rfl rfl ?_
            iterate 2 refine X.cop (X.on_t rfl rfl rfl h_13) rfl rfl rfl ?_
            refine X.cop (X.on_t rfl rfl rfl h_13) (X.indexF (f := e_api_Shift) (h_11 h_13) (fun _ => rfl) rfl rfl rfl rfl) rfl rfl ?_
            refine X.cop (X.on_t rfl rfl rfl h_13) rfl rfl rfl ?_
            refine X.cop (X.on_t rfl rfl rfl h_13) (X.loadF (h_11 h_13) rfl rfl rfl) rfl rfl ?_
            iterate 2 refine X.cop (X.on_t rfl rfl rfl h_13) rfl rfl rfl ?_
            refine X.cop (X.on_t rfl rfl rfl h_13) (X.subE rfl rfl) rfl rfl ?_
            refine X.cop (X.on_t rfl rfl rfl h_13) (X.maxE rfl rfl) rfl rfl ?_
            refine X.cop (X.on_t rfl rfl rfl h_13) (X.indexF (f := e_api_Shift) (h_12 h_13) (fun _ => rfl) rfl rfl rfl rfl) rfl rfl ?_
            refine X.cop (X.on_t rfl rfl rfl h_13) rfl rfl rfl ?_
            refine X.cop (X.on_t rfl rfl rfl h_13) (X.loadF (h_12 h_13) rfl rfl rfl) rfl rfl ?_
            refine X.cop (X.on_t rfl rfl rfl h_13) rfl rfl rfl ?_
            refine X.cop rfl (X.pickand_t (y := decide (x5.From ≤ x6.To)) rfl h_13 rfl) rfl rfl ?_
            refine X.cnil ?_
            exact X.norm _ hg rfl (W.sub_cons rfl (W.sub_cons rfl (W.sub_cons rfl W.sub_nil)))
          · refine X.drawc (by kernel_rfl) rfl ?_
            iterate 3 refine X.cop rfl rfl rfl rfl ?_
            iterate 13 refine X.coff (X.off_t rfl rfl rfl h_13) rfl rfl ?_
            refine X.cop rfl (X.pickand_f (y := decide (x5.From ≤ x6.To)) rfl h_13 rfl) rfl rfl ?_
            refine X.cnil ?_
            exact X.norm _ hg rfl (W.sub_cons rfl (W.sub_cons rfl (W.sub_cons rfl W.sub_nil)))
        refine X.cond rfl (fun h_14 => ?_) (fun h_14 => ?_)
        · replace hM := ite_t h_14 hM
          refine GS.seq ?_
          refine GS.region ?_
          refine X.opR rfl rfl rfl ?_
          refine GS.opsNil ?_
          have hE := Option.some.inj hM
          replace hE := hr_1 _ hE.symm
          subst hE
          exact GS.ret ⟨_, rfl, ⟨30, rfl⟩⟩
        · replace hM := ite_f h_14 hM
          refine GS.skip ?_
          refine GS.endB ?_
          refine GS.region ?_
          refine X.opR rfl rfl rfl ?_
          refine X.opR rfl (X.addE rfl rfl) rfl ?_
          refine X.opR rfl rfl rfl ?_
          refine GS.opsNil ?_
          have hE := Option.some.inj hM
          exact X.gc [] (hc_2 (w64 (i + 1)) hE.symm) rfl rfl rfl (gk_cons rfl ⟨9, rfl⟩ (gk_cons rfl ⟨9, rfl⟩ gk_nil)) (gb_nil)
    · replace hM := ite_f h_1 hM
      refine GS.exit rfl ?_
      obtain ⟨y_1, hM, hy⟩ := map_of hM
      rw [hr_1 _ hy.symm] at hM
      exact X.gc [] (hj_1 () hM) rfl rfl rfl (gk_nil) (gb_nil)

set_option maxHeartbeats 4000000 in
theorem ok_ref02_Check {w : api_Water} {r : Int} (hM : ref02_Check w = some r) : Ct Tryz.prog 73 [(e_api_Water w)] (V.i r) := by
  refine ct_of_gs CC_ok rfl ?_
  unfold ref02_Check at hM
  refine GS.seq ?_
  refine GS.region ?_
  refine X.opW rfl rfl rfl rfl ?_
  refine X.opR rfl rfl rfl ?_
  refine GS.opsNil ?_
  refine GS.seq ?_
  refine GS.region ?_
  iterate 2 refine X.opR rfl rfl rfl ?_
  refine X.call (ok_ref02_within w.Level (-4000) 4000) rfl rfl rfl (.cons (.shut (n := 9) rfl) (.cons (.shut (n := 9) rfl) (.cons (.shut (n := 9) rfl) .nil))) ?_
  refine X.opR rfl rfl rfl ?_
  refine GS.opsNil ?_
  iterate 2 refine GS.seq ?_
  refine GS.region ?_
  iterate 2 refine X.opR rfl rfl rfl ?_
  refine GS.opsNil ?_
  refine X.cond rfl (fun h_1 => ?_) (fun h_1 => ?_)
  · replace hM := ite_t h_1 hM
    refine GS.seq ?_
    refine GS.region ?_
    refine X.opR rfl rfl rfl ?_
    refine GS.opsNil ?_
    have hE := Option.some.inj hM
    subst hE
    exact GS.ret ⟨_, rfl, ⟨30, rfl⟩⟩
  · replace hM := ite_f h_1 hM
    refine GS.skip ?_
    iterate 2 refine GS.seq ?_
    refine GS.region ?_
    refine X.mid [(1, (V.ptr 0 0 0)), (21, (V.b ((decide (6 < (w.Cycles.length : Int))) || (decide (20 < (w.Shifts.length : Int))))))] ?_ ?_
    · intro hg
      refine X.split (decide (6 < (w.Cycles.length : Int))) (fun h_2 => ?_) (fun h_2 => ?_)
      · iterate 2 refine X.opR rfl rfl rfl ?_
        refine X.opR rfl (X.lenF rfl rfl rfl) rfl ?_
        iterate 2 refine X.opR rfl rfl rfl ?_
        iterate 4 refine X.off (X.off_f rfl rfl rfl h_2) rfl ?_
        refine X.opR rfl (X.pickor_t (y := decide (20 < (w.Shifts.length : Int))) rfl h_2 rfl) rfl ?_
        refine GS.opsNil ?_
        exact X.norm _ hg rfl (W.sub_cons rfl (W.sub_cons rfl W.sub_nil))
      · iterate 2 refine X.opR rfl rfl rfl ?_
        refine X.opR rfl (X.lenF rfl rfl rfl) rfl ?_
        iterate 2 refine X.opR rfl rfl rfl ?_
        iterate 2 refine X.opR (X.on_f rfl rfl rfl h_2) rfl rfl ?_
        refine X.opR (X.on_f rfl rfl rfl h_2) (X.lenF rfl rfl rfl) rfl ?_
        refine X.opR (X.on_f rfl rfl rfl h_2) rfl rfl ?_
        refine X.opR rfl (X.pickor_f (y := decide (20 < (w.Shifts.length : Int))) rfl h_2 rfl) rfl ?_
        refine GS.opsNil ?_
        exact X.norm _ hg rfl (W.sub_cons rfl (W.sub_cons rfl W.sub_nil))
    refine X.cond rfl (fun h_3 => ?_) (fun h_3 => ?_)
    · replace hM := ite_t h_3 hM
      refine GS.seq ?_
      refine GS.region ?_
      refine X.opR rfl rfl rfl ?_
      refine GS.opsNil ?_
      have hE := Option.some.inj hM
      subst hE
      exact GS.ret ⟨_, rfl, ⟨30, rfl⟩⟩
    · replace hM := ite_f h_3 hM
      refine GS.skip ?_
      iterate 2 refine GS.seq ?_
      refine GS.region ?_
      refine X.opR rfl rfl rfl ?_
      refine GS.opsNil ?_
      refine X.join (τ := Unit) (fun v => ref02_Check_j1 w = some r) (fun v => ⟨[(1, (V.ptr 0 0 0))], [.rows 3 [(e_api_Water w)]], 0, none, 58⟩) ?_ ?_
      · intro _ hM
        replace hM : ref02_Check_j1 w = some r := hM
        unfold ref02_Check_j1 at hM
        refine GS.seq ?_
        obtain ⟨y, h_4, hM⟩ := bind_of hM
        refine GS.region ?_
        iterate 2 refine X.opR rfl rfl rfl ?_
        refine X.call (ok_ref02_shifted h_4) rfl rfl rfl (.cons (.shut (n := 9) rfl) .nil) ?_
        refine X.opR rfl rfl rfl ?_
        refine GS.opsNil ?_
        have hE := Option.some.inj hM
        subst hE
        exact GS.ret ⟨_, rfl, ⟨30, rfl⟩⟩
      · intro hj_1
        refine GS.block ?_
        refine X.gc [some 0] (X.loop (σ := Int) (fun v => ⟨[(1, (V.ptr 0 0 0)), (4, (V.i v))], [.rows 3 [(e_api_Water w)]], 0, none, 58⟩) hM ?_ rfl) rfl rfl rfl (gk_cons rfl ⟨9, rfl⟩ (gk_cons rfl ⟨9, rfl⟩ gk_nil)) (gb_box rfl rfl ⟨9, rfl⟩ gb_nil)
        intro i b_1 hM hc_2 hr_1
        rw [ref02_Check_b2] at hM
        iterate 2 refine GS.seq ?_
        refine GS.region ?_
        iterate 3 refine X.opR rfl rfl rfl ?_
        refine X.opR rfl (X.lenF rfl rfl rfl) rfl ?_
        refine X.opR rfl rfl rfl ?_
        refine GS.opsNil ?_
        refine X.cond rfl (fun h_5 => ?_) (fun h_5 => ?_)
        · replace hM := ite_t h_5 hM
          refine GS.skip ?_
          refine GS.seq ?_
          refine GS.block ?_
          refine GS.seq ?_
          obtain ⟨x, h_6, hM⟩ := bind_of hM
          obtain ⟨y1, h_7, hM⟩ := bind_of hM
          refine GS.region ?_
          iterate 3 refine X.opR rfl rfl rfl ?_
          refine X.opR rfl (X.indexF (f := e_api_Cycle) h_6 (fun _ => rfl) rfl rfl rfl rfl) rfl ?_
          refine X.opR rfl (X.loadF h_6 rfl rfl rfl) rfl ?_
          refine X.call (ok_ref02_Right h_7) rfl rfl rfl (.cons (.shut (n := 9) rfl) .nil) ?_
          refine X.opR rfl rfl rfl ?_
          refine GS.opsNil ?_
          iterate 2 refine GS.seq ?_
          refine GS.region ?_
          iterate 2 refine X.opR rfl rfl rfl ?_
          refine GS.opsNil ?_
          refine X.cond rfl (fun h_8 => ?_) (fun h_8 => ?_)
          · replace hM := ite_t h_8 hM
            refine GS.seq ?_
            refine GS.region ?_
            refine X.opR rfl rfl rfl ?_
            refine GS.opsNil ?_
            have hE := Option.some.inj hM
            replace hE := hr_1 _ hE.symm
            subst hE
            exact GS.ret ⟨_, rfl, ⟨30, rfl⟩⟩
          · replace hM := ite_f h_8 hM
            refine GS.skip ?_
            refine GS.seq ?_
            refine GS.region ?_
            refine X.opR rfl rfl rfl ?_
            refine GS.opsNil ?_
            refine X.join (τ := Unit) (fun v => ref02_Check_j3 i = some b_1) (fun v => ⟨[(1, (V.ptr 0 0 0)), (4, (V.i i))], [.rows 3 [(e_api_Water w)]], 0, none, 58⟩) ?_ ?_
            · intro _ hM
              replace hM : ref02_Check_j3 i = some b_1 := hM
              unfold ref02_Check_j3 at hM
              refine GS.endB ?_
              refine GS.region ?_
              refine X.opR rfl rfl rfl ?_
              refine X.opR rfl (X.addE rfl rfl) rfl ?_
              refine X.opR rfl rfl rfl ?_
              refine GS.opsNil ?_
              have hE := Option.some.inj hM
              exact X.gc [some 0] (hc_2 (w64 (i + 1)) hE.symm) rfl rfl rfl (gk_cons rfl ⟨9, rfl⟩ (gk_cons rfl ⟨9, rfl⟩ gk_nil)) (gb_box rfl rfl ⟨9, rfl⟩ gb_nil)
            · intro hj_3
              refine GS.block ?_
              refine X.gc [some 0] (X.loop (σ := Int) (fun v => ⟨[(1, (V.ptr 0 0 0)), (4, (V.i i)), (6, (V.i v))], [.rows 3 [(e_api_Water w)]], 0, none, 58⟩) hM ?_ rfl) rfl rfl rfl (gk_cons rfl ⟨9, rfl⟩ (gk_cons rfl ⟨9, rfl⟩ (gk_cons rfl ⟨9, rfl⟩ gk_nil))) (gb_box rfl rfl ⟨9, rfl⟩ gb_nil)
              intro k b_2 hM hc_4 hr_2
              rw [ref02_Check_b4] at hM
              iterate 2 refine GS.seq ?_
              refine GS.region ?_
              iterate 3 refine X.opR rfl rfl rfl ?_
              refine GS.opsNil ?_
              refine X.cond rfl (fun h_9 => ?_) (fun h_9 => ?_)
              · replace hM := ite_t h_9 hM
                refine GS.skip ?_
                refine GS.seq ?_
                refine GS.block ?_
                refine GS.seq ?_
                obtain ⟨x1, h_10, hM⟩ := bind_of hM
                obtain ⟨x2, h_11, hM⟩ := bind_of hM
                refine X.drawc (by kernel_rfl) rfl ?_
                iterate 3 refine X.cop rfl rfl rfl rfl ?_
                refine X.cop rfl (X.indexF (f := e_api_Cycle) h_10 (fun _ => rfl) rfl rfl rfl rfl) rfl rfl ?_
                refine X.cop rfl rfl rfl rfl ?_
                refine X.cop rfl (X.loadF h_10 rfl rfl rfl) rfl rfl ?_
                iterate 3 refine X.cop rfl rfl rfl rfl ?_
                refine X.cop rfl (X.indexF (f := e_api_Cycle) h_11 (fun _ => rfl) rfl rfl rfl rfl) rfl rfl ?_
                refine X.cop rfl rfl rfl rfl ?_
                refine X.cop rfl (X.loadF h_11 rfl rfl rfl) rfl rfl ?_
                refine X.cop rfl rfl rfl rfl ?_
                refine X.cnil ?_
                refine X.norm [(1, (V.ptr 0 0 0)), (4, (V.i i)), (6, (V.i k)), (54, (V.b (decide (x1.ID = x2.ID))))] ?_ rfl (W.sub_cons rfl (W.sub_cons rfl (W.sub_cons rfl (W.sub_cons rfl W.sub_nil))))
                refine X.cond rfl (fun h_12 => ?_) (fun h_12 => ?_)
                · replace hM := ite_t h_12 hM
                  refine GS.seq ?_
                  refine GS.region ?_
                  refine X.opR rfl rfl rfl ?_
                  refine GS.opsNil ?_
                  have hE := Option.some.inj hM
                  replace hE := hr_2 _ hE.symm
                  replace hE := hr_1 _ hE.symm
                  subst hE
                  exact GS.ret ⟨_, rfl, ⟨30, rfl⟩⟩
                · replace hM := ite_f h_12 hM
                  refine GS.skip ?_
                  refine GS.endB ?_
                  refine GS.region ?_
                  refine X.opR rfl rfl rfl ?_
                  refine X.opR rfl (X.addE rfl rfl) rfl ?_
                  refine X.opR rfl rfl rfl ?_
                  refine GS.opsNil ?_
                  have hE := Option.some.inj hM
                  exact X.gc [some 0] (hc_4 (w64 (k + 1)) hE.symm) rfl rfl rfl (gk_cons rfl ⟨9, rfl⟩ (gk_cons rfl ⟨9, rfl⟩ (gk_cons rfl ⟨9, rfl⟩ gk_nil))) (gb_box rfl rfl ⟨9, rfl⟩ gb_nil)
              · replace hM := ite_f h_9 hM
                refine GS.exit rfl ?_
                obtain ⟨y_2, hM, hy⟩ := map_of hM
                rw [hr_2 _ hy.symm] at hM
                exact X.gc [some 0] (hj_3 () hM) rfl rfl rfl (gk_cons rfl ⟨9, rfl⟩ (gk_cons rfl ⟨9, rfl⟩ gk_nil)) (gb_box rfl rfl ⟨9, rfl⟩ gb_nil)
        · replace hM := ite_f h_5 hM
          refine GS.exit rfl ?_
          obtain ⟨y_1, hM, hy⟩ := map_of hM
          rw [hr_1 _ hy.symm] at hM
          exact X.gc [some 0] (hj_1 () hM) rfl rfl rfl (gk_cons rfl ⟨9, rfl⟩ gk_nil) (gb_box rfl rfl ⟨9, rfl⟩ gb_nil)

end Go.Proofs.YtphmekpaalfliaaGreat
