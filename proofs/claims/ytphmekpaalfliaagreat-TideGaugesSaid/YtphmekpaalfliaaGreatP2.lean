/- The program's functions compute the plain ones. Conditions: none. Printed by a program (wip/tools/xg.py). -/
import Derived.Test.YtphmekpaalfliaaGreatP1
set_option linter.unusedVariables false
set_option linter.unusedSimpArgs false
namespace Go.Proofs.YtphmekpaalfliaaGreat
open Go Go.Am Go.Proofs Go.Mx

set_option maxHeartbeats 4000000 in
theorem ok_tide_read {w : api_Water} {l : (List api_Gauge)} {r : (List tide_known) × Int} (hM : tide_read w l = some r) : Ct Tryz.prog 37 [(e_api_Water w), (V.sl (List.map e_api_Gauge l))] (V.tup [(V.sl (List.map e_tide_known r.1)), (V.i r.2)]) := by
  refine ct_of_gs CC_ok rfl ?_
  unfold tide_read at hM
  refine GS.seq ?_
  refine GS.region ?_
  refine X.opW rfl rfl rfl rfl ?_
  iterate 2 refine X.opR rfl rfl rfl ?_
  refine GS.opsNil ?_
  iterate 2 refine GS.seq ?_
  obtain ⟨y, h_1, hM⟩ := bind_of hM
  refine GS.region ?_
  refine X.opR rfl rfl rfl ?_
  refine X.call (ok_tide_Check h_1) rfl rfl rfl (.cons (.shut (n := 9) rfl) .nil) ?_
  refine X.opR rfl rfl rfl ?_
  refine GS.opsNil ?_
  refine GS.seq ?_
  refine GS.region ?_
  iterate 2 refine X.opR rfl rfl rfl ?_
  refine GS.opsNil ?_
  refine X.cond rfl (fun h_2 => ?_) (fun h_2 => ?_)
  · replace hM := ite_t h_2 hM
    refine GS.seq ?_
    refine GS.region ?_
    iterate 3 refine X.opR rfl rfl rfl ?_
    refine GS.opsNil ?_
    have hE := Option.some.inj hM
    subst hE
    exact GS.ret ⟨_, rfl, ⟨30, rfl⟩⟩
  · replace hM := ite_f h_2 hM
    refine GS.skip ?_
    iterate 2 refine GS.seq ?_
    refine GS.region ?_
    refine X.opR rfl rfl rfl ?_
    refine X.opR rfl (X.lenF rfl rfl rfl) rfl ?_
    refine X.opR rfl rfl rfl ?_
    refine GS.opsNil ?_
    refine X.cond rfl (fun h_3 => ?_) (fun h_3 => ?_)
    · replace hM := ite_t h_3 hM
      refine GS.seq ?_
      refine GS.region ?_
      iterate 2 refine X.opR rfl rfl rfl ?_
      refine GS.opsNil ?_
      have hE := Option.some.inj hM
      subst hE
      exact GS.ret ⟨_, rfl, ⟨30, rfl⟩⟩
    · replace hM := ite_f h_3 hM
      refine GS.skip ?_
      iterate 2 refine GS.seq ?_
      refine GS.region ?_
      refine X.opR rfl rfl rfl ?_
      refine X.opR rfl (X.lenF rfl rfl rfl) rfl ?_
      refine X.opR rfl rfl rfl ?_
      refine GS.opsNil ?_
      refine X.join (τ := Unit) (fun v => tide_read_j1 w l = some r) (fun v => ⟨[(1, (V.sl (List.map e_api_Gauge l))), (2, (V.ptr 0 0 0))], [.rows 3 [(e_api_Water w)]], 0, none, 64⟩) ?_ ?_
      · intro _ hM
        replace hM : tide_read_j1 w l = some r := hM
        unfold tide_read_j1 at hM
        refine GS.seq ?_
        obtain ⟨y1, h_4, hM⟩ := bind_of hM
        refine GS.region ?_
        iterate 2 refine X.opR rfl rfl rfl ?_
        refine X.call (ok_tide_knowns h_4) rfl rfl rfl (.cons (.shut (n := 9) rfl) (.cons (.shut (n := 9) rfl) .nil)) ?_
        iterate 2 refine X.opR rfl rfl rfl ?_
        refine GS.opsNil ?_
        have hE := Option.some.inj hM
        subst hE
        exact GS.ret ⟨_, rfl, ⟨30, rfl⟩⟩
      · intro hj_1
        refine GS.block ?_
        refine X.gc [some 0] (X.loop (σ := Int) (fun v => ⟨[(1, (V.sl (List.map e_api_Gauge l))), (2, (V.ptr 0 0 0)), (17, (V.sl (List.map e_api_Gauge l))), (18, (V.i (l.length : Int))), (19, (V.i v))], [.rows 3 [(e_api_Water w)]], 0, none, 64⟩) hM ?_ rfl) rfl rfl rfl (gk_cons rfl ⟨9, rfl⟩ (gk_cons rfl ⟨9, rfl⟩ (gk_cons rfl ⟨9, rfl⟩ (gk_cons rfl ⟨9, rfl⟩ (gk_cons rfl ⟨9, rfl⟩ gk_nil))))) (gb_box rfl rfl ⟨9, rfl⟩ gb_nil)
        intro x1 b_1 hM hc_2 hr_1
        rw [tide_read_b2] at hM
        refine GS.seq ?_
        refine GS.region ?_
        refine X.opR rfl rfl rfl ?_
        refine GS.opsNil ?_
        refine GS.seq ?_
        refine X.cond rfl (fun h_5 => ?_) (fun h_5 => ?_)
        · replace hM := ite_t h_5 hM
          refine GS.skip ?_
          refine GS.seq ?_
          refine GS.block ?_
          refine GS.seq ?_
          obtain ⟨x, h_6, hM⟩ := bind_of hM
          refine GS.region ?_
          refine X.opR rfl rfl rfl ?_
          refine X.opR rfl (X.indexF (f := e_api_Gauge) h_6 (fun _ => rfl) rfl rfl rfl rfl) rfl ?_
          refine X.opR rfl (X.loadF h_6 rfl rfl rfl) rfl ?_
          refine X.opW rfl rfl rfl rfl ?_
          refine X.opR rfl rfl rfl ?_
          refine X.op0W rfl rfl rfl ?_
          refine GS.opsNil ?_
          iterate 2 refine GS.seq ?_
          refine GS.region ?_
          refine X.mid [(1, (V.sl (List.map e_api_Gauge l))), (2, (V.ptr 0 0 0)), (7, (V.i x1)), (8, (V.ptr 1 0 0)), (17, (V.sl (List.map e_api_Gauge l))), (18, (V.i (l.length : Int))), (19, (V.i x1)), (54, (V.b (((((!(tide_within x.ID 1 1099511627776)) || (!(tide_minute x.Tick))) || (decide (x.Read.Hi < x.Read.Lo))) || (decide (x.Read.Lo < (-40000)))) || (decide (40000 < x.Read.Hi)))))] ?_ ?_
          · intro hg
            refine X.split (!(tide_within x.ID 1 1099511627776)) (fun h_7 => ?_) (fun h_7 => ?_)
            · iterate 2 refine X.opR rfl rfl rfl ?_
              refine X.call (ok_tide_within x.ID 1 1099511627776) rfl rfl rfl (.cons (.shut (n := 9) rfl) (.cons (.shut (n := 9) rfl) (.cons (.shut (n := 9) rfl) .nil))) ?_
              iterate 2 refine X.opR rfl rfl rfl ?_
              iterate 4 refine X.off (X.off_f rfl rfl rfl h_7) rfl ?_
              refine X.opR rfl (X.pickor_t (y := !(tide_minute x.Tick)) rfl h_7 rfl) rfl ?_
              refine X.opR rfl rfl rfl ?_
              iterate 7 refine X.off (X.off_f rfl rfl rfl (X.or_tt h_7)) rfl ?_
              refine X.opR rfl (X.pickor_t (y := decide (x.Read.Hi < x.Read.Lo)) rfl (X.or_tt h_7) rfl) rfl ?_
              refine X.opR rfl rfl rfl ?_
              iterate 4 refine X.off (X.off_f rfl rfl rfl (X.or_tt (X.or_tt h_7))) rfl ?_
              refine X.opR rfl (X.pickor_t (y := decide (x.Read.Lo < (-40000))) rfl (X.or_tt (X.or_tt h_7)) rfl) rfl ?_
              refine X.opR rfl rfl rfl ?_
              iterate 4 refine X.off (X.off_f rfl rfl rfl (X.or_tt (X.or_tt (X.or_tt h_7)))) rfl ?_
              refine X.opR rfl (X.pickor_t (y := decide (40000 < x.Read.Hi)) rfl (X.or_tt (X.or_tt (X.or_tt h_7))) rfl) rfl ?_
              refine GS.opsNil ?_
              exact X.norm _ hg rfl (W.sub_cons rfl (W.sub_cons rfl (W.sub_cons rfl (W.sub_cons rfl (W.sub_cons rfl (W.sub_cons rfl (W.sub_cons rfl (W.sub_cons rfl W.sub_nil))))))))
            · refine X.split (((!(tide_within x.ID 1 1099511627776)) || (!(tide_minute x.Tick)))) (fun h_8 => ?_) (fun h_8 => ?_)
              · iterate 2 refine X.opR rfl rfl rfl ?_
                refine X.call (ok_tide_within x.ID 1 1099511627776) rfl rfl rfl (.cons (.shut (n := 9) rfl) (.cons (.shut (n := 9) rfl) (.cons (.shut (n := 9) rfl) .nil))) ?_
                iterate 2 refine X.opR rfl rfl rfl ?_
                iterate 2 refine X.opR (X.on_f rfl rfl rfl h_7) rfl rfl ?_
                refine X.call (ok_tide_minute x.Tick) (X.on_f rfl rfl rfl h_7) rfl rfl (.cons (.shut (n := 9) rfl) .nil) ?_
                refine X.opR (X.on_f rfl rfl rfl h_7) rfl rfl ?_
                refine X.opR rfl (X.pickor_f (y := !(tide_minute x.Tick)) rfl h_7 rfl) rfl ?_
                refine X.opR rfl rfl rfl ?_
                iterate 7 refine X.off (X.off_f rfl rfl rfl h_8) rfl ?_
                refine X.opR rfl (X.pickor_t (y := decide (x.Read.Hi < x.Read.Lo)) rfl h_8 rfl) rfl ?_
                refine X.opR rfl rfl rfl ?_
                iterate 4 refine X.off (X.off_f rfl rfl rfl (X.or_tt h_8)) rfl ?_
                refine X.opR rfl (X.pickor_t (y := decide (x.Read.Lo < (-40000))) rfl (X.or_tt h_8) rfl) rfl ?_
                refine X.opR rfl rfl rfl ?_
                iterate 4 refine X.off (X.off_f rfl rfl rfl (X.or_tt (X.or_tt h_8))) rfl ?_
                refine X.opR rfl (X.pickor_t (y := decide (40000 < x.Read.Hi)) rfl (X.or_tt (X.or_tt h_8)) rfl) rfl ?_
                refine GS.opsNil ?_
                exact X.norm _ hg rfl (W.sub_cons rfl (W.sub_cons rfl (W.sub_cons rfl (W.sub_cons rfl (W.sub_cons rfl (W.sub_cons rfl (W.sub_cons rfl (W.sub_cons rfl W.sub_nil))))))))
              · refine X.split ((((!(tide_within x.ID 1 1099511627776)) || (!(tide_minute x.Tick))) || (decide (x.Read.Hi < x.Read.Lo)))) (fun h_9 => ?_) (fun h_9 => ?_)
                · iterate 2 refine X.opR rfl rfl rfl ?_
                  refine X.call (ok_tide_within x.ID 1 1099511627776) rfl rfl rfl (.cons (.shut (n := 9) rfl) (.cons (.shut (n := 9) rfl) (.cons (.shut (n := 9) rfl) .nil))) ?_
                  iterate 2 refine X.opR rfl rfl rfl ?_
                  iterate 2 refine X.opR (X.on_f rfl rfl rfl h_7) rfl rfl ?_
                  refine X.call (ok_tide_minute x.Tick) (X.on_f rfl rfl rfl h_7) rfl rfl (.cons (.shut (n := 9) rfl) .nil) ?_
                  refine X.opR (X.on_f rfl rfl rfl h_7) rfl rfl ?_
                  refine X.opR rfl (X.pickor_f (y := !(tide_minute x.Tick)) rfl h_7 rfl) rfl ?_
                  refine X.opR rfl rfl rfl ?_
                  iterate 7 refine X.opR (X.on_f rfl rfl rfl h_8) rfl rfl ?_
                  refine X.opR rfl (X.pickor_f (y := decide (x.Read.Hi < x.Read.Lo)) rfl h_8 rfl) rfl ?_
                  refine X.opR rfl rfl rfl ?_
                  iterate 4 refine X.off (X.off_f rfl rfl rfl h_9) rfl ?_
                  refine X.opR rfl (X.pickor_t (y := decide (x.Read.Lo < (-40000))) rfl h_9 rfl) rfl ?_
                  refine X.opR rfl rfl rfl ?_
                  iterate 4 refine X.off (X.off_f rfl rfl rfl (X.or_tt h_9)) rfl ?_
                  refine X.opR rfl (X.pickor_t (y := decide (40000 < x.Read.Hi)) rfl (X.or_tt h_9) rfl) rfl ?_
                  refine GS.opsNil ?_
                  exact X.norm _ hg rfl (W.sub_cons rfl (W.sub_cons rfl (W.sub_cons rfl (W.sub_cons rfl (W.sub_cons rfl (W.sub_cons rfl (W.sub_cons rfl (W.sub_cons rfl W.sub_nil))))))))
                · refine X.split (((((!(tide_within x.ID 1 1099511627776)) || (!(tide_minute x.Tick))) || (decide (x.Read.Hi < x.Read.Lo))) || (decide (x.Read.Lo < (-40000))))) (fun h_10 => ?_) (fun h_10 => ?_)
                  · iterate 2 refine X.opR rfl rfl rfl ?_
                    refine X.call (ok_tide_within x.ID 1 1099511627776) rfl rfl rfl (.cons (.shut (n := 9) rfl) (.cons (.shut (n := 9) rfl) (.cons (.shut (n := 9) rfl) .nil))) ?_
                    iterate 2 refine X.opR rfl rfl rfl ?_
                    iterate 2 refine X.opR (X.on_f rfl rfl rfl h_7) rfl rfl ?_
                    refine X.call (ok_tide_minute x.Tick) (X.on_f rfl rfl rfl h_7) rfl rfl (.cons (.shut (n := 9) rfl) .nil) ?_
                    refine X.opR (X.on_f rfl rfl rfl h_7) rfl rfl ?_
                    refine X.opR rfl (X.pickor_f (y := !(tide_minute x.Tick)) rfl h_7 rfl) rfl ?_
                    refine X.opR rfl rfl rfl ?_
                    iterate 7 refine X.opR (X.on_f rfl rfl rfl h_8) rfl rfl ?_
                    refine X.opR rfl (X.pickor_f (y := decide (x.Read.Hi < x.Read.Lo)) rfl h_8 rfl) rfl ?_
                    refine X.opR rfl rfl rfl ?_
                    iterate 4 refine X.opR (X.on_f rfl rfl rfl h_9) rfl rfl ?_
                    refine X.opR rfl (X.pickor_f (y := decide (x.Read.Lo < (-40000))) rfl h_9 rfl) rfl ?_
                    refine X.opR rfl rfl rfl ?_
                    iterate 4 refine X.off (X.off_f rfl rfl rfl h_10) rfl ?_
                    refine X.opR rfl (X.pickor_t (y := decide (40000 < x.Read.Hi)) rfl h_10 rfl) rfl ?_
                    refine GS.opsNil ?_
                    exact X.norm _ hg rfl (W.sub_cons rfl (W.sub_cons rfl (W.sub_cons rfl (W.sub_cons rfl (W.sub_cons rfl (W.sub_cons rfl (W.sub_cons rfl (W.sub_cons rfl W.sub_nil))))))))
                  · iterate 2 refine X.opR rfl rfl rfl ?_
                    refine X.call (ok_tide_within x.ID 1 1099511627776) rfl rfl rfl (.cons (.shut (n := 9) rfl) (.cons (.shut (n := 9) rfl) (.cons (.shut (n := 9) rfl) .nil))) ?_
                    iterate 2 refine X.opR rfl rfl rfl ?_
                    iterate 2 refine X.opR (X.on_f rfl rfl rfl h_7) rfl rfl ?_
                    refine X.call (ok_tide_minute x.Tick) (X.on_f rfl rfl rfl h_7) rfl rfl (.cons (.shut (n := 9) rfl) .nil) ?_
                    refine X.opR (X.on_f rfl rfl rfl h_7) rfl rfl ?_
                    refine X.opR rfl (X.pickor_f (y := !(tide_minute x.Tick)) rfl h_7 rfl) rfl ?_
                    refine X.opR rfl rfl rfl ?_
                    iterate 7 refine X.opR (X.on_f rfl rfl rfl h_8) rfl rfl ?_
                    refine X.opR rfl (X.pickor_f (y := decide (x.Read.Hi < x.Read.Lo)) rfl h_8 rfl) rfl ?_
                    refine X.opR rfl rfl rfl ?_
                    iterate 4 refine X.opR (X.on_f rfl rfl rfl h_9) rfl rfl ?_
                    refine X.opR rfl (X.pickor_f (y := decide (x.Read.Lo < (-40000))) rfl h_9 rfl) rfl ?_
                    refine X.opR rfl rfl rfl ?_
                    iterate 4 refine X.opR (X.on_f rfl rfl rfl h_10) rfl rfl ?_
                    refine X.opR rfl (X.pickor_f (y := decide (40000 < x.Read.Hi)) rfl h_10 rfl) rfl ?_
                    refine GS.opsNil ?_
                    exact X.norm _ hg rfl (W.sub_cons rfl (W.sub_cons rfl (W.sub_cons rfl (W.sub_cons rfl (W.sub_cons rfl (W.sub_cons rfl (W.sub_cons rfl (W.sub_cons rfl W.sub_nil))))))))
          refine X.cond rfl (fun h_11 => ?_) (fun h_11 => ?_)
          · replace hM := ite_t h_11 hM
            refine GS.seq ?_
            refine GS.region ?_
            iterate 2 refine X.opR rfl rfl rfl ?_
            refine GS.opsNil ?_
            have hE := Option.some.inj hM
            replace hE := hr_1 _ hE.symm
            subst hE
            exact GS.ret ⟨_, rfl, ⟨30, rfl⟩⟩
          · replace hM := ite_f h_11 hM
            refine GS.skip ?_
            refine GS.seq ?_
            obtain ⟨l1, h_12, hM⟩ := bind_of hM
            obtain ⟨y2, h_13, hM⟩ := bind_of hM
            refine GS.region ?_
            iterate 2 refine X.opR rfl rfl rfl ?_
            refine X.opR rfl (X.sliceF (f := e_api_Gauge) h_12 (fun _ => rfl) rfl rfl rfl rfl rfl rfl (X.boundA_int rfl)) rfl ?_
            refine X.opR rfl rfl rfl ?_
            refine X.callF (ok_slices_ContainsFunc_api_Gauge__tide_read_1 h_13) rfl rfl rfl (m := 9) rfl (.cons (.shut (n := 9) rfl) (.cons (FR.arg ⟨30, rfl⟩) .nil)) ?_
            refine GS.opsNil ?_
            refine X.cond rfl (fun h_14 => ?_) (fun h_14 => ?_)
            · replace hM := ite_t h_14 hM
              refine GS.seq ?_
              refine GS.region ?_
              iterate 2 refine X.opR rfl rfl rfl ?_
              refine GS.opsNil ?_
              have hE := Option.some.inj hM
              replace hE := hr_1 _ hE.symm
              subst hE
              exact GS.ret ⟨_, rfl, ⟨30, rfl⟩⟩
            · replace hM := ite_f h_14 hM
              refine GS.skip ?_
              refine GS.endB ?_
              refine GS.region ?_
              refine X.opR rfl (X.addE rfl rfl) rfl ?_
              refine X.opR rfl rfl rfl ?_
              refine GS.opsNil ?_
              have hE := Option.some.inj hM
              exact X.gc [some 0] (hc_2 (w64 (x1 + 1)) hE.symm) rfl rfl rfl (gk_cons rfl ⟨9, rfl⟩ (gk_cons rfl ⟨9, rfl⟩ (gk_cons rfl ⟨9, rfl⟩ (gk_cons rfl ⟨9, rfl⟩ (gk_cons rfl ⟨9, rfl⟩ gk_nil))))) (gb_box rfl rfl ⟨9, rfl⟩ gb_nil)
        · replace hM := ite_f h_5 hM
          refine GS.exit rfl ?_
          obtain ⟨y_1, hM, hy⟩ := map_of hM
          rw [hr_1 _ hy.symm] at hM
          exact X.gc [some 0] (hj_1 () hM) rfl rfl rfl (gk_cons rfl ⟨9, rfl⟩ (gk_cons rfl ⟨9, rfl⟩ gk_nil)) (gb_box rfl rfl ⟨9, rfl⟩ gb_nil)

theorem ok_tide_levels {l : (List tide_known)} {but : Int} {r : api_Span} (hM : tide_levels l but = some r) : Ct Tryz.prog 39 [(V.sl (List.map e_tide_known l)), (V.i but)] (e_api_Span r) := by
  refine ct_of_gs CC_ok rfl ?_
  unfold tide_levels at hM
  refine GS.seq ?_
  refine GS.region ?_
  refine X.opW rfl rfl rfl rfl ?_
  refine GS.opsNil ?_
  refine GS.seq ?_
  refine GS.region ?_
  refine X.call ok_tide_every rfl rfl rfl .nil ?_
  refine X.opW rfl rfl rfl rfl ?_
  refine X.op0W rfl rfl rfl ?_
  refine GS.opsNil ?_
  iterate 2 refine GS.seq ?_
  refine GS.region ?_
  refine X.opR rfl rfl rfl ?_
  refine X.opR rfl (X.lenF rfl rfl rfl) rfl ?_
  refine X.opR rfl rfl rfl ?_
  refine GS.opsNil ?_
  refine X.join (τ := Int × Int) (fun v => tide_levels_j1 v.1 v.2 = some r) (fun v => ⟨[(4, (V.ptr 0 0 0)), (5, (V.ptr 1 0 0))], [.rows 2 [(V.agg [(V.i 0), (V.i 0)])], .rows 2 [(V.agg [(V.i v.1), (V.i v.2)])]], 0, none, 25⟩) ?_ ?_
  · rintro ⟨Lo, Hi⟩ hM
    replace hM : tide_levels_j1 Lo Hi = some r := hM
    unfold tide_levels_j1 at hM
    refine GS.seq ?_
    refine GS.region ?_
    refine X.opR rfl rfl rfl ?_
    refine X.op0W rfl rfl rfl ?_
    refine GS.opsNil ?_
    have hE := Option.some.inj hM
    subst hE
    exact GS.ret ⟨_, rfl, ⟨30, rfl⟩⟩
  · intro hj_1
    refine GS.block ?_
    refine X.gc [some 0, some 1] (X.loop (σ := (Int × Int × Int)) (fun v => ⟨[(1, (V.i but)), (4, (V.ptr 0 0 0)), (5, (V.ptr 1 0 0)), (9, (V.sl (List.map e_tide_known l))), (10, (V.i (l.length : Int))), (11, (V.i v.1))], [.rows 2 [(V.agg [(V.i 0), (V.i 0)])], .rows 2 [(V.agg [(V.i v.2.1), (V.i v.2.2)])]], 0, none, 25⟩) hM ?_ rfl) rfl rfl rfl (gk_cons rfl ⟨9, rfl⟩ (gk_cons rfl ⟨9, rfl⟩ (gk_cons rfl ⟨9, rfl⟩ (gk_cons rfl ⟨9, rfl⟩ (gk_cons rfl ⟨9, rfl⟩ (gk_cons rfl ⟨9, rfl⟩ gk_nil)))))) (gb_box rfl rfl ⟨9, rfl⟩ (gb_box rfl rfl ⟨9, rfl⟩ gb_nil))
    rintro ⟨x1, Lo2, Hi2⟩ b_1 hM hc_2 hr_1
    rw [tide_levels_b2] at hM
    refine GS.seq ?_
    refine GS.region ?_
    refine X.opR rfl rfl rfl ?_
    refine GS.opsNil ?_
    refine GS.seq ?_
    refine X.cond rfl (fun h_1 => ?_) (fun h_1 => ?_)
    · replace hM := ite_t h_1 hM
      refine GS.skip ?_
      refine GS.seq ?_
      refine X.join (τ := Int × Int) (fun v => tide_levels_j3 x1 v.1 v.2 = some b_1) (fun v => ⟨[(1, (V.i but)), (4, (V.ptr 0 0 0)), (5, (V.ptr 1 0 0)), (9, (V.sl (List.map e_tide_known l))), (10, (V.i (l.length : Int))), (11, (V.i x1))], [.rows 2 [(V.agg [(V.i 0), (V.i 0)])], .rows 2 [(V.agg [(V.i v.1), (V.i v.2)])]], 0, none, 25⟩) ?_ ?_
      · rintro ⟨Lo1, Hi1⟩ hM
        replace hM : tide_levels_j3 x1 Lo1 Hi1 = some b_1 := hM
        unfold tide_levels_j3 at hM
        refine GS.region ?_
        refine X.opR rfl (X.addE rfl rfl) rfl ?_
        refine X.opR rfl rfl rfl ?_
        refine GS.opsNil ?_
        have hE := Option.some.inj hM
        exact X.gc [some 0, some 1] (hc_2 (w64 (x1 + 1), Lo1, Hi1) hE.symm) rfl rfl rfl (gk_cons rfl ⟨9, rfl⟩ (gk_cons rfl ⟨9, rfl⟩ (gk_cons rfl ⟨9, rfl⟩ (gk_cons rfl ⟨9, rfl⟩ (gk_cons rfl ⟨9, rfl⟩ (gk_cons rfl ⟨9, rfl⟩ gk_nil)))))) (gb_box rfl rfl ⟨9, rfl⟩ (gb_box rfl rfl ⟨9, rfl⟩ gb_nil))
      · intro hj_3
        refine GS.block ?_
        refine GS.seq ?_
        obtain ⟨x, h_2, hM⟩ := bind_of hM
        refine GS.region ?_
        refine X.opR rfl rfl rfl ?_
        refine X.opR rfl (X.indexF (f := e_tide_known) h_2 (fun _ => rfl) rfl rfl rfl rfl) rfl ?_
        refine X.opR rfl (X.loadF h_2 rfl rfl rfl) rfl ?_
        refine X.opW rfl rfl rfl rfl ?_
        refine X.opR rfl rfl rfl ?_
        refine X.op0W rfl rfl rfl ?_
        refine GS.opsNil ?_
        refine GS.seq ?_
        refine GS.region ?_
        iterate 3 refine X.opR rfl rfl rfl ?_
        refine GS.opsNil ?_
        refine X.cond rfl (fun h_3 => ?_) (fun h_3 => ?_)
        · replace hM := ite_t h_3 hM
          refine GS.region ?_
          iterate 3 refine X.opR rfl rfl rfl ?_
          refine X.call (ok_tide_both (⟨Lo2, Hi2⟩ : api_Span) x.levels) rfl rfl rfl (.cons (.shut (n := 9) rfl) (.cons (.shut (n := 9) rfl) .nil)) ?_
          refine X.op0W rfl rfl rfl ?_
          refine GS.opsNil ?_
          refine GS.endB ?_
          exact X.gc [some 0, some 1] (hj_3 ((tide_both (⟨Lo2, Hi2⟩ : api_Span) x.levels).Lo, (tide_both (⟨Lo2, Hi2⟩ : api_Span) x.levels).Hi) hM) rfl rfl rfl (gk_cons rfl ⟨9, rfl⟩ (gk_cons rfl ⟨9, rfl⟩ (gk_cons rfl ⟨9, rfl⟩ (gk_cons rfl ⟨9, rfl⟩ (gk_cons rfl ⟨9, rfl⟩ (gk_cons rfl ⟨9, rfl⟩ gk_nil)))))) (gb_box rfl rfl ⟨9, rfl⟩ (gb_box rfl rfl ⟨9, rfl⟩ gb_nil))
        · replace hM := ite_f h_3 hM
          refine GS.skip ?_
          refine GS.endB ?_
          exact X.gc [some 0, some 1] (hj_3 (Lo2, Hi2) hM) rfl rfl rfl (gk_cons rfl ⟨9, rfl⟩ (gk_cons rfl ⟨9, rfl⟩ (gk_cons rfl ⟨9, rfl⟩ (gk_cons rfl ⟨9, rfl⟩ (gk_cons rfl ⟨9, rfl⟩ (gk_cons rfl ⟨9, rfl⟩ gk_nil)))))) (gb_box rfl rfl ⟨9, rfl⟩ (gb_box rfl rfl ⟨9, rfl⟩ gb_nil))
    · replace hM := ite_f h_1 hM
      refine GS.exit rfl ?_
      obtain ⟨y_1, hM, hy⟩ := map_of hM
      rw [hr_1 _ hy.symm] at hM
      exact X.gc [some 0, some 1] (hj_1 (Lo2, Hi2) hM) rfl rfl rfl (gk_cons rfl ⟨9, rfl⟩ (gk_cons rfl ⟨9, rfl⟩ gk_nil)) (gb_box rfl rfl ⟨9, rfl⟩ (gb_box rfl rfl ⟨9, rfl⟩ gb_nil))

theorem ok_tide_none (s : api_Span) : Ct Tryz.prog 38 [(e_api_Span s)] (V.b (tide_none s)) := by
  refine ct_of_gs CC_ok rfl ?_
  generalize hM : tide_none s = r
  unfold tide_none at hM
  refine GS.seq ?_
  refine GS.region ?_
  refine X.opW rfl rfl rfl rfl ?_
  refine X.opR rfl rfl rfl ?_
  refine GS.opsNil ?_
  refine GS.seq ?_
  refine GS.region ?_
  iterate 6 refine X.opR rfl rfl rfl ?_
  refine GS.opsNil ?_
  subst hM
  exact GS.ret ⟨_, rfl, ⟨30, rfl⟩⟩

theorem ok_tide_Levels {w : api_Water} {l : (List api_Gauge)} {r : api_Span × Int} (hM : tide_Levels w l = some r) : Ct Tryz.prog 12 [(e_api_Water w), (V.sl (List.map e_api_Gauge l))] (V.tup [(e_api_Span r.1), (V.i r.2)]) := by
  refine ct_of_gs CC_ok rfl ?_
  unfold tide_Levels at hM
  refine GS.seq ?_
  refine GS.region ?_
  iterate 2 refine X.opW rfl rfl rfl rfl ?_
  refine X.opR rfl rfl rfl ?_
  refine GS.opsNil ?_
  refine GS.seq ?_
  obtain ⟨y, h_1, hM⟩ := bind_of hM
  refine GS.region ?_
  iterate 2 refine X.opR rfl rfl rfl ?_
  refine X.call (ok_tide_read h_1) rfl rfl rfl (.cons (.shut (n := 9) rfl) (.cons (.shut (n := 9) rfl) .nil)) ?_
  iterate 5 refine X.opR rfl rfl rfl ?_
  refine GS.opsNil ?_
  iterate 2 refine GS.seq ?_
  refine GS.region ?_
  iterate 2 refine X.opR rfl rfl rfl ?_
  refine GS.opsNil ?_
  refine X.cond rfl (fun h_2 => ?_) (fun h_2 => ?_)
  · replace hM := ite_t h_2 hM
    refine GS.seq ?_
    refine GS.region ?_
    iterate 2 refine X.opR rfl rfl rfl ?_
    refine X.op0W rfl rfl rfl ?_
    refine X.opR rfl rfl rfl ?_
    refine GS.opsNil ?_
    have hE := Option.some.inj hM
    subst hE
    exact GS.ret ⟨_, rfl, ⟨30, rfl⟩⟩
  · replace hM := ite_f h_2 hM
    refine GS.skip ?_
    refine GS.seq ?_
    obtain ⟨y1, h_3, hM⟩ := bind_of hM
    refine GS.region ?_
    refine X.opR rfl rfl rfl ?_
    refine X.call (ok_tide_levels h_3) rfl rfl rfl (.cons (.shut (n := 9) rfl) (.cons (.shut (n := 9) rfl) .nil)) ?_
    refine X.opW rfl rfl rfl rfl ?_
    refine X.op0W rfl rfl rfl ?_
    refine GS.opsNil ?_
    iterate 2 refine GS.seq ?_
    refine GS.region ?_
    refine X.opR rfl rfl rfl ?_
    refine X.call (ok_tide_none y1) rfl rfl rfl (.cons (.shut (n := 9) rfl) .nil) ?_
    refine GS.opsNil ?_
    refine X.cond rfl (fun h_4 => ?_) (fun h_4 => ?_)
    · replace hM := ite_t h_4 hM
      refine GS.seq ?_
      refine GS.region ?_
      refine X.opR rfl rfl rfl ?_
      refine X.op0W rfl rfl rfl ?_
      refine X.opR rfl rfl rfl ?_
      refine GS.opsNil ?_
      have hE := Option.some.inj hM
      subst hE
      exact GS.ret ⟨_, rfl, ⟨30, rfl⟩⟩
    · replace hM := ite_f h_4 hM
      refine GS.skip ?_
      refine GS.seq ?_
      refine GS.region ?_
      refine X.opR rfl rfl rfl ?_
      refine X.op0W rfl rfl rfl ?_
      refine X.opR rfl rfl rfl ?_
      refine GS.opsNil ?_
      have hE := Option.some.inj hM
      subst hE
      exact GS.ret ⟨_, rfl, ⟨30, rfl⟩⟩

theorem ok_tide_Rests_1 {n : Int} {c : (List tide_known)} {r : Int} (hM : tide_Rests_1 n c = some r) : Ct Tryz.prog 43 [(V.i n), (V.fptr [(V.sl (List.map e_tide_known c))] 0 0)] (V.i r) := by
  refine ct_of_gs CC_ok rfl ?_
  unfold tide_Rests_1 at hM
  refine GS.seq ?_
  refine GS.region ?_
  refine X.opR rfl rfl rfl ?_
  refine GS.opsNil ?_
  refine GS.seq ?_
  refine GS.region ?_
  refine X.opR rfl rfl rfl ?_
  refine GS.opsNil ?_
  iterate 2 refine GS.seq ?_
  refine GS.region ?_
  refine X.opR rfl rfl rfl ?_
  refine X.opR rfl (X.lenF rfl rfl rfl) rfl ?_
  refine X.opR rfl rfl rfl ?_
  refine GS.opsNil ?_
  refine X.join (τ := Int) (fun v => tide_Rests_1_j1 v = some r) (fun v => ⟨[(4, (V.i v))], [], 0, none, 42⟩) ?_ ?_
  · intro id hM
    replace hM : tide_Rests_1_j1 id = some r := hM
    unfold tide_Rests_1_j1 at hM
    refine GS.seq ?_
    refine GS.region ?_
    iterate 2 refine X.opR rfl rfl rfl ?_
    refine GS.opsNil ?_
    have hE := Option.some.inj hM
    subst hE
    exact GS.ret ⟨_, rfl, ⟨30, rfl⟩⟩
  · intro hj_1
    refine GS.block ?_
    refine X.gc [] (X.loop (σ := (Int × Int)) (fun v => ⟨[(0, (V.i n)), (4, (V.i v.1)), (7, (V.sl (List.map e_tide_known c))), (8, (V.i (c.length : Int))), (9, (V.i v.2))], [], 0, none, 42⟩) hM ?_ rfl) rfl rfl rfl (gk_cons rfl ⟨9, rfl⟩ (gk_cons rfl ⟨9, rfl⟩ (gk_cons rfl ⟨9, rfl⟩ (gk_cons rfl ⟨9, rfl⟩ (gk_cons rfl ⟨9, rfl⟩ gk_nil))))) (gb_nil)
    rintro ⟨id2, x1⟩ b_1 hM hc_2 hr_1
    rw [tide_Rests_1_b2] at hM
    refine GS.seq ?_
    refine GS.region ?_
    refine X.opR rfl rfl rfl ?_
    refine GS.opsNil ?_
    refine GS.seq ?_
    refine X.cond rfl (fun h_1 => ?_) (fun h_1 => ?_)
    · replace hM := ite_t h_1 hM
      refine GS.skip ?_
      refine GS.seq ?_
      refine X.join (τ := Int) (fun v => tide_Rests_1_j3 x1 v = some b_1) (fun v => ⟨[(0, (V.i n)), (4, (V.i v)), (7, (V.sl (List.map e_tide_known c))), (8, (V.i (c.length : Int))), (9, (V.i x1))], [], 0, none, 42⟩) ?_ ?_
      · intro id1 hM
        replace hM : tide_Rests_1_j3 x1 id1 = some b_1 := hM
        unfold tide_Rests_1_j3 at hM
        refine GS.region ?_
        refine X.opR rfl (X.addE rfl rfl) rfl ?_
        refine X.opR rfl rfl rfl ?_
        refine GS.opsNil ?_
        have hE := Option.some.inj hM
        exact X.gc [] (hc_2 (id1, w64 (x1 + 1)) hE.symm) rfl rfl rfl (gk_cons rfl ⟨9, rfl⟩ (gk_cons rfl ⟨9, rfl⟩ (gk_cons rfl ⟨9, rfl⟩ (gk_cons rfl ⟨9, rfl⟩ (gk_cons rfl ⟨9, rfl⟩ gk_nil))))) (gb_nil)
      · intro hj_3
        refine GS.block ?_
        refine GS.seq ?_
        obtain ⟨x, h_2, hM⟩ := bind_of hM
        refine GS.region ?_
        refine X.opR rfl (X.indexF (f := e_tide_known) h_2 (fun _ => rfl) rfl rfl rfl rfl) rfl ?_
        refine X.opR rfl (X.loadF h_2 rfl rfl rfl) rfl ?_
        refine X.opW rfl rfl rfl rfl ?_
        refine X.op0W rfl rfl rfl ?_
        refine GS.opsNil ?_
        refine GS.seq ?_
        refine GS.region ?_
        refine X.mid [(0, (V.i n)), (4, (V.i id2)), (6, (V.ptr 0 0 0)), (7, (V.sl (List.map e_tide_known c))), (8, (V.i (c.length : Int))), (9, (V.i x1)), (36, (V.b (((tide_level n) && (!(tide_within n x.levels.Lo x.levels.Hi))) && ((decide (id2 = 0)) || (decide (x.Gauge.ID < id2))))))] ?_ ?_
        · intro hg
          refine X.split ((tide_level n)) (fun h_3 => ?_) (fun h_3 => ?_)
          · refine X.split (((tide_level n) && (!(tide_within n x.levels.Lo x.levels.Hi)))) (fun h_4 => ?_) (fun h_4 => ?_)
            · refine X.split (decide (id2 = 0)) (fun h_5 => ?_) (fun h_5 => ?_)
              · refine X.opR rfl rfl rfl ?_
                refine X.call (ok_tide_level n) rfl rfl rfl (.cons (.shut (n := 9) rfl) .nil) ?_
                refine X.opR rfl rfl rfl ?_
                iterate 7 refine X.opR (X.on_t rfl rfl rfl h_3) rfl rfl ?_
                refine X.call (ok_tide_within n x.levels.Lo x.levels.Hi) (X.on_t rfl rfl rfl h_3) rfl rfl (.cons (.shut (n := 9) rfl) (.cons (.shut (n := 9) rfl) (.cons (.shut (n := 9) rfl) .nil))) ?_
                refine X.opR (X.on_t rfl rfl rfl h_3) rfl rfl ?_
                refine X.opR rfl (X.pickand_t (y := !(tide_within n x.levels.Lo x.levels.Hi)) rfl h_3 rfl) rfl ?_
                refine X.opR rfl rfl rfl ?_
                iterate 3 refine X.opR (X.on_t rfl rfl rfl h_4) rfl rfl ?_
                iterate 5 refine X.off (X.off_f rfl rfl rfl h_5) rfl ?_
                refine X.opR (X.on_t rfl rfl rfl h_4) (X.pickor_t (y := decide (x.Gauge.ID < id2)) rfl h_5 rfl) rfl ?_
                refine X.opR rfl (X.pickand_t (y := ((decide (id2 = 0)) || (decide (x.Gauge.ID < id2)))) rfl h_4 rfl) rfl ?_
                refine GS.opsNil ?_
                exact X.norm _ hg rfl (W.sub_cons rfl (W.sub_cons rfl (W.sub_cons rfl (W.sub_cons rfl (W.sub_cons rfl (W.sub_cons rfl (W.sub_cons rfl W.sub_nil)))))))
              · refine X.opR rfl rfl rfl ?_
                refine X.call (ok_tide_level n) rfl rfl rfl (.cons (.shut (n := 9) rfl) .nil) ?_
                refine X.opR rfl rfl rfl ?_
                iterate 7 refine X.opR (X.on_t rfl rfl rfl h_3) rfl rfl ?_
                refine X.call (ok_tide_within n x.levels.Lo x.levels.Hi) (X.on_t rfl rfl rfl h_3) rfl rfl (.cons (.shut (n := 9) rfl) (.cons (.shut (n := 9) rfl) (.cons (.shut (n := 9) rfl) .nil))) ?_
                refine X.opR (X.on_t rfl rfl rfl h_3) rfl rfl ?_
                refine X.opR rfl (X.pickand_t (y := !(tide_within n x.levels.Lo x.levels.Hi)) rfl h_3 rfl) rfl ?_
                refine X.opR rfl rfl rfl ?_
                iterate 3 refine X.opR (X.on_t rfl rfl rfl h_4) rfl rfl ?_
                iterate 5 refine X.opR (X.on_f rfl rfl rfl h_5) rfl rfl ?_
                refine X.opR (X.on_t rfl rfl rfl h_4) (X.pickor_f (y := decide (x.Gauge.ID < id2)) rfl h_5 rfl) rfl ?_
                refine X.opR rfl (X.pickand_t (y := ((decide (id2 = 0)) || (decide (x.Gauge.ID < id2)))) rfl h_4 rfl) rfl ?_
                refine GS.opsNil ?_
                exact X.norm _ hg rfl (W.sub_cons rfl (W.sub_cons rfl (W.sub_cons rfl (W.sub_cons rfl (W.sub_cons rfl (W.sub_cons rfl (W.sub_cons rfl W.sub_nil)))))))
            · refine X.opR rfl rfl rfl ?_
              refine X.call (ok_tide_level n) rfl rfl rfl (.cons (.shut (n := 9) rfl) .nil) ?_
              refine X.opR rfl rfl rfl ?_
              iterate 7 refine X.opR (X.on_t rfl rfl rfl h_3) rfl rfl ?_
              refine X.call (ok_tide_within n x.levels.Lo x.levels.Hi) (X.on_t rfl rfl rfl h_3) rfl rfl (.cons (.shut (n := 9) rfl) (.cons (.shut (n := 9) rfl) (.cons (.shut (n := 9) rfl) .nil))) ?_
              refine X.opR (X.on_t rfl rfl rfl h_3) rfl rfl ?_
              refine X.opR rfl (X.pickand_t (y := !(tide_within n x.levels.Lo x.levels.Hi)) rfl h_3 rfl) rfl ?_
              refine X.opR rfl rfl rfl ?_
              iterate 3 refine X.off (X.off_t rfl rfl rfl h_4) rfl ?_
              iterate 5 refine X.off rfl rfl ?_
              refine X.off (X.off_t rfl rfl rfl h_4) rfl ?_
              refine X.opR rfl (X.pickand_f (y := ((decide (id2 = 0)) || (decide (x.Gauge.ID < id2)))) rfl h_4 rfl) rfl ?_
              refine GS.opsNil ?_
              exact X.norm _ hg rfl (W.sub_cons rfl (W.sub_cons rfl (W.sub_cons rfl (W.sub_cons rfl (W.sub_cons rfl (W.sub_cons rfl (W.sub_cons rfl W.sub_nil)))))))
          · refine X.opR rfl rfl rfl ?_
            refine X.call (ok_tide_level n) rfl rfl rfl (.cons (.shut (n := 9) rfl) .nil) ?_
            refine X.opR rfl rfl rfl ?_
            iterate 9 refine X.off (X.off_t rfl rfl rfl h_3) rfl ?_
            refine X.opR rfl (X.pickand_f (y := !(tide_within n x.levels.Lo x.levels.Hi)) rfl h_3 rfl) rfl ?_
            refine X.opR rfl rfl rfl ?_
            iterate 3 refine X.off (X.off_t rfl rfl rfl (X.and_ff h_3)) rfl ?_
            iterate 5 refine X.off rfl rfl ?_
            refine X.off (X.off_t rfl rfl rfl (X.and_ff h_3)) rfl ?_
            refine X.opR rfl (X.pickand_f (y := ((decide (id2 = 0)) || (decide (x.Gauge.ID < id2)))) rfl (X.and_ff h_3) rfl) rfl ?_
            refine GS.opsNil ?_
            exact X.norm _ hg rfl (W.sub_cons rfl (W.sub_cons rfl (W.sub_cons rfl (W.sub_cons rfl (W.sub_cons rfl (W.sub_cons rfl (W.sub_cons rfl W.sub_nil)))))))
        refine X.cond rfl (fun h_6 => ?_) (fun h_6 => ?_)
        · replace hM := ite_t h_6 hM
          refine GS.region ?_
          iterate 4 refine X.opR rfl rfl rfl ?_
          refine GS.opsNil ?_
          refine GS.endB ?_
          exact X.gc [] (hj_3 x.Gauge.ID hM) rfl rfl rfl (gk_cons rfl ⟨9, rfl⟩ (gk_cons rfl ⟨9, rfl⟩ (gk_cons rfl ⟨9, rfl⟩ (gk_cons rfl ⟨9, rfl⟩ (gk_cons rfl ⟨9, rfl⟩ gk_nil))))) (gb_nil)
        · replace hM := ite_f h_6 hM
          refine GS.skip ?_
          refine GS.endB ?_
          exact X.gc [] (hj_3 id2 hM) rfl rfl rfl (gk_cons rfl ⟨9, rfl⟩ (gk_cons rfl ⟨9, rfl⟩ (gk_cons rfl ⟨9, rfl⟩ (gk_cons rfl ⟨9, rfl⟩ (gk_cons rfl ⟨9, rfl⟩ gk_nil))))) (gb_nil)
    · replace hM := ite_f h_1 hM
      refine GS.exit rfl ?_
      obtain ⟨y_1, hM, hy⟩ := map_of hM
      rw [hr_1 _ hy.symm] at hM
      exact X.gc [] (hj_1 id2 hM) rfl rfl rfl (gk_cons rfl ⟨9, rfl⟩ gk_nil) (gb_nil)

theorem ok_tide_Rests {w : api_Water} {l : (List api_Gauge)} {r : Int × Int × Int} (hM : tide_Rests w l = some r) : Ct Tryz.prog 14 [(e_api_Water w), (V.sl (List.map e_api_Gauge l))] (V.tup [(V.i r.1), (V.i r.2.1), (V.i r.2.2)]) := by
  refine ct_of_gs CC_ok rfl ?_
  unfold tide_Rests at hM
  refine GS.seq ?_
  refine GS.region ?_
  refine X.opW rfl rfl rfl rfl ?_
  iterate 3 refine X.opR rfl rfl rfl ?_
  refine GS.opsNil ?_
  refine GS.seq ?_
  obtain ⟨y, h_1, hM⟩ := bind_of hM
  refine GS.region ?_
  iterate 2 refine X.opR rfl rfl rfl ?_
  refine X.call (ok_tide_Levels h_1) rfl rfl rfl (.cons (.shut (n := 9) rfl) (.cons (.shut (n := 9) rfl) .nil)) ?_
  iterate 3 refine X.opR rfl rfl rfl ?_
  refine X.opW rfl rfl rfl rfl ?_
  refine X.op0W rfl rfl rfl ?_
  refine X.opR rfl rfl rfl ?_
  refine GS.opsNil ?_
  iterate 2 refine GS.seq ?_
  refine GS.region ?_
  iterate 2 refine X.opR rfl rfl rfl ?_
  refine GS.opsNil ?_
  refine X.cond rfl (fun h_2 => ?_) (fun h_2 => ?_)
  · replace hM := ite_t h_2 hM
    refine GS.seq ?_
    refine GS.region ?_
    iterate 4 refine X.opR rfl rfl rfl ?_
    refine GS.opsNil ?_
    have hE := Option.some.inj hM
    subst hE
    exact GS.ret ⟨_, rfl, ⟨30, rfl⟩⟩
  · replace hM := ite_f h_2 hM
    refine GS.skip ?_
    refine GS.seq ?_
    obtain ⟨y1, h_3, hM⟩ := bind_of hM
    refine GS.region ?_
    iterate 2 refine X.opR rfl rfl rfl ?_
    refine X.call (ok_tide_knowns h_3) rfl rfl rfl (.cons (.shut (n := 9) rfl) (.cons (.shut (n := 9) rfl) .nil)) ?_
    refine X.opW rfl rfl rfl rfl ?_
    refine X.op0W rfl rfl rfl ?_
    refine GS.opsNil ?_
    refine GS.seq ?_
    refine GS.region ?_
    iterate 2 refine X.opR rfl rfl rfl ?_
    refine GS.opsNil ?_
    refine GS.seq ?_
    obtain ⟨y2, h_4, hM⟩ := bind_of hM
    obtain ⟨y3, h_5, hM⟩ := bind_of hM
    refine X.drawc (by kernel_rfl) rfl ?_
    iterate 3 refine X.cop rfl rfl rfl rfl ?_
    refine X.cop rfl (X.subE rfl rfl) rfl rfl ?_
    refine X.ccallF (ok_tide_Rests_1 h_4) rfl rfl rfl rfl (m := 9) rfl (.cons (.shut (n := 9) rfl) (.cons (FR.arg ⟨30, rfl⟩) .nil)) ?_
    iterate 3 refine X.cop rfl rfl rfl rfl ?_
    refine X.cop rfl (X.addE rfl rfl) rfl rfl ?_
    refine X.ccallF (ok_tide_Rests_1 h_5) rfl rfl rfl rfl (m := 9) rfl (.cons (.shut (n := 9) rfl) (.cons (FR.arg ⟨30, rfl⟩) .nil)) ?_
    iterate 3 refine X.cop rfl rfl rfl rfl ?_
    refine X.cnil ?_
    refine X.norm [(4, (V.i y2)), (5, (V.i y3)), (6, (V.i 0))] ?_ rfl (W.sub_cons rfl (W.sub_cons rfl (W.sub_cons rfl W.sub_nil)))
    have hE := Option.some.inj hM
    subst hE
    exact GS.ret ⟨_, rfl, ⟨30, rfl⟩⟩

theorem ok_ref02_SameInts {a : (List Int)} {b : (List Int)} {r : Bool} (hM : ref02_SameInts a b = some r) : Ct Tryz.prog 11 [(V.sl (List.map V.i a)), (V.sl (List.map V.i b))] (V.b r) := by
  refine ct_of_gs CC_ok rfl ?_
  unfold ref02_SameInts at hM
  refine GS.seq ?_
  refine GS.region ?_
  refine X.opR rfl rfl rfl ?_
  refine GS.opsNil ?_
  iterate 2 refine GS.seq ?_
  refine GS.region ?_
  refine X.opR rfl rfl rfl ?_
  refine X.opR rfl (X.lenF rfl rfl rfl) rfl ?_
  refine X.opR rfl rfl rfl ?_
  refine X.opR rfl (X.lenF rfl rfl rfl) rfl ?_
  refine X.opR rfl rfl rfl ?_
  refine GS.opsNil ?_
  refine X.cond rfl (fun h_1 => ?_) (fun h_1 => ?_)
  · replace hM := ite_t h_1 hM
    refine GS.seq ?_
    refine GS.region ?_
    refine X.opR rfl rfl rfl ?_
    refine GS.opsNil ?_
    have hE := Option.some.inj hM
    subst hE
    exact GS.ret ⟨_, rfl, ⟨30, rfl⟩⟩
  · replace hM := ite_f h_1 hM
    refine GS.skip ?_
    iterate 2 refine GS.seq ?_
    refine GS.region ?_
    refine X.opR rfl rfl rfl ?_
    refine GS.opsNil ?_
    refine X.join (τ := Unit) (fun v => ref02_SameInts_j1 = some r) (fun v => ⟨[], [], 0, none, 26⟩) ?_ ?_
    · intro _ hM
      replace hM : ref02_SameInts_j1 = some r := hM
      unfold ref02_SameInts_j1 at hM
      refine GS.seq ?_
      refine GS.region ?_
      refine X.opR rfl rfl rfl ?_
      refine GS.opsNil ?_
      have hE := Option.some.inj hM
      subst hE
      exact GS.ret ⟨_, rfl, ⟨30, rfl⟩⟩
    · intro hj_1
      refine GS.block ?_
      refine X.gc [] (X.loop (σ := Int) (fun v => ⟨[(0, (V.sl (List.map V.i a))), (1, (V.sl (List.map V.i b))), (5, (V.i v))], [], 0, none, 26⟩) hM ?_ rfl) rfl rfl rfl (gk_cons rfl ⟨9, rfl⟩ (gk_cons rfl ⟨9, rfl⟩ (gk_cons rfl ⟨9, rfl⟩ gk_nil))) (gb_nil)
      intro i b_1 hM hc_2 hr_1
      rw [ref02_SameInts_b2] at hM
      iterate 2 refine GS.seq ?_
      refine GS.region ?_
      iterate 2 refine X.opR rfl rfl rfl ?_
      refine X.opR rfl (X.lenF rfl rfl rfl) rfl ?_
      refine X.opR rfl rfl rfl ?_
      refine GS.opsNil ?_
      refine X.cond rfl (fun h_2 => ?_) (fun h_2 => ?_)
      · replace hM := ite_t h_2 hM
        refine GS.skip ?_
        refine GS.seq ?_
        refine GS.block ?_
        refine GS.seq ?_
        obtain ⟨x, h_3, hM⟩ := bind_of hM
        obtain ⟨x1, h_4, hM⟩ := bind_of hM
        refine X.drawc (by kernel_rfl) rfl ?_
        iterate 2 refine X.cop rfl rfl rfl rfl ?_
        refine X.cop rfl (X.indexF (f := V.i) h_3 (fun _ => rfl) rfl rfl rfl rfl) rfl rfl ?_
        refine X.cop rfl (X.loadF h_3 rfl rfl rfl) rfl rfl ?_
        iterate 2 refine X.cop rfl rfl rfl rfl ?_
        refine X.cop rfl (X.indexF (f := V.i) h_4 (fun _ => rfl) rfl rfl rfl rfl) rfl rfl ?_
        refine X.cop rfl (X.loadF h_4 rfl rfl rfl) rfl rfl ?_
        refine X.cop rfl rfl rfl rfl ?_
        refine X.cnil ?_
        refine X.norm [(0, (V.sl (List.map V.i a))), (1, (V.sl (List.map V.i b))), (5, (V.i i)), (25, (V.b (!decide (x = x1))))] ?_ rfl (W.sub_cons rfl (W.sub_cons rfl (W.sub_cons rfl (W.sub_cons rfl W.sub_nil))))
        refine X.cond rfl (fun h_5 => ?_) (fun h_5 => ?_)
        · replace hM := ite_t h_5 hM
          refine GS.seq ?_
          refine GS.region ?_
          refine X.opR rfl rfl rfl ?_
          refine GS.opsNil ?_
          have hE := Option.some.inj hM
          replace hE := hr_1 _ hE.symm
          subst hE
          exact GS.ret ⟨_, rfl, ⟨30, rfl⟩⟩
        · replace hM := ite_f h_5 hM
          refine GS.skip ?_
          refine GS.endB ?_
          refine GS.region ?_
          refine X.opR rfl rfl rfl ?_
          refine X.opR rfl (X.addE rfl rfl) rfl ?_
          refine X.opR rfl rfl rfl ?_
          refine GS.opsNil ?_
          have hE := Option.some.inj hM
          exact X.gc [] (hc_2 (w64 (i + 1)) hE.symm) rfl rfl rfl (gk_cons rfl ⟨9, rfl⟩ (gk_cons rfl ⟨9, rfl⟩ (gk_cons rfl ⟨9, rfl⟩ gk_nil))) (gb_nil)
      · replace hM := ite_f h_2 hM
        refine GS.exit rfl ?_
        obtain ⟨y_1, hM, hy⟩ := map_of hM
        rw [hr_1 _ hy.symm] at hM
        exact X.gc [] (hj_1 () hM) rfl rfl rfl (gk_nil) (gb_nil)

theorem ok_ref02_SameCycle {a : api_Cycle} {b : api_Cycle} {r : Bool} (hM : ref02_SameCycle a b = some r) : Ct Tryz.prog 32 [(e_api_Cycle a), (e_api_Cycle b)] (V.b r) := by
  refine ct_of_gs CC_ok rfl ?_
  unfold ref02_SameCycle at hM
  refine GS.seq ?_
  refine GS.region ?_
  iterate 2 refine X.opW rfl rfl rfl rfl ?_
  refine X.opR rfl rfl rfl ?_
  refine GS.opsNil ?_
  refine GS.seq ?_
  obtain ⟨y, h_1, hM⟩ := bind_of hM
  refine GS.region ?_
  iterate 4 refine X.opR rfl rfl rfl ?_
  refine X.call (ok_ref02_SameInts h_1) rfl rfl rfl (.cons (.shut (n := 9) rfl) (.cons (.shut (n := 9) rfl) .nil)) ?_
  refine X.opR rfl rfl rfl ?_
  refine GS.opsNil ?_
  refine GS.seq ?_
  refine GS.region ?_
  refine X.mid [(4, (V.b (((y && (decide (a.ID = b.ID))) && (decide (a.Begin = b.Begin))) && (decide (a.Every = b.Every)))))] ?_ ?_
  · intro hg
    refine X.split (y) (fun h_2 => ?_) (fun h_2 => ?_)
    · refine X.split ((y && (decide (a.ID = b.ID)))) (fun h_3 => ?_) (fun h_3 => ?_)
      · refine X.split (((y && (decide (a.ID = b.ID))) && (decide (a.Begin = b.Begin)))) (fun h_4 => ?_) (fun h_4 => ?_)
        · iterate 2 refine X.opR rfl rfl rfl ?_
          iterate 5 refine X.opR (X.on_t rfl rfl rfl h_2) rfl rfl ?_
          refine X.opR rfl (X.pickand_t (y := decide (a.ID = b.ID)) rfl h_2 rfl) rfl ?_
          refine X.opR rfl rfl rfl ?_
          iterate 5 refine X.opR (X.on_t rfl rfl rfl h_3) rfl rfl ?_
          refine X.opR rfl (X.pickand_t (y := decide (a.Begin = b.Begin)) rfl h_3 rfl) rfl ?_
          refine X.opR rfl rfl rfl ?_
          iterate 5 refine X.opR (X.on_t rfl rfl rfl h_4) rfl rfl ?_
          refine X.opR rfl (X.pickand_t (y := decide (a.Every = b.Every)) rfl h_4 rfl) rfl ?_
          refine X.opR rfl rfl rfl ?_
          refine GS.opsNil ?_
          exact X.norm _ hg rfl (W.sub_cons rfl W.sub_nil)
        · iterate 2 refine X.opR rfl rfl rfl ?_
          iterate 5 refine X.opR (X.on_t rfl rfl rfl h_2) rfl rfl ?_
          refine X.opR rfl (X.pickand_t (y := decide (a.ID = b.ID)) rfl h_2 rfl) rfl ?_
          refine X.opR rfl rfl rfl ?_
          iterate 5 refine X.opR (X.on_t rfl rfl rfl h_3) rfl rfl ?_
          refine X.opR rfl (X.pickand_t (y := decide (a.Begin = b.Begin)) rfl h_3 rfl) rfl ?_
          refine X.opR rfl rfl rfl ?_
          iterate 5 refine X.off (X.off_t rfl rfl rfl h_4) rfl ?_
          refine X.opR rfl (X.pickand_f (y := decide (a.Every = b.Every)) rfl h_4 rfl) rfl ?_
          refine X.opR rfl rfl rfl ?_
          refine GS.opsNil ?_
          exact X.norm _ hg rfl (W.sub_cons rfl W.sub_nil)
      · iterate 2 refine X.opR rfl rfl rfl ?_
        iterate 5 refine X.opR (X.on_t rfl rfl rfl h_2) rfl rfl ?_
        refine X.opR rfl (X.pickand_t (y := decide (a.ID = b.ID)) rfl h_2 rfl) rfl ?_
        refine X.opR rfl rfl rfl ?_
        iterate 5 refine X.off (X.off_t rfl rfl rfl h_3) rfl ?_
        refine X.opR rfl (X.pickand_f (y := decide (a.Begin = b.Begin)) rfl h_3 rfl) rfl ?_
        refine X.opR rfl rfl rfl ?_
        iterate 5 refine X.off (X.off_t rfl rfl rfl (X.and_ff h_3)) rfl ?_
        refine X.opR rfl (X.pickand_f (y := decide (a.Every = b.Every)) rfl (X.and_ff h_3) rfl) rfl ?_
        refine X.opR rfl rfl rfl ?_
        refine GS.opsNil ?_
        exact X.norm _ hg rfl (W.sub_cons rfl W.sub_nil)
    · iterate 2 refine X.opR rfl rfl rfl ?_
      iterate 5 refine X.off (X.off_t rfl rfl rfl h_2) rfl ?_
      refine X.opR rfl (X.pickand_f (y := decide (a.ID = b.ID)) rfl h_2 rfl) rfl ?_
      refine X.opR rfl rfl rfl ?_
      iterate 5 refine X.off (X.off_t rfl rfl rfl (X.and_ff h_2)) rfl ?_
      refine X.opR rfl (X.pickand_f (y := decide (a.Begin = b.Begin)) rfl (X.and_ff h_2) rfl) rfl ?_
      refine X.opR rfl rfl rfl ?_
      iterate 5 refine X.off (X.off_t rfl rfl rfl (X.and_ff (X.and_ff h_2))) rfl ?_
      refine X.opR rfl (X.pickand_f (y := decide (a.Every = b.Every)) rfl (X.and_ff (X.and_ff h_2)) rfl) rfl ?_
      refine X.opR rfl rfl rfl ?_
      refine GS.opsNil ?_
      exact X.norm _ hg rfl (W.sub_cons rfl W.sub_nil)
  have hE := Option.some.inj hM
  subst hE
  exact GS.ret ⟨_, rfl, ⟨30, rfl⟩⟩

set_option maxHeartbeats 4000000 in
theorem ok_law02_sanity {r : Bool} (hM : law02_sanity = some r) : Ct Tryz.prog 6 [] (V.b r) := by
  refine ct_of_gs CC_ok rfl ?_
  unfold law02_sanity at hM
  refine GS.seq ?_
  refine GS.region ?_
  refine X.opR rfl rfl rfl ?_
  refine GS.opsNil ?_
  refine GS.seq ?_
  refine GS.region ?_
  refine X.call ok_law02_example rfl rfl rfl .nil ?_
  refine X.opW rfl rfl rfl rfl ?_
  refine X.op0W rfl rfl rfl ?_
  refine GS.opsNil ?_
  refine GS.seq ?_
  refine GS.region ?_
  refine X.opR rfl rfl rfl ?_
  refine X.opW rfl rfl rfl rfl ?_
  refine X.op0W rfl rfl rfl ?_
  refine GS.opsNil ?_
  refine GS.seq ?_
  obtain ⟨x, h_1, hM⟩ := bind_of hM
  obtain ⟨y, h_2, hM⟩ := bind_of hM
  refine GS.region ?_
  iterate 2 refine X.opR rfl rfl rfl ?_
  refine X.opR rfl (X.indexF (f := e_api_Cycle) h_1 (fun _ => rfl) rfl rfl rfl rfl) rfl ?_
  refine X.opR rfl (X.loadF h_1 rfl rfl rfl) rfl ?_
  refine X.call (ok_tide_Value h_2) rfl rfl rfl (.cons (.shut (n := 9) rfl) (.cons (.shut (n := 9) rfl) .nil)) ?_
  iterate 5 refine X.opR rfl rfl rfl ?_
  refine GS.opsNil ?_
  refine GS.seq ?_
  obtain ⟨y1, h_3, hM⟩ := bind_of hM
  refine GS.region ?_
  refine X.opR rfl rfl rfl ?_
  refine X.call (ok_tide_Height h_3) rfl rfl rfl (.cons (.shut (n := 9) rfl) (.cons (.shut (n := 9) rfl) .nil)) ?_
  iterate 5 refine X.opR rfl rfl rfl ?_
  refine GS.opsNil ?_
  refine GS.seq ?_
  obtain ⟨y2, h_4, hM⟩ := bind_of hM
  refine GS.region ?_
  iterate 2 refine X.opR rfl rfl rfl ?_
  refine X.call (ok_tide_Highest h_4) rfl rfl rfl (.cons (.shut (n := 9) rfl) (.cons (.shut (n := 9) rfl) .nil)) ?_
  iterate 7 refine X.opR rfl rfl rfl ?_
  refine GS.opsNil ?_
  refine GS.seq ?_
  obtain ⟨y3, h_5, hM⟩ := bind_of hM
  refine GS.region ?_
  iterate 2 refine X.opR rfl rfl rfl ?_
  refine X.call (ok_tide_Stands h_5) rfl rfl rfl (.cons (.shut (n := 9) rfl) (.cons (.shut (n := 9) rfl) .nil)) ?_
  iterate 5 refine X.opR rfl rfl rfl ?_
  refine GS.opsNil ?_
  refine GS.seq ?_
  obtain ⟨y4, h_6, hM⟩ := bind_of hM
  refine GS.region ?_
  iterate 2 refine X.opR rfl rfl rfl ?_
  refine X.call (ok_tide_LowWaters h_6) rfl rfl rfl (.cons (.shut (n := 9) rfl) (.cons (.shut (n := 9) rfl) .nil)) ?_
  iterate 5 refine X.opR rfl rfl rfl ?_
  refine GS.opsNil ?_
  refine GS.seq ?_
  obtain ⟨y5, h_7, hM⟩ := bind_of hM
  refine GS.region ?_
  iterate 2 refine X.opR rfl rfl rfl ?_
  refine X.call (ok_tide_Windows h_7) rfl rfl rfl (.cons (.shut (n := 9) rfl) (.cons (.shut (n := 9) rfl) (.cons (.shut (n := 9) rfl) .nil))) ?_
  iterate 5 refine X.opR rfl rfl rfl ?_
  refine GS.opsNil ?_
  refine GS.seq ?_
  obtain ⟨y6, h_8, hM⟩ := bind_of hM
  refine GS.region ?_
  iterate 2 refine X.opR rfl rfl rfl ?_
  refine X.call (ok_tide_Prove h_8) rfl rfl rfl (.cons (.shut (n := 9) rfl) (.cons (.shut (n := 9) rfl) (.cons (.shut (n := 9) rfl) .nil))) ?_
  iterate 5 refine X.opR rfl rfl rfl ?_
  refine GS.opsNil ?_
  iterate 2 refine GS.seq ?_
  refine GS.region ?_
  refine X.mid [(1, (V.ptr 0 0 0)), (12, (V.sl (List.map e_api_Stand y4.1))), (14, (V.sl (List.map e_api_Span y5.1))), (123, (V.b (((((((((((((!decide (y.2 = 0)) || (!decide (y.1 = 20))) || (!decide (y1.2 = 0))) || (!decide (y1.1 = 138))) || (!decide (y2.2.2 = 0))) || (!decide (y2.1 = 132))) || (!decide (y2.2.1 = 15))) || (!decide (y3.2 = 0))) || (!decide ((y3.1.length : Int) = 3))) || (!decide (y4.2 = 0))) || (!decide (y5.2 = 0))) || (!decide (y6.2 = 0))) || (!decide ((y6.1.length : Int) = 0)))))] ?_ ?_
  · intro hg
    refine X.split (!decide (y.2 = 0)) (fun h_9 => ?_) (fun h_9 => ?_)
    · iterate 3 refine X.opR rfl rfl rfl ?_
      iterate 2 refine X.off (X.off_f rfl rfl rfl h_9) rfl ?_
      refine X.opR rfl (X.pickor_t (y := !decide (y.1 = 20)) rfl h_9 rfl) rfl ?_
      refine X.opR rfl rfl rfl ?_
      iterate 2 refine X.off (X.off_f rfl rfl rfl (X.or_tt h_9)) rfl ?_
      refine X.opR rfl (X.pickor_t (y := !decide (y1.2 = 0)) rfl (X.or_tt h_9) rfl) rfl ?_
      refine X.opR rfl rfl rfl ?_
      iterate 2 refine X.off (X.off_f rfl rfl rfl (X.or_tt (X.or_tt h_9))) rfl ?_
      refine X.opR rfl (X.pickor_t (y := !decide (y1.1 = 138)) rfl (X.or_tt (X.or_tt h_9)) rfl) rfl ?_
      refine X.opR rfl rfl rfl ?_
      iterate 2 refine X.off (X.off_f rfl rfl rfl (X.or_tt (X.or_tt (X.or_tt h_9)))) rfl ?_
      refine X.opR rfl (X.pickor_t (y := !decide (y2.2.2 = 0)) rfl (X.or_tt (X.or_tt (X.or_tt h_9))) rfl) rfl ?_
      refine X.opR rfl rfl rfl ?_
      iterate 2 refine X.off (X.off_f rfl rfl rfl (X.or_tt (X.or_tt (X.or_tt (X.or_tt h_9))))) rfl ?_
      refine X.opR rfl (X.pickor_t (y := !decide (y2.1 = 132)) rfl (X.or_tt (X.or_tt (X.or_tt (X.or_tt h_9)))) rfl) rfl ?_
      refine X.opR rfl rfl rfl ?_
      iterate 2 refine X.off (X.off_f rfl rfl rfl (X.or_tt (X.or_tt (X.or_tt (X.or_tt (X.or_tt h_9)))))) rfl ?_
      refine X.opR rfl (X.pickor_t (y := !decide (y2.2.1 = 15)) rfl (X.or_tt (X.or_tt (X.or_tt (X.or_tt (X.or_tt h_9))))) rfl) rfl ?_
      refine X.opR rfl rfl rfl ?_
      iterate 2 refine X.off (X.off_f rfl rfl rfl (X.or_tt (X.or_tt (X.or_tt (X.or_tt (X.or_tt (X.or_tt h_9))))))) rfl ?_
      refine X.opR rfl (X.pickor_t (y := !decide (y3.2 = 0)) rfl (X.or_tt (X.or_tt (X.or_tt (X.or_tt (X.or_tt (X.or_tt h_9)))))) rfl) rfl ?_
      refine X.opR rfl rfl rfl ?_
      iterate 3 refine X.off (X.off_f rfl rfl rfl (X.or_tt (X.or_tt (X.or_tt (X.or_tt (X.or_tt (X.or_tt (X.or_tt h_9)))))))) rfl ?_
      refine X.opR rfl (X.pickor_t (y := !decide ((y3.1.length : Int) = 3)) rfl (X.or_tt (X.or_tt (X.or_tt (X.or_tt (X.or_tt (X.or_tt (X.or_tt h_9))))))) rfl) rfl ?_
      refine X.opR rfl rfl rfl ?_
      iterate 2 refine X.off (X.off_f rfl rfl rfl (X.or_tt (X.or_tt (X.or_tt (X.or_tt (X.or_tt (X.or_tt (X.or_tt (X.or_tt h_9))))))))) rfl ?_
      refine X.opR rfl (X.pickor_t (y := !decide (y4.2 = 0)) rfl (X.or_tt (X.or_tt (X.or_tt (X.or_tt (X.or_tt (X.or_tt (X.or_tt (X.or_tt h_9)))))))) rfl) rfl ?_
      refine X.opR rfl rfl rfl ?_
      iterate 2 refine X.off (X.off_f rfl rfl rfl (X.or_tt (X.or_tt (X.or_tt (X.or_tt (X.or_tt (X.or_tt (X.or_tt (X.or_tt (X.or_tt h_9)))))))))) rfl ?_
      refine X.opR rfl (X.pickor_t (y := !decide (y5.2 = 0)) rfl (X.or_tt (X.or_tt (X.or_tt (X.or_tt (X.or_tt (X.or_tt (X.or_tt (X.or_tt (X.or_tt h_9))))))))) rfl) rfl ?_
      refine X.opR rfl rfl rfl ?_
      iterate 2 refine X.off (X.off_f rfl rfl rfl (X.or_tt (X.or_tt (X.or_tt (X.or_tt (X.or_tt (X.or_tt (X.or_tt (X.or_tt (X.or_tt (X.or_tt h_9))))))))))) rfl ?_
      refine X.opR rfl (X.pickor_t (y := !decide (y6.2 = 0)) rfl (X.or_tt (X.or_tt (X.or_tt (X.or_tt (X.or_tt (X.or_tt (X.or_tt (X.or_tt (X.or_tt (X.or_tt h_9)))))))))) rfl) rfl ?_
      refine X.opR rfl rfl rfl ?_
      iterate 3 refine X.off (X.off_f rfl rfl rfl (X.or_tt (X.or_tt (X.or_tt (X.or_tt (X.or_tt (X.or_tt (X.or_tt (X.or_tt (X.or_tt (X.or_tt (X.or_tt h_9)))))))))))) rfl ?_
      refine X.opR rfl (X.pickor_t (y := !decide ((y6.1.length : Int) = 0)) rfl (X.or_tt (X.or_tt (X.or_tt (X.or_tt (X.or_tt (X.or_tt (X.or_tt (X.or_tt (X.or_tt (X.or_tt (X.or_tt h_9))))))))))) rfl) rfl ?_
      refine GS.opsNil ?_
      exact X.norm _ hg rfl (W.sub_cons rfl (W.sub_cons rfl (W.sub_cons rfl (W.sub_cons rfl W.sub_nil))))
    · refine X.split (((!decide (y.2 = 0)) || (!decide (y.1 = 20)))) (fun h_10 => ?_) (fun h_10 => ?_)
      · iterate 3 refine X.opR rfl rfl rfl ?_
        iterate 2 refine X.opR (X.on_f rfl rfl rfl h_9) rfl rfl ?_
        refine X.opR rfl (X.pickor_f (y := !decide (y.1 = 20)) rfl h_9 rfl) rfl ?_
        refine X.opR rfl rfl rfl ?_
        iterate 2 refine X.off (X.off_f rfl rfl rfl h_10) rfl ?_
        refine X.opR rfl (X.pickor_t (y := !decide (y1.2 = 0)) rfl h_10 rfl) rfl ?_
        refine X.opR rfl rfl rfl ?_
        iterate 2 refine X.off (X.off_f rfl rfl rfl (X.or_tt h_10)) rfl ?_
        refine X.opR rfl (X.pickor_t (y := !decide (y1.1 = 138)) rfl (X.or_tt h_10) rfl) rfl ?_
        refine X.opR rfl rfl rfl ?_
        iterate 2 refine X.off (X.off_f rfl rfl rfl (X.or_tt (X.or_tt h_10))) rfl ?_
        refine X.opR rfl (X.pickor_t (y := !decide (y2.2.2 = 0)) rfl (X.or_tt (X.or_tt h_10)) rfl) rfl ?_
        refine X.opR rfl rfl rfl ?_
        iterate 2 refine X.off (X.off_f rfl rfl rfl (X.or_tt (X.or_tt (X.or_tt h_10)))) rfl ?_
        refine X.opR rfl (X.pickor_t (y := !decide (y2.1 = 132)) rfl (X.or_tt (X.or_tt (X.or_tt h_10))) rfl) rfl ?_
        refine X.opR rfl rfl rfl ?_
        iterate 2 refine X.off (X.off_f rfl rfl rfl (X.or_tt (X.or_tt (X.or_tt (X.or_tt h_10))))) rfl ?_
        refine X.opR rfl (X.pickor_t (y := !decide (y2.2.1 = 15)) rfl (X.or_tt (X.or_tt (X.or_tt (X.or_tt h_10)))) rfl) rfl ?_
        refine X.opR rfl rfl rfl ?_
        iterate 2 refine X.off (X.off_f rfl rfl rfl (X.or_tt (X.or_tt (X.or_tt (X.or_tt (X.or_tt h_10)))))) rfl ?_
        refine X.opR rfl (X.pickor_t (y := !decide (y3.2 = 0)) rfl (X.or_tt (X.or_tt (X.or_tt (X.or_tt (X.or_tt h_10))))) rfl) rfl ?_
        refine X.opR rfl rfl rfl ?_
        iterate 3 refine X.off (X.off_f rfl rfl rfl (X.or_tt (X.or_tt (X.or_tt (X.or_tt (X.or_tt (X.or_tt h_10))))))) rfl ?_
        refine X.opR rfl (X.pickor_t (y := !decide ((y3.1.length : Int) = 3)) rfl (X.or_tt (X.or_tt (X.or_tt (X.or_tt (X.or_tt (X.or_tt h_10)))))) rfl) rfl ?_
        refine X.opR rfl rfl rfl ?_
        iterate 2 refine X.off (X.off_f rfl rfl rfl (X.or_tt (X.or_tt (X.or_tt (X.or_tt (X.or_tt (X.or_tt (X.or_tt h_10)))))))) rfl ?_
        refine X.opR rfl (X.pickor_t (y := !decide (y4.2 = 0)) rfl (X.or_tt (X.or_tt (X.or_tt (X.or_tt (X.or_tt (X.or_tt (X.or_tt h_10))))))) rfl) rfl ?_
        refine X.opR rfl rfl rfl ?_
        iterate 2 refine X.off (X.off_f rfl rfl rfl (X.or_tt (X.or_tt (X.or_tt (X.or_tt (X.or_tt (X.or_tt (X.or_tt (X.or_tt h_10))))))))) rfl ?_
        refine X.opR rfl (X.pickor_t (y := !decide (y5.2 = 0)) rfl (X.or_tt (X.or_tt (X.or_tt (X.or_tt (X.or_tt (X.or_tt (X.or_tt (X.or_tt h_10)))))))) rfl) rfl ?_
        refine X.opR rfl rfl rfl ?_
        iterate 2 refine X.off (X.off_f rfl rfl rfl (X.or_tt (X.or_tt (X.or_tt (X.or_tt (X.or_tt (X.or_tt (X.or_tt (X.or_tt (X.or_tt h_10)))))))))) rfl ?_
        refine X.opR rfl (X.pickor_t (y := !decide (y6.2 = 0)) rfl (X.or_tt (X.or_tt (X.or_tt (X.or_tt (X.or_tt (X.or_tt (X.or_tt (X.or_tt (X.or_tt h_10))))))))) rfl) rfl ?_
        refine X.opR rfl rfl rfl ?_
        iterate 3 refine X.off (X.off_f rfl rfl rfl (X.or_tt (X.or_tt (X.or_tt (X.or_tt (X.or_tt (X.or_tt (X.or_tt (X.or_tt (X.or_tt (X.or_tt h_10))))))))))) rfl ?_
        refine X.opR rfl (X.pickor_t (y := !decide ((y6.1.length : Int) = 0)) rfl (X.or_tt (X.or_tt (X.or_tt (X.or_tt (X.or_tt (X.or_tt (X.or_tt (X.or_tt (X.or_tt (X.or_tt h_10)))))))))) rfl) rfl ?_
        refine GS.opsNil ?_
        exact X.norm _ hg rfl (W.sub_cons rfl (W.sub_cons rfl (W.sub_cons rfl (W.sub_cons rfl W.sub_nil))))
      · refine X.split ((((!decide (y.2 = 0)) || (!decide (y.1 = 20))) || (!decide (y1.2 = 0)))) (fun h_11 => ?_) (fun h_11 => ?_)
        · iterate 3 refine X.opR rfl rfl rfl ?_
          iterate 2 refine X.opR (X.on_f rfl rfl rfl h_9) rfl rfl ?_
          refine X.opR rfl (X.pickor_f (y := !decide (y.1 = 20)) rfl h_9 rfl) rfl ?_
          refine X.opR rfl rfl rfl ?_
          iterate 2 refine X.opR (X.on_f rfl rfl rfl h_10) rfl rfl ?_
          refine X.opR rfl (X.pickor_f (y := !decide (y1.2 = 0)) rfl h_10 rfl) rfl ?_
          refine X.opR rfl rfl rfl ?_
          iterate 2 refine X.off (X.off_f rfl rfl rfl h_11) rfl ?_
          refine X.opR rfl (X.pickor_t (y := !decide (y1.1 = 138)) rfl h_11 rfl) rfl ?_
          refine X.opR rfl rfl rfl ?_
          iterate 2 refine X.off (X.off_f rfl rfl rfl (X.or_tt h_11)) rfl ?_
          refine X.opR rfl (X.pickor_t (y := !decide (y2.2.2 = 0)) rfl (X.or_tt h_11) rfl) rfl ?_
          refine X.opR rfl rfl rfl ?_
          iterate 2 refine X.off (X.off_f rfl rfl rfl (X.or_tt (X.or_tt h_11))) rfl ?_
          refine X.opR rfl (X.pickor_t (y := !decide (y2.1 = 132)) rfl (X.or_tt (X.or_tt h_11)) rfl) rfl ?_
          refine X.opR rfl rfl rfl ?_
          iterate 2 refine X.off (X.off_f rfl rfl rfl (X.or_tt (X.or_tt (X.or_tt h_11)))) rfl ?_
          refine X.opR rfl (X.pickor_t (y := !decide (y2.2.1 = 15)) rfl (X.or_tt (X.or_tt (X.or_tt h_11))) rfl) rfl ?_
          refine X.opR rfl rfl rfl ?_
          iterate 2 refine X.off (X.off_f rfl rfl rfl (X.or_tt (X.or_tt (X.or_tt (X.or_tt h_11))))) rfl ?_
          refine X.opR rfl (X.pickor_t (y := !decide (y3.2 = 0)) rfl (X.or_tt (X.or_tt (X.or_tt (X.or_tt h_11)))) rfl) rfl ?_
          refine X.opR rfl rfl rfl ?_
          iterate 3 refine X.off (X.off_f rfl rfl rfl (X.or_tt (X.or_tt (X.or_tt (X.or_tt (X.or_tt h_11)))))) rfl ?_
          refine X.opR rfl (X.pickor_t (y := !decide ((y3.1.length : Int) = 3)) rfl (X.or_tt (X.or_tt (X.or_tt (X.or_tt (X.or_tt h_11))))) rfl) rfl ?_
          refine X.opR rfl rfl rfl ?_
          iterate 2 refine X.off (X.off_f rfl rfl rfl (X.or_tt (X.or_tt (X.or_tt (X.or_tt (X.or_tt (X.or_tt h_11))))))) rfl ?_
          refine X.opR rfl (X.pickor_t (y := !decide (y4.2 = 0)) rfl (X.or_tt (X.or_tt (X.or_tt (X.or_tt (X.or_tt (X.or_tt h_11)))))) rfl) rfl ?_
          refine X.opR rfl rfl rfl ?_
          iterate 2 refine X.off (X.off_f rfl rfl rfl (X.or_tt (X.or_tt (X.or_tt (X.or_tt (X.or_tt (X.or_tt (X.or_tt h_11)))))))) rfl ?_
          refine X.opR rfl (X.pickor_t (y := !decide (y5.2 = 0)) rfl (X.or_tt (X.or_tt (X.or_tt (X.or_tt (X.or_tt (X.or_tt (X.or_tt h_11))))))) rfl) rfl ?_
          refine X.opR rfl rfl rfl ?_
          iterate 2 refine X.off (X.off_f rfl rfl rfl (X.or_tt (X.or_tt (X.or_tt (X.or_tt (X.or_tt (X.or_tt (X.or_tt (X.or_tt h_11))))))))) rfl ?_
          refine X.opR rfl (X.pickor_t (y := !decide (y6.2 = 0)) rfl (X.or_tt (X.or_tt (X.or_tt (X.or_tt (X.or_tt (X.or_tt (X.or_tt (X.or_tt h_11)))))))) rfl) rfl ?_
          refine X.opR rfl rfl rfl ?_
          iterate 3 refine X.off (X.off_f rfl rfl rfl (X.or_tt (X.or_tt (X.or_tt (X.or_tt (X.or_tt (X.or_tt (X.or_tt (X.or_tt (X.or_tt h_11)))))))))) rfl ?_
          refine X.opR rfl (X.pickor_t (y := !decide ((y6.1.length : Int) = 0)) rfl (X.or_tt (X.or_tt (X.or_tt (X.or_tt (X.or_tt (X.or_tt (X.or_tt (X.or_tt (X.or_tt h_11))))))))) rfl) rfl ?_
          refine GS.opsNil ?_
          exact X.norm _ hg rfl (W.sub_cons rfl (W.sub_cons rfl (W.sub_cons rfl (W.sub_cons rfl W.sub_nil))))
        · refine X.split (((((!decide (y.2 = 0)) || (!decide (y.1 = 20))) || (!decide (y1.2 = 0))) || (!decide (y1.1 = 138)))) (fun h_12 => ?_) (fun h_12 => ?_)
          · iterate 3 refine X.opR rfl rfl rfl ?_
            iterate 2 refine X.opR (X.on_f rfl rfl rfl h_9) rfl rfl ?_
            refine X.opR rfl (X.pickor_f (y := !decide (y.1 = 20)) rfl h_9 rfl) rfl ?_
            refine X.opR rfl rfl rfl ?_
            iterate 2 refine X.opR (X.on_f rfl rfl rfl h_10) rfl rfl ?_
            refine X.opR rfl (X.pickor_f (y := !decide (y1.2 = 0)) rfl h_10 rfl) rfl ?_
            refine X.opR rfl rfl rfl ?_
            iterate 2 refine X.opR (X.on_f rfl rfl rfl h_11) rfl rfl ?_
            refine X.opR rfl (X.pickor_f (y := !decide (y1.1 = 138)) rfl h_11 rfl) rfl ?_
            refine X.opR rfl rfl rfl ?_
            iterate 2 refine X.off (X.off_f rfl rfl rfl h_12) rfl ?_
            refine X.opR rfl (X.pickor_t (y := !decide (y2.2.2 = 0)) rfl h_12 rfl) rfl ?_
            refine X.opR rfl rfl rfl ?_
            iterate 2 refine X.off (X.off_f rfl rfl rfl (X.or_tt h_12)) rfl ?_
            refine X.opR rfl (X.pickor_t (y := !decide (y2.1 = 132)) rfl (X.or_tt h_12) rfl) rfl ?_
            refine X.opR rfl rfl rfl ?_
            iterate 2 refine X.off (X.off_f rfl rfl rfl (X.or_tt (X.or_tt h_12))) rfl ?_
            refine X.opR rfl (X.pickor_t (y := !decide (y2.2.1 = 15)) rfl (X.or_tt (X.or_tt h_12)) rfl) rfl ?_
            refine X.opR rfl rfl rfl ?_
            iterate 2 refine X.off (X.off_f rfl rfl rfl (X.or_tt (X.or_tt (X.or_tt h_12)))) rfl ?_
            refine X.opR rfl (X.pickor_t (y := !decide (y3.2 = 0)) rfl (X.or_tt (X.or_tt (X.or_tt h_12))) rfl) rfl ?_
            refine X.opR rfl rfl rfl ?_
            iterate 3 refine X.off (X.off_f rfl rfl rfl (X.or_tt (X.or_tt (X.or_tt (X.or_tt h_12))))) rfl ?_
            refine X.opR rfl (X.pickor_t (y := !decide ((y3.1.length : Int) = 3)) rfl (X.or_tt (X.or_tt (X.or_tt (X.or_tt h_12)))) rfl) rfl ?_
            refine X.opR rfl rfl rfl ?_
            iterate 2 refine X.off (X.off_f rfl rfl rfl (X.or_tt (X.or_tt (X.or_tt (X.or_tt (X.or_tt h_12)))))) rfl ?_
            refine X.opR rfl (X.pickor_t (y := !decide (y4.2 = 0)) rfl (X.or_tt (X.or_tt (X.or_tt (X.or_tt (X.or_tt h_12))))) rfl) rfl ?_
            refine X.opR rfl rfl rfl ?_
            iterate 2 refine X.off (X.off_f rfl rfl rfl (X.or_tt (X.or_tt (X.or_tt (X.or_tt (X.or_tt (X.or_tt h_12))))))) rfl ?_
            refine X.opR rfl (X.pickor_t (y := !decide (y5.2 = 0)) rfl (X.or_tt (X.or_tt (X.or_tt (X.or_tt (X.or_tt (X.or_tt h_12)))))) rfl) rfl ?_
            refine X.opR rfl rfl rfl ?_
            iterate 2 refine X.off (X.off_f rfl rfl rfl (X.or_tt (X.or_tt (X.or_tt (X.or_tt (X.or_tt (X.or_tt (X.or_tt h_12)))))))) rfl ?_
            refine X.opR rfl (X.pickor_t (y := !decide (y6.2 = 0)) rfl (X.or_tt (X.or_tt (X.or_tt (X.or_tt (X.or_tt (X.or_tt (X.or_tt h_12))))))) rfl) rfl ?_
            refine X.opR rfl rfl rfl ?_
            iterate 3 refine X.off (X.off_f rfl rfl rfl (X.or_tt (X.or_tt (X.or_tt (X.or_tt (X.or_tt (X.or_tt (X.or_tt (X.or_tt h_12))))))))) rfl ?_
            refine X.opR rfl (X.pickor_t (y := !decide ((y6.1.length : Int) = 0)) rfl (X.or_tt (X.or_tt (X.or_tt (X.or_tt (X.or_tt (X.or_tt (X.or_tt (X.or_tt h_12)))))))) rfl) rfl ?_
            refine GS.opsNil ?_
            exact X.norm _ hg rfl (W.sub_cons rfl (W.sub_cons rfl (W.sub_cons rfl (W.sub_cons rfl W.sub_nil))))
          · refine X.split ((((((!decide (y.2 = 0)) || (!decide (y.1 = 20))) || (!decide (y1.2 = 0))) || (!decide (y1.1 = 138))) || (!decide (y2.2.2 = 0)))) (fun h_13 => ?_) (fun h_13 => ?_)
            · iterate 3 refine X.opR rfl rfl rfl ?_
              iterate 2 refine X.opR (X.on_f rfl rfl rfl h_9) rfl rfl ?_
              refine X.opR rfl (X.pickor_f (y := !decide (y.1 = 20)) rfl h_9 rfl) rfl ?_
              refine X.opR rfl rfl rfl ?_
              iterate 2 refine X.opR (X.on_f rfl rfl rfl h_10) rfl rfl ?_
              refine X.opR rfl (X.pickor_f (y := !decide (y1.2 = 0)) rfl h_10 rfl) rfl ?_
              refine X.opR rfl rfl rfl ?_
              iterate 2 refine X.opR (X.on_f rfl rfl rfl h_11) rfl rfl ?_
              refine X.opR rfl (X.pickor_f (y := !decide (y1.1 = 138)) rfl h_11 rfl) rfl ?_
              refine X.opR rfl rfl rfl ?_
              iterate 2 refine X.opR (X.on_f rfl rfl rfl h_12) rfl rfl ?_
              refine X.opR rfl (X.pickor_f (y := !decide (y2.2.2 = 0)) rfl h_12 rfl) rfl ?_
              refine X.opR rfl rfl rfl ?_
              iterate 2 refine X.off (X.off_f rfl rfl rfl h_13) rfl ?_
              refine X.opR rfl (X.pickor_t (y := !decide (y2.1 = 132)) rfl h_13 rfl) rfl ?_
              refine X.opR rfl rfl rfl ?_
              iterate 2 refine X.off (X.off_f rfl rfl rfl (X.or_tt h_13)) rfl ?_
              refine X.opR rfl (X.pickor_t (y := !decide (y2.2.1 = 15)) rfl (X.or_tt h_13) rfl) rfl ?_
              refine X.opR rfl rfl rfl ?_
              iterate 2 refine X.off (X.off_f rfl rfl rfl (X.or_tt (X.or_tt h_13))) rfl ?_
              refine X.opR rfl (X.pickor_t (y := !decide (y3.2 = 0)) rfl (X.or_tt (X.or_tt h_13)) rfl) rfl ?_
              refine X.opR rfl rfl rfl ?_
              iterate 3 refine X.off (X.off_f rfl rfl rfl (X.or_tt (X.or_tt (X.or_tt h_13)))) rfl ?_
              refine X.opR rfl (X.pickor_t (y := !decide ((y3.1.length : Int) = 3)) rfl (X.or_tt (X.or_tt (X.or_tt h_13))) rfl) rfl ?_
              refine X.opR rfl rfl rfl ?_
              iterate 2 refine X.off (X.off_f rfl rfl rfl (X.or_tt (X.or_tt (X.or_tt (X.or_tt h_13))))) rfl ?_
              refine X.opR rfl (X.pickor_t (y := !decide (y4.2 = 0)) rfl (X.or_tt (X.or_tt (X.or_tt (X.or_tt h_13)))) rfl) rfl ?_
              refine X.opR rfl rfl rfl ?_
              iterate 2 refine X.off (X.off_f rfl rfl rfl (X.or_tt (X.or_tt (X.or_tt (X.or_tt (X.or_tt h_13)))))) rfl ?_
              refine X.opR rfl (X.pickor_t (y := !decide (y5.2 = 0)) rfl (X.or_tt (X.or_tt (X.or_tt (X.or_tt (X.or_tt h_13))))) rfl) rfl ?_
              refine X.opR rfl rfl rfl ?_
              iterate 2 refine X.off (X.off_f rfl rfl rfl (X.or_tt (X.or_tt (X.or_tt (X.or_tt (X.or_tt (X.or_tt h_13))))))) rfl ?_
              refine X.opR rfl (X.pickor_t (y := !decide (y6.2 = 0)) rfl (X.or_tt (X.or_tt (X.or_tt (X.or_tt (X.or_tt (X.or_tt h_13)))))) rfl) rfl ?_
              refine X.opR rfl rfl rfl ?_
              iterate 3 refine X.off (X.off_f rfl rfl rfl (X.or_tt (X.or_tt (X.or_tt (X.or_tt (X.or_tt (X.or_tt (X.or_tt h_13)))))))) rfl ?_
              refine X.opR rfl (X.pickor_t (y := !decide ((y6.1.length : Int) = 0)) rfl (X.or_tt (X.or_tt (X.or_tt (X.or_tt (X.or_tt (X.or_tt (X.or_tt h_13))))))) rfl) rfl ?_
              refine GS.opsNil ?_
              exact X.norm _ hg rfl (W.sub_cons rfl (W.sub_cons rfl (W.sub_cons rfl (W.sub_cons rfl W.sub_nil))))
            · refine X.split (((((((!decide (y.2 = 0)) || (!decide (y.1 = 20))) || (!decide (y1.2 = 0))) || (!decide (y1.1 = 138))) || (!decide (y2.2.2 = 0))) || (!decide (y2.1 = 132)))) (fun h_14 => ?_) (fun h_14 => ?_)
              · iterate 3 refine X.opR rfl rfl rfl ?_
                iterate 2 refine X.opR (X.on_f rfl rfl rfl h_9) rfl rfl ?_
                refine X.opR rfl (X.pickor_f (y := !decide (y.1 = 20)) rfl h_9 rfl) rfl ?_
                refine X.opR rfl rfl rfl ?_
                iterate 2 refine X.opR (X.on_f rfl rfl rfl h_10) rfl rfl ?_
                refine X.opR rfl (X.pickor_f (y := !decide (y1.2 = 0)) rfl h_10 rfl) rfl ?_
                refine X.opR rfl rfl rfl ?_
                iterate 2 refine X.opR (X.on_f rfl rfl rfl h_11) rfl rfl ?_
                refine X.opR rfl (X.pickor_f (y := !decide (y1.1 = 138)) rfl h_11 rfl) rfl ?_
                refine X.opR rfl rfl rfl ?_
                iterate 2 refine X.opR (X.on_f rfl rfl rfl h_12) rfl rfl ?_
                refine X.opR rfl (X.pickor_f (y := !decide (y2.2.2 = 0)) rfl h_12 rfl) rfl ?_
                refine X.opR rfl rfl rfl ?_
                iterate 2 refine X.opR (X.on_f rfl rfl rfl h_13) rfl rfl ?_
                refine X.opR rfl (X.pickor_f (y := !decide (y2.1 = 132)) rfl h_13 rfl) rfl ?_
                refine X.opR rfl rfl rfl ?_
                iterate 2 refine X.off (X.off_f rfl rfl rfl h_14) rfl ?_
                refine X.opR rfl (X.pickor_t (y := !decide (y2.2.1 = 15)) rfl h_14 rfl) rfl ?_
                refine X.opR rfl rfl rfl ?_
                iterate 2 refine X.off (X.off_f rfl rfl rfl (X.or_tt h_14)) rfl ?_
                refine X.opR rfl (X.pickor_t (y := !decide (y3.2 = 0)) rfl (X.or_tt h_14) rfl) rfl ?_
                refine X.opR rfl rfl rfl ?_
                iterate 3 refine X.off (X.off_f rfl rfl rfl (X.or_tt (X.or_tt h_14))) rfl ?_
                refine X.opR rfl (X.pickor_t (y := !decide ((y3.1.length : Int) = 3)) rfl (X.or_tt (X.or_tt h_14)) rfl) rfl ?_
                refine X.opR rfl rfl rfl ?_
                iterate 2 refine X.off (X.off_f rfl rfl rfl (X.or_tt (X.or_tt (X.or_tt h_14)))) rfl ?_
                refine X.opR rfl (X.pickor_t (y := !decide (y4.2 = 0)) rfl (X.or_tt (X.or_tt (X.or_tt h_14))) rfl) rfl ?_
                refine X.opR rfl rfl rfl ?_
                iterate 2 refine X.off (X.off_f rfl rfl rfl (X.or_tt (X.or_tt (X.or_tt (X.or_tt h_14))))) rfl ?_
                refine X.opR rfl (X.pickor_t (y := !decide (y5.2 = 0)) rfl (X.or_tt (X.or_tt (X.or_tt (X.or_tt h_14)))) rfl) rfl ?_
                refine X.opR rfl rfl rfl ?_
                iterate 2 refine X.off (X.off_f rfl rfl rfl (X.or_tt (X.or_tt (X.or_tt (X.or_tt (X.or_tt h_14)))))) rfl ?_
                refine X.opR rfl (X.pickor_t (y := !decide (y6.2 = 0)) rfl (X.or_tt (X.or_tt (X.or_tt (X.or_tt (X.or_tt h_14))))) rfl) rfl ?_
                refine X.opR rfl rfl rfl ?_
                iterate 3 refine X.off (X.off_f rfl rfl rfl (X.or_tt (X.or_tt (X.or_tt (X.or_tt (X.or_tt (X.or_tt h_14))))))) rfl ?_
                refine X.opR rfl (X.pickor_t (y := !decide ((y6.1.length : Int) = 0)) rfl (X.or_tt (X.or_tt (X.or_tt (X.or_tt (X.or_tt (X.or_tt h_14)))))) rfl) rfl ?_
                refine GS.opsNil ?_
                exact X.norm _ hg rfl (W.sub_cons rfl (W.sub_cons rfl (W.sub_cons rfl (W.sub_cons rfl W.sub_nil))))
              · refine X.split ((((((((!decide (y.2 = 0)) || (!decide (y.1 = 20))) || (!decide (y1.2 = 0))) || (!decide (y1.1 = 138))) || (!decide (y2.2.2 = 0))) || (!decide (y2.1 = 132))) || (!decide (y2.2.1 = 15)))) (fun h_15 => ?_) (fun h_15 => ?_)
                · iterate 3 refine X.opR rfl rfl rfl ?_
                  iterate 2 refine X.opR (X.on_f rfl rfl rfl h_9) rfl rfl ?_
                  refine X.opR rfl (X.pickor_f (y := !decide (y.1 = 20)) rfl h_9 rfl) rfl ?_
                  refine X.opR rfl rfl rfl ?_
                  iterate 2 refine X.opR (X.on_f rfl rfl rfl h_10) rfl rfl ?_
                  refine X.opR rfl (X.pickor_f (y := !decide (y1.2 = 0)) rfl h_10 rfl) rfl ?_
                  refine X.opR rfl rfl rfl ?_
                  iterate 2 refine X.opR (X.on_f rfl rfl rfl h_11) rfl rfl ?_
                  refine X.opR rfl (X.pickor_f (y := !decide (y1.1 = 138)) rfl h_11 rfl) rfl ?_
                  refine X.opR rfl rfl rfl ?_
                  iterate 2 refine X.opR (X.on_f rfl rfl rfl h_12) rfl rfl ?_
                  refine X.opR rfl (X.pickor_f (y := !decide (y2.2.2 = 0)) rfl h_12 rfl) rfl ?_
                  refine X.opR rfl rfl rfl ?_
                  iterate 2 refine X.opR (X.on_f rfl rfl rfl h_13) rfl rfl ?_
                  refine X.opR rfl (X.pickor_f (y := !decide (y2.1 = 132)) rfl h_13 rfl) rfl ?_
                  refine X.opR rfl rfl rfl ?_
                  iterate 2 refine X.opR (X.on_f rfl rfl rfl h_14) rfl rfl ?_
                  refine X.opR rfl (X.pickor_f (y := !decide (y2.2.1 = 15)) rfl h_14 rfl) rfl ?_
                  refine X.opR rfl rfl rfl ?_
                  iterate 2 refine X.off (X.off_f rfl rfl rfl h_15) rfl ?_
                  refine X.opR rfl (X.pickor_t (y := !decide (y3.2 = 0)) rfl h_15 rfl) rfl ?_
                  refine X.opR rfl rfl rfl ?_
                  iterate 3 refine X.off (X.off_f rfl rfl rfl (X.or_tt h_15)) rfl ?_
                  refine X.opR rfl (X.pickor_t (y := !decide ((y3.1.length : Int) = 3)) rfl (X.or_tt h_15) rfl) rfl ?_
                  refine X.opR rfl rfl rfl ?_
                  iterate 2 refine X.off (X.off_f rfl rfl rfl (X.or_tt (X.or_tt h_15))) rfl ?_
                  refine X.opR rfl (X.pickor_t (y := !decide (y4.2 = 0)) rfl (X.or_tt (X.or_tt h_15)) rfl) rfl ?_
                  refine X.opR rfl rfl rfl ?_
                  iterate 2 refine X.off (X.off_f rfl rfl rfl (X.or_tt (X.or_tt (X.or_tt h_15)))) rfl ?_
                  refine X.opR rfl (X.pickor_t (y := !decide (y5.2 = 0)) rfl (X.or_tt (X.or_tt (X.or_tt h_15))) rfl) rfl ?_
                  refine X.opR rfl rfl rfl ?_
                  iterate 2 refine X.off (X.off_f rfl rfl rfl (X.or_tt (X.or_tt (X.or_tt (X.or_tt h_15))))) rfl ?_
                  refine X.opR rfl (X.pickor_t (y := !decide (y6.2 = 0)) rfl (X.or_tt (X.or_tt (X.or_tt (X.or_tt h_15)))) rfl) rfl ?_
                  refine X.opR rfl rfl rfl ?_
                  iterate 3 refine X.off (X.off_f rfl rfl rfl (X.or_tt (X.or_tt (X.or_tt (X.or_tt (X.or_tt h_15)))))) rfl ?_
                  refine X.opR rfl (X.pickor_t (y := !decide ((y6.1.length : Int) = 0)) rfl (X.or_tt (X.or_tt (X.or_tt (X.or_tt (X.or_tt h_15))))) rfl) rfl ?_
                  refine GS.opsNil ?_
                  exact X.norm _ hg rfl (W.sub_cons rfl (W.sub_cons rfl (W.sub_cons rfl (W.sub_cons rfl W.sub_nil))))
                · refine X.split (((((((((!decide (y.2 = 0)) || (!decide (y.1 = 20))) || (!decide (y1.2 = 0))) || (!decide (y1.1 = 138))) || (!decide (y2.2.2 = 0))) || (!decide (y2.1 = 132))) || (!decide (y2.2.1 = 15))) || (!decide (y3.2 = 0)))) (fun h_16 => ?_) (fun h_16 => ?_)
                  · iterate 3 refine X.opR rfl rfl rfl ?_
                    iterate 2 refine X.opR (X.on_f rfl rfl rfl h_9) rfl rfl ?_
                    refine X.opR rfl (X.pickor_f (y := !decide (y.1 = 20)) rfl h_9 rfl) rfl ?_
                    refine X.opR rfl rfl rfl ?_
                    iterate 2 refine X.opR (X.on_f rfl rfl rfl h_10) rfl rfl ?_
                    refine X.opR rfl (X.pickor_f (y := !decide (y1.2 = 0)) rfl h_10 rfl) rfl ?_
                    refine X.opR rfl rfl rfl ?_
                    iterate 2 refine X.opR (X.on_f rfl rfl rfl h_11) rfl rfl ?_
                    refine X.opR rfl (X.pickor_f (y := !decide (y1.1 = 138)) rfl h_11 rfl) rfl ?_
                    refine X.opR rfl rfl rfl ?_
                    iterate 2 refine X.opR (X.on_f rfl rfl rfl h_12) rfl rfl ?_
                    refine X.opR rfl (X.pickor_f (y := !decide (y2.2.2 = 0)) rfl h_12 rfl) rfl ?_
                    refine X.opR rfl rfl rfl ?_
                    iterate 2 refine X.opR (X.on_f rfl rfl rfl h_13) rfl rfl ?_
                    refine X.opR rfl (X.pickor_f (y := !decide (y2.1 = 132)) rfl h_13 rfl) rfl ?_
                    refine X.opR rfl rfl rfl ?_
                    iterate 2 refine X.opR (X.on_f rfl rfl rfl h_14) rfl rfl ?_
                    refine X.opR rfl (X.pickor_f (y := !decide (y2.2.1 = 15)) rfl h_14 rfl) rfl ?_
                    refine X.opR rfl rfl rfl ?_
                    iterate 2 refine X.opR (X.on_f rfl rfl rfl h_15) rfl rfl ?_
                    refine X.opR rfl (X.pickor_f (y := !decide (y3.2 = 0)) rfl h_15 rfl) rfl ?_
                    refine X.opR rfl rfl rfl ?_
                    iterate 3 refine X.off (X.off_f rfl rfl rfl h_16) rfl ?_
                    refine X.opR rfl (X.pickor_t (y := !decide ((y3.1.length : Int) = 3)) rfl h_16 rfl) rfl ?_
                    refine X.opR rfl rfl rfl ?_
                    iterate 2 refine X.off (X.off_f rfl rfl rfl (X.or_tt h_16)) rfl ?_
                    refine X.opR rfl (X.pickor_t (y := !decide (y4.2 = 0)) rfl (X.or_tt h_16) rfl) rfl ?_
                    refine X.opR rfl rfl rfl ?_
                    iterate 2 refine X.off (X.off_f rfl rfl rfl (X.or_tt (X.or_tt h_16))) rfl ?_
                    refine X.opR rfl (X.pickor_t (y := !decide (y5.2 = 0)) rfl (X.or_tt (X.or_tt h_16)) rfl) rfl ?_
                    refine X.opR rfl rfl rfl ?_
                    iterate 2 refine X.off (X.off_f rfl rfl rfl (X.or_tt (X.or_tt (X.or_tt h_16)))) rfl ?_
                    refine X.opR rfl (X.pickor_t (y := !decide (y6.2 = 0)) rfl (X.or_tt (X.or_tt (X.or_tt h_16))) rfl) rfl ?_
                    refine X.opR rfl rfl rfl ?_
                    iterate 3 refine X.off (X.off_f rfl rfl rfl (X.or_tt (X.or_tt (X.or_tt (X.or_tt h_16))))) rfl ?_
                    refine X.opR rfl (X.pickor_t (y := !decide ((y6.1.length : Int) = 0)) rfl (X.or_tt (X.or_tt (X.or_tt (X.or_tt h_16)))) rfl) rfl ?_
                    refine GS.opsNil ?_
                    exact X.norm _ hg rfl (W.sub_cons rfl (W.sub_cons rfl (W.sub_cons rfl (W.sub_cons rfl W.sub_nil))))
                  · refine X.split ((((((((((!decide (y.2 = 0)) || (!decide (y.1 = 20))) || (!decide (y1.2 = 0))) || (!decide (y1.1 = 138))) || (!decide (y2.2.2 = 0))) || (!decide (y2.1 = 132))) || (!decide (y2.2.1 = 15))) || (!decide (y3.2 = 0))) || (!decide ((y3.1.length : Int) = 3)))) (fun h_17 => ?_) (fun h_17 => ?_)
                    · iterate 3 refine X.opR rfl rfl rfl ?_
                      iterate 2 refine X.opR (X.on_f rfl rfl rfl h_9) rfl rfl ?_
                      refine X.opR rfl (X.pickor_f (y := !decide (y.1 = 20)) rfl h_9 rfl) rfl ?_
                      refine X.opR rfl rfl rfl ?_
                      iterate 2 refine X.opR (X.on_f rfl rfl rfl h_10) rfl rfl ?_
                      refine X.opR rfl (X.pickor_f (y := !decide (y1.2 = 0)) rfl h_10 rfl) rfl ?_
                      refine X.opR rfl rfl rfl ?_
                      iterate 2 refine X.opR (X.on_f rfl rfl rfl h_11) rfl rfl ?_
                      refine X.opR rfl (X.pickor_f (y := !decide (y1.1 = 138)) rfl h_11 rfl) rfl ?_
                      refine X.opR rfl rfl rfl ?_
                      iterate 2 refine X.opR (X.on_f rfl rfl rfl h_12) rfl rfl ?_
                      refine X.opR rfl (X.pickor_f (y := !decide (y2.2.2 = 0)) rfl h_12 rfl) rfl ?_
                      refine X.opR rfl rfl rfl ?_
                      iterate 2 refine X.opR (X.on_f rfl rfl rfl h_13) rfl rfl ?_
                      refine X.opR rfl (X.pickor_f (y := !decide (y2.1 = 132)) rfl h_13 rfl) rfl ?_
                      refine X.opR rfl rfl rfl ?_
                      iterate 2 refine X.opR (X.on_f rfl rfl rfl h_14) rfl rfl ?_
                      refine X.opR rfl (X.pickor_f (y := !decide (y2.2.1 = 15)) rfl h_14 rfl) rfl ?_
                      refine X.opR rfl rfl rfl ?_
                      iterate 2 refine X.opR (X.on_f rfl rfl rfl h_15) rfl rfl ?_
                      refine X.opR rfl (X.pickor_f (y := !decide (y3.2 = 0)) rfl h_15 rfl) rfl ?_
                      refine X.opR rfl rfl rfl ?_
                      refine X.opR (X.on_f rfl rfl rfl h_16) rfl rfl ?_
                      refine X.opR (X.on_f rfl rfl rfl h_16) (X.lenF rfl rfl rfl) rfl ?_
                      refine X.opR (X.on_f rfl rfl rfl h_16) rfl rfl ?_
                      refine X.opR rfl (X.pickor_f (y := !decide ((y3.1.length : Int) = 3)) rfl h_16 rfl) rfl ?_
                      refine X.opR rfl rfl rfl ?_
                      iterate 2 refine X.off (X.off_f rfl rfl rfl h_17) rfl ?_
                      refine X.opR rfl (X.pickor_t (y := !decide (y4.2 = 0)) rfl h_17 rfl) rfl ?_
                      refine X.opR rfl rfl rfl ?_
                      iterate 2 refine X.off (X.off_f rfl rfl rfl (X.or_tt h_17)) rfl ?_
                      refine X.opR rfl (X.pickor_t (y := !decide (y5.2 = 0)) rfl (X.or_tt h_17) rfl) rfl ?_
                      refine X.opR rfl rfl rfl ?_
                      iterate 2 refine X.off (X.off_f rfl rfl rfl (X.or_tt (X.or_tt h_17))) rfl ?_
                      refine X.opR rfl (X.pickor_t (y := !decide (y6.2 = 0)) rfl (X.or_tt (X.or_tt h_17)) rfl) rfl ?_
                      refine X.opR rfl rfl rfl ?_
                      iterate 3 refine X.off (X.off_f rfl rfl rfl (X.or_tt (X.or_tt (X.or_tt h_17)))) rfl ?_
                      refine X.opR rfl (X.pickor_t (y := !decide ((y6.1.length : Int) = 0)) rfl (X.or_tt (X.or_tt (X.or_tt h_17))) rfl) rfl ?_
                      refine GS.opsNil ?_
                      exact X.norm _ hg rfl (W.sub_cons rfl (W.sub_cons rfl (W.sub_cons rfl (W.sub_cons rfl W.sub_nil))))
                    · refine X.split (((((((((((!decide (y.2 = 0)) || (!decide (y.1 = 20))) || (!decide (y1.2 = 0))) || (!decide (y1.1 = 138))) || (!decide (y2.2.2 = 0))) || (!decide (y2.1 = 132))) || (!decide (y2.2.1 = 15))) || (!decide (y3.2 = 0))) || (!decide ((y3.1.length : Int) = 3))) || (!decide (y4.2 = 0)))) (fun h_18 => ?_) (fun h_18 => ?_)
                      · iterate 3 refine X.opR rfl rfl rfl ?_
                        iterate 2 refine X.opR (X.on_f rfl rfl rfl h_9) rfl rfl ?_
                        refine X.opR rfl (X.pickor_f (y := !decide (y.1 = 20)) rfl h_9 rfl) rfl ?_
                        refine X.opR rfl rfl rfl ?_
                        iterate 2 refine X.opR (X.on_f rfl rfl rfl h_10) rfl rfl ?_
                        refine X.opR rfl (X.pickor_f (y := !decide (y1.2 = 0)) rfl h_10 rfl) rfl ?_
                        refine X.opR rfl rfl rfl ?_
                        iterate 2 refine X.opR (X.on_f rfl rfl rfl h_11) rfl rfl ?_
                        refine X.opR rfl (X.pickor_f (y := !decide (y1.1 = 138)) rfl h_11 rfl) rfl ?_
                        refine X.opR rfl rfl rfl ?_
                        iterate 2 refine X.opR (X.on_f rfl rfl rfl h_12) rfl rfl ?_
                        refine X.opR rfl (X.pickor_f (y := !decide (y2.2.2 = 0)) rfl h_12 rfl) rfl ?_
                        refine X.opR rfl rfl rfl ?_
                        iterate 2 refine X.opR (X.on_f rfl rfl rfl h_13) rfl rfl ?_
                        refine X.opR rfl (X.pickor_f (y := !decide (y2.1 = 132)) rfl h_13 rfl) rfl ?_
                        refine X.opR rfl rfl rfl ?_
                        iterate 2 refine X.opR (X.on_f rfl rfl rfl h_14) rfl rfl ?_
                        refine X.opR rfl (X.pickor_f (y := !decide (y2.2.1 = 15)) rfl h_14 rfl) rfl ?_
                        refine X.opR rfl rfl rfl ?_
                        iterate 2 refine X.opR (X.on_f rfl rfl rfl h_15) rfl rfl ?_
                        refine X.opR rfl (X.pickor_f (y := !decide (y3.2 = 0)) rfl h_15 rfl) rfl ?_
                        refine X.opR rfl rfl rfl ?_
                        refine X.opR (X.on_f rfl rfl rfl h_16) rfl rfl ?_
                        refine X.opR (X.on_f rfl rfl rfl h_16) (X.lenF rfl rfl rfl) rfl ?_
                        refine X.opR (X.on_f rfl rfl rfl h_16) rfl rfl ?_
                        refine X.opR rfl (X.pickor_f (y := !decide ((y3.1.length : Int) = 3)) rfl h_16 rfl) rfl ?_
                        refine X.opR rfl rfl rfl ?_
                        iterate 2 refine X.opR (X.on_f rfl rfl rfl h_17) rfl rfl ?_
                        refine X.opR rfl (X.pickor_f (y := !decide (y4.2 = 0)) rfl h_17 rfl) rfl ?_
                        refine X.opR rfl rfl rfl ?_
                        iterate 2 refine X.off (X.off_f rfl rfl rfl h_18) rfl ?_
                        refine X.opR rfl (X.pickor_t (y := !decide (y5.2 = 0)) rfl h_18 rfl) rfl ?_
                        refine X.opR rfl rfl rfl ?_
                        iterate 2 refine X.off (X.off_f rfl rfl rfl (X.or_tt h_18)) rfl ?_
                        refine X.opR rfl (X.pickor_t (y := !decide (y6.2 = 0)) rfl (X.or_tt h_18) rfl) rfl ?_
                        refine X.opR rfl rfl rfl ?_
                        iterate 3 refine X.off (X.off_f rfl rfl rfl (X.or_tt (X.or_tt h_18))) rfl ?_
                        refine X.opR rfl (X.pickor_t (y := !decide ((y6.1.length : Int) = 0)) rfl (X.or_tt (X.or_tt h_18)) rfl) rfl ?_
                        refine GS.opsNil ?_
                        exact X.norm _ hg rfl (W.sub_cons rfl (W.sub_cons rfl (W.sub_cons rfl (W.sub_cons rfl W.sub_nil))))
                      · refine X.split ((((((((((((!decide (y.2 = 0)) || (!decide (y.1 = 20))) || (!decide (y1.2 = 0))) || (!decide (y1.1 = 138))) || (!decide (y2.2.2 = 0))) || (!decide (y2.1 = 132))) || (!decide (y2.2.1 = 15))) || (!decide (y3.2 = 0))) || (!decide ((y3.1.length : Int) = 3))) || (!decide (y4.2 = 0))) || (!decide (y5.2 = 0)))) (fun h_19 => ?_) (fun h_19 => ?_)
                        · iterate 3 refine X.opR rfl rfl rfl ?_
                          iterate 2 refine X.opR (X.on_f rfl rfl rfl h_9) rfl rfl ?_
                          refine X.opR rfl (X.pickor_f (y := !decide (y.1 = 20)) rfl h_9 rfl) rfl ?_
                          refine X.opR rfl rfl rfl ?_
                          iterate 2 refine X.opR (X.on_f rfl rfl rfl h_10) rfl rfl ?_
                          refine X.opR rfl (X.pickor_f (y := !decide (y1.2 = 0)) rfl h_10 rfl) rfl ?_
                          refine X.opR rfl rfl rfl ?_
                          iterate 2 refine X.opR (X.on_f rfl rfl rfl h_11) rfl rfl ?_
                          refine X.opR rfl (X.pickor_f (y := !decide (y1.1 = 138)) rfl h_11 rfl) rfl ?_
                          refine X.opR rfl rfl rfl ?_
                          iterate 2 refine X.opR (X.on_f rfl rfl rfl h_12) rfl rfl ?_
                          refine X.opR rfl (X.pickor_f (y := !decide (y2.2.2 = 0)) rfl h_12 rfl) rfl ?_
                          refine X.opR rfl rfl rfl ?_
                          iterate 2 refine X.opR (X.on_f rfl rfl rfl h_13) rfl rfl ?_
                          refine X.opR rfl (X.pickor_f (y := !decide (y2.1 = 132)) rfl h_13 rfl) rfl ?_
                          refine X.opR rfl rfl rfl ?_
                          iterate 2 refine X.opR (X.on_f rfl rfl rfl h_14) rfl rfl ?_
                          refine X.opR rfl (X.pickor_f (y := !decide (y2.2.1 = 15)) rfl h_14 rfl) rfl ?_
                          refine X.opR rfl rfl rfl ?_
                          iterate 2 refine X.opR (X.on_f rfl rfl rfl h_15) rfl rfl ?_
                          refine X.opR rfl (X.pickor_f (y := !decide (y3.2 = 0)) rfl h_15 rfl) rfl ?_
                          refine X.opR rfl rfl rfl ?_
                          refine X.opR (X.on_f rfl rfl rfl h_16) rfl rfl ?_
                          refine X.opR (X.on_f rfl rfl rfl h_16) (X.lenF rfl rfl rfl) rfl ?_
                          refine X.opR (X.on_f rfl rfl rfl h_16) rfl rfl ?_
                          refine X.opR rfl (X.pickor_f (y := !decide ((y3.1.length : Int) = 3)) rfl h_16 rfl) rfl ?_
                          refine X.opR rfl rfl rfl ?_
                          iterate 2 refine X.opR (X.on_f rfl rfl rfl h_17) rfl rfl ?_
                          refine X.opR rfl (X.pickor_f (y := !decide (y4.2 = 0)) rfl h_17 rfl) rfl ?_
                          refine X.opR rfl rfl rfl ?_
                          iterate 2 refine X.opR (X.on_f rfl rfl rfl h_18) rfl rfl ?_
                          refine X.opR rfl (X.pickor_f (y := !decide (y5.2 = 0)) rfl h_18 rfl) rfl ?_
                          refine X.opR rfl rfl rfl ?_
                          iterate 2 refine X.off (X.off_f rfl rfl rfl h_19) rfl ?_
                          refine X.opR rfl (X.pickor_t (y := !decide (y6.2 = 0)) rfl h_19 rfl) rfl ?_
                          refine X.opR rfl rfl rfl ?_
                          iterate 3 refine X.off (X.off_f rfl rfl rfl (X.or_tt h_19)) rfl ?_
                          refine X.opR rfl (X.pickor_t (y := !decide ((y6.1.length : Int) = 0)) rfl (X.or_tt h_19) rfl) rfl ?_
                          refine GS.opsNil ?_
                          exact X.norm _ hg rfl (W.sub_cons rfl (W.sub_cons rfl (W.sub_cons rfl (W.sub_cons rfl W.sub_nil))))
                        · refine X.split (((((((((((((!decide (y.2 = 0)) || (!decide (y.1 = 20))) || (!decide (y1.2 = 0))) || (!decide (y1.1 = 138))) || (!decide (y2.2.2 = 0))) || (!decide (y2.1 = 132))) || (!decide (y2.2.1 = 15))) || (!decide (y3.2 = 0))) || (!decide ((y3.1.length : Int) = 3))) || (!decide (y4.2 = 0))) || (!decide (y5.2 = 0))) || (!decide (y6.2 = 0)))) (fun h_20 => ?_) (fun h_20 => ?_)
                          · iterate 3 refine X.opR rfl rfl rfl ?_
                            iterate 2 refine X.opR (X.on_f rfl rfl rfl h_9) rfl rfl ?_
                            refine X.opR rfl (X.pickor_f (y := !decide (y.1 = 20)) rfl h_9 rfl) rfl ?_
                            refine X.opR rfl rfl rfl ?_
                            iterate 2 refine X.opR (X.on_f rfl rfl rfl h_10) rfl rfl ?_
                            refine X.opR rfl (X.pickor_f (y := !decide (y1.2 = 0)) rfl h_10 rfl) rfl ?_
                            refine X.opR rfl rfl rfl ?_
                            iterate 2 refine X.opR (X.on_f rfl rfl rfl h_11) rfl rfl ?_
                            refine X.opR rfl (X.pickor_f (y := !decide (y1.1 = 138)) rfl h_11 rfl) rfl ?_
                            refine X.opR rfl rfl rfl ?_
                            iterate 2 refine X.opR (X.on_f rfl rfl rfl h_12) rfl rfl ?_
                            refine X.opR rfl (X.pickor_f (y := !decide (y2.2.2 = 0)) rfl h_12 rfl) rfl ?_
                            refine X.opR rfl rfl rfl ?_
                            iterate 2 refine X.opR (X.on_f rfl rfl rfl h_13) rfl rfl ?_
                            refine X.opR rfl (X.pickor_f (y := !decide (y2.1 = 132)) rfl h_13 rfl) rfl ?_
                            refine X.opR rfl rfl rfl ?_
                            iterate 2 refine X.opR (X.on_f rfl rfl rfl h_14) rfl rfl ?_
                            refine X.opR rfl (X.pickor_f (y := !decide (y2.2.1 = 15)) rfl h_14 rfl) rfl ?_
                            refine X.opR rfl rfl rfl ?_
                            iterate 2 refine X.opR (X.on_f rfl rfl rfl h_15) rfl rfl ?_
                            refine X.opR rfl (X.pickor_f (y := !decide (y3.2 = 0)) rfl h_15 rfl) rfl ?_
                            refine X.opR rfl rfl rfl ?_
                            refine X.opR (X.on_f rfl rfl rfl h_16) rfl rfl ?_
                            refine X.opR (X.on_f rfl rfl rfl h_16) (X.lenF rfl rfl rfl) rfl ?_
                            refine X.opR (X.on_f rfl rfl rfl h_16) rfl rfl ?_
                            refine X.opR rfl (X.pickor_f (y := !decide ((y3.1.length : Int) = 3)) rfl h_16 rfl) rfl ?_
                            refine X.opR rfl rfl rfl ?_
                            iterate 2 refine X.opR (X.on_f rfl rfl rfl h_17) rfl rfl ?_
                            refine X.opR rfl (X.pickor_f (y := !decide (y4.2 = 0)) rfl h_17 rfl) rfl ?_
                            refine X.opR rfl rfl rfl ?_
                            iterate 2 refine X.opR (X.on_f rfl rfl rfl h_18) rfl rfl ?_
                            refine X.opR rfl (X.pickor_f (y := !decide (y5.2 = 0)) rfl h_18 rfl) rfl ?_
                            refine X.opR rfl rfl rfl ?_
                            iterate 2 refine X.opR (X.on_f rfl rfl rfl h_19) rfl rfl ?_
                            refine X.opR rfl (X.pickor_f (y := !decide (y6.2 = 0)) rfl h_19 rfl) rfl ?_
                            refine X.opR rfl rfl rfl ?_
                            iterate 3 refine X.off (X.off_f rfl rfl rfl h_20) rfl ?_
                            refine X.opR rfl (X.pickor_t (y := !decide ((y6.1.length : Int) = 0)) rfl h_20 rfl) rfl ?_
                            refine GS.opsNil ?_
                            exact X.norm _ hg rfl (W.sub_cons rfl (W.sub_cons rfl (W.sub_cons rfl (W.sub_cons rfl W.sub_nil))))
                          · iterate 3 refine X.opR rfl rfl rfl ?_
                            iterate 2 refine X.opR (X.on_f rfl rfl rfl h_9) rfl rfl ?_
                            refine X.opR rfl (X.pickor_f (y := !decide (y.1 = 20)) rfl h_9 rfl) rfl ?_
                            refine X.opR rfl rfl rfl ?_
                            iterate 2 refine X.opR (X.on_f rfl rfl rfl h_10) rfl rfl ?_
                            refine X.opR rfl (X.pickor_f (y := !decide (y1.2 = 0)) rfl h_10 rfl) rfl ?_
                            refine X.opR rfl rfl rfl ?_
                            iterate 2 refine X.opR (X.on_f rfl rfl rfl h_11) rfl rfl ?_
                            refine X.opR rfl (X.pickor_f (y := !decide (y1.1 = 138)) rfl h_11 rfl) rfl ?_
                            refine X.opR rfl rfl rfl ?_
                            iterate 2 refine X.opR (X.on_f rfl rfl rfl h_12) rfl rfl ?_
                            refine X.opR rfl (X.pickor_f (y := !decide (y2.2.2 = 0)) rfl h_12 rfl) rfl ?_
                            refine X.opR rfl rfl rfl ?_
                            iterate 2 refine X.opR (X.on_f rfl rfl rfl h_13) rfl rfl ?_
                            refine X.opR rfl (X.pickor_f (y := !decide (y2.1 = 132)) rfl h_13 rfl) rfl ?_
                            refine X.opR rfl rfl rfl ?_
                            iterate 2 refine X.opR (X.on_f rfl rfl rfl h_14) rfl rfl ?_
                            refine X.opR rfl (X.pickor_f (y := !decide (y2.2.1 = 15)) rfl h_14 rfl) rfl ?_
                            refine X.opR rfl rfl rfl ?_
                            iterate 2 refine X.opR (X.on_f rfl rfl rfl h_15) rfl rfl ?_
                            refine X.opR rfl (X.pickor_f (y := !decide (y3.2 = 0)) rfl h_15 rfl) rfl ?_
                            refine X.opR rfl rfl rfl ?_
                            refine X.opR (X.on_f rfl rfl rfl h_16) rfl rfl ?_
                            refine X.opR (X.on_f rfl rfl rfl h_16) (X.lenF rfl rfl rfl) rfl ?_
                            refine X.opR (X.on_f rfl rfl rfl h_16) rfl rfl ?_
                            refine X.opR rfl (X.pickor_f (y := !decide ((y3.1.length : Int) = 3)) rfl h_16 rfl) rfl ?_
                            refine X.opR rfl rfl rfl ?_
                            iterate 2 refine X.opR (X.on_f rfl rfl rfl h_17) rfl rfl ?_
                            refine X.opR rfl (X.pickor_f (y := !decide (y4.2 = 0)) rfl h_17 rfl) rfl ?_
                            refine X.opR rfl rfl rfl ?_
                            iterate 2 refine X.opR (X.on_f rfl rfl rfl h_18) rfl rfl ?_
                            refine X.opR rfl (X.pickor_f (y := !decide (y5.2 = 0)) rfl h_18 rfl) rfl ?_
                            refine X.opR rfl rfl rfl ?_
                            iterate 2 refine X.opR (X.on_f rfl rfl rfl h_19) rfl rfl ?_
                            refine X.opR rfl (X.pickor_f (y := !decide (y6.2 = 0)) rfl h_19 rfl) rfl ?_
                            refine X.opR rfl rfl rfl ?_
                            refine X.opR (X.on_f rfl rfl rfl h_20) rfl rfl ?_
                            refine X.opR (X.on_f rfl rfl rfl h_20) (X.lenF rfl rfl rfl) rfl ?_
                            refine X.opR (X.on_f rfl rfl rfl h_20) rfl rfl ?_
                            refine X.opR rfl (X.pickor_f (y := !decide ((y6.1.length : Int) = 0)) rfl h_20 rfl) rfl ?_
                            refine GS.opsNil ?_
                            exact X.norm _ hg rfl (W.sub_cons rfl (W.sub_cons rfl (W.sub_cons rfl (W.sub_cons rfl W.sub_nil))))
  refine X.cond rfl (fun h_21 => ?_) (fun h_21 => ?_)
  · replace hM := ite_t h_21 hM
    refine GS.seq ?_
    refine GS.region ?_
    refine X.opR rfl rfl rfl ?_
    refine GS.opsNil ?_
    have hE := Option.some.inj hM
    subst hE
    exact GS.ret ⟨_, rfl, ⟨30, rfl⟩⟩
  · replace hM := ite_f h_21 hM
    refine GS.skip ?_
    iterate 2 refine GS.seq ?_
    obtain ⟨y7, h_22, hM⟩ := bind_of hM
    obtain ⟨y8, h_23, hM⟩ := gb_of hM
    refine GS.region ?_
    refine X.midS ⟨[(1, (V.ptr 0 0 0)), (140, (V.b ((!y7) || (!y8))))], [.rows 3 [(e_api_Water (law02_example))]], 0, none, 200⟩ ?_ ?_
    · intro hg
      refine X.split (!y7) (fun h_24 => ?_) (fun h_24 => ?_)
      · iterate 5 refine X.opR rfl rfl rfl ?_
        refine X.opW rfl rfl rfl rfl ?_
        refine X.callF (ok_ref02_SameStands h_22) rfl rfl rfl (m := 9) rfl (.cons (.shut (n := 9) rfl) (.cons (FR.arg ⟨30, rfl⟩) .nil)) ?_
        iterate 2 refine X.opR rfl rfl rfl ?_
        iterate 7 refine X.off (X.off_f rfl rfl rfl h_24) rfl ?_
        refine X.opR rfl (X.pickor_t (y := !y8) rfl h_24 rfl) rfl ?_
        refine GS.opsNil ?_
        exact X.gc [some 0] hg rfl rfl rfl (gk_cons rfl ⟨9, rfl⟩ (gk_cons rfl ⟨9, rfl⟩ gk_nil)) (gb_box rfl rfl ⟨9, rfl⟩ gb_nil)
      · iterate 5 refine X.opR rfl rfl rfl ?_
        refine X.opW rfl rfl rfl rfl ?_
        refine X.callF (ok_ref02_SameStands h_22) rfl rfl rfl (m := 9) rfl (.cons (.shut (n := 9) rfl) (.cons (FR.arg ⟨30, rfl⟩) .nil)) ?_
        iterate 2 refine X.opR rfl rfl rfl ?_
        iterate 4 refine X.opR (X.on_f rfl rfl rfl h_24) rfl rfl ?_
        refine X.opW (H' := [.rows 3 [(e_api_Water (law02_example))], .rows 2 [(V.agg [(V.i 0), (V.i 39)])], .rows 3 (List.map e_api_Stand ([(⟨(⟨10, 14⟩ : api_Span), 102⟩ : api_Stand), (⟨(⟨25, 29⟩ : api_Span), 101⟩ : api_Stand)])), .rows 2 (List.map e_api_Span ([(⟨0, 9⟩ : api_Span), (⟨15, 24⟩ : api_Span), (⟨30, 39⟩ : api_Span)]))]) (X.on_f rfl rfl rfl h_24) rfl rfl rfl ?_
        refine X.callF (ok_ref02_SameSpans (h_23 (X.nt h_24))) (X.on_f rfl rfl rfl h_24) rfl rfl (m := 9) rfl (.cons (.shut (n := 9) rfl) (.cons (FR.arg ⟨30, rfl⟩) .nil)) ?_
        refine X.opR (X.on_f rfl rfl rfl h_24) rfl rfl ?_
        refine X.opR rfl (X.pickor_f (y := !y8) rfl h_24 rfl) rfl ?_
        refine GS.opsNil ?_
        exact X.gc [some 0] hg rfl rfl rfl (gk_cons rfl ⟨9, rfl⟩ (gk_cons rfl ⟨9, rfl⟩ gk_nil)) (gb_box rfl rfl ⟨9, rfl⟩ gb_nil)
    refine X.cond rfl (fun h_25 => ?_) (fun h_25 => ?_)
    · replace hM := ite_t h_25 hM
      refine GS.seq ?_
      refine GS.region ?_
      refine X.opR rfl rfl rfl ?_
      refine GS.opsNil ?_
      have hE := Option.some.inj hM
      subst hE
      exact GS.ret ⟨_, rfl, ⟨30, rfl⟩⟩
    · replace hM := ite_f h_25 hM
      refine GS.skip ?_
      refine GS.seq ?_
      obtain ⟨x1, h_26, hM⟩ := bind_of hM
      obtain ⟨x2, h_27, hM⟩ := bind_of hM
      obtain ⟨y9, h_28, hM⟩ := bind_of hM
      refine X.draw (by kernel_rfl) ?_
      iterate 2 refine X.dop rfl rfl rfl rfl (by kernel_rfl) rfl rfl ?_
      refine X.dop rfl (X.indexF (f := e_api_Cycle) h_26 (fun _ => rfl) rfl rfl rfl rfl) rfl rfl (by kernel_rfl) rfl rfl ?_
      refine X.dop rfl (X.loadF h_26 rfl rfl rfl) rfl rfl (by kernel_rfl) rfl rfl ?_
      iterate 2 refine X.dop rfl rfl rfl rfl (by kernel_rfl) rfl rfl ?_
      refine X.dop rfl (X.indexF (f := e_api_Cycle) h_27 (fun _ => rfl) rfl rfl rfl rfl) rfl rfl (by kernel_rfl) rfl rfl ?_
      refine X.dop rfl (X.loadF h_27 rfl rfl rfl) rfl rfl (by kernel_rfl) rfl rfl ?_
      refine X.dcall (ok_tide_Together h_28) rfl rfl rfl (by kernel_rfl) rfl (.cons (.shut (n := 9) rfl) (.cons (.shut (n := 9) rfl) .nil)) ?_
      iterate 4 refine X.dop rfl rfl rfl rfl (by kernel_rfl) rfl rfl ?_
      refine X.dop0 rfl rfl rfl rfl (by kernel_rfl) rfl ?_
      refine X.dop rfl rfl rfl rfl (by kernel_rfl) rfl rfl ?_
      refine X.dnil ?_
      refine X.norm [(1, (V.ptr 0 0 0)), (18, (V.ptr 1 0 0)), (19, (V.i y9.2))] ?_ rfl (W.sub_cons rfl (W.sub_cons rfl (W.sub_cons rfl W.sub_nil)))
      refine GS.seq ?_
      refine GS.region ?_
      iterate 4 refine X.opR rfl rfl rfl ?_
      refine X.opW rfl rfl rfl rfl ?_
      refine X.opR rfl rfl rfl ?_
      refine GS.opsNil ?_
      refine GS.seq ?_
      obtain ⟨y10, h_29, hM⟩ := bind_of hM
      refine GS.region ?_
      iterate 2 refine X.opR rfl rfl rfl ?_
      refine X.callF (ok_tide_Levels h_29) rfl rfl rfl (m := 9) rfl (.cons (.shut (n := 9) rfl) (.cons (FR.arg ⟨30, rfl⟩) .nil)) ?_
      iterate 3 refine X.opR rfl rfl rfl ?_
      refine X.opW (H' := [.rows 3 [(e_api_Water (law02_example))], .rows 4 [(e_api_Cycle y9.1)], .rows 4 (List.map e_api_Gauge ([(⟨3, 12, (⟨100, 110⟩ : api_Span)⟩ : api_Gauge), (⟨4, 15, (⟨133, 140⟩ : api_Span)⟩ : api_Gauge)])), .rows 2 [(V.agg [(V.i 0), (V.i 0)])]]) rfl rfl rfl rfl ?_
      refine X.op0W (H' := [.rows 3 [(e_api_Water (law02_example))], .rows 4 [(e_api_Cycle y9.1)], .rows 4 (List.map e_api_Gauge ([(⟨3, 12, (⟨100, 110⟩ : api_Span)⟩ : api_Gauge), (⟨4, 15, (⟨133, 140⟩ : api_Span)⟩ : api_Gauge)])), .rows 2 [(e_api_Span y10.1)]]) rfl rfl rfl ?_
      refine X.opR rfl rfl rfl ?_
      refine GS.opsNil ?_
      refine GS.seq ?_
      obtain ⟨y11, h_30, hM⟩ := bind_of hM
      refine GS.region ?_
      iterate 2 refine X.opR rfl rfl rfl ?_
      refine X.callF (ok_tide_Rests h_30) rfl rfl rfl (m := 9) rfl (.cons (.shut (n := 9) rfl) (.cons (FR.arg ⟨30, rfl⟩) .nil)) ?_
      iterate 7 refine X.opR rfl rfl rfl ?_
      refine GS.opsNil ?_
      refine GS.seq ?_
      obtain ⟨y12, h_31, hM⟩ := gb_of hM
      refine GS.region ?_
      refine X.midS ⟨[(0, (V.b (((((((decide (y9.2 = 0)) && y12) && (decide (y10.2 = 0))) && (decide (y10.1 = (⟨101, 108⟩ : api_Span)))) && (decide (y11.2.2 = 0))) && (decide (y11.1 = 4))) && (decide (y11.2.1 = 3)))))], [], 0, none, 200⟩ ?_ ?_
      · intro hg
        refine X.split (decide (y9.2 = 0)) (fun h_32 => ?_) (fun h_32 => ?_)
        · refine X.split (((decide (y9.2 = 0)) && y12)) (fun h_33 => ?_) (fun h_33 => ?_)
          · refine X.split ((((decide (y9.2 = 0)) && y12) && (decide (y10.2 = 0)))) (fun h_34 => ?_) (fun h_34 => ?_)
            · refine X.split (((((decide (y9.2 = 0)) && y12) && (decide (y10.2 = 0))) && (decide (y10.1 = (⟨101, 108⟩ : api_Span))))) (fun h_35 => ?_) (fun h_35 => ?_)
              · refine X.split ((((((decide (y9.2 = 0)) && y12) && (decide (y10.2 = 0))) && (decide (y10.1 = (⟨101, 108⟩ : api_Span)))) && (decide (y11.2.2 = 0)))) (fun h_36 => ?_) (fun h_36 => ?_)
                · refine X.split (((((((decide (y9.2 = 0)) && y12) && (decide (y10.2 = 0))) && (decide (y10.1 = (⟨101, 108⟩ : api_Span)))) && (decide (y11.2.2 = 0))) && (decide (y11.1 = 4)))) (fun h_37 => ?_) (fun h_37 => ?_)
                  · iterate 3 refine X.opR rfl rfl rfl ?_
                    refine X.opR (X.on_t rfl rfl rfl h_32) rfl rfl ?_
                    refine X.opW (H' := [.rows 3 [(e_api_Water (law02_example))], .rows 4 [(e_api_Cycle y9.1)], .rows 4 (List.map e_api_Gauge ([(⟨3, 12, (⟨100, 110⟩ : api_Span)⟩ : api_Gauge), (⟨4, 15, (⟨133, 140⟩ : api_Span)⟩ : api_Gauge)])), .rows 2 [(e_api_Span y10.1)], .rows 1 (List.map V.i ([2, 32, 21, 1, 32, 22, 1, 31, 22, 2, 31, 21]))]) (X.on_t rfl rfl rfl h_32) rfl rfl rfl ?_
                    refine X.opR (X.on_t rfl rfl rfl h_32) rfl rfl ?_
                    refine X.callF (ok_ref02_SameCycle (h_31 h_32)) (X.on_t rfl rfl rfl h_32) rfl rfl (m := 9) rfl (.cons (.shut (n := 9) rfl) (.cons (FR.arg ⟨30, rfl⟩) .nil)) ?_
                    refine X.opR rfl (X.pickand_t (y := y12) rfl h_32 rfl) rfl ?_
                    refine X.opR rfl rfl rfl ?_
                    iterate 2 refine X.opR (X.on_t rfl rfl rfl h_33) rfl rfl ?_
                    refine X.opR rfl (X.pickand_t (y := decide (y10.2 = 0)) rfl h_33 rfl) rfl ?_
                    refine X.opR rfl rfl rfl ?_
                    iterate 2 refine X.opR (X.on_t rfl rfl rfl h_34) rfl rfl ?_
                    refine X.opR (X.on_t rfl rfl rfl h_34) (X.eqlE (eq_api_Span y10.1 (⟨101, 108⟩ : api_Span)) rfl rfl) rfl ?_
                    refine X.opR rfl (X.pickand_t (y := decide (y10.1 = (⟨101, 108⟩ : api_Span))) rfl h_34 rfl) rfl ?_
                    refine X.opR rfl rfl rfl ?_
                    iterate 2 refine X.opR (X.on_t rfl rfl rfl h_35) rfl rfl ?_
                    refine X.opR rfl (X.pickand_t (y := decide (y11.2.2 = 0)) rfl h_35 rfl) rfl ?_
                    refine X.opR rfl rfl rfl ?_
                    iterate 2 refine X.opR (X.on_t rfl rfl rfl h_36) rfl rfl ?_
                    refine X.opR rfl (X.pickand_t (y := decide (y11.1 = 4)) rfl h_36 rfl) rfl ?_
                    refine X.opR rfl rfl rfl ?_
                    iterate 2 refine X.opR (X.on_t rfl rfl rfl h_37) rfl rfl ?_
                    refine X.opR rfl (X.pickand_t (y := decide (y11.2.1 = 3)) rfl h_37 rfl) rfl ?_
                    refine X.opR rfl rfl rfl ?_
                    refine GS.opsNil ?_
                    exact X.gc [] hg rfl rfl rfl (gk_cons rfl ⟨9, rfl⟩ gk_nil) (gb_nil)
                  · iterate 3 refine X.opR rfl rfl rfl ?_
                    refine X.opR (X.on_t rfl rfl rfl h_32) rfl rfl ?_
                    refine X.opW (H' := [.rows 3 [(e_api_Water (law02_example))], .rows 4 [(e_api_Cycle y9.1)], .rows 4 (List.map e_api_Gauge ([(⟨3, 12, (⟨100, 110⟩ : api_Span)⟩ : api_Gauge), (⟨4, 15, (⟨133, 140⟩ : api_Span)⟩ : api_Gauge)])), .rows 2 [(e_api_Span y10.1)], .rows 1 (List.map V.i ([2, 32, 21, 1, 32, 22, 1, 31, 22, 2, 31, 21]))]) (X.on_t rfl rfl rfl h_32) rfl rfl rfl ?_
                    refine X.opR (X.on_t rfl rfl rfl h_32) rfl rfl ?_
                    refine X.callF (ok_ref02_SameCycle (h_31 h_32)) (X.on_t rfl rfl rfl h_32) rfl rfl (m := 9) rfl (.cons (.shut (n := 9) rfl) (.cons (FR.arg ⟨30, rfl⟩) .nil)) ?_
                    refine X.opR rfl (X.pickand_t (y := y12) rfl h_32 rfl) rfl ?_
                    refine X.opR rfl rfl rfl ?_
                    iterate 2 refine X.opR (X.on_t rfl rfl rfl h_33) rfl rfl ?_
                    refine X.opR rfl (X.pickand_t (y := decide (y10.2 = 0)) rfl h_33 rfl) rfl ?_
                    refine X.opR rfl rfl rfl ?_
                    iterate 2 refine X.opR (X.on_t rfl rfl rfl h_34) rfl rfl ?_
                    refine X.opR (X.on_t rfl rfl rfl h_34) (X.eqlE (eq_api_Span y10.1 (⟨101, 108⟩ : api_Span)) rfl rfl) rfl ?_
                    refine X.opR rfl (X.pickand_t (y := decide (y10.1 = (⟨101, 108⟩ : api_Span))) rfl h_34 rfl) rfl ?_
                    refine X.opR rfl rfl rfl ?_
                    iterate 2 refine X.opR (X.on_t rfl rfl rfl h_35) rfl rfl ?_
                    refine X.opR rfl (X.pickand_t (y := decide (y11.2.2 = 0)) rfl h_35 rfl) rfl ?_
                    refine X.opR rfl rfl rfl ?_
                    iterate 2 refine X.opR (X.on_t rfl rfl rfl h_36) rfl rfl ?_
                    refine X.opR rfl (X.pickand_t (y := decide (y11.1 = 4)) rfl h_36 rfl) rfl ?_
                    refine X.opR rfl rfl rfl ?_
                    iterate 2 refine X.off (X.off_t rfl rfl rfl h_37) rfl ?_
                    refine X.opR rfl (X.pickand_f (y := decide (y11.2.1 = 3)) rfl h_37 rfl) rfl ?_
                    refine X.opR rfl rfl rfl ?_
                    refine GS.opsNil ?_
                    exact X.gc [] hg rfl rfl rfl (gk_cons rfl ⟨9, rfl⟩ gk_nil) (gb_nil)
                · iterate 3 refine X.opR rfl rfl rfl ?_
                  refine X.opR (X.on_t rfl rfl rfl h_32) rfl rfl ?_
                  refine X.opW (H' := [.rows 3 [(e_api_Water (law02_example))], .rows 4 [(e_api_Cycle y9.1)], .rows 4 (List.map e_api_Gauge ([(⟨3, 12, (⟨100, 110⟩ : api_Span)⟩ : api_Gauge), (⟨4, 15, (⟨133, 140⟩ : api_Span)⟩ : api_Gauge)])), .rows 2 [(e_api_Span y10.1)], .rows 1 (List.map V.i ([2, 32, 21, 1, 32, 22, 1, 31, 22, 2, 31, 21]))]) (X.on_t rfl rfl rfl h_32) rfl rfl rfl ?_
                  refine X.opR (X.on_t rfl rfl rfl h_32) rfl rfl ?_
                  refine X.callF (ok_ref02_SameCycle (h_31 h_32)) (X.on_t rfl rfl rfl h_32) rfl rfl (m := 9) rfl (.cons (.shut (n := 9) rfl) (.cons (FR.arg ⟨30, rfl⟩) .nil)) ?_
                  refine X.opR rfl (X.pickand_t (y := y12) rfl h_32 rfl) rfl ?_
                  refine X.opR rfl rfl rfl ?_
                  iterate 2 refine X.opR (X.on_t rfl rfl rfl h_33) rfl rfl ?_
                  refine X.opR rfl (X.pickand_t (y := decide (y10.2 = 0)) rfl h_33 rfl) rfl ?_
                  refine X.opR rfl rfl rfl ?_
                  iterate 2 refine X.opR (X.on_t rfl rfl rfl h_34) rfl rfl ?_
                  refine X.opR (X.on_t rfl rfl rfl h_34) (X.eqlE (eq_api_Span y10.1 (⟨101, 108⟩ : api_Span)) rfl rfl) rfl ?_
                  refine X.opR rfl (X.pickand_t (y := decide (y10.1 = (⟨101, 108⟩ : api_Span))) rfl h_34 rfl) rfl ?_
                  refine X.opR rfl rfl rfl ?_
                  iterate 2 refine X.opR (X.on_t rfl rfl rfl h_35) rfl rfl ?_
                  refine X.opR rfl (X.pickand_t (y := decide (y11.2.2 = 0)) rfl h_35 rfl) rfl ?_
                  refine X.opR rfl rfl rfl ?_
                  iterate 2 refine X.off (X.off_t rfl rfl rfl h_36) rfl ?_
                  refine X.opR rfl (X.pickand_f (y := decide (y11.1 = 4)) rfl h_36 rfl) rfl ?_
                  refine X.opR rfl rfl rfl ?_
                  iterate 2 refine X.off (X.off_t rfl rfl rfl (X.and_ff h_36)) rfl ?_
                  refine X.opR rfl (X.pickand_f (y := decide (y11.2.1 = 3)) rfl (X.and_ff h_36) rfl) rfl ?_
                  refine X.opR rfl rfl rfl ?_
                  refine GS.opsNil ?_
                  exact X.gc [] hg rfl rfl rfl (gk_cons rfl ⟨9, rfl⟩ gk_nil) (gb_nil)
              · iterate 3 refine X.opR rfl rfl rfl ?_
                refine X.opR (X.on_t rfl rfl rfl h_32) rfl rfl ?_
                refine X.opW (H' := [.rows 3 [(e_api_Water (law02_example))], .rows 4 [(e_api_Cycle y9.1)], .rows 4 (List.map e_api_Gauge ([(⟨3, 12, (⟨100, 110⟩ : api_Span)⟩ : api_Gauge), (⟨4, 15, (⟨133, 140⟩ : api_Span)⟩ : api_Gauge)])), .rows 2 [(e_api_Span y10.1)], .rows 1 (List.map V.i ([2, 32, 21, 1, 32, 22, 1, 31, 22, 2, 31, 21]))]) (X.on_t rfl rfl rfl h_32) rfl rfl rfl ?_
                refine X.opR (X.on_t rfl rfl rfl h_32) rfl rfl ?_
                refine X.callF (ok_ref02_SameCycle (h_31 h_32)) (X.on_t rfl rfl rfl h_32) rfl rfl (m := 9) rfl (.cons (.shut (n := 9) rfl) (.cons (FR.arg ⟨30, rfl⟩) .nil)) ?_
                refine X.opR rfl (X.pickand_t (y := y12) rfl h_32 rfl) rfl ?_
                refine X.opR rfl rfl rfl ?_
                iterate 2 refine X.opR (X.on_t rfl rfl rfl h_33) rfl rfl ?_
                refine X.opR rfl (X.pickand_t (y := decide (y10.2 = 0)) rfl h_33 rfl) rfl ?_
                refine X.opR rfl rfl rfl ?_
                iterate 2 refine X.opR (X.on_t rfl rfl rfl h_34) rfl rfl ?_
                refine X.opR (X.on_t rfl rfl rfl h_34) (X.eqlE (eq_api_Span y10.1 (⟨101, 108⟩ : api_Span)) rfl rfl) rfl ?_
                refine X.opR rfl (X.pickand_t (y := decide (y10.1 = (⟨101, 108⟩ : api_Span))) rfl h_34 rfl) rfl ?_
                refine X.opR rfl rfl rfl ?_
                iterate 2 refine X.off (X.off_t rfl rfl rfl h_35) rfl ?_
                refine X.opR rfl (X.pickand_f (y := decide (y11.2.2 = 0)) rfl h_35 rfl) rfl ?_
                refine X.opR rfl rfl rfl ?_
                iterate 2 refine X.off (X.off_t rfl rfl rfl (X.and_ff h_35)) rfl ?_
                refine X.opR rfl (X.pickand_f (y := decide (y11.1 = 4)) rfl (X.and_ff h_35) rfl) rfl ?_
                refine X.opR rfl rfl rfl ?_
                iterate 2 refine X.off (X.off_t rfl rfl rfl (X.and_ff (X.and_ff h_35))) rfl ?_
                refine X.opR rfl (X.pickand_f (y := decide (y11.2.1 = 3)) rfl (X.and_ff (X.and_ff h_35)) rfl) rfl ?_
                refine X.opR rfl rfl rfl ?_
                refine GS.opsNil ?_
                exact X.gc [] hg rfl rfl rfl (gk_cons rfl ⟨9, rfl⟩ gk_nil) (gb_nil)
            · iterate 3 refine X.opR rfl rfl rfl ?_
              refine X.opR (X.on_t rfl rfl rfl h_32) rfl rfl ?_
              refine X.opW (H' := [.rows 3 [(e_api_Water (law02_example))], .rows 4 [(e_api_Cycle y9.1)], .rows 4 (List.map e_api_Gauge ([(⟨3, 12, (⟨100, 110⟩ : api_Span)⟩ : api_Gauge), (⟨4, 15, (⟨133, 140⟩ : api_Span)⟩ : api_Gauge)])), .rows 2 [(e_api_Span y10.1)], .rows 1 (List.map V.i ([2, 32, 21, 1, 32, 22, 1, 31, 22, 2, 31, 21]))]) (X.on_t rfl rfl rfl h_32) rfl rfl rfl ?_
              refine X.opR (X.on_t rfl rfl rfl h_32) rfl rfl ?_
              refine X.callF (ok_ref02_SameCycle (h_31 h_32)) (X.on_t rfl rfl rfl h_32) rfl rfl (m := 9) rfl (.cons (.shut (n := 9) rfl) (.cons (FR.arg ⟨30, rfl⟩) .nil)) ?_
              refine X.opR rfl (X.pickand_t (y := y12) rfl h_32 rfl) rfl ?_
              refine X.opR rfl rfl rfl ?_
              iterate 2 refine X.opR (X.on_t rfl rfl rfl h_33) rfl rfl ?_
              refine X.opR rfl (X.pickand_t (y := decide (y10.2 = 0)) rfl h_33 rfl) rfl ?_
              refine X.opR rfl rfl rfl ?_
              iterate 3 refine X.off (X.off_t rfl rfl rfl h_34) rfl ?_
              refine X.opR rfl (X.pickand_f (y := decide (y10.1 = (⟨101, 108⟩ : api_Span))) rfl h_34 rfl) rfl ?_
              refine X.opR rfl rfl rfl ?_
              iterate 2 refine X.off (X.off_t rfl rfl rfl (X.and_ff h_34)) rfl ?_
              refine X.opR rfl (X.pickand_f (y := decide (y11.2.2 = 0)) rfl (X.and_ff h_34) rfl) rfl ?_
              refine X.opR rfl rfl rfl ?_
              iterate 2 refine X.off (X.off_t rfl rfl rfl (X.and_ff (X.and_ff h_34))) rfl ?_
              refine X.opR rfl (X.pickand_f (y := decide (y11.1 = 4)) rfl (X.and_ff (X.and_ff h_34)) rfl) rfl ?_
              refine X.opR rfl rfl rfl ?_
              iterate 2 refine X.off (X.off_t rfl rfl rfl (X.and_ff (X.and_ff (X.and_ff h_34)))) rfl ?_
              refine X.opR rfl (X.pickand_f (y := decide (y11.2.1 = 3)) rfl (X.and_ff (X.and_ff (X.and_ff h_34))) rfl) rfl ?_
              refine X.opR rfl rfl rfl ?_
              refine GS.opsNil ?_
              exact X.gc [] hg rfl rfl rfl (gk_cons rfl ⟨9, rfl⟩ gk_nil) (gb_nil)
          · iterate 3 refine X.opR rfl rfl rfl ?_
            refine X.opR (X.on_t rfl rfl rfl h_32) rfl rfl ?_
            refine X.opW (H' := [.rows 3 [(e_api_Water (law02_example))], .rows 4 [(e_api_Cycle y9.1)], .rows 4 (List.map e_api_Gauge ([(⟨3, 12, (⟨100, 110⟩ : api_Span)⟩ : api_Gauge), (⟨4, 15, (⟨133, 140⟩ : api_Span)⟩ : api_Gauge)])), .rows 2 [(e_api_Span y10.1)], .rows 1 (List.map V.i ([2, 32, 21, 1, 32, 22, 1, 31, 22, 2, 31, 21]))]) (X.on_t rfl rfl rfl h_32) rfl rfl rfl ?_
            refine X.opR (X.on_t rfl rfl rfl h_32) rfl rfl ?_
            refine X.callF (ok_ref02_SameCycle (h_31 h_32)) (X.on_t rfl rfl rfl h_32) rfl rfl (m := 9) rfl (.cons (.shut (n := 9) rfl) (.cons (FR.arg ⟨30, rfl⟩) .nil)) ?_
            refine X.opR rfl (X.pickand_t (y := y12) rfl h_32 rfl) rfl ?_
            refine X.opR rfl rfl rfl ?_
            iterate 2 refine X.off (X.off_t rfl rfl rfl h_33) rfl ?_
            refine X.opR rfl (X.pickand_f (y := decide (y10.2 = 0)) rfl h_33 rfl) rfl ?_
            refine X.opR rfl rfl rfl ?_
            iterate 3 refine X.off (X.off_t rfl rfl rfl (X.and_ff h_33)) rfl ?_
            refine X.opR rfl (X.pickand_f (y := decide (y10.1 = (⟨101, 108⟩ : api_Span))) rfl (X.and_ff h_33) rfl) rfl ?_
            refine X.opR rfl rfl rfl ?_
            iterate 2 refine X.off (X.off_t rfl rfl rfl (X.and_ff (X.and_ff h_33))) rfl ?_
            refine X.opR rfl (X.pickand_f (y := decide (y11.2.2 = 0)) rfl (X.and_ff (X.and_ff h_33)) rfl) rfl ?_
            refine X.opR rfl rfl rfl ?_
            iterate 2 refine X.off (X.off_t rfl rfl rfl (X.and_ff (X.and_ff (X.and_ff h_33)))) rfl ?_
            refine X.opR rfl (X.pickand_f (y := decide (y11.1 = 4)) rfl (X.and_ff (X.and_ff (X.and_ff h_33))) rfl) rfl ?_
            refine X.opR rfl rfl rfl ?_
            iterate 2 refine X.off (X.off_t rfl rfl rfl (X.and_ff (X.and_ff (X.and_ff (X.and_ff h_33))))) rfl ?_
            refine X.opR rfl (X.pickand_f (y := decide (y11.2.1 = 3)) rfl (X.and_ff (X.and_ff (X.and_ff (X.and_ff h_33)))) rfl) rfl ?_
            refine X.opR rfl rfl rfl ?_
            refine GS.opsNil ?_
            exact X.gc [] hg rfl rfl rfl (gk_cons rfl ⟨9, rfl⟩ gk_nil) (gb_nil)
        · iterate 3 refine X.opR rfl rfl rfl ?_
          iterate 4 refine X.off (X.off_t rfl rfl rfl h_32) rfl ?_
          refine X.opR rfl (X.pickand_f (y := y12) rfl h_32 rfl) rfl ?_
          refine X.opR rfl rfl rfl ?_
          iterate 2 refine X.off (X.off_t rfl rfl rfl (X.and_ff h_32)) rfl ?_
          refine X.opR rfl (X.pickand_f (y := decide (y10.2 = 0)) rfl (X.and_ff h_32) rfl) rfl ?_
          refine X.opR rfl rfl rfl ?_
          iterate 3 refine X.off (X.off_t rfl rfl rfl (X.and_ff (X.and_ff h_32))) rfl ?_
          refine X.opR rfl (X.pickand_f (y := decide (y10.1 = (⟨101, 108⟩ : api_Span))) rfl (X.and_ff (X.and_ff h_32)) rfl) rfl ?_
          refine X.opR rfl rfl rfl ?_
          iterate 2 refine X.off (X.off_t rfl rfl rfl (X.and_ff (X.and_ff (X.and_ff h_32)))) rfl ?_
          refine X.opR rfl (X.pickand_f (y := decide (y11.2.2 = 0)) rfl (X.and_ff (X.and_ff (X.and_ff h_32))) rfl) rfl ?_
          refine X.opR rfl rfl rfl ?_
          iterate 2 refine X.off (X.off_t rfl rfl rfl (X.and_ff (X.and_ff (X.and_ff (X.and_ff h_32))))) rfl ?_
          refine X.opR rfl (X.pickand_f (y := decide (y11.1 = 4)) rfl (X.and_ff (X.and_ff (X.and_ff (X.and_ff h_32)))) rfl) rfl ?_
          refine X.opR rfl rfl rfl ?_
          iterate 2 refine X.off (X.off_t rfl rfl rfl (X.and_ff (X.and_ff (X.and_ff (X.and_ff (X.and_ff h_32)))))) rfl ?_
          refine X.opR rfl (X.pickand_f (y := decide (y11.2.1 = 3)) rfl (X.and_ff (X.and_ff (X.and_ff (X.and_ff (X.and_ff h_32))))) rfl) rfl ?_
          refine X.opR rfl rfl rfl ?_
          refine GS.opsNil ?_
          exact X.gc [] hg rfl rfl rfl (gk_cons rfl ⟨9, rfl⟩ gk_nil) (gb_nil)
      have hE := Option.some.inj hM
      subst hE
      exact GS.ret ⟨_, rfl, ⟨30, rfl⟩⟩

theorem ok_ref02_within (n : Int) (lo : Int) (hi : Int) : Ct Tryz.prog 74 [(V.i n), (V.i lo), (V.i hi)] (V.b (ref02_within n lo hi)) := by
  refine ct_of_gs CC_ok rfl ?_
  generalize hM : ref02_within n lo hi = r
  unfold ref02_within at hM
  refine GS.seq ?_
  refine GS.region ?_
  refine X.opR rfl rfl rfl ?_
  refine GS.opsNil ?_
  refine GS.seq ?_
  refine GS.region ?_
  refine X.mid [(6, (V.b ((decide (lo ≤ n)) && (decide (n ≤ hi)))))] ?_ ?_
  · intro hg
    refine X.split (decide (lo ≤ n)) (fun h_1 => ?_) (fun h_1 => ?_)
    · iterate 4 refine X.opR rfl rfl rfl ?_
      iterate 3 refine X.opR (X.on_t rfl rfl rfl h_1) rfl rfl ?_
      refine X.opR rfl (X.pickand_t (y := decide (n ≤ hi)) rfl h_1 rfl) rfl ?_
      refine X.opR rfl rfl rfl ?_
      refine GS.opsNil ?_
      exact X.norm _ hg rfl (W.sub_cons rfl W.sub_nil)
    · iterate 4 refine X.opR rfl rfl rfl ?_
      iterate 3 refine X.off (X.off_t rfl rfl rfl h_1) rfl ?_
      refine X.opR rfl (X.pickand_f (y := decide (n ≤ hi)) rfl h_1 rfl) rfl ?_
      refine X.opR rfl rfl rfl ?_
      refine GS.opsNil ?_
      exact X.norm _ hg rfl (W.sub_cons rfl W.sub_nil)
  subst hM
  exact GS.ret ⟨_, rfl, ⟨30, rfl⟩⟩

theorem ok_ref02_Right {c : api_Cycle} {r : Bool} (hM : ref02_Right c = some r) : Ct Tryz.prog 94 [(e_api_Cycle c)] (V.b r) := by
  refine ct_of_gs CC_ok rfl ?_
  unfold ref02_Right at hM
  refine GS.seq ?_
  refine GS.region ?_
  refine X.opW rfl rfl rfl rfl ?_
  refine X.opR rfl rfl rfl ?_
  refine GS.opsNil ?_
  refine GS.seq ?_
  refine GS.region ?_
  iterate 2 refine X.opR rfl rfl rfl ?_
  refine X.call (ok_ref02_within c.ID 1 1099511627776) rfl rfl rfl (.cons (.shut (n := 9) rfl) (.cons (.shut (n := 9) rfl) (.cons (.shut (n := 9) rfl) .nil))) ?_
  refine X.opR rfl rfl rfl ?_
  refine GS.opsNil ?_
  refine GS.seq ?_
  refine GS.region ?_
  iterate 2 refine X.opR rfl rfl rfl ?_
  refine X.call (ok_ref02_within c.Begin 0 1048576) rfl rfl rfl (.cons (.shut (n := 9) rfl) (.cons (.shut (n := 9) rfl) (.cons (.shut (n := 9) rfl) .nil))) ?_
  refine X.opR rfl rfl rfl ?_
  refine GS.opsNil ?_
  refine GS.seq ?_
  refine GS.region ?_
  iterate 2 refine X.opR rfl rfl rfl ?_
  refine X.call (ok_ref02_within c.Every 1 120) rfl rfl rfl (.cons (.shut (n := 9) rfl) (.cons (.shut (n := 9) rfl) (.cons (.shut (n := 9) rfl) .nil))) ?_
  refine X.opR rfl rfl rfl ?_
  refine GS.opsNil ?_
  refine GS.seq ?_
  refine GS.region ?_
  iterate 2 refine X.opR rfl rfl rfl ?_
  refine X.opR rfl (X.lenF rfl rfl rfl) rfl ?_
  refine X.call (ok_ref02_within (c.Heights.length : Int) 1 60) rfl rfl rfl (.cons (.shut (n := 9) rfl) (.cons (.shut (n := 9) rfl) (.cons (.shut (n := 9) rfl) .nil))) ?_
  refine X.opR rfl rfl rfl ?_
  refine GS.opsNil ?_
  iterate 2 refine GS.seq ?_
  refine GS.region ?_
  refine X.mid [(1, (V.ptr 0 0 0)), (35, (V.b ((((!(ref02_within c.ID 1 1099511627776)) || (!(ref02_within c.Begin 0 1048576))) || (!(ref02_within c.Every 1 120))) || (!(ref02_within (c.Heights.length : Int) 1 60)))))] ?_ ?_
  · intro hg
    refine X.split (!(ref02_within c.ID 1 1099511627776)) (fun h_1 => ?_) (fun h_1 => ?_)
    · iterate 3 refine X.opR rfl rfl rfl ?_
      iterate 2 refine X.off (X.off_f rfl rfl rfl h_1) rfl ?_
      refine X.opR rfl (X.pickor_t (y := !(ref02_within c.Begin 0 1048576)) rfl h_1 rfl) rfl ?_
      refine X.opR rfl rfl rfl ?_
      iterate 2 refine X.off (X.off_f rfl rfl rfl (X.or_tt h_1)) rfl ?_
      refine X.opR rfl (X.pickor_t (y := !(ref02_within c.Every 1 120)) rfl (X.or_tt h_1) rfl) rfl ?_
      refine X.opR rfl rfl rfl ?_
      iterate 2 refine X.off (X.off_f rfl rfl rfl (X.or_tt (X.or_tt h_1))) rfl ?_
      refine X.opR rfl (X.pickor_t (y := !(ref02_within (c.Heights.length : Int) 1 60)) rfl (X.or_tt (X.or_tt h_1)) rfl) rfl ?_
      refine GS.opsNil ?_
      exact X.norm _ hg rfl (W.sub_cons rfl (W.sub_cons rfl W.sub_nil))
    · refine X.split (((!(ref02_within c.ID 1 1099511627776)) || (!(ref02_within c.Begin 0 1048576)))) (fun h_2 => ?_) (fun h_2 => ?_)
      · iterate 3 refine X.opR rfl rfl rfl ?_
        iterate 2 refine X.opR (X.on_f rfl rfl rfl h_1) rfl rfl ?_
        refine X.opR rfl (X.pickor_f (y := !(ref02_within c.Begin 0 1048576)) rfl h_1 rfl) rfl ?_
        refine X.opR rfl rfl rfl ?_
        iterate 2 refine X.off (X.off_f rfl rfl rfl h_2) rfl ?_
        refine X.opR rfl (X.pickor_t (y := !(ref02_within c.Every 1 120)) rfl h_2 rfl) rfl ?_
        refine X.opR rfl rfl rfl ?_
        iterate 2 refine X.off (X.off_f rfl rfl rfl (X.or_tt h_2)) rfl ?_
        refine X.opR rfl (X.pickor_t (y := !(ref02_within (c.Heights.length : Int) 1 60)) rfl (X.or_tt h_2) rfl) rfl ?_
        refine GS.opsNil ?_
        exact X.norm _ hg rfl (W.sub_cons rfl (W.sub_cons rfl W.sub_nil))
      · refine X.split ((((!(ref02_within c.ID 1 1099511627776)) || (!(ref02_within c.Begin 0 1048576))) || (!(ref02_within c.Every 1 120)))) (fun h_3 => ?_) (fun h_3 => ?_)
        · iterate 3 refine X.opR rfl rfl rfl ?_
          iterate 2 refine X.opR (X.on_f rfl rfl rfl h_1) rfl rfl ?_
          refine X.opR rfl (X.pickor_f (y := !(ref02_within c.Begin 0 1048576)) rfl h_1 rfl) rfl ?_
          refine X.opR rfl rfl rfl ?_
          iterate 2 refine X.opR (X.on_f rfl rfl rfl h_2) rfl rfl ?_
          refine X.opR rfl (X.pickor_f (y := !(ref02_within c.Every 1 120)) rfl h_2 rfl) rfl ?_
          refine X.opR rfl rfl rfl ?_
          iterate 2 refine X.off (X.off_f rfl rfl rfl h_3) rfl ?_
          refine X.opR rfl (X.pickor_t (y := !(ref02_within (c.Heights.length : Int) 1 60)) rfl h_3 rfl) rfl ?_
          refine GS.opsNil ?_
          exact X.norm _ hg rfl (W.sub_cons rfl (W.sub_cons rfl W.sub_nil))
        · iterate 3 refine X.opR rfl rfl rfl ?_
          iterate 2 refine X.opR (X.on_f rfl rfl rfl h_1) rfl rfl ?_
          refine X.opR rfl (X.pickor_f (y := !(ref02_within c.Begin 0 1048576)) rfl h_1 rfl) rfl ?_
          refine X.opR rfl rfl rfl ?_
          iterate 2 refine X.opR (X.on_f rfl rfl rfl h_2) rfl rfl ?_
          refine X.opR rfl (X.pickor_f (y := !(ref02_within c.Every 1 120)) rfl h_2 rfl) rfl ?_
          refine X.opR rfl rfl rfl ?_
          iterate 2 refine X.opR (X.on_f rfl rfl rfl h_3) rfl rfl ?_
          refine X.opR rfl (X.pickor_f (y := !(ref02_within (c.Heights.length : Int) 1 60)) rfl h_3 rfl) rfl ?_
          refine GS.opsNil ?_
          exact X.norm _ hg rfl (W.sub_cons rfl (W.sub_cons rfl W.sub_nil))
  refine X.cond rfl (fun h_4 => ?_) (fun h_4 => ?_)
  · replace hM := ite_t h_4 hM
    refine GS.seq ?_
    refine GS.region ?_
    refine X.opR rfl rfl rfl ?_
    refine GS.opsNil ?_
    have hE := Option.some.inj hM
    subst hE
    exact GS.ret ⟨_, rfl, ⟨30, rfl⟩⟩
  · replace hM := ite_f h_4 hM
    refine GS.skip ?_
    iterate 2 refine GS.seq ?_
    refine GS.region ?_
    refine X.opR rfl rfl rfl ?_
    refine GS.opsNil ?_
    refine X.join (τ := Unit) (fun v => ref02_Right_j1 = some r) (fun v => ⟨[], [], 0, none, 51⟩) ?_ ?_
    · intro _ hM
      replace hM : ref02_Right_j1 = some r := hM
      unfold ref02_Right_j1 at hM
      refine GS.seq ?_
      refine GS.region ?_
      refine X.opR rfl rfl rfl ?_
      refine GS.opsNil ?_
      have hE := Option.some.inj hM
      subst hE
      exact GS.ret ⟨_, rfl, ⟨30, rfl⟩⟩
    · intro hj_1
      refine GS.block ?_
      refine X.gc [some 0] (X.loop (σ := Int) (fun v => ⟨[(1, (V.ptr 0 0 0)), (7, (V.i v))], [.rows 4 [(e_api_Cycle c)]], 0, none, 51⟩) hM ?_ rfl) rfl rfl rfl (gk_cons rfl ⟨9, rfl⟩ (gk_cons rfl ⟨9, rfl⟩ gk_nil)) (gb_box rfl rfl ⟨9, rfl⟩ gb_nil)
      intro i b_1 hM hc_2 hr_1
      rw [ref02_Right_b2] at hM
      iterate 2 refine GS.seq ?_
      refine GS.region ?_
      iterate 3 refine X.opR rfl rfl rfl ?_
      refine X.opR rfl (X.lenF rfl rfl rfl) rfl ?_
      refine X.opR rfl rfl rfl ?_
      refine GS.opsNil ?_
      refine X.cond rfl (fun h_5 => ?_) (fun h_5 => ?_)
      · replace hM := ite_t h_5 hM
        refine GS.skip ?_
        refine GS.seq ?_
        refine GS.block ?_
        refine GS.seq ?_
        obtain ⟨x, h_6, hM⟩ := bind_of hM
        refine GS.region ?_
        iterate 3 refine X.opR rfl rfl rfl ?_
        refine X.opR rfl (X.indexF (f := V.i) h_6 (fun _ => rfl) rfl rfl rfl rfl) rfl ?_
        refine X.opR rfl (X.loadF h_6 rfl rfl rfl) rfl ?_
        refine X.call (ok_ref02_within x (-4000) 4000) rfl rfl rfl (.cons (.shut (n := 9) rfl) (.cons (.shut (n := 9) rfl) (.cons (.shut (n := 9) rfl) .nil))) ?_
        refine X.opR rfl rfl rfl ?_
        refine GS.opsNil ?_
        refine GS.seq ?_
        refine GS.region ?_
        iterate 2 refine X.opR rfl rfl rfl ?_
        refine GS.opsNil ?_
        refine X.cond rfl (fun h_7 => ?_) (fun h_7 => ?_)
        · replace hM := ite_t h_7 hM
          refine GS.seq ?_
          refine GS.region ?_
          refine X.opR rfl rfl rfl ?_
          refine GS.opsNil ?_
          have hE := Option.some.inj hM
          replace hE := hr_1 _ hE.symm
          subst hE
          exact GS.ret ⟨_, rfl, ⟨30, rfl⟩⟩
        · replace hM := ite_f h_7 hM
          refine GS.skip ?_
          refine GS.endB ?_
          refine GS.region ?_
          refine X.opR rfl rfl rfl ?_
          refine X.opR rfl (X.addE rfl rfl) rfl ?_
          refine X.opR rfl rfl rfl ?_
          refine GS.opsNil ?_
          have hE := Option.some.inj hM
          exact X.gc [some 0] (hc_2 (w64 (i + 1)) hE.symm) rfl rfl rfl (gk_cons rfl ⟨9, rfl⟩ (gk_cons rfl ⟨9, rfl⟩ gk_nil)) (gb_box rfl rfl ⟨9, rfl⟩ gb_nil)
      · replace hM := ite_f h_5 hM
        refine GS.exit rfl ?_
        obtain ⟨y_1, hM, hy⟩ := map_of hM
        rw [hr_1 _ hy.symm] at hM
        exact X.gc [] (hj_1 () hM) rfl rfl rfl (gk_nil) (gb_nil)

set_option maxHeartbeats 4000000 in
theorem ok_ref02_shifted {l : (List api_Shift)} {r : Int} (hM : ref02_shifted l = some r) : Ct Tryz.prog 95 [(V.sl (List.map e_api_Shift l))] (V.i r) := by
  refine ct_of_gs CC_ok rfl ?_
  unfold ref02_shifted at hM
  refine GS.seq ?_
  refine GS.region ?_
  refine X.opR rfl rfl rfl ?_
  refine GS.opsNil ?_
  iterate 2 refine GS.seq ?_
  refine GS.region ?_
  refine X.opR rfl rfl rfl ?_
  refine GS.opsNil ?_
  refine X.join (τ := Unit) (fun v => ref02_shifted_j1 = some r) (fun v => ⟨[], [], 0, none, 65⟩) ?_ ?_
  · intro _ hM
    replace hM : ref02_shifted_j1 = some r := hM
    unfold ref02_shifted_j1 at hM
    refine GS.seq ?_
    refine GS.region ?_
    refine X.opR rfl rfl rfl ?_
    refine GS.opsNil ?_
    have hE := Option.some.inj hM
    subst hE
    exact GS.ret ⟨_, rfl, ⟨30, rfl⟩⟩
  · intro hj_1
    refine GS.block ?_
    refine X.gc [] (X.loop (σ := Int) (fun v => ⟨[(0, (V.sl (List.map e_api_Shift l))), (3, (V.i v))], [], 0, none, 65⟩) hM ?_ rfl) rfl rfl rfl (gk_cons rfl ⟨9, rfl⟩ (gk_cons rfl ⟨9, rfl⟩ gk_nil)) (gb_nil)
    intro i b_1 hM hc_2 hr_1
    rw [ref02_shifted_b2] at hM
    iterate 2 refine GS.seq ?_
    refine GS.region ?_
    iterate 2 refine X.opR rfl rfl rfl ?_
    refine X.opR rfl (X.lenF rfl rfl rfl) rfl ?_
    refine X.opR rfl rfl rfl ?_
    refine GS.opsNil ?_
    refine X.cond rfl (fun h_1 => ?_) (fun h_1 => ?_)
    · replace hM := ite_t h_1 hM
      refine GS.skip ?_
      refine GS.seq ?_
      refine GS.block ?_
      refine GS.seq ?_
      obtain ⟨x, h_2, hM⟩ := bind_of hM
      refine GS.region ?_
      iterate 2 refine X.opR rfl rfl rfl ?_
      refine X.opR rfl (X.indexF (f := e_api_Shift) h_2 (fun _ => rfl) rfl rfl rfl rfl) rfl ?_
      refine X.opR rfl rfl rfl ?_
      refine X.opR rfl (X.loadF h_2 rfl rfl rfl) rfl ?_
      refine X.call (ok_ref02_within x.Add (-4000) 4000) rfl rfl rfl (.cons (.shut (n := 9) rfl) (.cons (.shut (n := 9) rfl) (.cons (.shut (n := 9) rfl) .nil))) ?_
      refine X.opR rfl rfl rfl ?_
      refine GS.opsNil ?_
      iterate 2 refine GS.seq ?_
      obtain ⟨x1, h_3, hM⟩ := bind_of hM
      obtain ⟨x2, h_4, hM⟩ := gb_of hM
      obtain ⟨x3, h_5, hM⟩ := gb_of hM
      obtain ⟨x4, h_6, hM⟩ := gb_of hM
      refine X.mid [(0, (V.sl (List.map e_api_Shift l))), (3, (V.i i)), (47, (V.b ((((decide (x1.From < 0)) || (decide (x3.To < x2.From))) || (decide (728 < x4.To))) || (!(ref02_within x.Add (-4000) 4000)))))] ?_ ?_
      · intro hg
        refine X.split (decide (x1.From < 0)) (fun h_7 => ?_) (fun h_7 => ?_)
        · refine X.drawc (by kernel_rfl) rfl ?_
          iterate 2 refine X.cop rfl rfl rfl rfl ?_
          refine X.cop rfl (X.indexF (f := e_api_Shift) h_3 (fun _ => rfl) rfl rfl rfl rfl) rfl rfl ?_
          refine X.cop rfl rfl rfl rfl ?_
          refine X.cop rfl (X.loadF h_3 rfl rfl rfl) rfl rfl ?_
          iterate 2 refine X.cop rfl rfl rfl rfl ?_
          iterate 11 refine X.coff (X.off_f rfl rfl rfl h_7) rfl rfl ?_
          refine X.cop rfl (X.pickor_t (y := decide (x3.To < x2.From)) rfl h_7 rfl) rfl rfl ?_
          refine X.cop rfl rfl rfl rfl ?_
          iterate 6 refine X.coff (X.off_f rfl rfl rfl (X.or_tt h_7)) rfl rfl ?_
          refine X.cop rfl (X.pickor_t (y := decide (728 < x4.To)) rfl (X.or_tt h_7) rfl) rfl rfl ?_
          refine X.cop rfl rfl rfl rfl ?_
          iterate 2 refine X.coff (X.off_f rfl rfl rfl (X.or_tt (X.or_tt h_7))) rfl rfl ?_
          refine X.cop rfl (X.pickor_t (y := !(ref02_within x.Add (-4000) 4000)) rfl (X.or_tt (X.or_tt h_7)) rfl) rfl rfl ?_
          refine X.cnil ?_
          exact X.norm _ hg rfl (W.sub_cons rfl (W.sub_cons rfl (W.sub_cons rfl W.sub_nil)))
        · refine X.split (((decide (x1.From < 0)) || (decide (x3.To < x2.From)))) (fun h_8 => ?_) (fun h_8 => ?_)
          · refine X.drawc (by kernel_rfl) rfl ?_
            iterate 2 refine X.cop rfl rfl rfl rfl ?_
            refine X.cop rfl (X.indexF (f := e_api_Shift) h_3 (fun _ => rfl) rfl rfl rfl rfl) rfl rfl ?_
            refine X.cop rfl rfl rfl rfl ?_
            refine X.cop rfl (X.loadF h_3 rfl rfl rfl) rfl rfl ?_
            iterate 2 refine X.cop rfl rfl rfl rfl ?_
            iterate 2 refine X.cop (X.on_f rfl rfl rfl h_7) rfl rfl rfl ?_
            refine X.cop (X.on_f rfl rfl rfl h_7) (X.indexF (f := e_api_Shift) (h_4 (X.nt h_7)) (fun _ => rfl) rfl rfl rfl rfl) rfl rfl ?_
            refine X.cop (X.on_f rfl rfl rfl h_7) rfl rfl rfl ?_
            refine X.cop (X.on_f rfl rfl rfl h_7) (X.loadF (h_4 (X.nt h_7)) rfl rfl rfl) rfl rfl ?_
            iterate 2 refine X.cop (X.on_f rfl rfl rfl h_7) rfl rfl rfl ?_
            refine X.cop (X.on_f rfl rfl rfl h_7) (X.indexF (f := e_api_Shift) (h_5 (X.nt h_7)) (fun _ => rfl) rfl rfl rfl rfl) rfl rfl ?_
            refine X.cop (X.on_f rfl rfl rfl h_7) rfl rfl rfl ?_
            refine X.cop (X.on_f rfl rfl rfl h_7) (X.loadF (h_5 (X.nt h_7)) rfl rfl rfl) rfl rfl ?_
            refine X.cop (X.on_f rfl rfl rfl h_7) rfl rfl rfl ?_
            refine X.cop rfl (X.pickor_f (y := decide (x3.To < x2.From)) rfl h_7 rfl) rfl rfl ?_
            refine X.cop rfl rfl rfl rfl ?_
            iterate 6 refine X.coff (X.off_f rfl rfl rfl h_8) rfl rfl ?_
            refine X.cop rfl (X.pickor_t (y := decide (728 < x4.To)) rfl h_8 rfl) rfl rfl ?_
            refine X.cop rfl rfl rfl rfl ?_
            iterate 2 refine X.coff (X.off_f rfl rfl rfl (X.or_tt h_8)) rfl rfl ?_
            refine X.cop rfl (X.pickor_t (y := !(ref02_within x.Add (-4000) 4000)) rfl (X.or_tt h_8) rfl) rfl rfl ?_
            refine X.cnil ?_
            exact X.norm _ hg rfl (W.sub_cons rfl (W.sub_cons rfl (W.sub_cons rfl W.sub_nil)))
          · refine X.split ((((decide (x1.From < 0)) || (decide (x3.To < x2.From))) || (decide (728 < x4.To)))) (fun h_9 => ?_) (fun h_9 => ?_)
            · refine X.drawc (by kernel_rfl) rfl ?_
              iterate 2 refine X.cop rfl rfl rfl rfl ?_
              refine X.cop rfl (X.indexF (f := e_api_Shift) h_3 (fun _ => rfl) rfl rfl rfl rfl) rfl rfl ?_
              refine X.cop rfl rfl rfl rfl ?_
              refine X.cop rfl (X.loadF h_3 rfl rfl rfl) rfl rfl ?_
              iterate 2 refine X.cop rfl rfl rfl rfl ?_
              iterate 2 refine X.cop (X.on_f rfl rfl rfl h_7) rfl rfl rfl ?_
              refine X.cop (X.on_f rfl rfl rfl h_7) (X.indexF (f := e_api_Shift) (h_4 (X.nt h_7)) (fun _ => rfl) rfl rfl rfl rfl) rfl rfl ?_
              refine X.cop (X.on_f rfl rfl rfl h_7) rfl rfl rfl ?_
              refine X.cop (X.on_f rfl rfl rfl h_7) (X.loadF (h_4 (X.nt h_7)) rfl rfl rfl) rfl rfl ?_
              iterate 2 refine X.cop (X.on_f rfl rfl rfl h_7) rfl rfl rfl ?_
              refine X.cop (X.on_f rfl rfl rfl h_7) (X.indexF (f := e_api_Shift) (h_5 (X.nt h_7)) (fun _ => rfl) rfl rfl rfl rfl) rfl rfl ?_
              refine X.cop (X.on_f rfl rfl rfl h_7) rfl rfl rfl ?_
              refine X.cop (X.on_f rfl rfl rfl h_7) (X.loadF (h_5 (X.nt h_7)) rfl rfl rfl) rfl rfl ?_
              refine X.cop (X.on_f rfl rfl rfl h_7) rfl rfl rfl ?_
              refine X.cop rfl (X.pickor_f (y := decide (x3.To < x2.From)) rfl h_7 rfl) rfl rfl ?_
              refine X.cop rfl rfl rfl rfl ?_
              iterate 2 refine X.cop (X.on_f rfl rfl rfl h_8) rfl rfl rfl ?_
              refine X.cop (X.on_f rfl rfl rfl h_8) (X.indexF (f := e_api_Shift) (h_6 (X.nt h_8)) (fun _ => rfl) rfl rfl rfl rfl) rfl rfl ?_
              refine X.cop (X.on_f rfl rfl rfl h_8) rfl rfl rfl ?_
              refine X.cop (X.on_f rfl rfl rfl h_8) (X.loadF (h_6 (X.nt h_8)) rfl rfl rfl) rfl rfl ?_
              refine X.cop (X.on_f rfl rfl rfl h_8) rfl rfl rfl ?_
              refine X.cop rfl (X.pickor_f (y := decide (728 < x4.To)) rfl h_8 rfl) rfl rfl ?_
              refine X.cop rfl rfl rfl rfl ?_
              iterate 2 refine X.coff (X.off_f rfl rfl rfl h_9) rfl rfl ?_
              refine X.cop rfl (X.pickor_t (y := !(ref02_within x.Add (-4000) 4000)) rfl h_9 rfl) rfl rfl ?_
              refine X.cnil ?_
              exact X.norm _ hg rfl (W.sub_cons rfl (W.sub_cons rfl (W.sub_cons rfl W.sub_nil)))
            · refine X.drawc (by kernel_rfl) rfl ?_
              iterate 2 refine X.cop rfl rfl rfl rfl ?_
              refine X.cop rfl (X.indexF (f := e_api_Shift) h_3 (fun _ => rfl) rfl rfl rfl rfl) rfl rfl ?_
              refine X.cop rfl rfl rfl rfl ?_
              refine X.cop rfl (X.loadF h_3 rfl rfl rfl) rfl rfl ?_
              iterate 2 refine X.cop rfl rfl rfl rfl ?_
              iterate 2 refine X.cop (X.on_f rfl rfl rfl h_7) rfl rfl rfl ?_
              refine X.cop (X.on_f rfl rfl rfl h_7) (X.indexF (f := e_api_Shift) (h_4 (X.nt h_7)) (fun _ => rfl) rfl rfl rfl rfl) rfl rfl ?_
              refine X.cop (X.on_f rfl rfl rfl h_7) rfl rfl rfl ?_
              refine X.cop (X.on_f rfl rfl rfl h_7) (X.loadF (h_4 (X.nt h_7)) rfl rfl rfl) rfl rfl ?_
              iterate 2 refine X.cop (X.on_f rfl rfl rfl h_7) rfl rfl rfl ?_
              refine X.cop (X.on_f rfl rfl rfl h_7) (X.indexF (f := e_api_Shift) (h_5 (X.nt h_7)) (fun _ => rfl) rfl rfl rfl rfl) rfl rfl ?_
              refine X.cop (X.on_f rfl rfl rfl h_7) rfl rfl rfl ?_
              refine X.cop (X.on_f rfl rfl rfl h_7) (X.loadF (h_5 (X.nt h_7)) rfl rfl rfl) rfl rfl ?_
              refine X.cop (X.on_f rfl rfl rfl h_7) rfl rfl rfl ?_
              refine X.cop rfl (X.pickor_f (y := decide (x3.To < x2.From)) rfl h_7 rfl) rfl rfl ?_
              refine X.cop rfl rfl rfl rfl ?_
              iterate 2 refine X.cop (X.on_f rfl rfl rfl h_8) rfl rfl rfl ?_
              refine X.cop (X.on_f rfl rfl rfl h_8) (X.indexF (f := e_api_Shift) (h_6 (X.nt h_8)) (fun _ => rfl) rfl rfl rfl rfl) rfl rfl ?_
              refine X.cop (X.on_f rfl rfl rfl h_8) rfl rfl rfl ?_
              refine X.cop (X.on_f rfl rfl rfl h_8) (X.loadF (h_6 (X.nt h_8)) rfl rfl rfl) rfl rfl ?_
              refine X.cop (X.on_f rfl rfl rfl h_8) rfl rfl rfl ?_
              refine X.cop rfl (X.pickor_f (y := decide (728 < x4.To)) rfl h_8 rfl) rfl rfl ?_
              refine X.cop rfl rfl rfl rfl ?_
              iterate 2 refine X.cop (X.on_f rfl rfl rfl h_9) rfl rfl rfl ?_
              refine X.cop rfl (X.pickor_f (y := !(ref02_within x.Add (-4000) 4000)) rfl h_9 rfl) rfl rfl ?_
              refine X.cnil ?_
              exact X.norm _ hg rfl (W.sub_cons rfl (W.sub_cons rfl (W.sub_cons rfl W.sub_nil)))
      refine X.cond rfl (fun h_10 => ?_) (fun h_10 => ?_)
      · replace hM := ite_t h_10 hM
        refine GS.seq ?_
        refine GS.region ?_
        refine X.opR rfl rfl rfl ?_
        refine GS.opsNil ?_
        have hE := Option.some.inj hM
        replace hE := hr_1 _ hE.symm
        subst hE
        exact GS.ret ⟨_, rfl, ⟨30, rfl⟩⟩
      · replace hM := ite_f h_10 hM
        refine GS.skip ?_
        refine GS.seq ?_
        obtain ⟨x5, h_11, hM⟩ := gb_of hM
        obtain ⟨x6, h_12, hM⟩ := gb_of hM
        refine X.mid [(0, (V.sl (List.map e_api_Shift l))), (3, (V.i i)), (64, (V.b ((decide (0 < i)) && (decide (x5.From ≤ x6.To)))))] ?_ ?_
        · intro hg
          refine X.split (decide (0 < i)) (fun h_13 => ?_) (fun h_13 => ?_)
          · refine X.drawc (by kernel_rfl) rfl ?_
            iterate 3 refine X.cop rfl rfl rfl rfl ?_
            iterate 2 refine X.cop (X.on_t rfl rfl rfl h_13) rfl rfl rfl ?_
            refine X.cop (X.on_t rfl rfl rfl h_13) (X.indexF (f := e_api_Shift) (h_11 h_13) (fun _ => rfl) rfl rfl rfl rfl) rfl rfl ?_
            refine X.cop (X.on_t rfl rfl rfl h_13) rfl rfl rfl ?_
            refine X.cop (X.on_t rfl rfl rfl h_13) (X.loadF (h_11 h_13) rfl rfl rfl) rfl rfl ?_
            iterate 2 refine X.cop (X.on_t rfl rfl rfl h_13) rfl rfl rfl ?_
            refine X.cop (X.on_t rfl rfl rfl h_13) (X.subE rfl rfl) rfl rfl ?_
            refine X.cop (X.on_t rfl rfl rfl h_13) (X.maxE rfl rfl) rfl rfl ?_
            refine X.cop (X.on_t rfl rfl rfl h_13) (X.indexF (f := e_api_Shift) (h_12 h_13) (fun _ => rfl) rfl rfl rfl rfl) rfl rfl ?_
            refine X.cop (X.on_t rfl rfl rfl h_13) rfl rfl rfl ?_
            refine X.cop (X.on_t rfl rfl rfl h_13) (X.loadF (h_12 h_13) rfl rfl rfl) rfl rfl ?_
            refine X.cop (X.on_t rfl rfl rfl h_13) rfl rfl rfl ?_
            refine X.cop rfl (X.pickand_t (y := decide (x5.From ≤ x6.To)) rfl h_13 rfl) rfl rfl ?_
            refine X.cnil ?_
            exact X.norm _ hg rfl (W.sub_cons rfl (W.sub_cons rfl (W.sub_cons rfl W.sub_nil)))
          · refine X.drawc (by kernel_rfl) rfl ?_
            iterate 3 refine X.cop rfl rfl rfl rfl ?_
            iterate 13 refine X.coff (X.off_t rfl rfl rfl h_13) rfl rfl ?_
            refine X.cop rfl (X.pickand_f (y := decide (x5.From ≤ x6.To)) rfl h_13 rfl) rfl rfl ?_
            refine X.cnil ?_
            exact X.norm _ hg rfl (W.sub_cons rfl (W.sub_cons rfl (W.sub_cons rfl W.sub_nil)))
        refine X.cond rfl (fun h_14 => ?_) (fun h_14 => ?_)
        · replace hM := ite_t h_14 hM
          refine GS.seq ?_
          refine GS.region ?_
          refine X.opR rfl rfl rfl ?_
          refine GS.opsNil ?_
          have hE := Option.some.inj hM
          replace hE := hr_1 _ hE.symm
          subst hE
          exact GS.ret ⟨_, rfl, ⟨30, rfl⟩⟩
        · replace hM := ite_f h_14 hM
          refine GS.skip ?_
          refine GS.endB ?_
          refine GS.region ?_
          refine X.opR rfl rfl rfl ?_
          refine X.opR rfl (X.addE rfl rfl) rfl ?_
          refine X.opR rfl rfl rfl ?_
          refine GS.opsNil ?_
          have hE := Option.some.inj hM
          exact X.gc [] (hc_2 (w64 (i + 1)) hE.symm) rfl rfl rfl (gk_cons rfl ⟨9, rfl⟩ (gk_cons rfl ⟨9, rfl⟩ gk_nil)) (gb_nil)
    · replace hM := ite_f h_1 hM
      refine GS.exit rfl ?_
      obtain ⟨y_1, hM, hy⟩ := map_of hM
      rw [hr_1 _ hy.symm] at hM
      exact X.gc [] (hj_1 () hM) rfl rfl rfl (gk_nil) (gb_nil)

set_option maxHeartbeats 4000000 in
theorem ok_ref02_Check {w : api_Water} {r : Int} (hM : ref02_Check w = some r) : Ct Tryz.prog 73 [(e_api_Water w)] (V.i r) := by
  refine ct_of_gs CC_ok rfl ?_
  unfold ref02_Check at hM
  refine GS.seq ?_
  refine GS.region ?_
  refine X.opW rfl rfl rfl rfl ?_
  refine X.opR rfl rfl rfl ?_
  refine GS.opsNil ?_
  refine GS.seq ?_
  refine GS.region ?_
  iterate 2 refine X.opR rfl rfl rfl ?_
  refine X.call (ok_ref02_within w.Level (-4000) 4000) rfl rfl rfl (.cons (.shut (n := 9) rfl) (.cons (.shut (n := 9) rfl) (.cons (.shut (n := 9) rfl) .nil))) ?_
  refine X.opR rfl rfl rfl ?_
  refine GS.opsNil ?_
  iterate 2 refine GS.seq ?_
  refine GS.region ?_
  iterate 2 refine X.opR rfl rfl rfl ?_
  refine GS.opsNil ?_
  refine X.cond rfl (fun h_1 => ?_) (fun h_1 => ?_)
  · replace hM := ite_t h_1 hM
    refine GS.seq ?_
    refine GS.region ?_
    refine X.opR rfl rfl rfl ?_
    refine GS.opsNil ?_
    have hE := Option.some.inj hM
    subst hE
    exact GS.ret ⟨_, rfl, ⟨30, rfl⟩⟩
  · replace hM := ite_f h_1 hM
    refine GS.skip ?_
    iterate 2 refine GS.seq ?_
    refine GS.region ?_
    refine X.mid [(1, (V.ptr 0 0 0)), (21, (V.b ((decide (6 < (w.Cycles.length : Int))) || (decide (20 < (w.Shifts.length : Int))))))] ?_ ?_
    · intro hg
      refine X.split (decide (6 < (w.Cycles.length : Int))) (fun h_2 => ?_) (fun h_2 => ?_)
      · iterate 2 refine X.opR rfl rfl rfl ?_
        refine X.opR rfl (X.lenF rfl rfl rfl) rfl ?_
        iterate 2 refine X.opR rfl rfl rfl ?_
        iterate 4 refine X.off (X.off_f rfl rfl rfl h_2) rfl ?_
        refine X.opR rfl (X.pickor_t (y := decide (20 < (w.Shifts.length : Int))) rfl h_2 rfl) rfl ?_
        refine GS.opsNil ?_
        exact X.norm _ hg rfl (W.sub_cons rfl (W.sub_cons rfl W.sub_nil))
      · iterate 2 refine X.opR rfl rfl rfl ?_
        refine X.opR rfl (X.lenF rfl rfl rfl) rfl ?_
        iterate 2 refine X.opR rfl rfl rfl ?_
        iterate 2 refine X.opR (X.on_f rfl rfl rfl h_2) rfl rfl ?_
        refine X.opR (X.on_f rfl rfl rfl h_2) (X.lenF rfl rfl rfl) rfl ?_
        refine X.opR (X.on_f rfl rfl rfl h_2) rfl rfl ?_
        refine X.opR rfl (X.pickor_f (y := decide (20 < (w.Shifts.length : Int))) rfl h_2 rfl) rfl ?_
        refine GS.opsNil ?_
        exact X.norm _ hg rfl (W.sub_cons rfl (W.sub_cons rfl W.sub_nil))
    refine X.cond rfl (fun h_3 => ?_) (fun h_3 => ?_)
    · replace hM := ite_t h_3 hM
      refine GS.seq ?_
      refine GS.region ?_
      refine X.opR rfl rfl rfl ?_
      refine GS.opsNil ?_
      have hE := Option.some.inj hM
      subst hE
      exact GS.ret ⟨_, rfl, ⟨30, rfl⟩⟩
    · replace hM := ite_f h_3 hM
      refine GS.skip ?_
      iterate 2 refine GS.seq ?_
      refine GS.region ?_
      refine X.opR rfl rfl rfl ?_
      refine GS.opsNil ?_
      refine X.join (τ := Unit) (fun v => ref02_Check_j1 w = some r) (fun v => ⟨[(1, (V.ptr 0 0 0))], [.rows 3 [(e_api_Water w)]], 0, none, 58⟩) ?_ ?_
      · intro _ hM
        replace hM : ref02_Check_j1 w = some r := hM
        unfold ref02_Check_j1 at hM
        refine GS.seq ?_
        obtain ⟨y, h_4, hM⟩ := bind_of hM
        refine GS.region ?_
        iterate 2 refine X.opR rfl rfl rfl ?_
        refine X.call (ok_ref02_shifted h_4) rfl rfl rfl (.cons (.shut (n := 9) rfl) .nil) ?_
        refine X.opR rfl rfl rfl ?_
        refine GS.opsNil ?_
        have hE := Option.some.inj hM
        subst hE
        exact GS.ret ⟨_, rfl, ⟨30, rfl⟩⟩
      · intro hj_1
        refine GS.block ?_
        refine X.gc [some 0] (X.loop (σ := Int) (fun v => ⟨[(1, (V.ptr 0 0 0)), (4, (V.i v))], [.rows 3 [(e_api_Water w)]], 0, none, 58⟩) hM ?_ rfl) rfl rfl rfl (gk_cons rfl ⟨9, rfl⟩ (gk_cons rfl ⟨9, rfl⟩ gk_nil)) (gb_box rfl rfl ⟨9, rfl⟩ gb_nil)
        intro i b_1 hM hc_2 hr_1
        rw [ref02_Check_b2] at hM
        iterate 2 refine GS.seq ?_
        refine GS.region ?_
        iterate 3 refine X.opR rfl rfl rfl ?_
        refine X.opR rfl (X.lenF rfl rfl rfl) rfl ?_
        refine X.opR rfl rfl rfl ?_
        refine GS.opsNil ?_
        refine X.cond rfl (fun h_5 => ?_) (fun h_5 => ?_)
        · replace hM := ite_t h_5 hM
          refine GS.skip ?_
          refine GS.seq ?_
          refine GS.block ?_
          refine GS.seq ?_
          obtain ⟨x, h_6, hM⟩ := bind_of hM
          obtain ⟨y1, h_7, hM⟩ := bind_of hM
          refine GS.region ?_
          iterate 3 refine X.opR rfl rfl rfl ?_
          refine X.opR rfl (X.indexF (f := e_api_Cycle) h_6 (fun _ => rfl) rfl rfl rfl rfl) rfl ?_
          refine X.opR rfl (X.loadF h_6 rfl rfl rfl) rfl ?_
          refine X.call (ok_ref02_Right h_7) rfl rfl rfl (.cons (.shut (n := 9) rfl) .nil) ?_
          refine X.opR rfl rfl rfl ?_
          refine GS.opsNil ?_
          iterate 2 refine GS.seq ?_
          refine GS.region ?_
          iterate 2 refine X.opR rfl rfl rfl ?_
          refine GS.opsNil ?_
          refine X.cond rfl (fun h_8 => ?_) (fun h_8 => ?_)
          · replace hM := ite_t h_8 hM
            refine GS.seq ?_
            refine GS.region ?_
            refine X.opR rfl rfl rfl ?_
            refine GS.opsNil ?_
            have hE := Option.some.inj hM
            replace hE := hr_1 _ hE.symm
            subst hE
            exact GS.ret ⟨_, rfl, ⟨30, rfl⟩⟩
          · replace hM := ite_f h_8 hM
            refine GS.skip ?_
            refine GS.seq ?_
            refine GS.region ?_
            refine X.opR rfl rfl rfl ?_
            refine GS.opsNil ?_
            refine X.join (τ := Unit) (fun v => ref02_Check_j3 i = some b_1) (fun v => ⟨[(1, (V.ptr 0 0 0)), (4, (V.i i))], [.rows 3 [(e_api_Water w)]], 0, none, 58⟩) ?_ ?_
            · intro _ hM
              replace hM : ref02_Check_j3 i = some b_1 := hM
              unfold ref02_Check_j3 at hM
              refine GS.endB ?_
              refine GS.region ?_
              refine X.opR rfl rfl rfl ?_
              refine X.opR rfl (X.addE rfl rfl) rfl ?_
              refine X.opR rfl rfl rfl ?_
              refine GS.opsNil ?_
              have hE := Option.some.inj hM
              exact X.gc [some 0] (hc_2 (w64 (i + 1)) hE.symm) rfl rfl rfl (gk_cons rfl ⟨9, rfl⟩ (gk_cons rfl ⟨9, rfl⟩ gk_nil)) (gb_box rfl rfl ⟨9, rfl⟩ gb_nil)
            · intro hj_3
              refine GS.block ?_
              refine X.gc [some 0] (X.loop (σ := Int) (fun v => ⟨[(1, (V.ptr 0 0 0)), (4, (V.i i)), (6, (V.i v))], [.rows 3 [(e_api_Water w)]], 0, none, 58⟩) hM ?_ rfl) rfl rfl rfl (gk_cons rfl ⟨9, rfl⟩ (gk_cons rfl ⟨9, rfl⟩ (gk_cons rfl ⟨9, rfl⟩ gk_nil))) (gb_box rfl rfl ⟨9, rfl⟩ gb_nil)
              intro k b_2 hM hc_4 hr_2
              rw [ref02_Check_b4] at hM
              iterate 2 refine GS.seq ?_
              refine GS.region ?_
              iterate 3 refine X.opR rfl rfl rfl ?_
              refine GS.opsNil ?_
              refine X.cond rfl (fun h_9 => ?_) (fun h_9 => ?_)
              · replace hM := ite_t h_9 hM
                refine GS.skip ?_
                refine GS.seq ?_
                refine GS.block ?_
                refine GS.seq ?_
                obtain ⟨x1, h_10, hM⟩ := bind_of hM
                obtain ⟨x2, h_11, hM⟩ := bind_of hM
                refine X.drawc (by kernel_rfl) rfl ?_
                iterate 3 refine X.cop rfl rfl rfl rfl ?_
                refine X.cop rfl (X.indexF (f := e_api_Cycle) h_10 (fun _ => rfl) rfl rfl rfl rfl) rfl rfl ?_
                refine X.cop rfl rfl rfl rfl ?_
                refine X.cop rfl (X.loadF h_10 rfl rfl rfl) rfl rfl ?_
                iterate 3 refine X.cop rfl rfl rfl rfl ?_
                refine X.cop rfl (X.indexF (f := e_api_Cycle) h_11 (fun _ => rfl) rfl rfl rfl rfl) rfl rfl ?_
                refine X.cop rfl rfl rfl rfl ?_
                refine X.cop rfl (X.loadF h_11 rfl rfl rfl) rfl rfl ?_
                refine X.cop rfl rfl rfl rfl ?_
                refine X.cnil ?_
                refine X.norm [(1, (V.ptr 0 0 0)), (4, (V.i i)), (6, (V.i k)), (54, (V.b (decide (x1.ID = x2.ID))))] ?_ rfl (W.sub_cons rfl (W.sub_cons rfl (W.sub_cons rfl (W.sub_cons rfl W.sub_nil))))
                refine X.cond rfl (fun h_12 => ?_) (fun h_12 => ?_)
                · replace hM := ite_t h_12 hM
                  refine GS.seq ?_
                  refine GS.region ?_
                  refine X.opR rfl rfl rfl ?_
                  refine GS.opsNil ?_
                  have hE := Option.some.inj hM
                  replace hE := hr_2 _ hE.symm
                  replace hE := hr_1 _ hE.symm
                  subst hE
                  exact GS.ret ⟨_, rfl, ⟨30, rfl⟩⟩
                · replace hM := ite_f h_12 hM
                  refine GS.skip ?_
                  refine GS.endB ?_
                  refine GS.region ?_
                  refine X.opR rfl rfl rfl ?_
                  refine X.opR rfl (X.addE rfl rfl) rfl ?_
                  refine X.opR rfl rfl rfl ?_
                  refine GS.opsNil ?_
                  have hE := Option.some.inj hM
                  exact X.gc [some 0] (hc_4 (w64 (k + 1)) hE.symm) rfl rfl rfl (gk_cons rfl ⟨9, rfl⟩ (gk_cons rfl ⟨9, rfl⟩ (gk_cons rfl ⟨9, rfl⟩ gk_nil))) (gb_box rfl rfl ⟨9, rfl⟩ gb_nil)
              · replace hM := ite_f h_9 hM
                refine GS.exit rfl ?_
                obtain ⟨y_2, hM, hy⟩ := map_of hM
                rw [hr_2 _ hy.symm] at hM
                exact X.gc [some 0] (hj_3 () hM) rfl rfl rfl (gk_cons rfl ⟨9, rfl⟩ (gk_cons rfl ⟨9, rfl⟩ gk_nil)) (gb_box rfl rfl ⟨9, rfl⟩ gb_nil)
        · replace hM := ite_f h_5 hM
          refine GS.exit rfl ?_
          obtain ⟨y_1, hM, hy⟩ := map_of hM
          rw [hr_1 _ hy.symm] at hM
          exact X.gc [some 0] (hj_1 () hM) rfl rfl rfl (gk_cons rfl ⟨9, rfl⟩ gk_nil) (gb_box rfl rfl ⟨9, rfl⟩ gb_nil)

set_option maxHeartbeats 4000000 in
theorem ok_ref02_Gauged {w : api_Water} {l : (List api_Gauge)} {r : Int} (hM : ref02_Gauged w l = some r) : Ct Tryz.prog 40 [(e_api_Water w), (V.sl (List.map e_api_Gauge l))] (V.i r) := by
  refine ct_of_gs CC_ok rfl ?_
  unfold ref02_Gauged at hM
  refine GS.seq ?_
  refine GS.region ?_
  refine X.opW rfl rfl rfl rfl ?_
  refine X.opR rfl rfl rfl ?_
  refine GS.opsNil ?_
  refine GS.seq ?_
  obtain ⟨y, h_1, hM⟩ := bind_of hM
  refine GS.region ?_
  refine X.opR rfl rfl rfl ?_
  refine X.call (ok_ref02_Check h_1) rfl rfl rfl (.cons (.shut (n := 9) rfl) .nil) ?_
  refine X.opR rfl rfl rfl ?_
  refine GS.opsNil ?_
  iterate 2 refine GS.seq ?_
  refine GS.region ?_
  iterate 2 refine X.opR rfl rfl rfl ?_
  refine GS.opsNil ?_
  refine X.cond rfl (fun h_2 => ?_) (fun h_2 => ?_)
  · replace hM := ite_t h_2 hM
    refine GS.seq ?_
    refine GS.region ?_
    iterate 2 refine X.opR rfl rfl rfl ?_
    refine GS.opsNil ?_
    have hE := Option.some.inj hM
    subst hE
    exact GS.ret ⟨_, rfl, ⟨30, rfl⟩⟩
  · replace hM := ite_f h_2 hM
    refine GS.skip ?_
    iterate 2 refine GS.seq ?_
    refine GS.region ?_
    refine X.opR rfl rfl rfl ?_
    refine X.opR rfl (X.lenF rfl rfl rfl) rfl ?_
    refine X.opR rfl rfl rfl ?_
    refine GS.opsNil ?_
    refine X.cond rfl (fun h_3 => ?_) (fun h_3 => ?_)
    · replace hM := ite_t h_3 hM
      refine GS.seq ?_
      refine GS.region ?_
      refine X.opR rfl rfl rfl ?_
      refine GS.opsNil ?_
      have hE := Option.some.inj hM
      subst hE
      exact GS.ret ⟨_, rfl, ⟨30, rfl⟩⟩
    · replace hM := ite_f h_3 hM
      refine GS.skip ?_
      iterate 2 refine GS.seq ?_
      refine GS.region ?_
      refine X.opR rfl rfl rfl ?_
      refine GS.opsNil ?_
      refine X.join (τ := Unit) (fun v => ref02_Gauged_j1 = some r) (fun v => ⟨[], [], 0, none, 91⟩) ?_ ?_
      · intro _ hM
        replace hM : ref02_Gauged_j1 = some r := hM
        unfold ref02_Gauged_j1 at hM
        refine GS.seq ?_
        refine GS.region ?_
        refine X.opR rfl rfl rfl ?_
        refine GS.opsNil ?_
        have hE := Option.some.inj hM
        subst hE
        exact GS.ret ⟨_, rfl, ⟨30, rfl⟩⟩
      · intro hj_1
        refine GS.block ?_
        refine X.gc [] (X.loop (σ := Int) (fun v => ⟨[(1, (V.sl (List.map e_api_Gauge l))), (6, (V.i v))], [], 0, none, 91⟩) hM ?_ rfl) rfl rfl rfl (gk_cons rfl ⟨9, rfl⟩ (gk_cons rfl ⟨9, rfl⟩ gk_nil)) (gb_nil)
        intro i b_1 hM hc_2 hr_1
        rw [ref02_Gauged_b2] at hM
        iterate 2 refine GS.seq ?_
        refine GS.region ?_
        iterate 2 refine X.opR rfl rfl rfl ?_
        refine X.opR rfl (X.lenF rfl rfl rfl) rfl ?_
        refine X.opR rfl rfl rfl ?_
        refine GS.opsNil ?_
        refine X.cond rfl (fun h_4 => ?_) (fun h_4 => ?_)
        · replace hM := ite_t h_4 hM
          refine GS.skip ?_
          refine GS.seq ?_
          refine GS.block ?_
          refine GS.seq ?_
          obtain ⟨x, h_5, hM⟩ := bind_of hM
          refine GS.region ?_
          iterate 2 refine X.opR rfl rfl rfl ?_
          refine X.opR rfl (X.indexF (f := e_api_Gauge) h_5 (fun _ => rfl) rfl rfl rfl rfl) rfl ?_
          refine X.opR rfl rfl rfl ?_
          refine X.opR rfl (X.loadF h_5 rfl rfl rfl) rfl ?_
          refine X.call (ok_ref02_within x.ID 1 1099511627776) rfl rfl rfl (.cons (.shut (n := 9) rfl) (.cons (.shut (n := 9) rfl) (.cons (.shut (n := 9) rfl) .nil))) ?_
          refine X.opR rfl rfl rfl ?_
          refine GS.opsNil ?_
          refine GS.seq ?_
          obtain ⟨x1, h_6, hM⟩ := bind_of hM
          refine GS.region ?_
          iterate 2 refine X.opR rfl rfl rfl ?_
          refine X.opR rfl (X.indexF (f := e_api_Gauge) h_6 (fun _ => rfl) rfl rfl rfl rfl) rfl ?_
          refine X.opR rfl rfl rfl ?_
          refine X.opR rfl (X.loadF h_6 rfl rfl rfl) rfl ?_
          refine X.call (ok_ref02_within x1.Tick 0 1048576) rfl rfl rfl (.cons (.shut (n := 9) rfl) (.cons (.shut (n := 9) rfl) (.cons (.shut (n := 9) rfl) .nil))) ?_
          refine X.opR rfl rfl rfl ?_
          refine GS.opsNil ?_
          iterate 2 refine GS.seq ?_
          obtain ⟨x2, h_7, hM⟩ := gb_of hM
          obtain ⟨x3, h_8, hM⟩ := gb_of hM
          obtain ⟨x4, h_9, hM⟩ := gb_of hM
          obtain ⟨x5, h_10, hM⟩ := gb_of hM
          refine X.mid [(1, (V.sl (List.map e_api_Gauge l))), (6, (V.i i)), (74, (V.b (((((!(ref02_within x.ID 1 1099511627776)) || (!(ref02_within x1.Tick 0 1048576))) || (decide (x2.Read.Lo < (-40000)))) || (decide (x4.Read.Hi < x3.Read.Lo))) || (decide (40000 < x5.Read.Hi)))))] ?_ ?_
          · intro hg
            refine X.split (!(ref02_within x.ID 1 1099511627776)) (fun h_11 => ?_) (fun h_11 => ?_)
            · refine X.drawc (by kernel_rfl) rfl ?_
              iterate 3 refine X.cop rfl rfl rfl rfl ?_
              iterate 2 refine X.coff (X.off_f rfl rfl rfl h_11) rfl rfl ?_
              refine X.cop rfl (X.pickor_t (y := !(ref02_within x1.Tick 0 1048576)) rfl h_11 rfl) rfl rfl ?_
              refine X.cop rfl rfl rfl rfl ?_
              iterate 7 refine X.coff (X.off_f rfl rfl rfl (X.or_tt h_11)) rfl rfl ?_
              refine X.cop rfl (X.pickor_t (y := decide (x2.Read.Lo < (-40000))) rfl (X.or_tt h_11) rfl) rfl rfl ?_
              refine X.cop rfl rfl rfl rfl ?_
              iterate 13 refine X.coff (X.off_f rfl rfl rfl (X.or_tt (X.or_tt h_11))) rfl rfl ?_
              refine X.cop rfl (X.pickor_t (y := decide (x4.Read.Hi < x3.Read.Lo)) rfl (X.or_tt (X.or_tt h_11)) rfl) rfl rfl ?_
              refine X.cop rfl rfl rfl rfl ?_
              iterate 7 refine X.coff (X.off_f rfl rfl rfl (X.or_tt (X.or_tt (X.or_tt h_11)))) rfl rfl ?_
              refine X.cop rfl (X.pickor_t (y := decide (40000 < x5.Read.Hi)) rfl (X.or_tt (X.or_tt (X.or_tt h_11))) rfl) rfl rfl ?_
              refine X.cnil ?_
              exact X.norm _ hg rfl (W.sub_cons rfl (W.sub_cons rfl (W.sub_cons rfl W.sub_nil)))
            · refine X.split (((!(ref02_within x.ID 1 1099511627776)) || (!(ref02_within x1.Tick 0 1048576)))) (fun h_12 => ?_) (fun h_12 => ?_)
              · refine X.drawc (by kernel_rfl) rfl ?_
                iterate 3 refine X.cop rfl rfl rfl rfl ?_
                iterate 2 refine X.cop (X.on_f rfl rfl rfl h_11) rfl rfl rfl ?_
                refine X.cop rfl (X.pickor_f (y := !(ref02_within x1.Tick 0 1048576)) rfl h_11 rfl) rfl rfl ?_
                refine X.cop rfl rfl rfl rfl ?_
                iterate 7 refine X.coff (X.off_f rfl rfl rfl h_12) rfl rfl ?_
                refine X.cop rfl (X.pickor_t (y := decide (x2.Read.Lo < (-40000))) rfl h_12 rfl) rfl rfl ?_
                refine X.cop rfl rfl rfl rfl ?_
                iterate 13 refine X.coff (X.off_f rfl rfl rfl (X.or_tt h_12)) rfl rfl ?_
                refine X.cop rfl (X.pickor_t (y := decide (x4.Read.Hi < x3.Read.Lo)) rfl (X.or_tt h_12) rfl) rfl rfl ?_
                refine X.cop rfl rfl rfl rfl ?_
                iterate 7 refine X.coff (X.off_f rfl rfl rfl (X.or_tt (X.or_tt h_12))) rfl rfl ?_
                refine X.cop rfl (X.pickor_t (y := decide (40000 < x5.Read.Hi)) rfl (X.or_tt (X.or_tt h_12)) rfl) rfl rfl ?_
                refine X.cnil ?_
                exact X.norm _ hg rfl (W.sub_cons rfl (W.sub_cons rfl (W.sub_cons rfl W.sub_nil)))
              · refine X.split ((((!(ref02_within x.ID 1 1099511627776)) || (!(ref02_within x1.Tick 0 1048576))) || (decide (x2.Read.Lo < (-40000))))) (fun h_13 => ?_) (fun h_13 => ?_)
                · refine X.drawc (by kernel_rfl) rfl ?_
                  iterate 3 refine X.cop rfl rfl rfl rfl ?_
                  iterate 2 refine X.cop (X.on_f rfl rfl rfl h_11) rfl rfl rfl ?_
                  refine X.cop rfl (X.pickor_f (y := !(ref02_within x1.Tick 0 1048576)) rfl h_11 rfl) rfl rfl ?_
                  refine X.cop rfl rfl rfl rfl ?_
                  iterate 2 refine X.cop (X.on_f rfl rfl rfl h_12) rfl rfl rfl ?_
                  refine X.cop (X.on_f rfl rfl rfl h_12) (X.indexF (f := e_api_Gauge) (h_7 (X.nt h_12)) (fun _ => rfl) rfl rfl rfl rfl) rfl rfl ?_
                  iterate 2 refine X.cop (X.on_f rfl rfl rfl h_12) rfl rfl rfl ?_
                  refine X.cop (X.on_f rfl rfl rfl h_12) (X.loadF (h_7 (X.nt h_12)) rfl rfl rfl) rfl rfl ?_
                  refine X.cop (X.on_f rfl rfl rfl h_12) rfl rfl rfl ?_
                  refine X.cop rfl (X.pickor_f (y := decide (x2.Read.Lo < (-40000))) rfl h_12 rfl) rfl rfl ?_
                  refine X.cop rfl rfl rfl rfl ?_
                  iterate 13 refine X.coff (X.off_f rfl rfl rfl h_13) rfl rfl ?_
                  refine X.cop rfl (X.pickor_t (y := decide (x4.Read.Hi < x3.Read.Lo)) rfl h_13 rfl) rfl rfl ?_
                  refine X.cop rfl rfl rfl rfl ?_
                  iterate 7 refine X.coff (X.off_f rfl rfl rfl (X.or_tt h_13)) rfl rfl ?_
                  refine X.cop rfl (X.pickor_t (y := decide (40000 < x5.Read.Hi)) rfl (X.or_tt h_13) rfl) rfl rfl ?_
                  refine X.cnil ?_
                  exact X.norm _ hg rfl (W.sub_cons rfl (W.sub_cons rfl (W.sub_cons rfl W.sub_nil)))
                · refine X.split (((((!(ref02_within x.ID 1 1099511627776)) || (!(ref02_within x1.Tick 0 1048576))) || (decide (x2.Read.Lo < (-40000)))) || (decide (x4.Read.Hi < x3.Read.Lo)))) (fun h_14 => ?_) (fun h_14 => ?_)
                  · refine X.drawc (by kernel_rfl) rfl ?_
                    iterate 3 refine X.cop rfl rfl rfl rfl ?_
                    iterate 2 refine X.cop (X.on_f rfl rfl rfl h_11) rfl rfl rfl ?_
                    refine X.cop rfl (X.pickor_f (y := !(ref02_within x1.Tick 0 1048576)) rfl h_11 rfl) rfl rfl ?_
                    refine X.cop rfl rfl rfl rfl ?_
                    iterate 2 refine X.cop (X.on_f rfl rfl rfl h_12) rfl rfl rfl ?_
                    refine X.cop (X.on_f rfl rfl rfl h_12) (X.indexF (f := e_api_Gauge) (h_7 (X.nt h_12)) (fun _ => rfl) rfl rfl rfl rfl) rfl rfl ?_
                    iterate 2 refine X.cop (X.on_f rfl rfl rfl h_12) rfl rfl rfl ?_
                    refine X.cop (X.on_f rfl rfl rfl h_12) (X.loadF (h_7 (X.nt h_12)) rfl rfl rfl) rfl rfl ?_
                    refine X.cop (X.on_f rfl rfl rfl h_12) rfl rfl rfl ?_
                    refine X.cop rfl (X.pickor_f (y := decide (x2.Read.Lo < (-40000))) rfl h_12 rfl) rfl rfl ?_
                    refine X.cop rfl rfl rfl rfl ?_
                    iterate 2 refine X.cop (X.on_f rfl rfl rfl h_13) rfl rfl rfl ?_
                    refine X.cop (X.on_f rfl rfl rfl h_13) (X.indexF (f := e_api_Gauge) (h_8 (X.nt h_13)) (fun _ => rfl) rfl rfl rfl rfl) rfl rfl ?_
                    iterate 2 refine X.cop (X.on_f rfl rfl rfl h_13) rfl rfl rfl ?_
                    refine X.cop (X.on_f rfl rfl rfl h_13) (X.loadF (h_8 (X.nt h_13)) rfl rfl rfl) rfl rfl ?_
                    iterate 2 refine X.cop (X.on_f rfl rfl rfl h_13) rfl rfl rfl ?_
                    refine X.cop (X.on_f rfl rfl rfl h_13) (X.indexF (f := e_api_Gauge) (h_9 (X.nt h_13)) (fun _ => rfl) rfl rfl rfl rfl) rfl rfl ?_
                    iterate 2 refine X.cop (X.on_f rfl rfl rfl h_13) rfl rfl rfl ?_
                    refine X.cop (X.on_f rfl rfl rfl h_13) (X.loadF (h_9 (X.nt h_13)) rfl rfl rfl) rfl rfl ?_
                    refine X.cop (X.on_f rfl rfl rfl h_13) rfl rfl rfl ?_
                    refine X.cop rfl (X.pickor_f (y := decide (x4.Read.Hi < x3.Read.Lo)) rfl h_13 rfl) rfl rfl ?_
                    refine X.cop rfl rfl rfl rfl ?_
                    iterate 7 refine X.coff (X.off_f rfl rfl rfl h_14) rfl rfl ?_
                    refine X.cop rfl (X.pickor_t (y := decide (40000 < x5.Read.Hi)) rfl h_14 rfl) rfl rfl ?_
                    refine X.cnil ?_
                    exact X.norm _ hg rfl (W.sub_cons rfl (W.sub_cons rfl (W.sub_cons rfl W.sub_nil)))
                  · refine X.drawc (by kernel_rfl) rfl ?_
                    iterate 3 refine X.cop rfl rfl rfl rfl ?_
                    iterate 2 refine X.cop (X.on_f rfl rfl rfl h_11) rfl rfl rfl ?_
                    refine X.cop rfl (X.pickor_f (y := !(ref02_within x1.Tick 0 1048576)) rfl h_11 rfl) rfl rfl ?_
                    refine X.cop rfl rfl rfl rfl ?_
                    iterate 2 refine X.cop (X.on_f rfl rfl rfl h_12) rfl rfl rfl ?_
                    refine X.cop (X.on_f rfl rfl rfl h_12) (X.indexF (f := e_api_Gauge) (h_7 (X.nt h_12)) (fun _ => rfl) rfl rfl rfl rfl) rfl rfl ?_
                    iterate 2 refine X.cop (X.on_f rfl rfl rfl h_12) rfl rfl rfl ?_
                    refine X.cop (X.on_f rfl rfl rfl h_12) (X.loadF (h_7 (X.nt h_12)) rfl rfl rfl) rfl rfl ?_
                    refine X.cop (X.on_f rfl rfl rfl h_12) rfl rfl rfl ?_
                    refine X.cop rfl (X.pickor_f (y := decide (x2.Read.Lo < (-40000))) rfl h_12 rfl) rfl rfl ?_
                    refine X.cop rfl rfl rfl rfl ?_
                    iterate 2 refine X.cop (X.on_f rfl rfl rfl h_13) rfl rfl rfl ?_
                    refine X.cop (X.on_f rfl rfl rfl h_13) (X.indexF (f := e_api_Gauge) (h_8 (X.nt h_13)) (fun _ => rfl) rfl rfl rfl rfl) rfl rfl ?_
                    iterate 2 refine X.cop (X.on_f rfl rfl rfl h_13) rfl rfl rfl ?_
                    refine X.cop (X.on_f rfl rfl rfl h_13) (X.loadF (h_8 (X.nt h_13)) rfl rfl rfl) rfl rfl ?_
                    iterate 2 refine X.cop (X.on_f rfl rfl rfl h_13) rfl rfl rfl ?_
                    refine X.cop (X.on_f rfl rfl rfl h_13) (X.indexF (f := e_api_Gauge) (h_9 (X.nt h_13)) (fun _ => rfl) rfl rfl rfl rfl) rfl rfl ?_
                    iterate 2 refine X.cop (X.on_f rfl rfl rfl h_13) rfl rfl rfl ?_
                    refine X.cop (X.on_f rfl rfl rfl h_13) (X.loadF (h_9 (X.nt h_13)) rfl rfl rfl) rfl rfl ?_
                    refine X.cop (X.on_f rfl rfl rfl h_13) rfl rfl rfl ?_
                    refine X.cop rfl (X.pickor_f (y := decide (x4.Read.Hi < x3.Read.Lo)) rfl h_13 rfl) rfl rfl ?_
                    refine X.cop rfl rfl rfl rfl ?_
                    iterate 2 refine X.cop (X.on_f rfl rfl rfl h_14) rfl rfl rfl ?_
                    refine X.cop (X.on_f rfl rfl rfl h_14) (X.indexF (f := e_api_Gauge) (h_10 (X.nt h_14)) (fun _ => rfl) rfl rfl rfl rfl) rfl rfl ?_
                    iterate 2 refine X.cop (X.on_f rfl rfl rfl h_14) rfl rfl rfl ?_
                    refine X.cop (X.on_f rfl rfl rfl h_14) (X.loadF (h_10 (X.nt h_14)) rfl rfl rfl) rfl rfl ?_
                    refine X.cop (X.on_f rfl rfl rfl h_14) rfl rfl rfl ?_
                    refine X.cop rfl (X.pickor_f (y := decide (40000 < x5.Read.Hi)) rfl h_14 rfl) rfl rfl ?_
                    refine X.cnil ?_
                    exact X.norm _ hg rfl (W.sub_cons rfl (W.sub_cons rfl (W.sub_cons rfl W.sub_nil)))
          refine X.cond rfl (fun h_15 => ?_) (fun h_15 => ?_)
          · replace hM := ite_t h_15 hM
            refine GS.seq ?_
            refine GS.region ?_
            refine X.opR rfl rfl rfl ?_
            refine GS.opsNil ?_
            have hE := Option.some.inj hM
            replace hE := hr_1 _ hE.symm
            subst hE
            exact GS.ret ⟨_, rfl, ⟨30, rfl⟩⟩
          · replace hM := ite_f h_15 hM
            refine GS.skip ?_
            refine GS.seq ?_
            refine GS.region ?_
            refine X.opR rfl rfl rfl ?_
            refine GS.opsNil ?_
            refine X.join (τ := Unit) (fun v => ref02_Gauged_j3 i = some b_1) (fun v => ⟨[(1, (V.sl (List.map e_api_Gauge l))), (6, (V.i i))], [], 0, none, 91⟩) ?_ ?_
            · intro _ hM
              replace hM : ref02_Gauged_j3 i = some b_1 := hM
              unfold ref02_Gauged_j3 at hM
              refine GS.endB ?_
              refine GS.region ?_
              refine X.opR rfl rfl rfl ?_
              refine X.opR rfl (X.addE rfl rfl) rfl ?_
              refine X.opR rfl rfl rfl ?_
              refine GS.opsNil ?_
              have hE := Option.some.inj hM
              exact X.gc [] (hc_2 (w64 (i + 1)) hE.symm) rfl rfl rfl (gk_cons rfl ⟨9, rfl⟩ (gk_cons rfl ⟨9, rfl⟩ gk_nil)) (gb_nil)
            · intro hj_3
              refine GS.block ?_
              refine X.gc [] (X.loop (σ := Int) (fun v => ⟨[(1, (V.sl (List.map e_api_Gauge l))), (6, (V.i i)), (9, (V.i v))], [], 0, none, 91⟩) hM ?_ rfl) rfl rfl rfl (gk_cons rfl ⟨9, rfl⟩ (gk_cons rfl ⟨9, rfl⟩ (gk_cons rfl ⟨9, rfl⟩ gk_nil))) (gb_nil)
              intro k b_2 hM hc_4 hr_2
              rw [ref02_Gauged_b4] at hM
              iterate 2 refine GS.seq ?_
              refine GS.region ?_
              iterate 3 refine X.opR rfl rfl rfl ?_
              refine GS.opsNil ?_
              refine X.cond rfl (fun h_16 => ?_) (fun h_16 => ?_)
              · replace hM := ite_t h_16 hM
                refine GS.skip ?_
                refine GS.seq ?_
                refine GS.block ?_
                refine GS.seq ?_
                obtain ⟨x6, h_17, hM⟩ := bind_of hM
                obtain ⟨x7, h_18, hM⟩ := bind_of hM
                refine X.drawc (by kernel_rfl) rfl ?_
                iterate 2 refine X.cop rfl rfl rfl rfl ?_
                refine X.cop rfl (X.indexF (f := e_api_Gauge) h_17 (fun _ => rfl) rfl rfl rfl rfl) rfl rfl ?_
                refine X.cop rfl rfl rfl rfl ?_
                refine X.cop rfl (X.loadF h_17 rfl rfl rfl) rfl rfl ?_
                iterate 2 refine X.cop rfl rfl rfl rfl ?_
                refine X.cop rfl (X.indexF (f := e_api_Gauge) h_18 (fun _ => rfl) rfl rfl rfl rfl) rfl rfl ?_
                refine X.cop rfl rfl rfl rfl ?_
                refine X.cop rfl (X.loadF h_18 rfl rfl rfl) rfl rfl ?_
                refine X.cop rfl rfl rfl rfl ?_
                refine X.cnil ?_
                refine X.norm [(1, (V.sl (List.map e_api_Gauge l))), (6, (V.i i)), (9, (V.i k)), (90, (V.b (decide (x6.ID = x7.ID))))] ?_ rfl (W.sub_cons rfl (W.sub_cons rfl (W.sub_cons rfl (W.sub_cons rfl W.sub_nil))))
                refine X.cond rfl (fun h_19 => ?_) (fun h_19 => ?_)
                · replace hM := ite_t h_19 hM
                  refine GS.seq ?_
                  refine GS.region ?_
                  refine X.opR rfl rfl rfl ?_
                  refine GS.opsNil ?_
                  have hE := Option.some.inj hM
                  replace hE := hr_2 _ hE.symm
                  replace hE := hr_1 _ hE.symm
                  subst hE
                  exact GS.ret ⟨_, rfl, ⟨30, rfl⟩⟩
                · replace hM := ite_f h_19 hM
                  refine GS.skip ?_
                  refine GS.endB ?_
                  refine GS.region ?_
                  refine X.opR rfl rfl rfl ?_
                  refine X.opR rfl (X.addE rfl rfl) rfl ?_
                  refine X.opR rfl rfl rfl ?_
                  refine GS.opsNil ?_
                  have hE := Option.some.inj hM
                  exact X.gc [] (hc_4 (w64 (k + 1)) hE.symm) rfl rfl rfl (gk_cons rfl ⟨9, rfl⟩ (gk_cons rfl ⟨9, rfl⟩ (gk_cons rfl ⟨9, rfl⟩ gk_nil))) (gb_nil)
              · replace hM := ite_f h_16 hM
                refine GS.exit rfl ?_
                obtain ⟨y_2, hM, hy⟩ := map_of hM
                rw [hr_2 _ hy.symm] at hM
                exact X.gc [] (hj_3 () hM) rfl rfl rfl (gk_cons rfl ⟨9, rfl⟩ (gk_cons rfl ⟨9, rfl⟩ gk_nil)) (gb_nil)
        · replace hM := ite_f h_4 hM
          refine GS.exit rfl ?_
          obtain ⟨y_1, hM, hy⟩ := map_of hM
          rw [hr_1 _ hy.symm] at hM
          exact X.gc [] (hj_1 () hM) rfl rfl rfl (gk_nil) (gb_nil)

abbrev e_ref02_Known (x : ref02_Known) : V := .agg [(V.i x.S.Lo), (V.i x.S.Hi), (V.i x.E)]

theorem ok_ref02_correction {w : api_Water} {tick : Int} {r : Int} (hM : ref02_correction w tick = some r) : Ct Tryz.prog 106 [(e_api_Water w), (V.i tick)] (V.i r) := by
  refine ct_of_gs CC_ok rfl ?_
  unfold ref02_correction at hM
  refine GS.seq ?_
  refine GS.region ?_
  refine X.opW rfl rfl rfl rfl ?_
  refine X.opR rfl rfl rfl ?_
  refine GS.opsNil ?_
  refine GS.seq ?_
  obtain ⟨q, h_1, hM⟩ := bind_of hM
  refine GS.region ?_
  refine X.opR rfl rfl rfl ?_
  refine X.opR rfl (X.quoE h_1 rfl rfl) rfl ?_
  refine X.opR rfl rfl rfl ?_
  refine GS.opsNil ?_
  iterate 2 refine GS.seq ?_
  refine GS.region ?_
  refine X.opR rfl rfl rfl ?_
  refine GS.opsNil ?_
  refine X.join (τ := Unit) (fun v => ref02_correction_j1 = some r) (fun v => ⟨[], [], 0, none, 40⟩) ?_ ?_
  · intro _ hM
    replace hM : ref02_correction_j1 = some r := hM
    unfold ref02_correction_j1 at hM
    refine GS.seq ?_
    refine GS.region ?_
    refine X.opR rfl rfl rfl ?_
    refine GS.opsNil ?_
    have hE := Option.some.inj hM
    subst hE
    exact GS.ret ⟨_, rfl, ⟨30, rfl⟩⟩
  · intro hj_1
    refine GS.block ?_
    refine X.gc [some 0] (X.loop (σ := Int) (fun v => ⟨[(2, (V.ptr 0 0 0)), (5, (V.i q)), (6, (V.i v))], [.rows 3 [(e_api_Water w)]], 0, none, 40⟩) hM ?_ rfl) rfl rfl rfl (gk_cons rfl ⟨9, rfl⟩ (gk_cons rfl ⟨9, rfl⟩ (gk_cons rfl ⟨9, rfl⟩ gk_nil))) (gb_box rfl rfl ⟨9, rfl⟩ gb_nil)
    intro i b_1 hM hc_2 hr_1
    rw [ref02_correction_b2] at hM
    iterate 2 refine GS.seq ?_
    refine GS.region ?_
    iterate 3 refine X.opR rfl rfl rfl ?_
    refine X.opR rfl (X.lenF rfl rfl rfl) rfl ?_
    refine X.opR rfl rfl rfl ?_
    refine GS.opsNil ?_
    refine X.cond rfl (fun h_2 => ?_) (fun h_2 => ?_)
    · replace hM := ite_t h_2 hM
      refine GS.skip ?_
      refine GS.seq ?_
      refine GS.block ?_
      refine GS.seq ?_
      obtain ⟨x, h_3, hM⟩ := bind_of hM
      obtain ⟨x1, h_4, hM⟩ := gb_of hM
      refine GS.region ?_
      refine X.mid [(2, (V.ptr 0 0 0)), (5, (V.i q)), (6, (V.i i)), (33, (V.b ((decide (x.From ≤ q)) && (decide (q ≤ x1.To)))))] ?_ ?_
      · intro hg
        refine X.split (decide (x.From ≤ q)) (fun h_5 => ?_) (fun h_5 => ?_)
        · iterate 3 refine X.opR rfl rfl rfl ?_
          refine X.opR rfl (X.indexF (f := e_api_Shift) h_3 (fun _ => rfl) rfl rfl rfl rfl) rfl ?_
          refine X.opR rfl rfl rfl ?_
          refine X.opR rfl (X.loadF h_3 rfl rfl rfl) rfl ?_
          iterate 3 refine X.opR rfl rfl rfl ?_
          iterate 4 refine X.opR (X.on_t rfl rfl rfl h_5) rfl rfl ?_
          refine X.opR (X.on_t rfl rfl rfl h_5) (X.indexF (f := e_api_Shift) (h_4 h_5) (fun _ => rfl) rfl rfl rfl rfl) rfl ?_
          refine X.opR (X.on_t rfl rfl rfl h_5) rfl rfl ?_
          refine X.opR (X.on_t rfl rfl rfl h_5) (X.loadF (h_4 h_5) rfl rfl rfl) rfl ?_
          refine X.opR (X.on_t rfl rfl rfl h_5) rfl rfl ?_
          refine X.opR rfl (X.pickand_t (y := decide (q ≤ x1.To)) rfl h_5 rfl) rfl ?_
          refine GS.opsNil ?_
          exact X.norm _ hg rfl (W.sub_cons rfl (W.sub_cons rfl (W.sub_cons rfl (W.sub_cons rfl W.sub_nil))))
        · iterate 3 refine X.opR rfl rfl rfl ?_
          refine X.opR rfl (X.indexF (f := e_api_Shift) h_3 (fun _ => rfl) rfl rfl rfl rfl) rfl ?_
          refine X.opR rfl rfl rfl ?_
          refine X.opR rfl (X.loadF h_3 rfl rfl rfl) rfl ?_
          iterate 3 refine X.opR rfl rfl rfl ?_
          iterate 8 refine X.off (X.off_t rfl rfl rfl h_5) rfl ?_
          refine X.opR rfl (X.pickand_f (y := decide (q ≤ x1.To)) rfl h_5 rfl) rfl ?_
          refine GS.opsNil ?_
          exact X.norm _ hg rfl (W.sub_cons rfl (W.sub_cons rfl (W.sub_cons rfl (W.sub_cons rfl W.sub_nil))))
      refine X.cond rfl (fun h_6 => ?_) (fun h_6 => ?_)
      · replace hM := ite_t h_6 hM
        refine GS.seq ?_
        obtain ⟨x2, h_7, hM⟩ := bind_of hM
        refine GS.region ?_
        iterate 3 refine X.opR rfl rfl rfl ?_
        refine X.opR rfl (X.indexF (f := e_api_Shift) h_7 (fun _ => rfl) rfl rfl rfl rfl) rfl ?_
        refine X.opR rfl rfl rfl ?_
        refine X.opR rfl (X.loadF h_7 rfl rfl rfl) rfl ?_
        refine X.opR rfl rfl rfl ?_
        refine GS.opsNil ?_
        have hE := Option.some.inj hM
        replace hE := hr_1 _ hE.symm
        subst hE
        exact GS.ret ⟨_, rfl, ⟨30, rfl⟩⟩
      · replace hM := ite_f h_6 hM
        refine GS.skip ?_
        refine GS.endB ?_
        refine GS.region ?_
        refine X.opR rfl rfl rfl ?_
        refine X.opR rfl (X.addE rfl rfl) rfl ?_
        refine X.opR rfl rfl rfl ?_
        refine GS.opsNil ?_
        have hE := Option.some.inj hM
        exact X.gc [some 0] (hc_2 (w64 (i + 1)) hE.symm) rfl rfl rfl (gk_cons rfl ⟨9, rfl⟩ (gk_cons rfl ⟨9, rfl⟩ (gk_cons rfl ⟨9, rfl⟩ gk_nil))) (gb_box rfl rfl ⟨9, rfl⟩ gb_nil)
    · replace hM := ite_f h_2 hM
      refine GS.exit rfl ?_
      obtain ⟨y_1, hM, hy⟩ := map_of hM
      rw [hr_1 _ hy.symm] at hM
      exact X.gc [] (hj_1 () hM) rfl rfl rfl (gk_nil) (gb_nil)

theorem ok_ref02_floor {a : Int} {b : Int} {r : Int} (hM : ref02_floor a b = some r) : Ct Tryz.prog 124 [(V.i a), (V.i b)] (V.i r) := by
  refine ct_of_gs CC_ok rfl ?_
  unfold ref02_floor at hM
  refine GS.seq ?_
  refine GS.region ?_
  refine X.opR rfl rfl rfl ?_
  refine GS.opsNil ?_
  refine GS.seq ?_
  obtain ⟨q, h_1, hM⟩ := bind_of hM
  refine GS.region ?_
  iterate 2 refine X.opR rfl rfl rfl ?_
  refine X.opR rfl (X.quoE h_1 rfl rfl) rfl ?_
  refine X.opR rfl rfl rfl ?_
  refine GS.opsNil ?_
  iterate 2 refine GS.seq ?_
  obtain ⟨q1, h_2, hM⟩ := bind_of hM
  refine GS.region ?_
  iterate 2 refine X.opR rfl rfl rfl ?_
  refine X.opR rfl (X.remE h_2 rfl rfl) rfl ?_
  refine X.opR rfl rfl rfl ?_
  refine GS.opsNil ?_
  refine X.join (τ := Int) (fun v => ref02_floor_j1 v = some r) (fun v => ⟨[(5, (V.i v))], [], 0, none, 16⟩) ?_ ?_
  · intro q2 hM
    replace hM : ref02_floor_j1 q2 = some r := hM
    unfold ref02_floor_j1 at hM
    refine GS.seq ?_
    refine GS.region ?_
    iterate 2 refine X.opR rfl rfl rfl ?_
    refine GS.opsNil ?_
    have hE := Option.some.inj hM
    subst hE
    exact GS.ret ⟨_, rfl, ⟨30, rfl⟩⟩
  · intro hj_1
    refine X.cond rfl (fun h_3 => ?_) (fun h_3 => ?_)
    · replace hM := ite_t h_3 hM
      refine GS.region ?_
      refine X.opR rfl rfl rfl ?_
      refine X.opR rfl (X.subE rfl rfl) rfl ?_
      refine X.opR rfl rfl rfl ?_
      refine GS.opsNil ?_
      exact X.gc [] (hj_1 (w64 (q - 1)) hM) rfl rfl rfl (gk_cons rfl ⟨9, rfl⟩ gk_nil) (gb_nil)
    · replace hM := ite_f h_3 hM
      refine GS.skip ?_
      exact X.gc [] (hj_1 q hM) rfl rfl rfl (gk_cons rfl ⟨9, rfl⟩ gk_nil) (gb_nil)

theorem ok_ref02_Of {c : api_Cycle} {tick : Int} {r : Int} (hM : ref02_Of c tick = some r) : Ct Tryz.prog 107 [(e_api_Cycle c), (V.i tick)] (V.i r) := by
  refine ct_of_gs CC_ok rfl ?_
  unfold ref02_Of at hM
  refine GS.seq ?_
  refine GS.region ?_
  refine X.opW rfl rfl rfl rfl ?_
  refine X.opR rfl rfl rfl ?_
  refine GS.opsNil ?_
  refine GS.seq ?_
  refine GS.region ?_
  iterate 2 refine X.opR rfl rfl rfl ?_
  refine X.opR rfl (X.lenF rfl rfl rfl) rfl ?_
  refine X.opR rfl rfl rfl ?_
  refine GS.opsNil ?_
  refine GS.seq ?_
  obtain ⟨y, h_1, hM⟩ := bind_of hM
  refine GS.region ?_
  iterate 3 refine X.opR rfl rfl rfl ?_
  refine X.opR rfl (X.subE rfl rfl) rfl ?_
  iterate 2 refine X.opR rfl rfl rfl ?_
  refine X.call (ok_ref02_floor h_1) rfl rfl rfl (.cons (.shut (n := 9) rfl) (.cons (.shut (n := 9) rfl) .nil)) ?_
  refine X.opR rfl rfl rfl ?_
  refine GS.opsNil ?_
  refine GS.seq ?_
  obtain ⟨y1, h_2, hM⟩ := bind_of hM
  obtain ⟨x, h_3, hM⟩ := bind_of hM
  refine X.drawc (by kernel_rfl) rfl ?_
  iterate 5 refine X.cop rfl rfl rfl rfl ?_
  refine X.ccall (ok_ref02_floor h_2) rfl rfl rfl rfl (.cons (.shut (n := 9) rfl) (.cons (.shut (n := 9) rfl) .nil)) ?_
  refine X.cop rfl rfl rfl rfl ?_
  refine X.cop rfl (X.mulE rfl rfl) rfl rfl ?_
  refine X.cop rfl (X.subE rfl rfl) rfl rfl ?_
  refine X.cop rfl (X.indexF (f := V.i) h_3 (fun _ => rfl) rfl rfl rfl rfl) rfl rfl ?_
  refine X.cop rfl (X.loadF h_3 rfl rfl rfl) rfl rfl ?_
  refine X.cop rfl rfl rfl rfl ?_
  refine X.cnil ?_
  refine X.norm [(4, (V.i x))] ?_ rfl (W.sub_cons rfl W.sub_nil)
  have hE := Option.some.inj hM
  subst hE
  exact GS.ret ⟨_, rfl, ⟨30, rfl⟩⟩

theorem ok_ref02_rest {w : api_Water} {tick : Int} {r : Int} (hM : ref02_rest w tick = some r) : Ct Tryz.prog 78 [(e_api_Water w), (V.i tick)] (V.i r) := by
  refine ct_of_gs CC_ok rfl ?_
  unfold ref02_rest at hM
  refine GS.seq ?_
  refine GS.region ?_
  refine X.opW rfl rfl rfl rfl ?_
  refine X.opR rfl rfl rfl ?_
  refine GS.opsNil ?_
  refine GS.seq ?_
  obtain ⟨y, h_1, hM⟩ := bind_of hM
  refine GS.region ?_
  iterate 2 refine X.opR rfl rfl rfl ?_
  refine X.call (ok_ref02_correction h_1) rfl rfl rfl (.cons (.shut (n := 9) rfl) (.cons (.shut (n := 9) rfl) .nil)) ?_
  refine X.opR rfl rfl rfl ?_
  refine GS.opsNil ?_
  iterate 2 refine GS.seq ?_
  refine GS.region ?_
  refine X.opR rfl rfl rfl ?_
  refine GS.opsNil ?_
  refine X.join (τ := Int) (fun v => ref02_rest_j1 v = some r) (fun v => ⟨[(5, (V.i v))], [], 0, none, 27⟩) ?_ ?_
  · intro h hM
    replace hM : ref02_rest_j1 h = some r := hM
    unfold ref02_rest_j1 at hM
    refine GS.seq ?_
    refine GS.region ?_
    iterate 2 refine X.opR rfl rfl rfl ?_
    refine GS.opsNil ?_
    have hE := Option.some.inj hM
    subst hE
    exact GS.ret ⟨_, rfl, ⟨30, rfl⟩⟩
  · intro hj_1
    refine GS.block ?_
    refine X.gc [some 0] (X.loop (σ := (Int × Int)) (fun v => ⟨[(1, (V.i tick)), (2, (V.ptr 0 0 0)), (5, (V.i v.1)), (6, (V.i v.2))], [.rows 3 [(e_api_Water w)]], 0, none, 27⟩) hM ?_ rfl) rfl rfl rfl (gk_cons rfl ⟨9, rfl⟩ (gk_cons rfl ⟨9, rfl⟩ (gk_cons rfl ⟨9, rfl⟩ (gk_cons rfl ⟨9, rfl⟩ gk_nil)))) (gb_box rfl rfl ⟨9, rfl⟩ gb_nil)
    rintro ⟨h1, i⟩ b_1 hM hc_2 hr_1
    rw [ref02_rest_b2] at hM
    iterate 2 refine GS.seq ?_
    refine GS.region ?_
    iterate 3 refine X.opR rfl rfl rfl ?_
    refine X.opR rfl (X.lenF rfl rfl rfl) rfl ?_
    refine X.opR rfl rfl rfl ?_
    refine GS.opsNil ?_
    refine X.cond rfl (fun h_2 => ?_) (fun h_2 => ?_)
    · replace hM := ite_t h_2 hM
      refine GS.skip ?_
      refine GS.seq ?_
      refine GS.block ?_
      obtain ⟨x, h_3, hM⟩ := bind_of hM
      obtain ⟨y1, h_4, hM⟩ := bind_of hM
      refine GS.region ?_
      iterate 4 refine X.opR rfl rfl rfl ?_
      refine X.opR rfl (X.indexF (f := e_api_Cycle) h_3 (fun _ => rfl) rfl rfl rfl rfl) rfl ?_
      refine X.opR rfl (X.loadF h_3 rfl rfl rfl) rfl ?_
      refine X.opR rfl rfl rfl ?_
      refine X.call (ok_ref02_Of h_4) rfl rfl rfl (.cons (.shut (n := 9) rfl) (.cons (.shut (n := 9) rfl) .nil)) ?_
      refine X.opR rfl (X.addE rfl rfl) rfl ?_
      refine X.opR rfl rfl rfl ?_
      refine GS.opsNil ?_
      refine GS.endB ?_
      refine GS.region ?_
      refine X.opR rfl rfl rfl ?_
      refine X.opR rfl (X.addE rfl rfl) rfl ?_
      refine X.opR rfl rfl rfl ?_
      refine GS.opsNil ?_
      have hE := Option.some.inj hM
      exact X.gc [some 0] (hc_2 (w64 (h1 + y1), w64 (i + 1)) hE.symm) rfl rfl rfl (gk_cons rfl ⟨9, rfl⟩ (gk_cons rfl ⟨9, rfl⟩ (gk_cons rfl ⟨9, rfl⟩ (gk_cons rfl ⟨9, rfl⟩ gk_nil)))) (gb_box rfl rfl ⟨9, rfl⟩ gb_nil)
    · replace hM := ite_f h_2 hM
      refine GS.exit rfl ?_
      obtain ⟨y_1, hM, hy⟩ := map_of hM
      rw [hr_1 _ hy.symm] at hM
      exact X.gc [] (hj_1 h1 hM) rfl rfl rfl (gk_cons rfl ⟨9, rfl⟩ gk_nil) (gb_nil)

theorem ok_ref02_agreed {w : api_Water} {g : api_Gauge} {r : api_Span} (hM : ref02_agreed w g = some r) : Ct Tryz.prog 51 [(e_api_Water w), (e_api_Gauge g)] (e_api_Span r) := by
  refine ct_of_gs CC_ok rfl ?_
  unfold ref02_agreed at hM
  refine GS.seq ?_
  refine GS.region ?_
  iterate 3 refine X.opW rfl rfl rfl rfl ?_
  refine GS.opsNil ?_
  refine GS.seq ?_
  obtain ⟨y, h_1, hM⟩ := bind_of hM
  refine GS.region ?_
  iterate 3 refine X.opR rfl rfl rfl ?_
  refine X.call (ok_ref02_rest h_1) rfl rfl rfl (.cons (.shut (n := 9) rfl) (.cons (.shut (n := 9) rfl) .nil)) ?_
  refine X.opR rfl rfl rfl ?_
  refine GS.opsNil ?_
  refine GS.seq ?_
  refine GS.region ?_
  iterate 4 refine X.opR rfl rfl rfl ?_
  refine X.opR rfl (X.subE rfl rfl) rfl ?_
  refine X.opR rfl (X.maxE rfl rfl) rfl ?_
  iterate 4 refine X.opR rfl rfl rfl ?_
  refine X.opR rfl (X.subE rfl rfl) rfl ?_
  refine X.opR rfl (X.minE rfl rfl) rfl ?_
  refine X.opR rfl rfl rfl ?_
  refine X.op0W rfl rfl rfl ?_
  refine GS.opsNil ?_
  have hE := Option.some.inj hM
  subst hE
  exact GS.ret ⟨_, rfl, ⟨30, rfl⟩⟩

theorem ok_ref02_agreedAll {w : api_Water} {l : (List api_Gauge)} {r : api_Span} (hM : ref02_agreedAll w l = some r) : Ct Tryz.prog 41 [(e_api_Water w), (V.sl (List.map e_api_Gauge l))] (e_api_Span r) := by
  refine ct_of_gs CC_ok rfl ?_
  unfold ref02_agreedAll at hM
  refine GS.seq ?_
  refine GS.region ?_
  iterate 2 refine X.opW rfl rfl rfl rfl ?_
  refine GS.opsNil ?_
  refine GS.seq ?_
  refine GS.region ?_
  refine X.opR rfl rfl rfl ?_
  refine X.opW rfl rfl rfl rfl ?_
  refine X.op0W rfl rfl rfl ?_
  refine GS.opsNil ?_
  iterate 2 refine GS.seq ?_
  refine GS.region ?_
  refine X.opR rfl rfl rfl ?_
  refine GS.opsNil ?_
  refine X.join (τ := Int × Int) (fun v => ref02_agreedAll_j1 v.1 v.2 = some r) (fun v => ⟨[(4, (V.ptr 0 0 0)), (5, (V.ptr 1 0 0))], [.rows 2 [(V.agg [(V.i 0), (V.i 0)])], .rows 2 [(V.agg [(V.i v.1), (V.i v.2)])]], 0, none, 33⟩) ?_ ?_
  · rintro ⟨Lo, Hi⟩ hM
    replace hM : ref02_agreedAll_j1 Lo Hi = some r := hM
    unfold ref02_agreedAll_j1 at hM
    refine GS.seq ?_
    refine GS.region ?_
    refine X.opR rfl rfl rfl ?_
    refine X.op0W rfl rfl rfl ?_
    refine GS.opsNil ?_
    have hE := Option.some.inj hM
    subst hE
    exact GS.ret ⟨_, rfl, ⟨30, rfl⟩⟩
  · intro hj_1
    refine GS.block ?_
    refine X.gc [some 0, some 1, some 2] (X.loop (σ := (Int × Int × Int)) (fun v => ⟨[(1, (V.sl (List.map e_api_Gauge l))), (2, (V.ptr 0 0 0)), (4, (V.ptr 1 0 0)), (5, (V.ptr 2 0 0)), (6, (V.i v.1))], [.rows 3 [(e_api_Water w)], .rows 2 [(V.agg [(V.i 0), (V.i 0)])], .rows 2 [(V.agg [(V.i v.2.1), (V.i v.2.2)])]], 0, none, 33⟩) hM ?_ rfl) rfl rfl rfl (gk_cons rfl ⟨9, rfl⟩ (gk_cons rfl ⟨9, rfl⟩ (gk_cons rfl ⟨9, rfl⟩ (gk_cons rfl ⟨9, rfl⟩ (gk_cons rfl ⟨9, rfl⟩ gk_nil))))) (gb_box rfl rfl ⟨9, rfl⟩ (gb_box rfl rfl ⟨9, rfl⟩ (gb_box rfl rfl ⟨9, rfl⟩ gb_nil)))
    rintro ⟨i, Lo1, Hi1⟩ b_1 hM hc_2 hr_1
    rw [ref02_agreedAll_b2] at hM
    iterate 2 refine GS.seq ?_
    refine GS.region ?_
    iterate 2 refine X.opR rfl rfl rfl ?_
    refine X.opR rfl (X.lenF rfl rfl rfl) rfl ?_
    refine X.opR rfl rfl rfl ?_
    refine GS.opsNil ?_
    refine X.cond rfl (fun h_1 => ?_) (fun h_1 => ?_)
    · replace hM := ite_t h_1 hM
      refine GS.skip ?_
      refine GS.seq ?_
      refine GS.block ?_
      refine GS.seq ?_
      obtain ⟨x, h_2, hM⟩ := bind_of hM
      obtain ⟨y, h_3, hM⟩ := bind_of hM
      refine X.draw (by kernel_rfl) ?_
      iterate 3 refine X.dop rfl rfl rfl rfl (by kernel_rfl) rfl rfl ?_
      refine X.dop rfl (X.indexF (f := e_api_Gauge) h_2 (fun _ => rfl) rfl rfl rfl rfl) rfl rfl (by kernel_rfl) rfl rfl ?_
      refine X.dop rfl (X.loadF h_2 rfl rfl rfl) rfl rfl (by kernel_rfl) rfl rfl ?_
      refine X.dcall (ok_ref02_agreed h_3) rfl rfl rfl (by kernel_rfl) rfl (.cons (.shut (n := 9) rfl) (.cons (.shut (n := 9) rfl) .nil)) ?_
      refine X.dop rfl rfl rfl rfl (by kernel_rfl) rfl rfl ?_
      refine X.dop0 rfl rfl rfl rfl (by kernel_rfl) rfl ?_
      refine X.dnil ?_
      refine X.norm [(1, (V.sl (List.map e_api_Gauge l))), (2, (V.ptr 0 0 0)), (4, (V.ptr 1 0 0)), (5, (V.ptr 2 0 0)), (6, (V.i i)), (7, (V.ptr 3 0 0))] ?_ rfl (W.sub_cons rfl (W.sub_cons rfl (W.sub_cons rfl (W.sub_cons rfl (W.sub_cons rfl (W.sub_cons rfl W.sub_nil))))))
      refine GS.region ?_
      iterate 4 refine X.opR rfl rfl rfl ?_
      refine X.opR rfl (X.maxE rfl rfl) rfl ?_
      iterate 4 refine X.opR rfl rfl rfl ?_
      refine X.opR rfl (X.minE rfl rfl) rfl ?_
      refine X.opR rfl rfl rfl ?_
      refine X.op0W (H' := [.rows 3 [(e_api_Water w)], .rows 2 [(V.agg [(V.i 0), (V.i 0)])], .rows 2 [(V.agg [(V.i (max Lo1 y.Lo)), (V.i (min Hi1 y.Hi))])], .rows 2 [(e_api_Span y)]]) rfl rfl rfl ?_
      refine GS.opsNil ?_
      refine GS.endB ?_
      refine GS.region ?_
      refine X.opR rfl rfl rfl ?_
      refine X.opR rfl (X.addE rfl rfl) rfl ?_
      refine X.opR rfl rfl rfl ?_
      refine GS.opsNil ?_
      have hE := Option.some.inj hM
      exact X.gc [some 0, some 1, some 2] (hc_2 (w64 (i + 1), max Lo1 y.Lo, min Hi1 y.Hi) hE.symm) rfl rfl rfl (gk_cons rfl ⟨9, rfl⟩ (gk_cons rfl ⟨9, rfl⟩ (gk_cons rfl ⟨9, rfl⟩ (gk_cons rfl ⟨9, rfl⟩ (gk_cons rfl ⟨9, rfl⟩ gk_nil))))) (gb_box rfl rfl ⟨9, rfl⟩ (gb_box rfl rfl ⟨9, rfl⟩ (gb_box rfl rfl ⟨9, rfl⟩ gb_nil)))
    · replace hM := ite_f h_1 hM
      refine GS.exit rfl ?_
      obtain ⟨y_1, hM, hy⟩ := map_of hM
      rw [hr_1 _ hy.symm] at hM
      exact X.gc [some 1, some 2] (hj_1 (Lo1, Hi1) hM) rfl rfl rfl (gk_cons rfl ⟨9, rfl⟩ (gk_cons rfl ⟨9, rfl⟩ gk_nil)) (gb_box rfl rfl ⟨9, rfl⟩ (gb_box rfl rfl ⟨9, rfl⟩ gb_nil))

theorem ok_ref02_Levels {w : api_Water} {l : (List api_Gauge)} {r : ref02_Known} (hM : ref02_Levels w l = some r) : Ct Tryz.prog 13 [(e_api_Water w), (V.sl (List.map e_api_Gauge l))] (e_ref02_Known r) := by
  refine ct_of_gs CC_ok rfl ?_
  unfold ref02_Levels at hM
  refine GS.seq ?_
  refine GS.region ?_
  iterate 2 refine X.opW rfl rfl rfl rfl ?_
  refine GS.opsNil ?_
  refine GS.seq ?_
  obtain ⟨y, h_1, hM⟩ := bind_of hM
  refine GS.region ?_
  iterate 2 refine X.opR rfl rfl rfl ?_
  refine X.call (ok_ref02_Gauged h_1) rfl rfl rfl (.cons (.shut (n := 9) rfl) (.cons (.shut (n := 9) rfl) .nil)) ?_
  refine X.opR rfl rfl rfl ?_
  refine GS.opsNil ?_
  iterate 2 refine GS.seq ?_
  refine GS.region ?_
  iterate 2 refine X.opR rfl rfl rfl ?_
  refine GS.opsNil ?_
  refine X.cond rfl (fun h_2 => ?_) (fun h_2 => ?_)
  · replace hM := ite_t h_2 hM
    refine GS.seq ?_
    refine GS.region ?_
    iterate 2 refine X.opR rfl rfl rfl ?_
    refine X.op0W rfl rfl rfl ?_
    refine GS.opsNil ?_
    have hE := Option.some.inj hM
    subst hE
    exact GS.ret ⟨_, rfl, ⟨30, rfl⟩⟩
  · replace hM := ite_f h_2 hM
    refine GS.skip ?_
    refine GS.seq ?_
    obtain ⟨y1, h_3, hM⟩ := bind_of hM
    refine GS.region ?_
    iterate 2 refine X.opR rfl rfl rfl ?_
    refine X.call (ok_ref02_agreedAll h_3) rfl rfl rfl (.cons (.shut (n := 9) rfl) (.cons (.shut (n := 9) rfl) .nil)) ?_
    refine X.opW rfl rfl rfl rfl ?_
    refine X.op0W rfl rfl rfl ?_
    refine GS.opsNil ?_
    iterate 2 refine GS.seq ?_
    refine GS.region ?_
    iterate 5 refine X.opR rfl rfl rfl ?_
    refine GS.opsNil ?_
    refine X.cond rfl (fun h_4 => ?_) (fun h_4 => ?_)
    · replace hM := ite_t h_4 hM
      refine GS.seq ?_
      refine GS.region ?_
      refine X.opR rfl rfl rfl ?_
      refine X.op0W rfl rfl rfl ?_
      refine GS.opsNil ?_
      have hE := Option.some.inj hM
      subst hE
      exact GS.ret ⟨_, rfl, ⟨30, rfl⟩⟩
    · replace hM := ite_f h_4 hM
      refine GS.skip ?_
      refine GS.seq ?_
      refine GS.region ?_
      iterate 2 refine X.opR rfl rfl rfl ?_
      refine X.op0W rfl rfl rfl ?_
      refine GS.opsNil ?_
      have hE := Option.some.inj hM
      subst hE
      exact GS.ret ⟨_, rfl, ⟨30, rfl⟩⟩

theorem ok_ref02_against {w : api_Water} {l : (List api_Gauge)} {level : Int} {r : Int} (hM : ref02_against w l level = some r) : Ct Tryz.prog 46 [(e_api_Water w), (V.sl (List.map e_api_Gauge l)), (V.i level)] (V.i r) := by
  refine ct_of_gs CC_ok rfl ?_
  unfold ref02_against at hM
  refine GS.seq ?_
  refine GS.region ?_
  refine X.opW rfl rfl rfl rfl ?_
  refine X.opR rfl rfl rfl ?_
  refine GS.opsNil ?_
  refine GS.seq ?_
  refine GS.region ?_
  refine X.opR rfl rfl rfl ?_
  refine X.call (ok_ref02_within level (-4000) 4000) rfl rfl rfl (.cons (.shut (n := 9) rfl) (.cons (.shut (n := 9) rfl) (.cons (.shut (n := 9) rfl) .nil))) ?_
  refine X.opR rfl rfl rfl ?_
  refine GS.opsNil ?_
  iterate 2 refine GS.seq ?_
  refine GS.region ?_
  iterate 2 refine X.opR rfl rfl rfl ?_
  refine GS.opsNil ?_
  refine X.cond rfl (fun h_1 => ?_) (fun h_1 => ?_)
  · replace hM := ite_t h_1 hM
    refine GS.seq ?_
    refine GS.region ?_
    refine X.opR rfl rfl rfl ?_
    refine GS.opsNil ?_
    have hE := Option.some.inj hM
    subst hE
    exact GS.ret ⟨_, rfl, ⟨30, rfl⟩⟩
  · replace hM := ite_f h_1 hM
    refine GS.skip ?_
    refine GS.seq ?_
    refine GS.region ?_
    refine X.opR rfl rfl rfl ?_
    refine GS.opsNil ?_
    iterate 2 refine GS.seq ?_
    refine GS.region ?_
    refine X.opR rfl rfl rfl ?_
    refine GS.opsNil ?_
    refine X.join (τ := Int) (fun v => ref02_against_j1 v = some r) (fun v => ⟨[(8, (V.i v))], [], 0, none, 55⟩) ?_ ?_
    · intro id hM
      replace hM : ref02_against_j1 id = some r := hM
      unfold ref02_against_j1 at hM
      refine GS.seq ?_
      refine GS.region ?_
      iterate 2 refine X.opR rfl rfl rfl ?_
      refine GS.opsNil ?_
      have hE := Option.some.inj hM
      subst hE
      exact GS.ret ⟨_, rfl, ⟨30, rfl⟩⟩
    · intro hj_1
      refine GS.block ?_
      refine X.gc [some 0] (X.loop (σ := (Int × Int)) (fun v => ⟨[(1, (V.sl (List.map e_api_Gauge l))), (2, (V.i level)), (3, (V.ptr 0 0 0)), (8, (V.i v.1)), (9, (V.i v.2))], [.rows 3 [(e_api_Water w)]], 0, none, 55⟩) hM ?_ rfl) rfl rfl rfl (gk_cons rfl ⟨9, rfl⟩ (gk_cons rfl ⟨9, rfl⟩ (gk_cons rfl ⟨9, rfl⟩ (gk_cons rfl ⟨9, rfl⟩ (gk_cons rfl ⟨9, rfl⟩ gk_nil))))) (gb_box rfl rfl ⟨9, rfl⟩ gb_nil)
      rintro ⟨id2, i⟩ b_1 hM hc_2 hr_1
      rw [ref02_against_b2] at hM
      iterate 2 refine GS.seq ?_
      refine GS.region ?_
      iterate 2 refine X.opR rfl rfl rfl ?_
      refine X.opR rfl (X.lenF rfl rfl rfl) rfl ?_
      refine X.opR rfl rfl rfl ?_
      refine GS.opsNil ?_
      refine X.cond rfl (fun h_2 => ?_) (fun h_2 => ?_)
      · replace hM := ite_t h_2 hM
        refine GS.skip ?_
        refine GS.seq ?_
        refine X.join (τ := Int) (fun v => ref02_against_j3 i v = some b_1) (fun v => ⟨[(1, (V.sl (List.map e_api_Gauge l))), (2, (V.i level)), (3, (V.ptr 0 0 0)), (8, (V.i v)), (9, (V.i i))], [.rows 3 [(e_api_Water w)]], 0, none, 55⟩) ?_ ?_
        · intro id1 hM
          replace hM : ref02_against_j3 i id1 = some b_1 := hM
          unfold ref02_against_j3 at hM
          refine GS.region ?_
          refine X.opR rfl rfl rfl ?_
          refine X.opR rfl (X.addE rfl rfl) rfl ?_
          refine X.opR rfl rfl rfl ?_
          refine GS.opsNil ?_
          have hE := Option.some.inj hM
          exact X.gc [some 0] (hc_2 (id1, w64 (i + 1)) hE.symm) rfl rfl rfl (gk_cons rfl ⟨9, rfl⟩ (gk_cons rfl ⟨9, rfl⟩ (gk_cons rfl ⟨9, rfl⟩ (gk_cons rfl ⟨9, rfl⟩ (gk_cons rfl ⟨9, rfl⟩ gk_nil))))) (gb_box rfl rfl ⟨9, rfl⟩ gb_nil)
        · intro hj_3
          refine GS.block ?_
          refine GS.seq ?_
          obtain ⟨x, h_3, hM⟩ := bind_of hM
          obtain ⟨y, h_4, hM⟩ := bind_of hM
          refine X.draw (by kernel_rfl) ?_
          iterate 3 refine X.dop rfl rfl rfl rfl (by kernel_rfl) rfl rfl ?_
          refine X.dop rfl (X.indexF (f := e_api_Gauge) h_3 (fun _ => rfl) rfl rfl rfl rfl) rfl rfl (by kernel_rfl) rfl rfl ?_
          refine X.dop rfl (X.loadF h_3 rfl rfl rfl) rfl rfl (by kernel_rfl) rfl rfl ?_
          refine X.dcall (ok_ref02_agreed h_4) rfl rfl rfl (by kernel_rfl) rfl (.cons (.shut (n := 9) rfl) (.cons (.shut (n := 9) rfl) .nil)) ?_
          refine X.dop rfl rfl rfl rfl (by kernel_rfl) rfl rfl ?_
          refine X.dop0 rfl rfl rfl rfl (by kernel_rfl) rfl ?_
          refine X.dnil ?_
          refine X.norm [(1, (V.sl (List.map e_api_Gauge l))), (2, (V.i level)), (3, (V.ptr 0 0 0)), (8, (V.i id2)), (9, (V.i i)), (10, (V.ptr 1 0 0))] ?_ rfl (W.sub_cons rfl (W.sub_cons rfl (W.sub_cons rfl (W.sub_cons rfl (W.sub_cons rfl (W.sub_cons rfl W.sub_nil))))))
          refine GS.seq ?_
          refine GS.region ?_
          iterate 5 refine X.opR rfl rfl rfl ?_
          refine X.call (ok_ref02_within level y.Lo y.Hi) rfl rfl rfl (.cons (.shut (n := 9) rfl) (.cons (.shut (n := 9) rfl) (.cons (.shut (n := 9) rfl) .nil))) ?_
          refine X.opR rfl rfl rfl ?_
          refine GS.opsNil ?_
          refine GS.seq ?_
          obtain ⟨x1, h_5, hM⟩ := gb_of hM
          refine GS.region ?_
          refine X.mid [(1, (V.sl (List.map e_api_Gauge l))), (2, (V.i level)), (3, (V.ptr 0 0 0)), (8, (V.i id2)), (9, (V.i i)), (48, (V.b ((!(ref02_within level y.Lo y.Hi)) && ((decide (id2 = 0)) || (decide (x1.ID < id2))))))] ?_ ?_
          · intro hg
            refine X.split (!(ref02_within level y.Lo y.Hi)) (fun h_6 => ?_) (fun h_6 => ?_)
            · refine X.split (decide (id2 = 0)) (fun h_7 => ?_) (fun h_7 => ?_)
              · iterate 3 refine X.opR rfl rfl rfl ?_
                iterate 3 refine X.opR (X.on_t rfl rfl rfl h_6) rfl rfl ?_
                iterate 7 refine X.off (X.off_f rfl rfl rfl h_7) rfl ?_
                refine X.opR (X.on_t rfl rfl rfl h_6) (X.pickor_t (y := decide (x1.ID < id2)) rfl h_7 rfl) rfl ?_
                refine X.opR rfl (X.pickand_t (y := ((decide (id2 = 0)) || (decide (x1.ID < id2)))) rfl h_6 rfl) rfl ?_
                refine GS.opsNil ?_
                exact X.norm _ hg rfl (W.sub_cons rfl (W.sub_cons rfl (W.sub_cons rfl (W.sub_cons rfl (W.sub_cons rfl (W.sub_cons rfl W.sub_nil))))))
              · iterate 3 refine X.opR rfl rfl rfl ?_
                iterate 3 refine X.opR (X.on_t rfl rfl rfl h_6) rfl rfl ?_
                iterate 2 refine X.opR (X.on_f rfl rfl rfl h_7) rfl rfl ?_
                refine X.opR (X.on_f rfl rfl rfl h_7) (X.indexF (f := e_api_Gauge) (h_5 (X.and_tt h_6 (X.nt h_7))) (fun _ => rfl) rfl rfl rfl rfl) rfl ?_
                refine X.opR (X.on_f rfl rfl rfl h_7) rfl rfl ?_
                refine X.opR (X.on_f rfl rfl rfl h_7) (X.loadF (h_5 (X.and_tt h_6 (X.nt h_7))) rfl rfl rfl) rfl ?_
                iterate 2 refine X.opR (X.on_f rfl rfl rfl h_7) rfl rfl ?_
                refine X.opR (X.on_t rfl rfl rfl h_6) (X.pickor_f (y := decide (x1.ID < id2)) rfl h_7 rfl) rfl ?_
                refine X.opR rfl (X.pickand_t (y := ((decide (id2 = 0)) || (decide (x1.ID < id2)))) rfl h_6 rfl) rfl ?_
                refine GS.opsNil ?_
                exact X.norm _ hg rfl (W.sub_cons rfl (W.sub_cons rfl (W.sub_cons rfl (W.sub_cons rfl (W.sub_cons rfl (W.sub_cons rfl W.sub_nil))))))
            · iterate 3 refine X.opR rfl rfl rfl ?_
              iterate 3 refine X.off (X.off_t rfl rfl rfl h_6) rfl ?_
              iterate 7 refine X.off rfl rfl ?_
              refine X.off (X.off_t rfl rfl rfl h_6) rfl ?_
              refine X.opR rfl (X.pickand_f (y := ((decide (id2 = 0)) || (decide (x1.ID < id2)))) rfl h_6 rfl) rfl ?_
              refine GS.opsNil ?_
              exact X.norm _ hg rfl (W.sub_cons rfl (W.sub_cons rfl (W.sub_cons rfl (W.sub_cons rfl (W.sub_cons rfl (W.sub_cons rfl W.sub_nil))))))
          refine X.cond rfl (fun h_8 => ?_) (fun h_8 => ?_)
          · replace hM := ite_t h_8 hM
            obtain ⟨x2, h_9, hM⟩ := bind_of hM
            refine GS.region ?_
            iterate 2 refine X.opR rfl rfl rfl ?_
            refine X.opR rfl (X.indexF (f := e_api_Gauge) h_9 (fun _ => rfl) rfl rfl rfl rfl) rfl ?_
            refine X.opR rfl rfl rfl ?_
            refine X.opR rfl (X.loadF h_9 rfl rfl rfl) rfl ?_
            refine X.opR rfl rfl rfl ?_
            refine GS.opsNil ?_
            refine GS.endB ?_
            exact X.gc [some 0] (hj_3 x2.ID hM) rfl rfl rfl (gk_cons rfl ⟨9, rfl⟩ (gk_cons rfl ⟨9, rfl⟩ (gk_cons rfl ⟨9, rfl⟩ (gk_cons rfl ⟨9, rfl⟩ (gk_cons rfl ⟨9, rfl⟩ gk_nil))))) (gb_box rfl rfl ⟨9, rfl⟩ gb_nil)
          · replace hM := ite_f h_8 hM
            refine GS.skip ?_
            refine GS.endB ?_
            exact X.gc [some 0] (hj_3 id2 hM) rfl rfl rfl (gk_cons rfl ⟨9, rfl⟩ (gk_cons rfl ⟨9, rfl⟩ (gk_cons rfl ⟨9, rfl⟩ (gk_cons rfl ⟨9, rfl⟩ (gk_cons rfl ⟨9, rfl⟩ gk_nil))))) (gb_box rfl rfl ⟨9, rfl⟩ gb_nil)
      · replace hM := ite_f h_2 hM
        refine GS.exit rfl ?_
        obtain ⟨y_1, hM, hy⟩ := map_of hM
        rw [hr_1 _ hy.symm] at hM
        exact X.gc [] (hj_1 id2 hM) rfl rfl rfl (gk_cons rfl ⟨9, rfl⟩ gk_nil) (gb_nil)

theorem ok_ref02_Rests {w : api_Water} {l : (List api_Gauge)} {r : Int × Int × Int} (hM : ref02_Rests w l = some r) : Ct Tryz.prog 15 [(e_api_Water w), (V.sl (List.map e_api_Gauge l))] (V.tup [(V.i r.1), (V.i r.2.1), (V.i r.2.2)]) := by
  refine ct_of_gs CC_ok rfl ?_
  unfold ref02_Rests at hM
  refine GS.seq ?_
  refine GS.region ?_
  refine X.opW rfl rfl rfl rfl ?_
  iterate 3 refine X.opR rfl rfl rfl ?_
  refine GS.opsNil ?_
  refine GS.seq ?_
  obtain ⟨y, h_1, hM⟩ := bind_of hM
  refine GS.region ?_
  iterate 2 refine X.opR rfl rfl rfl ?_
  refine X.call (ok_ref02_Levels h_1) rfl rfl rfl (.cons (.shut (n := 9) rfl) (.cons (.shut (n := 9) rfl) .nil)) ?_
  refine X.opW rfl rfl rfl rfl ?_
  refine X.op0W rfl rfl rfl ?_
  refine GS.opsNil ?_
  iterate 2 refine GS.seq ?_
  refine GS.region ?_
  iterate 3 refine X.opR rfl rfl rfl ?_
  refine GS.opsNil ?_
  refine X.cond rfl (fun h_2 => ?_) (fun h_2 => ?_)
  · replace hM := ite_t h_2 hM
    refine GS.seq ?_
    refine X.drawc (by kernel_rfl) rfl ?_
    iterate 5 refine X.cop rfl rfl rfl rfl ?_
    refine X.cnil ?_
    refine X.norm [(4, (V.i 0)), (5, (V.i 0)), (6, (V.i y.E))] ?_ rfl (W.sub_cons rfl (W.sub_cons rfl (W.sub_cons rfl W.sub_nil)))
    have hE := Option.some.inj hM
    subst hE
    exact GS.ret ⟨_, rfl, ⟨30, rfl⟩⟩
  · replace hM := ite_f h_2 hM
    refine GS.skip ?_
    refine GS.seq ?_
    obtain ⟨y1, h_3, hM⟩ := bind_of hM
    obtain ⟨y2, h_4, hM⟩ := bind_of hM
    refine X.drawc (by kernel_rfl) rfl ?_
    iterate 5 refine X.cop rfl rfl rfl rfl ?_
    refine X.cop rfl (X.subE rfl rfl) rfl rfl ?_
    refine X.ccall (ok_ref02_against h_3) rfl rfl rfl rfl (.cons (.shut (n := 9) rfl) (.cons (.shut (n := 9) rfl) (.cons (.shut (n := 9) rfl) .nil))) ?_
    iterate 5 refine X.cop rfl rfl rfl rfl ?_
    refine X.cop rfl (X.addE rfl rfl) rfl rfl ?_
    refine X.ccall (ok_ref02_against h_4) rfl rfl rfl rfl (.cons (.shut (n := 9) rfl) (.cons (.shut (n := 9) rfl) (.cons (.shut (n := 9) rfl) .nil))) ?_
    iterate 3 refine X.cop rfl rfl rfl rfl ?_
    refine X.cnil ?_
    refine X.norm [(4, (V.i y1)), (5, (V.i y2)), (6, (V.i 0))] ?_ rfl (W.sub_cons rfl (W.sub_cons rfl (W.sub_cons rfl W.sub_nil)))
    have hE := Option.some.inj hM
    subst hE
    exact GS.ret ⟨_, rfl, ⟨30, rfl⟩⟩

theorem own_tide_knowns {w : api_Water} {l : (List api_Gauge)} {r : (List tide_known)} (hM : tide_knowns w l = some r) : OwnCt Tryz.prog 42 [(e_api_Water w), (V.sl (List.map e_api_Gauge l))] (fun z => (ovlz z 0 r)) (fun z => (oblz z 6 e_tide_known r)) := by
  refine own_of_gs CC_ok rfl ?_
  unfold tide_knowns at hM
  refine GS.seq ?_
  refine GS.region ?_
  refine X.opW rfl rfl rfl rfl ?_
  refine X.opR rfl rfl rfl ?_
  refine GS.opsNil ?_
  refine GS.seq ?_
  refine GS.region ?_
  refine X.opR rfl rfl rfl ?_
  refine X.op0W rfl rfl rfl ?_
  refine GS.opsNil ?_
  refine GS.seq ?_
  obtain ⟨y, h_1, hM⟩ := bind_of hM
  refine GS.region ?_
  refine X.opR rfl rfl rfl ?_
  refine X.call (ok_tide_heights h_1) rfl rfl rfl (.cons (.shut (n := 9) rfl) .nil) ?_
  refine X.opR rfl rfl rfl ?_
  refine GS.opsNil ?_
  refine GS.seq ?_
  refine GS.region ?_
  refine X.opR rfl rfl rfl ?_
  refine GS.opsNil ?_
  iterate 2 refine GS.seq ?_
  refine GS.region ?_
  refine X.opR rfl rfl rfl ?_
  refine X.opR rfl (X.lenF rfl rfl rfl) rfl ?_
  refine X.opR rfl rfl rfl ?_
  refine GS.opsNil ?_
  refine X.join (τ := (List tide_known)) (fun v => tide_knowns_j1 v = some r) (fun v => ⟨[(6, (ovl 0 v))], [obl 6 e_tide_known v], 0, none, 43⟩) ?_ ?_
  · intro l1 hM
    replace hM : tide_knowns_j1 l1 = some r := hM
    unfold tide_knowns_j1 at hM
    refine GS.seq ?_
    refine GS.region ?_
    iterate 2 refine X.opR rfl rfl rfl ?_
    refine GS.opsNil ?_
    have hE := Option.some.inj hM
    subst hE
    refine X.gc [some 0] (H' := [obl 6 e_tide_known l1]) (K' := [(4, (ovl 0 l1))]) ?_ rfl rfl rfl (gk_cons rfl (rn_ovl rfl) gk_nil) (gb_obl 9 rfl rfl (fun _ => rfl) gb_nil)
    exact GS.ret ⟨true, rfl, rfl⟩
  · intro hj_1
    refine GS.block ?_
    refine X.gc [none] (X.loop (σ := (Int × (List tide_known))) (fun v => ⟨[(5, (V.fn 85 [(V.fptr [(e_api_Water y.1)] 0 0), (V.fptr [(e_parts y.2)] 0 0)])), (6, (ovl 0 v.2)), (13, (V.sl (List.map e_api_Gauge l))), (14, (V.i (l.length : Int))), (15, (V.i v.1))], [obl 6 e_tide_known v.2], 0, none, 43⟩) hM ?_ rfl) rfl rfl rfl (gk_cons rfl ⟨9, rfl⟩ (gk_cons rfl ⟨9, rfl⟩ (gk_cons rfl ⟨9, rfl⟩ (gk_cons rfl ⟨9, rfl⟩ (gk_cons rfl ⟨9, rfl⟩ gk_nil))))) (gb_pad' rfl gb_nil)
    rintro ⟨x1, l3⟩ b_1 hM hc_2 hr_1
    rw [tide_knowns_b2] at hM
    refine GS.seq ?_
    refine GS.region ?_
    refine X.opR rfl rfl rfl ?_
    refine GS.opsNil ?_
    refine GS.seq ?_
    refine X.cond rfl (fun h_2 => ?_) (fun h_2 => ?_)
    · replace hM := ite_t h_2 hM
      refine GS.skip ?_
      refine GS.seq ?_
      refine GS.block ?_
      refine GS.seq ?_
      obtain ⟨x, h_3, hM⟩ := bind_of hM
      refine GS.region ?_
      refine X.opR rfl (X.indexF (f := e_api_Gauge) h_3 (fun _ => rfl) rfl rfl rfl rfl) rfl ?_
      refine X.opR rfl (X.loadF h_3 rfl rfl rfl) rfl ?_
      refine X.opW rfl rfl rfl rfl ?_
      refine X.op0W rfl rfl rfl ?_
      refine GS.opsNil ?_
      refine GS.seq ?_
      obtain ⟨y1, h_4, hM⟩ := bind_of hM
      refine GS.region ?_
      iterate 3 refine X.opR rfl rfl rfl ?_
      refine X.call (ok_tide_heights_1 h_4) rfl rfl rfl (.cons (.shut (n := 9) rfl) (.cons (.shut (n := 9) rfl) (.cons (.shut (n := 9) rfl) .nil))) ?_
      refine X.opR rfl rfl rfl ?_
      refine GS.opsNil ?_
      obtain ⟨l2, h_5, hM⟩ := bind_of hM
      refine X.draw (by kernel_rfl) ?_
      iterate 2 refine X.dop rfl rfl rfl rfl (by kernel_rfl) rfl rfl ?_
      refine X.dcall ok_tide_every rfl rfl rfl (by kernel_rfl) rfl .nil ?_
      iterate 4 refine X.dop rfl rfl rfl rfl (by kernel_rfl) rfl rfl ?_
      refine X.dop rfl (X.subE rfl rfl) rfl rfl (by kernel_rfl) rfl rfl ?_
      iterate 4 refine X.dop rfl rfl rfl rfl (by kernel_rfl) rfl rfl ?_
      refine X.dop rfl (X.subE rfl rfl) rfl rfl (by kernel_rfl) rfl rfl ?_
      refine X.dop rfl rfl rfl rfl (by kernel_rfl) rfl rfl ?_
      refine X.dcall (ok_tide_both (tide_every) (⟨w64 (x.Read.Lo - y1), w64 (x.Read.Hi - y1)⟩ : api_Span)) rfl rfl rfl (by kernel_rfl) rfl (.cons (.shut (n := 9) rfl) (.cons (.shut (n := 9) rfl) .nil)) ?_
      iterate 2 refine X.dop rfl rfl rfl rfl (by kernel_rfl) rfl rfl ?_
      refine X.dappN (f := e_tide_known) h_5 (fun _ => rfl) (by rfl) (by rfl) (by rfl) (by rfl) (by rfl) (by rfl) (by rfl) (by rfl) (by rfl) (by rfl) (by rfl) (by exact rfl) (by rfl) (by rfl) (by kernel_rfl) (by rfl) (by rfl) ?_
      refine X.dop rfl rfl rfl rfl (by kernel_rfl) rfl rfl ?_
      refine X.dnil ?_
      refine X.norm [(5, (V.fn 85 [(V.fptr [(e_api_Water y.1)] 0 0), (V.fptr [(e_parts y.2)] 0 0)])), (6, (V.osl 3 0 (List.length l2))), (13, (V.sl (List.map e_api_Gauge l))), (14, (V.i (l.length : Int))), (15, (V.i x1))] ?_ rfl (W.sub_cons rfl (W.sub_cons rfl (W.sub_cons rfl (W.sub_cons rfl (W.sub_cons rfl W.sub_nil)))))
      refine GS.endB ?_
      refine GS.region ?_
      refine X.opR rfl (X.addE rfl rfl) rfl ?_
      refine X.opR rfl rfl rfl ?_
      refine GS.opsNil ?_
      have hE := Option.some.inj hM
      exact X.gc [some 3] (hc_2 (w64 (x1 + 1), l2) hE.symm) rfl rfl rfl (gk_cons rfl ⟨9, rfl⟩ (gk_cons rfl (rv_ne (app_ne h_5) rfl) (gk_cons rfl ⟨9, rfl⟩ (gk_cons rfl ⟨9, rfl⟩ (gk_cons rfl ⟨9, rfl⟩ gk_nil))))) (gb_obl' 9 (app_ne h_5) rfl rfl (fun _ => rfl) gb_nil)
    · replace hM := ite_f h_2 hM
      refine GS.exit rfl ?_
      obtain ⟨y_1, hM, hy⟩ := map_of hM
      rw [hr_1 _ hy.symm] at hM
      exact X.gc [some 0] (hj_1 l3 hM) rfl rfl rfl (gk_cons rfl (rn_ovl rfl) gk_nil) (gb_obl 9 rfl rfl (fun _ => rfl) gb_nil)

set_option maxHeartbeats 4000000 in
theorem own_tide_read {w : api_Water} {l : (List api_Gauge)} {r : (List tide_known) × Int} (hM : tide_read w l = some r) : OwnCt Tryz.prog 37 [(e_api_Water w), (V.sl (List.map e_api_Gauge l))] (fun z => (V.tup [(ovlz z 0 r.1), (V.i r.2)])) (fun z => (oblz z 6 e_tide_known r.1)) := by
  refine own_of_gs CC_ok rfl ?_
  unfold tide_read at hM
  refine GS.seq ?_
  refine GS.region ?_
  refine X.opW rfl rfl rfl rfl ?_
  iterate 2 refine X.opR rfl rfl rfl ?_
  refine GS.opsNil ?_
  iterate 2 refine GS.seq ?_
  obtain ⟨y, h_1, hM⟩ := bind_of hM
  refine GS.region ?_
  refine X.opR rfl rfl rfl ?_
  refine X.call (ok_tide_Check h_1) rfl rfl rfl (.cons (.shut (n := 9) rfl) .nil) ?_
  refine X.opR rfl rfl rfl ?_
  refine GS.opsNil ?_
  refine GS.seq ?_
  refine GS.region ?_
  iterate 2 refine X.opR rfl rfl rfl ?_
  refine GS.opsNil ?_
  refine X.cond rfl (fun h_2 => ?_) (fun h_2 => ?_)
  · replace hM := ite_t h_2 hM
    refine GS.seq ?_
    refine GS.region ?_
    iterate 3 refine X.opR rfl rfl rfl ?_
    refine GS.opsNil ?_
    have hE := Option.some.inj hM
    subst hE
    refine X.gc [] (H' := []) (K' := [(4, V.nil), (5, (V.i y))]) ?_ rfl rfl rfl (gk_cons rfl ⟨9, rfl⟩ (gk_cons rfl ⟨9, rfl⟩ gk_nil)) (gb_nil)
    refine GS.pad ?_
    exact GS.ret ⟨true, rfl, rfl⟩
  · replace hM := ite_f h_2 hM
    refine GS.skip ?_
    iterate 2 refine GS.seq ?_
    refine GS.region ?_
    refine X.opR rfl rfl rfl ?_
    refine X.opR rfl (X.lenF rfl rfl rfl) rfl ?_
    refine X.opR rfl rfl rfl ?_
    refine GS.opsNil ?_
    refine X.cond rfl (fun h_3 => ?_) (fun h_3 => ?_)
    · replace hM := ite_t h_3 hM
      refine GS.seq ?_
      refine GS.region ?_
      iterate 2 refine X.opR rfl rfl rfl ?_
      refine GS.opsNil ?_
      have hE := Option.some.inj hM
      subst hE
      refine X.gc [] (H' := []) (K' := [(4, V.nil), (5, (V.i 2))]) ?_ rfl rfl rfl (gk_cons rfl ⟨9, rfl⟩ (gk_cons rfl ⟨9, rfl⟩ gk_nil)) (gb_nil)
      refine GS.pad ?_
      exact GS.ret ⟨true, rfl, rfl⟩
    · replace hM := ite_f h_3 hM
      refine GS.skip ?_
      iterate 2 refine GS.seq ?_
      refine GS.region ?_
      refine X.opR rfl rfl rfl ?_
      refine X.opR rfl (X.lenF rfl rfl rfl) rfl ?_
      refine X.opR rfl rfl rfl ?_
      refine GS.opsNil ?_
      refine X.join (τ := Unit) (fun v => tide_read_j1 w l = some r) (fun v => ⟨[(1, (V.sl (List.map e_api_Gauge l))), (2, (V.ptr 0 0 0))], [.rows 3 [(e_api_Water w)]], 0, none, 64⟩) ?_ ?_
      · intro _ hM
        replace hM : tide_read_j1 w l = some r := hM
        unfold tide_read_j1 at hM
        refine GS.seq ?_
        obtain ⟨y1, h_4, hM⟩ := bind_of hM
        refine GS.region ?_
        iterate 2 refine X.opR rfl rfl rfl ?_
        refine X.own (own_tide_knowns h_4) (fun z_1 => (ovlz z_1 1 y1)) rfl rfl rfl (.cons (.shut (n := 9) rfl) (.cons (.shut (n := 9) rfl) .nil)) rfl (fun _ => ⟨_, (X.rn_ovl rfl)⟩) (fun _ => ⟨_, X.rnB_obl 9 (fun _ => rfl)⟩) (fun z_1 => ?_)
        iterate 2 refine X.opR rfl rfl rfl ?_
        refine GS.opsNil ?_
        have hE := Option.some.inj hM
        subst hE
        refine X.gc [some 1] (H' := [oblz z_1 6 e_tide_known y1]) (K' := [(4, (ovlz z_1 0 y1)), (5, (V.i 0))]) ?_ rfl rfl rfl (gk_cons rfl (rn_ovl rfl) (gk_cons rfl ⟨9, rfl⟩ gk_nil)) (gb_obl 9 rfl rfl (fun _ => rfl) gb_nil)
        exact GS.ret ⟨z_1, rfl, rfl⟩
      · intro hj_1
        refine GS.block ?_
        refine X.gc [some 0] (X.loop (σ := Int) (fun v => ⟨[(1, (V.sl (List.map e_api_Gauge l))), (2, (V.ptr 0 0 0)), (17, (V.sl (List.map e_api_Gauge l))), (18, (V.i (l.length : Int))), (19, (V.i v))], [.rows 3 [(e_api_Water w)]], 0, none, 64⟩) hM ?_ rfl) rfl rfl rfl (gk_cons rfl ⟨9, rfl⟩ (gk_cons rfl ⟨9, rfl⟩ (gk_cons rfl ⟨9, rfl⟩ (gk_cons rfl ⟨9, rfl⟩ (gk_cons rfl ⟨9, rfl⟩ gk_nil))))) (gb_box rfl rfl ⟨9, rfl⟩ gb_nil)
        intro x1 b_1 hM hc_2 hr_1
        rw [tide_read_b2] at hM
        refine GS.seq ?_
        refine GS.region ?_
        refine X.opR rfl rfl rfl ?_
        refine GS.opsNil ?_
        refine GS.seq ?_
        refine X.cond rfl (fun h_5 => ?_) (fun h_5 => ?_)
        · replace hM := ite_t h_5 hM
          refine GS.skip ?_
          refine GS.seq ?_
          refine GS.block ?_
          refine GS.seq ?_
          obtain ⟨x, h_6, hM⟩ := bind_of hM
          refine GS.region ?_
          refine X.opR rfl rfl rfl ?_
          refine X.opR rfl (X.indexF (f := e_api_Gauge) h_6 (fun _ => rfl) rfl rfl rfl rfl) rfl ?_
          refine X.opR rfl (X.loadF h_6 rfl rfl rfl) rfl ?_
          refine X.opW rfl rfl rfl rfl ?_
          refine X.opR rfl rfl rfl ?_
          refine X.op0W rfl rfl rfl ?_
          refine GS.opsNil ?_
          iterate 2 refine GS.seq ?_
          refine GS.region ?_
          refine X.mid [(1, (V.sl (List.map e_api_Gauge l))), (2, (V.ptr 0 0 0)), (7, (V.i x1)), (8, (V.ptr 1 0 0)), (17, (V.sl (List.map e_api_Gauge l))), (18, (V.i (l.length : Int))), (19, (V.i x1)), (54, (V.b (((((!(tide_within x.ID 1 1099511627776)) || (!(tide_minute x.Tick))) || (decide (x.Read.Hi < x.Read.Lo))) || (decide (x.Read.Lo < (-40000)))) || (decide (40000 < x.Read.Hi)))))] ?_ ?_
          · intro hg
            refine X.split (!(tide_within x.ID 1 1099511627776)) (fun h_7 => ?_) (fun h_7 => ?_)
            · iterate 2 refine X.opR rfl rfl rfl ?_
              refine X.call (ok_tide_within x.ID 1 1099511627776) rfl rfl rfl (.cons (.shut (n := 9) rfl) (.cons (.shut (n := 9) rfl) (.cons (.shut (n := 9) rfl) .nil))) ?_
              iterate 2 refine X.opR rfl rfl rfl ?_
              iterate 4 refine X.off (X.off_f rfl rfl rfl h_7) rfl ?_
              refine X.opR rfl (X.pickor_t (y := !(tide_minute x.Tick)) rfl h_7 rfl) rfl ?_
              refine X.opR rfl rfl rfl ?_
              iterate 7 refine X.off (X.off_f rfl rfl rfl (X.or_tt h_7)) rfl ?_
              refine X.opR rfl (X.pickor_t (y := decide (x.Read.Hi < x.Read.Lo)) rfl (X.or_tt h_7) rfl) rfl ?_
              refine X.opR rfl rfl rfl ?_
              iterate 4 refine X.off (X.off_f rfl rfl rfl (X.or_tt (X.or_tt h_7))) rfl ?_
              refine X.opR rfl (X.pickor_t (y := decide (x.Read.Lo < (-40000))) rfl (X.or_tt (X.or_tt h_7)) rfl) rfl ?_
              refine X.opR rfl rfl rfl ?_
              iterate 4 refine X.off (X.off_f rfl rfl rfl (X.or_tt (X.or_tt (X.or_tt h_7)))) rfl ?_
              refine X.opR rfl (X.pickor_t (y := decide (40000 < x.Read.Hi)) rfl (X.or_tt (X.or_tt (X.or_tt h_7))) rfl) rfl ?_
              refine GS.opsNil ?_
              exact X.norm _ hg rfl (W.sub_cons rfl (W.sub_cons rfl (W.sub_cons rfl (W.sub_cons rfl (W.sub_cons rfl (W.sub_cons rfl (W.sub_cons rfl (W.sub_cons rfl W.sub_nil))))))))
            · refine X.split (((!(tide_within x.ID 1 1099511627776)) || (!(tide_minute x.Tick)))) (fun h_8 => ?_) (fun h_8 => ?_)
              · iterate 2 refine X.opR rfl rfl rfl ?_
                refine X.call (ok_tide_within x.ID 1 1099511627776) rfl rfl rfl (.cons (.shut (n := 9) rfl) (.cons (.shut (n := 9) rfl) (.cons (.shut (n := 9) rfl) .nil))) ?_
                iterate 2 refine X.opR rfl rfl rfl ?_
                iterate 2 refine X.opR (X.on_f rfl rfl rfl h_7) rfl rfl ?_
                refine X.call (ok_tide_minute x.Tick) (X.on_f rfl rfl rfl h_7) rfl rfl (.cons (.shut (n := 9) rfl) .nil) ?_
                refine X.opR (X.on_f rfl rfl rfl h_7) rfl rfl ?_
                refine X.opR rfl (X.pickor_f (y := !(tide_minute x.Tick)) rfl h_7 rfl) rfl ?_
                refine X.opR rfl rfl rfl ?_
                iterate 7 refine X.off (X.off_f rfl rfl rfl h_8) rfl ?_
                refine X.opR rfl (X.pickor_t (y := decide (x.Read.Hi < x.Read.Lo)) rfl h_8 rfl) rfl ?_
                refine X.opR rfl rfl rfl ?_
                iterate 4 refine X.off (X.off_f rfl rfl rfl (X.or_tt h_8)) rfl ?_
                refine X.opR rfl (X.pickor_t (y := decide (x.Read.Lo < (-40000))) rfl (X.or_tt h_8) rfl) rfl ?_
                refine X.opR rfl rfl rfl ?_
                iterate 4 refine X.off (X.off_f rfl rfl rfl (X.or_tt (X.or_tt h_8))) rfl ?_
                refine X.opR rfl (X.pickor_t (y := decide (40000 < x.Read.Hi)) rfl (X.or_tt (X.or_tt h_8)) rfl) rfl ?_
                refine GS.opsNil ?_
                exact X.norm _ hg rfl (W.sub_cons rfl (W.sub_cons rfl (W.sub_cons rfl (W.sub_cons rfl (W.sub_cons rfl (W.sub_cons rfl (W.sub_cons rfl (W.sub_cons rfl W.sub_nil))))))))
              · refine X.split ((((!(tide_within x.ID 1 1099511627776)) || (!(tide_minute x.Tick))) || (decide (x.Read.Hi < x.Read.Lo)))) (fun h_9 => ?_) (fun h_9 => ?_)
                · iterate 2 refine X.opR rfl rfl rfl ?_
                  refine X.call (ok_tide_within x.ID 1 1099511627776) rfl rfl rfl (.cons (.shut (n := 9) rfl) (.cons (.shut (n := 9) rfl) (.cons (.shut (n := 9) rfl) .nil))) ?_
                  iterate 2 refine X.opR rfl rfl rfl ?_
                  iterate 2 refine X.opR (X.on_f rfl rfl rfl h_7) rfl rfl ?_
                  refine X.call (ok_tide_minute x.Tick) (X.on_f rfl rfl rfl h_7) rfl rfl (.cons (.shut (n := 9) rfl) .nil) ?_
                  refine X.opR (X.on_f rfl rfl rfl h_7) rfl rfl ?_
                  refine X.opR rfl (X.pickor_f (y := !(tide_minute x.Tick)) rfl h_7 rfl) rfl ?_
                  refine X.opR rfl rfl rfl ?_
                  iterate 7 refine X.opR (X.on_f rfl rfl rfl h_8) rfl rfl ?_
                  refine X.opR rfl (X.pickor_f (y := decide (x.Read.Hi < x.Read.Lo)) rfl h_8 rfl) rfl ?_
                  refine X.opR rfl rfl rfl ?_
                  iterate 4 refine X.off (X.off_f rfl rfl rfl h_9) rfl ?_
                  refine X.opR rfl (X.pickor_t (y := decide (x.Read.Lo < (-40000))) rfl h_9 rfl) rfl ?_
                  refine X.opR rfl rfl rfl ?_
                  iterate 4 refine X.off (X.off_f rfl rfl rfl (X.or_tt h_9)) rfl ?_
                  refine X.opR rfl (X.pickor_t (y := decide (40000 < x.Read.Hi)) rfl (X.or_tt h_9) rfl) rfl ?_
                  refine GS.opsNil ?_
                  exact X.norm _ hg rfl (W.sub_cons rfl (W.sub_cons rfl (W.sub_cons rfl (W.sub_cons rfl (W.sub_cons rfl (W.sub_cons rfl (W.sub_cons rfl (W.sub_cons rfl W.sub_nil))))))))
                · refine X.split (((((!(tide_within x.ID 1 1099511627776)) || (!(tide_minute x.Tick))) || (decide (x.Read.Hi < x.Read.Lo))) || (decide (x.Read.Lo < (-40000))))) (fun h_10 => ?_) (fun h_10 => ?_)
                  · iterate 2 refine X.opR rfl rfl rfl ?_
                    refine X.call (ok_tide_within x.ID 1 1099511627776) rfl rfl rfl (.cons (.shut (n := 9) rfl) (.cons (.shut (n := 9) rfl) (.cons (.shut (n := 9) rfl) .nil))) ?_
                    iterate 2 refine X.opR rfl rfl rfl ?_
                    iterate 2 refine X.opR (X.on_f rfl rfl rfl h_7) rfl rfl ?_
                    refine X.call (ok_tide_minute x.Tick) (X.on_f rfl rfl rfl h_7) rfl rfl (.cons (.shut (n := 9) rfl) .nil) ?_
                    refine X.opR (X.on_f rfl rfl rfl h_7) rfl rfl ?_
                    refine X.opR rfl (X.pickor_f (y := !(tide_minute x.Tick)) rfl h_7 rfl) rfl ?_
                    refine X.opR rfl rfl rfl ?_
                    iterate 7 refine X.opR (X.on_f rfl rfl rfl h_8) rfl rfl ?_
                    refine X.opR rfl (X.pickor_f (y := decide (x.Read.Hi < x.Read.Lo)) rfl h_8 rfl) rfl ?_
                    refine X.opR rfl rfl rfl ?_
                    iterate 4 refine X.opR (X.on_f rfl rfl rfl h_9) rfl rfl ?_
                    refine X.opR rfl (X.pickor_f (y := decide (x.Read.Lo < (-40000))) rfl h_9 rfl) rfl ?_
                    refine X.opR rfl rfl rfl ?_
                    iterate 4 refine X.off (X.off_f rfl rfl rfl h_10) rfl ?_
                    refine X.opR rfl (X.pickor_t (y := decide (40000 < x.Read.Hi)) rfl h_10 rfl) rfl ?_
                    refine GS.opsNil ?_
                    exact X.norm _ hg rfl (W.sub_cons rfl (W.sub_cons rfl (W.sub_cons rfl (W.sub_cons rfl (W.sub_cons rfl (W.sub_cons rfl (W.sub_cons rfl (W.sub_cons rfl W.sub_nil))))))))
                  · iterate 2 refine X.opR rfl rfl rfl ?_
                    refine X.call (ok_tide_within x.ID 1 1099511627776) rfl rfl rfl (.cons (.shut (n := 9) rfl) (.cons (.shut (n := 9) rfl) (.cons (.shut (n := 9) rfl) .nil))) ?_
                    iterate 2 refine X.opR rfl rfl rfl ?_
                    iterate 2 refine X.opR (X.on_f rfl rfl rfl h_7) rfl rfl ?_
                    refine X.call (ok_tide_minute x.Tick) (X.on_f rfl rfl rfl h_7) rfl rfl (.cons (.shut (n := 9) rfl) .nil) ?_
                    refine X.opR (X.on_f rfl rfl rfl h_7) rfl rfl ?_
                    refine X.opR rfl (X.pickor_f (y := !(tide_minute x.Tick)) rfl h_7 rfl) rfl ?_
                    refine X.opR rfl rfl rfl ?_
                    iterate 7 refine X.opR (X.on_f rfl rfl rfl h_8) rfl rfl ?_
                    refine X.opR rfl (X.pickor_f (y := decide (x.Read.Hi < x.Read.Lo)) rfl h_8 rfl) rfl ?_
                    refine X.opR rfl rfl rfl ?_
                    iterate 4 refine X.opR (X.on_f rfl rfl rfl h_9) rfl rfl ?_
                    refine X.opR rfl (X.pickor_f (y := decide (x.Read.Lo < (-40000))) rfl h_9 rfl) rfl ?_
                    refine X.opR rfl rfl rfl ?_
                    iterate 4 refine X.opR (X.on_f rfl rfl rfl h_10) rfl rfl ?_
                    refine X.opR rfl (X.pickor_f (y := decide (40000 < x.Read.Hi)) rfl h_10 rfl) rfl ?_
                    refine GS.opsNil ?_
                    exact X.norm _ hg rfl (W.sub_cons rfl (W.sub_cons rfl (W.sub_cons rfl (W.sub_cons rfl (W.sub_cons rfl (W.sub_cons rfl (W.sub_cons rfl (W.sub_cons rfl W.sub_nil))))))))
          refine X.cond rfl (fun h_11 => ?_) (fun h_11 => ?_)
          · replace hM := ite_t h_11 hM
            refine GS.seq ?_
            refine GS.region ?_
            iterate 2 refine X.opR rfl rfl rfl ?_
            refine GS.opsNil ?_
            have hE := Option.some.inj hM
            replace hE := hr_1 _ hE.symm
            subst hE
            refine X.gc [] (H' := []) (K' := [(4, V.nil), (5, (V.i 1))]) ?_ rfl rfl rfl (gk_cons rfl ⟨9, rfl⟩ (gk_cons rfl ⟨9, rfl⟩ gk_nil)) (gb_nil)
            refine GS.pad ?_
            exact GS.ret ⟨true, rfl, rfl⟩
          · replace hM := ite_f h_11 hM
            refine GS.skip ?_
            refine GS.seq ?_
            obtain ⟨l1, h_12, hM⟩ := bind_of hM
            obtain ⟨y2, h_13, hM⟩ := bind_of hM
            refine GS.region ?_
            iterate 2 refine X.opR rfl rfl rfl ?_
            refine X.opR rfl (X.sliceF (f := e_api_Gauge) h_12 (fun _ => rfl) rfl rfl rfl rfl rfl rfl (X.boundA_int rfl)) rfl ?_
            refine X.opR rfl rfl rfl ?_
            refine X.callF (ok_slices_ContainsFunc_api_Gauge__tide_read_1 h_13) rfl rfl rfl (m := 9) rfl (.cons (.shut (n := 9) rfl) (.cons (FR.arg ⟨30, rfl⟩) .nil)) ?_
            refine GS.opsNil ?_
            refine X.cond rfl (fun h_14 => ?_) (fun h_14 => ?_)
            · replace hM := ite_t h_14 hM
              refine GS.seq ?_
              refine GS.region ?_
              iterate 2 refine X.opR rfl rfl rfl ?_
              refine GS.opsNil ?_
              have hE := Option.some.inj hM
              replace hE := hr_1 _ hE.symm
              subst hE
              refine X.gc [] (H' := []) (K' := [(4, V.nil), (5, (V.i 6))]) ?_ rfl rfl rfl (gk_cons rfl ⟨9, rfl⟩ (gk_cons rfl ⟨9, rfl⟩ gk_nil)) (gb_nil)
              refine GS.pad ?_
              exact GS.ret ⟨true, rfl, rfl⟩
            · replace hM := ite_f h_14 hM
              refine GS.skip ?_
              refine GS.endB ?_
              refine GS.region ?_
              refine X.opR rfl (X.addE rfl rfl) rfl ?_
              refine X.opR rfl rfl rfl ?_
              refine GS.opsNil ?_
              have hE := Option.some.inj hM
              exact X.gc [some 0] (hc_2 (w64 (x1 + 1)) hE.symm) rfl rfl rfl (gk_cons rfl ⟨9, rfl⟩ (gk_cons rfl ⟨9, rfl⟩ (gk_cons rfl ⟨9, rfl⟩ (gk_cons rfl ⟨9, rfl⟩ (gk_cons rfl ⟨9, rfl⟩ gk_nil))))) (gb_box rfl rfl ⟨9, rfl⟩ gb_nil)
        · replace hM := ite_f h_5 hM
          refine GS.exit rfl ?_
          obtain ⟨y_1, hM, hy⟩ := map_of hM
          rw [hr_1 _ hy.symm] at hM
          exact X.gc [some 0] (hj_1 () hM) rfl rfl rfl (gk_cons rfl ⟨9, rfl⟩ (gk_cons rfl ⟨9, rfl⟩ gk_nil)) (gb_box rfl rfl ⟨9, rfl⟩ gb_nil)

abbrev e_Arr_2_int (x : Arr_2_int) : V := .agg [(V.i x.a0), (V.i x.a1)]

theorem by_known : X.SortBy Tryz.prog 47 48 6 e_tide_known lt_known := ⟨⟨encKn, sortKn, fun _ => rfl, encKn_one, fun _ => rfl, encKn_flat⟩, by decide, ltKn_swo, nilKn⟩

end Go.Proofs.YtphmekpaalfliaaGreat
