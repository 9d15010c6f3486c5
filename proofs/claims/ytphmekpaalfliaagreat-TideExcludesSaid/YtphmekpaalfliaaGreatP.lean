/- The program's functions compute the plain ones. Conditions: none. Printed by a program (wip/tools/xg.py). -/
import Derived.Test.YtphmekpaalfliaaGreatP2
set_option linter.unusedVariables false
set_option linter.unusedSimpArgs false
namespace Go.Proofs.YtphmekpaalfliaaGreat
open Go Go.Am Go.Proofs Go.Mx

set_option maxHeartbeats 4000000 in
theorem ok_ref02_Gauged {w : api_Water} {l : (List api_Gauge)} {r : Int} (hM : ref02_Gauged w l = some r) : Ct Tryz.prog 40 [(e_api_Water w), (V.sl (List.map e_api_Gauge l))] (V.i r) := by
  refine ct_of_gs CC_ok rfl ?_
  unfold ref02_Gauged at hM
  refine GS.seq ?_
  refine GS.region ?_
  refine X.opW rfl rfl rfl rfl ?_
  refine X.opR rfl rfl rfl ?_
  refine GS.opsNil ?_
  refine GS.seq ?_
  obtain ⟨y, h_1, hM⟩ := bind_of hM
  refine GS.region ?_
  refine X.opR rfl rfl rfl ?_
  refine X.call (ok_ref02_Check h_1) rfl rfl rfl (.cons (.shut (n := 9) rfl) .nil) ?_
  refine X.opR rfl rfl rfl ?_
  refine GS.opsNil ?_
  iterate 2 refine GS.seq ?_
  refine GS.region ?_
  iterate 2 refine X.opR rfl rfl rfl ?_
  refine GS.opsNil ?_
  refine X.cond rfl (fun h_2 => ?_) (fun h_2 => ?_)
  · replace hM := ite_t h_2 hM
    refine GS.seq ?_
    refine GS.region ?_
    iterate 2 refine X.opR rfl rfl rfl ?_
    refine GS.opsNil ?_
    have hE := Option.some.inj hM
    subst hE
    exact GS.ret ⟨_, rfl, ⟨30, rfl⟩⟩
  · replace hM := ite_f h_2 hM
    refine GS.skip ?_
    iterate 2 refine GS.seq ?_
    refine GS.region ?_
    refine X.opR rfl rfl rfl ?_
    refine X.opR rfl (X.lenF rfl rfl rfl) rfl ?_
    refine X.opR rfl rfl rfl ?_
    refine GS.opsNil ?_
    refine X.cond rfl (fun h_3 => ?_) (fun h_3 => ?_)
    · replace hM := ite_t h_3 hM
      refine GS.seq ?_
      refine GS.region ?_
      refine X.opR rfl rfl rfl ?_
      refine GS.opsNil ?_
      have hE := Option.some.inj hM
      subst hE
      exact GS.ret ⟨_, rfl, ⟨30, rfl⟩⟩
    · replace hM := ite_f h_3 hM
      refine GS.skip ?_
      iterate 2 refine GS.seq ?_
      refine GS.region ?_
      refine X.opR rfl rfl rfl ?_
      refine GS.opsNil ?_
      refine X.join (τ := Unit) (fun v => ref02_Gauged_j1 = some r) (fun v => ⟨[], [], 0, none, 91⟩) ?_ ?_
      · intro _ hM
        replace hM : ref02_Gauged_j1 = some r := hM
        unfold ref02_Gauged_j1 at hM
        refine GS.seq ?_
        refine GS.region ?_
        refine X.opR rfl rfl rfl ?_
        refine GS.opsNil ?_
        have hE := Option.some.inj hM
        subst hE
        exact GS.ret ⟨_, rfl, ⟨30, rfl⟩⟩
      · intro hj_1
        refine GS.block ?_
        refine X.gc [] (X.loop (σ := Int) (fun v => ⟨[(1, (V.sl (List.map e_api_Gauge l))), (6, (V.i v))], [], 0, none, 91⟩) hM ?_ rfl) rfl rfl rfl (gk_cons rfl ⟨9, rfl⟩ (gk_cons rfl ⟨9, rfl⟩ gk_nil)) (gb_nil)
        intro i b_1 hM hc_2 hr_1
        rw [ref02_Gauged_b2] at hM
        iterate 2 refine GS.seq ?_
        refine GS.region ?_
        iterate 2 refine X.opR rfl rfl rfl ?_
        refine X.opR rfl (X.lenF rfl rfl rfl) rfl ?_
        refine X.opR rfl rfl rfl ?_
        refine GS.opsNil ?_
        refine X.cond rfl (fun h_4 => ?_) (fun h_4 => ?_)
        · replace hM := ite_t h_4 hM
          refine GS.skip ?_
          refine GS.seq ?_
          refine GS.block ?_
          refine GS.seq ?_
          obtain ⟨x, h_5, hM⟩ := bind_of hM
          refine GS.region ?_
          iterate 2 refine X.opR rfl rfl rfl ?_
          refine X.opR rfl (X.indexF (f := e_api_Gauge) h_5 (fun _ => rfl) rfl rfl rfl rfl) rfl ?_
          refine X.opR rfl rfl rfl ?_
          refine X.opR rfl (X.loadF h_5 rfl rfl rfl) rfl ?_
          refine X.call (ok_ref02_within x.ID 1 1099511627776) rfl rfl rfl (.cons (.shut (n := 9) rfl) (.cons (.shut (n := 9) rfl) (.cons (.shut (n := 9) rfl) .nil))) ?_
          refine X.opR rfl rfl rfl ?_
          refine GS.opsNil ?_
          refine GS.seq ?_
          obtain ⟨x1, h_6, hM⟩ := bind_of hM
          refine GS.region ?_
          iterate 2 refine X.opR rfl rfl rfl ?_
          refine X.opR rfl (X.indexF (f := e_api_Gauge) h_6 (fun _ => rfl) rfl rfl rfl rfl) rfl ?_
          refine X.opR rfl rfl rfl ?_
          refine X.opR rfl (X.loadF h_6 rfl rfl rfl) rfl ?_
          refine X.call (ok_ref02_within x1.Tick 0 1048576) rfl rfl rfl (.cons (.shut (n := 9) rfl) (.cons (.shut (n := 9) rfl) (.cons (.shut (n := 9) rfl) .nil))) ?_
          refine X.opR rfl rfl rfl ?_
          refine GS.opsNil ?_
          iterate 2 refine GS.seq ?_
          obtain ⟨x2, h_7, hM⟩ := gb_of hM
          obtain ⟨x3, h_8, hM⟩ := gb_of hM
          obtain ⟨x4, h_9, hM⟩ := gb_of hM
          obtain ⟨x5, h_10, hM⟩ := gb_of hM
          refine X.mid [(1, (V.sl (List.map e_api_Gauge l))), (6, (V.i i)), (74, (V.b (((((!(ref02_within x.ID 1 1099511627776)) || (!(ref02_within x1.Tick 0 1048576))) || (decide (x2.Read.Lo < (-40000)))) || (decide (x4.Read.Hi < x3.Read.Lo))) || (decide (40000 < x5.Read.Hi)))))] ?_ ?_
          · intro hg
            refine X.split (!(ref02_within x.ID 1 1099511627776)) (fun h_11 => ?_) (fun h_11 => ?_)
            · refine X.drawc (by kernel_rfl) rfl ?_
              iterate 3 refine X.cop rfl rfl rfl rfl ?_
              iterate 2 refine X.coff (X.off_f rfl rfl rfl h_11) rfl rfl ?_
              refine X.cop rfl (X.pickor_t (y := !(ref02_within x1.Tick 0 1048576)) rfl h_11 rfl) rfl rfl ?_
              refine X.cop rfl rfl rfl rfl ?_
              iterate 7 refine X.coff (X.off_f rfl rfl rfl (X.or_tt h_11)) rfl rfl ?_
              refine X.cop rfl (X.pickor_t (y := decide (x2.Read.Lo < (-40000))) rfl (X.or_tt h_11) rfl) rfl rfl ?_
              refine X.cop rfl rfl rfl rfl ?_
              iterate 13 refine X.coff (X.off_f rfl rfl rfl (X.or_tt (X.or_tt h_11))) rfl rfl ?_
              refine X.cop rfl (X.pickor_t (y := decide (x4.Read.Hi < x3.Read.Lo)) rfl (X.or_tt (X.or_tt h_11)) rfl) rfl rfl ?_
              refine X.cop rfl rfl rfl rfl ?_
              iterate 7 refine X.coff (X.off_f rfl rfl rfl (X.or_tt (X.or_tt (X.or_tt h_11)))) rfl rfl ?_
              refine X.cop rfl (X.pickor_t (y := decide (40000 < x5.Read.Hi)) rfl (X.or_tt (X.or_tt (X.or_tt h_11))) rfl) rfl rfl ?_
              refine X.cnil ?_
              exact X.norm _ hg rfl (W.sub_cons rfl (W.sub_cons rfl (W.sub_cons rfl W.sub_nil)))
            · refine X.split (((!(ref02_within x.ID 1 1099511627776)) || (!(ref02_within x1.Tick 0 1048576)))) (fun h_12 => ?_) (fun h_12 => ?_)
              · refine X.drawc (by kernel_rfl) rfl ?_
                iterate 3 refine X.cop rfl rfl rfl rfl ?_
                iterate 2 refine X.cop (X.on_f rfl rfl rfl h_11) rfl rfl rfl ?_
                refine X.cop rfl (X.pickor_f (y := !(ref02_within x1.Tick 0 1048576)) rfl h_11 rfl) rfl rfl ?_
                refine X.cop rfl rfl rfl rfl ?_
                iterate 7 refine X.coff (X.off_f rfl rfl rfl h_12) rfl rfl ?_
                refine X.cop rfl (X.pickor_t (y := decide (x2.Read.Lo < (-40000))) rfl h_12 rfl) rfl rfl ?_
                refine X.cop rfl rfl rfl rfl ?_
                iterate 13 refine X.coff (X.off_f rfl rfl rfl (X.or_tt h_12)) rfl rfl ?_
                refine X.cop rfl (X.pickor_t (y := decide (x4.Read.Hi < x3.Read.Lo)) rfl (X.or_tt h_12) rfl) rfl rfl ?_
                refine X.cop rfl rfl rfl rfl ?_
                iterate 7 refine X.coff (X.off_f rfl rfl rfl (X.or_tt (X.or_tt h_12))) rfl rfl ?_
                refine X.cop rfl (X.pickor_t (y := decide (40000 < x5.Read.Hi)) rfl (X.or_tt (X.or_tt h_12)) rfl) rfl rfl ?_
                refine X.cnil ?_
                exact X.norm _ hg rfl (W.sub_cons rfl (W.sub_cons rfl (W.sub_cons rfl W.sub_nil)))
              · refine X.split ((((!(ref02_within x.ID 1 1099511627776)) || (!(ref02_within x1.Tick 0 1048576))) || (decide (x2.Read.Lo < (-40000))))) (fun h_13 => ?_) (fun h_13 => ?_)
                · refine X.drawc (by kernel_rfl) rfl ?_
                  iterate 3 refine X.cop rfl rfl rfl rfl ?_
                  iterate 2 refine X.cop (X.on_f rfl rfl rfl h_11) rfl rfl rfl ?_
                  refine X.cop rfl (X.pickor_f (y := !(ref02_within x1.Tick 0 1048576)) rfl h_11 rfl) rfl rfl ?_
                  refine X.cop rfl rfl rfl rfl ?_
                  iterate 2 refine X.cop (X.on_f rfl rfl rfl h_12) rfl rfl rfl ?_
                  refine X.cop (X.on_f rfl rfl rfl h_12) (X.indexF (f := e_api_Gauge) (h_7 (X.nt h_12)) (fun _ => rfl) rfl rfl rfl rfl) rfl rfl ?_
                  iterate 2 refine X.cop (X.on_f rfl rfl rfl h_12) rfl rfl rfl ?_
                  refine X.cop (X.on_f rfl rfl rfl h_12) (X.loadF (h_7 (X.nt h_12)) rfl rfl rfl) rfl rfl ?_
                  refine X.cop (X.on_f rfl rfl rfl h_12) rfl rfl rfl ?_
                  refine X.cop rfl (X.pickor_f (y := decide (x2.Read.Lo < (-40000))) rfl h_12 rfl) rfl rfl ?_
                  refine X.cop rfl rfl rfl rfl ?_
                  iterate 13 refine X.coff (X.off_f rfl rfl rfl h_13) rfl rfl ?_
                  refine X.cop rfl (X.pickor_t (y := decide (x4.Read.Hi < x3.Read.Lo)) rfl h_13 rfl) rfl rfl ?_
                  refine X.cop rfl rfl rfl rfl ?_
                  iterate 7 refine X.coff (X.off_f rfl rfl rfl (X.or_tt h_13)) rfl rfl ?_
                  refine X.cop rfl (X.pickor_t (y := decide (40000 < x5.Read.Hi)) rfl (X.or_tt h_13) rfl) rfl rfl ?_
                  refine X.cnil ?_
                  exact X.norm _ hg rfl (W.sub_cons rfl (W.sub_cons rfl (W.sub_cons rfl W.sub_nil)))
                · refine X.split (((((!(ref02_within x.ID 1 1099511627776)) || (!(ref02_within x1.Tick 0 1048576))) || (decide (x2.Read.Lo < (-40000)))) || (decide (x4.Read.Hi < x3.Read.Lo)))) (fun h_14 => ?_) (fun h_14 => ?_)
                  · refine X.drawc (by kernel_rfl) rfl ?_
                    iterate 3 refine X.cop rfl rfl rfl rfl ?_
                    iterate 2 refine X.cop (X.on_f rfl rfl rfl h_11) rfl rfl rfl ?_
                    refine X.cop rfl (X.pickor_f (y := !(ref02_within x1.Tick 0 1048576)) rfl h_11 rfl) rfl rfl ?_
                    refine X.cop rfl rfl rfl rfl ?_
                    iterate 2 refine X.cop (X.on_f rfl rfl rfl h_12) rfl rfl rfl ?_
                    refine X.cop (X.on_f rfl rfl rfl h_12) (X.indexF (f := e_api_Gauge) (h_7 (X.nt h_12)) (fun _ => rfl) rfl rfl rfl rfl) rfl rfl ?_
                    iterate 2 refine X.cop (X.on_f rfl rfl rfl h_12) rfl rfl rfl ?_
                    refine X.cop (X.on_f rfl rfl rfl h_12) (X.loadF (h_7 (X.nt h_12)) rfl rfl rfl) rfl rfl ?_
                    refine X.cop (X.on_f rfl rfl rfl h_12) rfl rfl rfl ?_
                    refine X.cop rfl (X.pickor_f (y := decide (x2.Read.Lo < (-40000))) rfl h_12 rfl) rfl rfl ?_
                    refine X.cop rfl rfl rfl rfl ?_
                    iterate 2 refine X.cop (X.on_f rfl rfl rfl h_13) rfl rfl rfl ?_
                    refine X.cop (X.on_f rfl rfl rfl h_13) (X.indexF (f := e_api_Gauge) (h_8 (X.nt h_13)) (fun _ => rfl) rfl rfl rfl rfl) rfl rfl ?_
                    iterate 2 refine X.cop (X.on_f rfl rfl rfl h_13) rfl rfl rfl ?_
                    refine X.cop (X.on_f rfl rfl rfl h_13) (X.loadF (h_8 (X.nt h_13)) rfl rfl rfl) rfl rfl ?_
                    iterate 2 refine X.cop (X.on_f rfl rfl rfl h_13) rfl rfl rfl ?_
                    refine X.cop (X.on_f rfl rfl rfl h_13) (X.indexF (f := e_api_Gauge) (h_9 (X.nt h_13)) (fun _ => rfl) rfl rfl rfl rfl) rfl rfl ?_
                    iterate 2 refine X.cop (X.on_f rfl rfl rfl h_13) rfl rfl rfl ?_
                    refine X.cop (X.on_f rfl rfl rfl h_13) (X.loadF (h_9 (X.nt h_13)) rfl rfl rfl) rfl rfl ?_
                    refine X.cop (X.on_f rfl rfl rfl h_13) rfl rfl rfl ?_
                    refine X.cop rfl (X.pickor_f (y := decide (x4.Read.Hi < x3.Read.Lo)) rfl h_13 rfl) rfl rfl ?_
                    refine X.cop rfl rfl rfl rfl ?_
                    iterate 7 refine X.coff (X.off_f rfl rfl rfl h_14) rfl rfl ?_
                    refine X.cop rfl (X.pickor_t (y := decide (40000 < x5.Read.Hi)) rfl h_14 rfl) rfl rfl ?_
                    refine X.cnil ?_
                    exact X.norm _ hg rfl (W.sub_cons rfl (W.sub_cons rfl (W.sub_cons rfl W.sub_nil)))
                  · refine X.drawc (by kernel_rfl) rfl ?_
                    iterate 3 refine X.cop rfl rfl rfl rfl ?_
                    iterate 2 refine X.cop (X.on_f rfl rfl rfl h_11) rfl rfl rfl ?_
                    refine X.cop rfl (X.pickor_f (y := !(ref02_within x1.Tick 0 1048576)) rfl h_11 rfl) rfl rfl ?_
                    refine X.cop rfl rfl rfl rfl ?_
                    iterate 2 refine X.cop (X.on_f rfl rfl rfl h_12) rfl rfl rfl ?_
                    refine X.cop (X.on_f rfl rfl rfl h_12) (X.indexF (f := e_api_Gauge) (h_7 (X.nt h_12)) (fun _ => rfl) rfl rfl rfl rfl) rfl rfl ?_
                    iterate 2 refine X.cop (X.on_f rfl rfl rfl h_12) rfl rfl rfl ?_
                    refine X.cop (X.on_f rfl rfl rfl h_12) (X.loadF (h_7 (X.nt h_12)) rfl rfl rfl) rfl rfl ?_
                    refine X.cop (X.on_f rfl rfl rfl h_12) rfl rfl rfl ?_
                    refine X.cop rfl (X.pickor_f (y := decide (x2.Read.Lo < (-40000))) rfl h_12 rfl) rfl rfl ?_
                    refine X.cop rfl rfl rfl rfl ?_
                    iterate 2 refine X.cop (X.on_f rfl rfl rfl h_13) rfl rfl rfl ?_
                    refine X.cop (X.on_f rfl rfl rfl h_13) (X.indexF (f := e_api_Gauge) (h_8 (X.nt h_13)) (fun _ => rfl) rfl rfl rfl rfl) rfl rfl ?_
                    iterate 2 refine X.cop (X.on_f rfl rfl rfl h_13) rfl rfl rfl ?_
                    refine X.cop (X.on_f rfl rfl rfl h_13) (X.loadF (h_8 (X.nt h_13)) rfl rfl rfl) rfl rfl ?_
                    iterate 2 refine X.cop (X.on_f rfl rfl rfl h_13) rfl rfl rfl ?_
                    refine X.cop (X.on_f rfl rfl rfl h_13) (X.indexF (f := e_api_Gauge) (h_9 (X.nt h_13)) (fun _ => rfl) rfl rfl rfl rfl) rfl rfl ?_
                    iterate 2 refine X.cop (X.on_f rfl rfl rfl h_13) rfl rfl rfl ?_
                    refine X.cop (X.on_f rfl rfl rfl h_13) (X.loadF (h_9 (X.nt h_13)) rfl rfl rfl) rfl rfl ?_
                    refine X.cop (X.on_f rfl rfl rfl h_13) rfl rfl rfl ?_
                    refine X.cop rfl (X.pickor_f (y := decide (x4.Read.Hi < x3.Read.Lo)) rfl h_13 rfl) rfl rfl ?_
                    refine X.cop rfl rfl rfl rfl ?_
                    iterate 2 refine X.cop (X.on_f rfl rfl rfl h_14) rfl rfl rfl ?_
                    refine X.cop (X.on_f rfl rfl rfl h_14) (X.indexF (f := e_api_Gauge) (h_10 (X.nt h_14)) (fun _ => rfl) rfl rfl rfl rfl) rfl rfl ?_
                    iterate 2 refine X.cop (X.on_f rfl rfl rfl h_14) rfl rfl rfl ?_
                    refine X.cop (X.on_f rfl rfl rfl h_14) (X.loadF (h_10 (X.nt h_14)) rfl rfl rfl) rfl rfl ?_
                    refine X.cop (X.on_f rfl rfl rfl h_14) rfl rfl rfl ?_
                    refine X.cop rfl (X.pickor_f (y := decide (40000 < x5.Read.Hi)) rfl h_14 rfl) rfl rfl ?_
                    refine X.cnil ?_
                    exact X.norm _ hg rfl (W.sub_cons rfl (W.sub_cons rfl (W.sub_cons rfl W.sub_nil)))
          refine X.cond rfl (fun h_15 => ?_) (fun h_15 => ?_)
          · replace hM := ite_t h_15 hM
            refine GS.seq ?_
            refine GS.region ?_
            refine X.opR rfl rfl rfl ?_
            refine GS.opsNil ?_
            have hE := Option.some.inj hM
            replace hE := hr_1 _ hE.symm
            subst hE
            exact GS.ret ⟨_, rfl, ⟨30, rfl⟩⟩
          · replace hM := ite_f h_15 hM
            refine GS.skip ?_
            refine GS.seq ?_
            refine GS.region ?_
            refine X.opR rfl rfl rfl ?_
            refine GS.opsNil ?_
            refine X.join (τ := Unit) (fun v => ref02_Gauged_j3 i = some b_1) (fun v => ⟨[(1, (V.sl (List.map e_api_Gauge l))), (6, (V.i i))], [], 0, none, 91⟩) ?_ ?_
            · intro _ hM
              replace hM : ref02_Gauged_j3 i = some b_1 := hM
              unfold ref02_Gauged_j3 at hM
              refine GS.endB ?_
              refine GS.region ?_
              refine X.opR rfl rfl rfl ?_
              refine X.opR rfl (X.addE rfl rfl) rfl ?_
              refine X.opR rfl rfl rfl ?_
              refine GS.opsNil ?_
              have hE := Option.some.inj hM
              exact X.gc [] (hc_2 (w64 (i + 1)) hE.symm) rfl rfl rfl (gk_cons rfl ⟨9, rfl⟩ (gk_cons rfl ⟨9, rfl⟩ gk_nil)) (gb_nil)
            · intro hj_3
              refine GS.block ?_
              refine X.gc [] (X.loop (σ := Int) (fun v => ⟨[(1, (V.sl (List.map e_api_Gauge l))), (6, (V.i i)), (9, (V.i v))], [], 0, none, 91⟩) hM ?_ rfl) rfl rfl rfl (gk_cons rfl ⟨9, rfl⟩ (gk_cons rfl ⟨9, rfl⟩ (gk_cons rfl ⟨9, rfl⟩ gk_nil))) (gb_nil)
              intro k b_2 hM hc_4 hr_2
              rw [ref02_Gauged_b4] at hM
              iterate 2 refine GS.seq ?_
              refine GS.region ?_
              iterate 3 refine X.opR rfl rfl rfl ?_
              refine GS.opsNil ?_
              refine X.cond rfl (fun h_16 => ?_) (fun h_16 => ?_)
              · replace hM := ite_t h_16 hM
                refine GS.skip ?_
                refine GS.seq ?_
                refine GS.block ?_
                refine GS.seq ?_
                obtain ⟨x6, h_17, hM⟩ := bind_of hM
                obtain ⟨x7, h_18, hM⟩ := bind_of hM
                refine X.drawc (by kernel_rfl) rfl ?_
                iterate 2 refine X.cop rfl rfl rfl rfl ?_
                refine X.cop rfl (X.indexF (f := e_api_Gauge) h_17 (fun _ => rfl) rfl rfl rfl rfl) rfl rfl ?_
                refine X.cop rfl rfl rfl rfl ?_
                refine X.cop rfl (X.loadF h_17 rfl rfl rfl) rfl rfl ?_
                iterate 2 refine X.cop rfl rfl rfl rfl ?_
                refine X.cop rfl (X.indexF (f := e_api_Gauge) h_18 (fun _ => rfl) rfl rfl rfl rfl) rfl rfl ?_
                refine X.cop rfl rfl rfl rfl ?_
                refine X.cop rfl (X.loadF h_18 rfl rfl rfl) rfl rfl ?_
                refine X.cop rfl rfl rfl rfl ?_
                refine X.cnil ?_
                refine X.norm [(1, (V.sl (List.map e_api_Gauge l))), (6, (V.i i)), (9, (V.i k)), (90, (V.b (decide (x6.ID = x7.ID))))] ?_ rfl (W.sub_cons rfl (W.sub_cons rfl (W.sub_cons rfl (W.sub_cons rfl W.sub_nil))))
                refine X.cond rfl (fun h_19 => ?_) (fun h_19 => ?_)
                · replace hM := ite_t h_19 hM
                  refine GS.seq ?_
                  refine GS.region ?_
                  refine X.opR rfl rfl rfl ?_
                  refine GS.opsNil ?_
                  have hE := Option.some.inj hM
                  replace hE := hr_2 _ hE.symm
                  replace hE := hr_1 _ hE.symm
                  subst hE
                  exact GS.ret ⟨_, rfl, ⟨30, rfl⟩⟩
                · replace hM := ite_f h_19 hM
                  refine GS.skip ?_
                  refine GS.endB ?_
                  refine GS.region ?_
                  refine X.opR rfl rfl rfl ?_
                  refine X.opR rfl (X.addE rfl rfl) rfl ?_
                  refine X.opR rfl rfl rfl ?_
                  refine GS.opsNil ?_
                  have hE := Option.some.inj hM
                  exact X.gc [] (hc_4 (w64 (k + 1)) hE.symm) rfl rfl rfl (gk_cons rfl ⟨9, rfl⟩ (gk_cons rfl ⟨9, rfl⟩ (gk_cons rfl ⟨9, rfl⟩ gk_nil))) (gb_nil)
              · replace hM := ite_f h_16 hM
                refine GS.exit rfl ?_
                obtain ⟨y_2, hM, hy⟩ := map_of hM
                rw [hr_2 _ hy.symm] at hM
                exact X.gc [] (hj_3 () hM) rfl rfl rfl (gk_cons rfl ⟨9, rfl⟩ (gk_cons rfl ⟨9, rfl⟩ gk_nil)) (gb_nil)
        · replace hM := ite_f h_4 hM
          refine GS.exit rfl ?_
          obtain ⟨y_1, hM, hy⟩ := map_of hM
          rw [hr_1 _ hy.symm] at hM
          exact X.gc [] (hj_1 () hM) rfl rfl rfl (gk_nil) (gb_nil)

abbrev e_ref02_Known (x : ref02_Known) : V := .agg [(V.i x.S.Lo), (V.i x.S.Hi), (V.i x.E)]

theorem ok_ref02_correction {w : api_Water} {tick : Int} {r : Int} (hM : ref02_correction w tick = some r) : Ct Tryz.prog 106 [(e_api_Water w), (V.i tick)] (V.i r) := by
  refine ct_of_gs CC_ok rfl ?_
  unfold ref02_correction at hM
  refine GS.seq ?_
  refine GS.region ?_
  refine X.opW rfl rfl rfl rfl ?_
  refine X.opR rfl rfl rfl ?_
  refine GS.opsNil ?_
  refine GS.seq ?_
  obtain ⟨q, h_1, hM⟩ := bind_of hM
  refine GS.region ?_
  refine X.opR rfl rfl rfl ?_
  refine X.opR rfl (X.quoE h_1 rfl rfl) rfl ?_
  refine X.opR rfl rfl rfl ?_
  refine GS.opsNil ?_
  iterate 2 refine GS.seq ?_
  refine GS.region ?_
  refine X.opR rfl rfl rfl ?_
  refine GS.opsNil ?_
  refine X.join (τ := Unit) (fun v => ref02_correction_j1 = some r) (fun v => ⟨[], [], 0, none, 40⟩) ?_ ?_
  · intro _ hM
    replace hM : ref02_correction_j1 = some r := hM
    unfold ref02_correction_j1 at hM
    refine GS.seq ?_
    refine GS.region ?_
    refine X.opR rfl rfl rfl ?_
    refine GS.opsNil ?_
    have hE := Option.some.inj hM
    subst hE
    exact GS.ret ⟨_, rfl, ⟨30, rfl⟩⟩
  · intro hj_1
    refine GS.block ?_
    refine X.gc [some 0] (X.loop (σ := Int) (fun v => ⟨[(2, (V.ptr 0 0 0)), (5, (V.i q)), (6, (V.i v))], [.rows 3 [(e_api_Water w)]], 0, none, 40⟩) hM ?_ rfl) rfl rfl rfl (gk_cons rfl ⟨9, rfl⟩ (gk_cons rfl ⟨9, rfl⟩ (gk_cons rfl ⟨9, rfl⟩ gk_nil))) (gb_box rfl rfl ⟨9, rfl⟩ gb_nil)
    intro i b_1 hM hc_2 hr_1
    rw [ref02_correction_b2] at hM
    iterate 2 refine GS.seq ?_
    refine GS.region ?_
    iterate 3 refine X.opR rfl rfl rfl ?_
    refine X.opR rfl (X.lenF rfl rfl rfl) rfl ?_
    refine X.opR rfl rfl rfl ?_
    refine GS.opsNil ?_
    refine X.cond rfl (fun h_2 => ?_) (fun h_2 => ?_)
    · replace hM := ite_t h_2 hM
      refine GS.skip ?_
      refine GS.seq ?_
      refine GS.block ?_
      refine GS.seq ?_
      obtain ⟨x, h_3, hM⟩ := bind_of hM
      obtain ⟨x1, h_4, hM⟩ := gb_of hM
      refine GS.region ?_
      refine X.mid [(2, (V.ptr 0 0 0)), (5, (V.i q)), (6, (V.i i)), (33, (V.b ((decide (x.From ≤ q)) && (decide (q ≤ x1.To)))))] ?_ ?_
      · intro hg
        refine X.split (decide (x.From ≤ q)) (fun h_5 => ?_) (fun h_5 => ?_)
        · iterate 3 refine X.opR rfl rfl rfl ?_
          refine X.opR rfl (X.indexF (f := e_api_Shift) h_3 (fun _ => rfl) rfl rfl rfl rfl) rfl ?_
          refine X.opR rfl rfl rfl ?_
          refine X.opR rfl (X.loadF h_3 rfl rfl rfl) rfl ?_
          iterate 3 refine X.opR rfl rfl rfl ?_
          iterate 4 refine X.opR (X.on_t rfl rfl rfl h_5) rfl rfl ?_
          refine X.opR (X.on_t rfl rfl rfl h_5) (X.indexF (f := e_api_Shift) (h_4 h_5) (fun _ => rfl) rfl rfl rfl rfl) rfl ?_
          refine X.opR (X.on_t rfl rfl rfl h_5) rfl rfl ?_
          refine X.opR (X.on_t rfl rfl rfl h_5) (X.loadF (h_4 h_5) rfl rfl rfl) rfl ?_
          refine X.opR (X.on_t rfl rfl rfl h_5) rfl rfl ?_
          refine X.opR rfl (X.pickand_t (y := decide (q ≤ x1.To)) rfl h_5 rfl) rfl ?_
          refine GS.opsNil ?_
          exact X.norm _ hg rfl (W.sub_cons rfl (W.sub_cons rfl (W.sub_cons rfl (W.sub_cons rfl W.sub_nil))))
        · iterate 3 refine X.opR rfl rfl rfl ?_
          refine X.opR rfl (X.indexF (f := e_api_Shift) h_3 (fun _ => rfl) rfl rfl rfl rfl) rfl ?_
          refine X.opR rfl rfl rfl ?_
          refine X.opR rfl (X.loadF h_3 rfl rfl rfl) rfl ?_
          iterate 3 refine X.opR rfl rfl rfl ?_
          iterate 8 refine X.off (X.off_t rfl rfl rfl h_5) rfl ?_
          refine X.opR rfl (X.pickand_f (y := decide (q ≤ x1.To)) rfl h_5 rfl) rfl ?_
          refine GS.opsNil ?_
          exact X.norm _ hg rfl (W.sub_cons rfl (W.sub_cons rfl (W.sub_cons rfl (W.sub_cons rfl W.sub_nil))))
      refine X.cond rfl (fun h_6 => ?_) (fun h_6 => ?_)
      · replace hM := ite_t h_6 hM
        refine GS.seq ?_
        obtain ⟨x2, h_7, hM⟩ := bind_of hM
        refine GS.region ?_
        iterate 3 refine X.opR rfl rfl rfl ?_
        refine X.opR rfl (X.indexF (f := e_api_Shift) h_7 (fun _ => rfl) rfl rfl rfl rfl) rfl ?_
        refine X.opR rfl rfl rfl ?_
        refine X.opR rfl (X.loadF h_7 rfl rfl rfl) rfl ?_
        refine X.opR rfl rfl rfl ?_
        refine GS.opsNil ?_
        have hE := Option.some.inj hM
        replace hE := hr_1 _ hE.symm
        subst hE
        exact GS.ret ⟨_, rfl, ⟨30, rfl⟩⟩
      · replace hM := ite_f h_6 hM
        refine GS.skip ?_
        refine GS.endB ?_
        refine GS.region ?_
        refine X.opR rfl rfl rfl ?_
        refine X.opR rfl (X.addE rfl rfl) rfl ?_
        refine X.opR rfl rfl rfl ?_
        refine GS.opsNil ?_
        have hE := Option.some.inj hM
        exact X.gc [some 0] (hc_2 (w64 (i + 1)) hE.symm) rfl rfl rfl (gk_cons rfl ⟨9, rfl⟩ (gk_cons rfl ⟨9, rfl⟩ (gk_cons rfl ⟨9, rfl⟩ gk_nil))) (gb_box rfl rfl ⟨9, rfl⟩ gb_nil)
    · replace hM := ite_f h_2 hM
      refine GS.exit rfl ?_
      obtain ⟨y_1, hM, hy⟩ := map_of hM
      rw [hr_1 _ hy.symm] at hM
      exact X.gc [] (hj_1 () hM) rfl rfl rfl (gk_nil) (gb_nil)

theorem ok_ref02_floor {a : Int} {b : Int} {r : Int} (hM : ref02_floor a b = some r) : Ct Tryz.prog 124 [(V.i a), (V.i b)] (V.i r) := by
  refine ct_of_gs CC_ok rfl ?_
  unfold ref02_floor at hM
  refine GS.seq ?_
  refine GS.region ?_
  refine X.opR rfl rfl rfl ?_
  refine GS.opsNil ?_
  refine GS.seq ?_
  obtain ⟨q, h_1, hM⟩ := bind_of hM
  refine GS.region ?_
  iterate 2 refine X.opR rfl rfl rfl ?_
  refine X.opR rfl (X.quoE h_1 rfl rfl) rfl ?_
  refine X.opR rfl rfl rfl ?_
  refine GS.opsNil ?_
  iterate 2 refine GS.seq ?_
  obtain ⟨q1, h_2, hM⟩ := bind_of hM
  refine GS.region ?_
  iterate 2 refine X.opR rfl rfl rfl ?_
  refine X.opR rfl (X.remE h_2 rfl rfl) rfl ?_
  refine X.opR rfl rfl rfl ?_
  refine GS.opsNil ?_
  refine X.join (τ := Int) (fun v => ref02_floor_j1 v = some r) (fun v => ⟨[(5, (V.i v))], [], 0, none, 16⟩) ?_ ?_
  · intro q2 hM
    replace hM : ref02_floor_j1 q2 = some r := hM
    unfold ref02_floor_j1 at hM
    refine GS.seq ?_
    refine GS.region ?_
    iterate 2 refine X.opR rfl rfl rfl ?_
    refine GS.opsNil ?_
    have hE := Option.some.inj hM
    subst hE
    exact GS.ret ⟨_, rfl, ⟨30, rfl⟩⟩
  · intro hj_1
    refine X.cond rfl (fun h_3 => ?_) (fun h_3 => ?_)
    · replace hM := ite_t h_3 hM
      refine GS.region ?_
      refine X.opR rfl rfl rfl ?_
      refine X.opR rfl (X.subE rfl rfl) rfl ?_
      refine X.opR rfl rfl rfl ?_
      refine GS.opsNil ?_
      exact X.gc [] (hj_1 (w64 (q - 1)) hM) rfl rfl rfl (gk_cons rfl ⟨9, rfl⟩ gk_nil) (gb_nil)
    · replace hM := ite_f h_3 hM
      refine GS.skip ?_
      exact X.gc [] (hj_1 q hM) rfl rfl rfl (gk_cons rfl ⟨9, rfl⟩ gk_nil) (gb_nil)

theorem ok_ref02_Of {c : api_Cycle} {tick : Int} {r : Int} (hM : ref02_Of c tick = some r) : Ct Tryz.prog 107 [(e_api_Cycle c), (V.i tick)] (V.i r) := by
  refine ct_of_gs CC_ok rfl ?_
  unfold ref02_Of at hM
  refine GS.seq ?_
  refine GS.region ?_
  refine X.opW rfl rfl rfl rfl ?_
  refine X.opR rfl rfl rfl ?_
  refine GS.opsNil ?_
  refine GS.seq ?_
  refine GS.region ?_
  iterate 2 refine X.opR rfl rfl rfl ?_
  refine X.opR rfl (X.lenF rfl rfl rfl) rfl ?_
  refine X.opR rfl rfl rfl ?_
  refine GS.opsNil ?_
  refine GS.seq ?_
  obtain ⟨y, h_1, hM⟩ := bind_of hM
  refine GS.region ?_
  iterate 3 refine X.opR rfl rfl rfl ?_
  refine X.opR rfl (X.subE rfl rfl) rfl ?_
  iterate 2 refine X.opR rfl rfl rfl ?_
  refine X.call (ok_ref02_floor h_1) rfl rfl rfl (.cons (.shut (n := 9) rfl) (.cons (.shut (n := 9) rfl) .nil)) ?_
  refine X.opR rfl rfl rfl ?_
  refine GS.opsNil ?_
  refine GS.seq ?_
  obtain ⟨y1, h_2, hM⟩ := bind_of hM
  obtain ⟨x, h_3, hM⟩ := bind_of hM
  refine X.drawc (by kernel_rfl) rfl ?_
  iterate 5 refine X.cop rfl rfl rfl rfl ?_
  refine X.ccall (ok_ref02_floor h_2) rfl rfl rfl rfl (.cons (.shut (n := 9) rfl) (.cons (.shut (n := 9) rfl) .nil)) ?_
  refine X.cop rfl rfl rfl rfl ?_
  refine X.cop rfl (X.mulE rfl rfl) rfl rfl ?_
  refine X.cop rfl (X.subE rfl rfl) rfl rfl ?_
  refine X.cop rfl (X.indexF (f := V.i) h_3 (fun _ => rfl) rfl rfl rfl rfl) rfl rfl ?_
  refine X.cop rfl (X.loadF h_3 rfl rfl rfl) rfl rfl ?_
  refine X.cop rfl rfl rfl rfl ?_
  refine X.cnil ?_
  refine X.norm [(4, (V.i x))] ?_ rfl (W.sub_cons rfl W.sub_nil)
  have hE := Option.some.inj hM
  subst hE
  exact GS.ret ⟨_, rfl, ⟨30, rfl⟩⟩

theorem ok_ref02_rest {w : api_Water} {tick : Int} {r : Int} (hM : ref02_rest w tick = some r) : Ct Tryz.prog 78 [(e_api_Water w), (V.i tick)] (V.i r) := by
  refine ct_of_gs CC_ok rfl ?_
  unfold ref02_rest at hM
  refine GS.seq ?_
  refine GS.region ?_
  refine X.opW rfl rfl rfl rfl ?_
  refine X.opR rfl rfl rfl ?_
  refine GS.opsNil ?_
  refine GS.seq ?_
  obtain ⟨y, h_1, hM⟩ := bind_of hM
  refine GS.region ?_
  iterate 2 refine X.opR rfl rfl rfl ?_
  refine X.call (ok_ref02_correction h_1) rfl rfl rfl (.cons (.shut (n := 9) rfl) (.cons (.shut (n := 9) rfl) .nil)) ?_
  refine X.opR rfl rfl rfl ?_
  refine GS.opsNil ?_
  iterate 2 refine GS.seq ?_
  refine GS.region ?_
  refine X.opR rfl rfl rfl ?_
  refine GS.opsNil ?_
  refine X.join (τ := Int) (fun v => ref02_rest_j1 v = some r) (fun v => ⟨[(5, (V.i v))], [], 0, none, 27⟩) ?_ ?_
  · intro h hM
    replace hM : ref02_rest_j1 h = some r := hM
    unfold ref02_rest_j1 at hM
    refine GS.seq ?_
    refine GS.region ?_
    iterate 2 refine X.opR rfl rfl rfl ?_
    refine GS.opsNil ?_
    have hE := Option.some.inj hM
    subst hE
    exact GS.ret ⟨_, rfl, ⟨30, rfl⟩⟩
  · intro hj_1
    refine GS.block ?_
    refine X.gc [some 0] (X.loop (σ := (Int × Int)) (fun v => ⟨[(1, (V.i tick)), (2, (V.ptr 0 0 0)), (5, (V.i v.1)), (6, (V.i v.2))], [.rows 3 [(e_api_Water w)]], 0, none, 27⟩) hM ?_ rfl) rfl rfl rfl (gk_cons rfl ⟨9, rfl⟩ (gk_cons rfl ⟨9, rfl⟩ (gk_cons rfl ⟨9, rfl⟩ (gk_cons rfl ⟨9, rfl⟩ gk_nil)))) (gb_box rfl rfl ⟨9, rfl⟩ gb_nil)
    rintro ⟨h1, i⟩ b_1 hM hc_2 hr_1
    rw [ref02_rest_b2] at hM
    iterate 2 refine GS.seq ?_
    refine GS.region ?_
    iterate 3 refine X.opR rfl rfl rfl ?_
    refine X.opR rfl (X.lenF rfl rfl rfl) rfl ?_
    refine X.opR rfl rfl rfl ?_
    refine GS.opsNil ?_
    refine X.cond rfl (fun h_2 => ?_) (fun h_2 => ?_)
    · replace hM := ite_t h_2 hM
      refine GS.skip ?_
      refine GS.seq ?_
      refine GS.block ?_
      obtain ⟨x, h_3, hM⟩ := bind_of hM
      obtain ⟨y1, h_4, hM⟩ := bind_of hM
      refine GS.region ?_
      iterate 4 refine X.opR rfl rfl rfl ?_
      refine X.opR rfl (X.indexF (f := e_api_Cycle) h_3 (fun _ => rfl) rfl rfl rfl rfl) rfl ?_
      refine X.opR rfl (X.loadF h_3 rfl rfl rfl) rfl ?_
      refine X.opR rfl rfl rfl ?_
      refine X.call (ok_ref02_Of h_4) rfl rfl rfl (.cons (.shut (n := 9) rfl) (.cons (.shut (n := 9) rfl) .nil)) ?_
      refine X.opR rfl (X.addE rfl rfl) rfl ?_
      refine X.opR rfl rfl rfl ?_
      refine GS.opsNil ?_
      refine GS.endB ?_
      refine GS.region ?_
      refine X.opR rfl rfl rfl ?_
      refine X.opR rfl (X.addE rfl rfl) rfl ?_
      refine X.opR rfl rfl rfl ?_
      refine GS.opsNil ?_
      have hE := Option.some.inj hM
      exact X.gc [some 0] (hc_2 (w64 (h1 + y1), w64 (i + 1)) hE.symm) rfl rfl rfl (gk_cons rfl ⟨9, rfl⟩ (gk_cons rfl ⟨9, rfl⟩ (gk_cons rfl ⟨9, rfl⟩ (gk_cons rfl ⟨9, rfl⟩ gk_nil)))) (gb_box rfl rfl ⟨9, rfl⟩ gb_nil)
    · replace hM := ite_f h_2 hM
      refine GS.exit rfl ?_
      obtain ⟨y_1, hM, hy⟩ := map_of hM
      rw [hr_1 _ hy.symm] at hM
      exact X.gc [] (hj_1 h1 hM) rfl rfl rfl (gk_cons rfl ⟨9, rfl⟩ gk_nil) (gb_nil)

theorem ok_ref02_agreed {w : api_Water} {g : api_Gauge} {r : api_Span} (hM : ref02_agreed w g = some r) : Ct Tryz.prog 51 [(e_api_Water w), (e_api_Gauge g)] (e_api_Span r) := by
  refine ct_of_gs CC_ok rfl ?_
  unfold ref02_agreed at hM
  refine GS.seq ?_
  refine GS.region ?_
  iterate 3 refine X.opW rfl rfl rfl rfl ?_
  refine GS.opsNil ?_
  refine GS.seq ?_
  obtain ⟨y, h_1, hM⟩ := bind_of hM
  refine GS.region ?_
  iterate 3 refine X.opR rfl rfl rfl ?_
  refine X.call (ok_ref02_rest h_1) rfl rfl rfl (.cons (.shut (n := 9) rfl) (.cons (.shut (n := 9) rfl) .nil)) ?_
  refine X.opR rfl rfl rfl ?_
  refine GS.opsNil ?_
  refine GS.seq ?_
  refine GS.region ?_
  iterate 4 refine X.opR rfl rfl rfl ?_
  refine X.opR rfl (X.subE rfl rfl) rfl ?_
  refine X.opR rfl (X.maxE rfl rfl) rfl ?_
  iterate 4 refine X.opR rfl rfl rfl ?_
  refine X.opR rfl (X.subE rfl rfl) rfl ?_
  refine X.opR rfl (X.minE rfl rfl) rfl ?_
  refine X.opR rfl rfl rfl ?_
  refine X.op0W rfl rfl rfl ?_
  refine GS.opsNil ?_
  have hE := Option.some.inj hM
  subst hE
  exact GS.ret ⟨_, rfl, ⟨30, rfl⟩⟩

theorem ok_ref02_agreedAll {w : api_Water} {l : (List api_Gauge)} {r : api_Span} (hM : ref02_agreedAll w l = some r) : Ct Tryz.prog 41 [(e_api_Water w), (V.sl (List.map e_api_Gauge l))] (e_api_Span r) := by
  refine ct_of_gs CC_ok rfl ?_
  unfold ref02_agreedAll at hM
  refine GS.seq ?_
  refine GS.region ?_
  iterate 2 refine X.opW rfl rfl rfl rfl ?_
  refine GS.opsNil ?_
  refine GS.seq ?_
  refine GS.region ?_
  refine X.opR rfl rfl rfl ?_
  refine X.opW rfl rfl rfl rfl ?_
  refine X.op0W rfl rfl rfl ?_
  refine GS.opsNil ?_
  iterate 2 refine GS.seq ?_
  refine GS.region ?_
  refine X.opR rfl rfl rfl ?_
  refine GS.opsNil ?_
  refine X.join (τ := Int × Int) (fun v => ref02_agreedAll_j1 v.1 v.2 = some r) (fun v => ⟨[(4, (V.ptr 0 0 0)), (5, (V.ptr 1 0 0))], [.rows 2 [(V.agg [(V.i 0), (V.i 0)])], .rows 2 [(V.agg [(V.i v.1), (V.i v.2)])]], 0, none, 33⟩) ?_ ?_
  · rintro ⟨Lo, Hi⟩ hM
    replace hM : ref02_agreedAll_j1 Lo Hi = some r := hM
    unfold ref02_agreedAll_j1 at hM
    refine GS.seq ?_
    refine GS.region ?_
    refine X.opR rfl rfl rfl ?_
    refine X.op0W rfl rfl rfl ?_
    refine GS.opsNil ?_
    have hE := Option.some.inj hM
    subst hE
    exact GS.ret ⟨_, rfl, ⟨30, rfl⟩⟩
  · intro hj_1
    refine GS.block ?_
    refine X.gc [some 0, some 1, some 2] (X.loop (σ := (Int × Int × Int)) (fun v => ⟨[(1, (V.sl (List.map e_api_Gauge l))), (2, (V.ptr 0 0 0)), (4, (V.ptr 1 0 0)), (5, (V.ptr 2 0 0)), (6, (V.i v.1))], [.rows 3 [(e_api_Water w)], .rows 2 [(V.agg [(V.i 0), (V.i 0)])], .rows 2 [(V.agg [(V.i v.2.1), (V.i v.2.2)])]], 0, none, 33⟩) hM ?_ rfl) rfl rfl rfl (gk_cons rfl ⟨9, rfl⟩ (gk_cons rfl ⟨9, rfl⟩ (gk_cons rfl ⟨9, rfl⟩ (gk_cons rfl ⟨9, rfl⟩ (gk_cons rfl ⟨9, rfl⟩ gk_nil))))) (gb_box rfl rfl ⟨9, rfl⟩ (gb_box rfl rfl ⟨9, rfl⟩ (gb_box rfl rfl ⟨9, rfl⟩ gb_nil)))
    rintro ⟨i, Lo1, Hi1⟩ b_1 hM hc_2 hr_1
    rw [ref02_agreedAll_b2] at hM
    iterate 2 refine GS.seq ?_
    refine GS.region ?_
    iterate 2 refine X.opR rfl rfl rfl ?_
    refine X.opR rfl (X.lenF rfl rfl rfl) rfl ?_
    refine X.opR rfl rfl rfl ?_
    refine GS.opsNil ?_
    refine X.cond rfl (fun h_1 => ?_) (fun h_1 => ?_)
    · replace hM := ite_t h_1 hM
      refine GS.skip ?_
      refine GS.seq ?_
      refine GS.block ?_
      refine GS.seq ?_
      obtain ⟨x, h_2, hM⟩ := bind_of hM
      obtain ⟨y, h_3, hM⟩ := bind_of hM
      refine X.draw (by kernel_rfl) ?_
      iterate 3 refine X.dop rfl rfl rfl rfl (by kernel_rfl) rfl rfl ?_
      refine X.dop rfl (X.indexF (f := e_api_Gauge) h_2 (fun _ => rfl) rfl rfl rfl rfl) rfl rfl (by kernel_rfl) rfl rfl ?_
      refine X.dop rfl (X.loadF h_2 rfl rfl rfl) rfl rfl (by kernel_rfl) rfl rfl ?_
      refine X.dcall (ok_ref02_agreed h_3) rfl rfl rfl (by kernel_rfl) rfl (.cons (.shut (n := 9) rfl) (.cons (.shut (n := 9) rfl) .nil)) ?_
      refine X.dop rfl rfl rfl rfl (by kernel_rfl) rfl rfl ?_
      refine X.dop0 rfl rfl rfl rfl (by kernel_rfl) rfl ?_
      refine X.dnil ?_
      refine X.norm [(1, (V.sl (List.map e_api_Gauge l))), (2, (V.ptr 0 0 0)), (4, (V.ptr 1 0 0)), (5, (V.ptr 2 0 0)), (6, (V.i i)), (7, (V.ptr 3 0 0))] ?_ rfl (W.sub_cons rfl (W.sub_cons rfl (W.sub_cons rfl (W.sub_cons rfl (W.sub_cons rfl (W.sub_cons rfl W.sub_nil))))))
      refine GS.region ?_
      iterate 4 refine X.opR rfl rfl rfl ?_
      refine X.opR rfl (X.maxE rfl rfl) rfl ?_
      iterate 4 refine X.opR rfl rfl rfl ?_
      refine X.opR rfl (X.minE rfl rfl) rfl ?_
      refine X.opR rfl rfl rfl ?_
      refine X.op0W (H' := [.rows 3 [(e_api_Water w)], .rows 2 [(V.agg [(V.i 0), (V.i 0)])], .rows 2 [(V.agg [(V.i (max Lo1 y.Lo)), (V.i (min Hi1 y.Hi))])], .rows 2 [(e_api_Span y)]]) rfl rfl rfl ?_
      refine GS.opsNil ?_
      refine GS.endB ?_
      refine GS.region ?_
      refine X.opR rfl rfl rfl ?_
      refine X.opR rfl (X.addE rfl rfl) rfl ?_
      refine X.opR rfl rfl rfl ?_
      refine GS.opsNil ?_
      have hE := Option.some.inj hM
      exact X.gc [some 0, some 1, some 2] (hc_2 (w64 (i + 1), max Lo1 y.Lo, min Hi1 y.Hi) hE.symm) rfl rfl rfl (gk_cons rfl ⟨9, rfl⟩ (gk_cons rfl ⟨9, rfl⟩ (gk_cons rfl ⟨9, rfl⟩ (gk_cons rfl ⟨9, rfl⟩ (gk_cons rfl ⟨9, rfl⟩ gk_nil))))) (gb_box rfl rfl ⟨9, rfl⟩ (gb_box rfl rfl ⟨9, rfl⟩ (gb_box rfl rfl ⟨9, rfl⟩ gb_nil)))
    · replace hM := ite_f h_1 hM
      refine GS.exit rfl ?_
      obtain ⟨y_1, hM, hy⟩ := map_of hM
      rw [hr_1 _ hy.symm] at hM
      exact X.gc [some 1, some 2] (hj_1 (Lo1, Hi1) hM) rfl rfl rfl (gk_cons rfl ⟨9, rfl⟩ (gk_cons rfl ⟨9, rfl⟩ gk_nil)) (gb_box rfl rfl ⟨9, rfl⟩ (gb_box rfl rfl ⟨9, rfl⟩ gb_nil))

theorem ok_ref02_Levels {w : api_Water} {l : (List api_Gauge)} {r : ref02_Known} (hM : ref02_Levels w l = some r) : Ct Tryz.prog 13 [(e_api_Water w), (V.sl (List.map e_api_Gauge l))] (e_ref02_Known r) := by
  refine ct_of_gs CC_ok rfl ?_
  unfold ref02_Levels at hM
  refine GS.seq ?_
  refine GS.region ?_
  iterate 2 refine X.opW rfl rfl rfl rfl ?_
  refine GS.opsNil ?_
  refine GS.seq ?_
  obtain ⟨y, h_1, hM⟩ := bind_of hM
  refine GS.region ?_
  iterate 2 refine X.opR rfl rfl rfl ?_
  refine X.call (ok_ref02_Gauged h_1) rfl rfl rfl (.cons (.shut (n := 9) rfl) (.cons (.shut (n := 9) rfl) .nil)) ?_
  refine X.opR rfl rfl rfl ?_
  refine GS.opsNil ?_
  iterate 2 refine GS.seq ?_
  refine GS.region ?_
  iterate 2 refine X.opR rfl rfl rfl ?_
  refine GS.opsNil ?_
  refine X.cond rfl (fun h_2 => ?_) (fun h_2 => ?_)
  · replace hM := ite_t h_2 hM
    refine GS.seq ?_
    refine GS.region ?_
    iterate 2 refine X.opR rfl rfl rfl ?_
    refine X.op0W rfl rfl rfl ?_
    refine GS.opsNil ?_
    have hE := Option.some.inj hM
    subst hE
    exact GS.ret ⟨_, rfl, ⟨30, rfl⟩⟩
  · replace hM := ite_f h_2 hM
    refine GS.skip ?_
    refine GS.seq ?_
    obtain ⟨y1, h_3, hM⟩ := bind_of hM
    refine GS.region ?_
    iterate 2 refine X.opR rfl rfl rfl ?_
    refine X.call (ok_ref02_agreedAll h_3) rfl rfl rfl (.cons (.shut (n := 9) rfl) (.cons (.shut (n := 9) rfl) .nil)) ?_
    refine X.opW rfl rfl rfl rfl ?_
    refine X.op0W rfl rfl rfl ?_
    refine GS.opsNil ?_
    iterate 2 refine GS.seq ?_
    refine GS.region ?_
    iterate 5 refine X.opR rfl rfl rfl ?_
    refine GS.opsNil ?_
    refine X.cond rfl (fun h_4 => ?_) (fun h_4 => ?_)
    · replace hM := ite_t h_4 hM
      refine GS.seq ?_
      refine GS.region ?_
      refine X.opR rfl rfl rfl ?_
      refine X.op0W rfl rfl rfl ?_
      refine GS.opsNil ?_
      have hE := Option.some.inj hM
      subst hE
      exact GS.ret ⟨_, rfl, ⟨30, rfl⟩⟩
    · replace hM := ite_f h_4 hM
      refine GS.skip ?_
      refine GS.seq ?_
      refine GS.region ?_
      iterate 2 refine X.opR rfl rfl rfl ?_
      refine X.op0W rfl rfl rfl ?_
      refine GS.opsNil ?_
      have hE := Option.some.inj hM
      subst hE
      exact GS.ret ⟨_, rfl, ⟨30, rfl⟩⟩

abbrev e_ref02_Ints (x : ref02_Ints) : V := .agg [(V.sl (List.map V.i x.L)), (V.i x.E)]

theorem ok_ref02_less {w : api_Water} {i : Int} {r : api_Water} (hM : ref02_less w i = some r) : Ct Tryz.prog 35 [(e_api_Water w), (V.i i)] (e_api_Water r) := by
  refine ct_of_gs CC_ok rfl ?_
  unfold ref02_less at hM
  refine GS.seq ?_
  refine GS.region ?_
  iterate 2 refine X.opW rfl rfl rfl rfl ?_
  refine GS.opsNil ?_
  refine GS.seq ?_
  obtain ⟨l, h_1, hM⟩ := bind_of hM
  obtain ⟨l1, h_2, hM⟩ := bind_of hM
  obtain ⟨l2, h_3, hM⟩ := bind_of hM
  obtain ⟨l3, h_4, hM⟩ := bind_of hM
  refine X.draw (by kernel_rfl) ?_
  iterate 4 refine X.dop rfl rfl rfl rfl (by kernel_rfl) rfl rfl ?_
  refine X.dop rfl (X.sliceF (f := e_api_Cycle) h_1 (fun _ => rfl) rfl rfl rfl rfl rfl rfl (X.boundA_int rfl)) rfl rfl (by kernel_rfl) rfl rfl ?_
  refine X.dop rfl (X.appO (f := e_api_Cycle) h_2 (fun _ => rfl) rfl rfl rfl rfl rfl rfl rfl rfl rfl rfl) rfl rfl (by kernel_rfl) rfl rfl ?_
  iterate 3 refine X.dop rfl rfl rfl rfl (by kernel_rfl) rfl rfl ?_
  refine X.dop rfl (X.addE rfl rfl) rfl rfl (by kernel_rfl) rfl rfl ?_
  refine X.dop rfl (X.sliceF (f := e_api_Cycle) h_3 (fun _ => rfl) rfl rfl rfl rfl rfl (X.boundA_int rfl) rfl) rfl rfl (by kernel_rfl) rfl rfl ?_
  refine X.dop rfl (X.appO (f := e_api_Cycle) h_4 (fun _ => rfl) rfl rfl rfl rfl rfl rfl rfl rfl rfl rfl) rfl rfl (by kernel_rfl) rfl rfl ?_
  refine X.dop rfl rfl rfl rfl (by kernel_rfl) rfl rfl ?_
  refine X.dop0 rfl rfl rfl rfl (by kernel_rfl) rfl ?_
  refine X.dnil ?_
  refine X.norm [(2, (V.ptr 0 0 0)), (4, (V.ptr 1 0 0))] ?_ rfl (W.sub_cons rfl (W.sub_cons rfl W.sub_nil))
  refine GS.seq ?_
  refine GS.region ?_
  refine X.opR rfl rfl rfl ?_
  refine X.op0W (H' := [.rows 3 [(V.agg [(V.i w.Level), (V.osl 4 0 (List.length l3)), (V.sl (List.map e_api_Shift w.Shifts))])], .rows 3 [(V.agg [(V.i w.Level), (V.osl 4 0 (List.length l3)), (V.sl (List.map e_api_Shift w.Shifts))])], .dead, .dead, .rows 4 (List.map e_api_Cycle l3)]) rfl rfl rfl ?_
  refine GS.opsNil ?_
  have hE := Option.some.inj hM
  subst hE
  exact GS.ret ⟨_, rfl, FR.agg (.cons ⟨30, rfl⟩ (.cons (FR.osl (f := e_api_Cycle) (l := l3) 9 rfl rfl (fun _ => rfl)) (.cons ⟨30, rfl⟩ .nil)))⟩

theorem ok_ref02_some {w : api_Water} {l : (List api_Gauge)} {r : Bool} (hM : ref02_some w l = some r) : Ct Tryz.prog 34 [(e_api_Water w), (V.sl (List.map e_api_Gauge l))] (V.b r) := by
  refine ct_of_gs CC_ok rfl ?_
  unfold ref02_some at hM
  refine GS.seq ?_
  refine GS.region ?_
  refine X.opW rfl rfl rfl rfl ?_
  refine X.opR rfl rfl rfl ?_
  refine GS.opsNil ?_
  refine GS.seq ?_
  obtain ⟨y, h_1, hM⟩ := bind_of hM
  refine GS.region ?_
  iterate 2 refine X.opR rfl rfl rfl ?_
  refine X.call (ok_ref02_agreedAll h_1) rfl rfl rfl (.cons (.shut (n := 9) rfl) (.cons (.shut (n := 9) rfl) .nil)) ?_
  refine X.opW rfl rfl rfl rfl ?_
  refine X.op0W rfl rfl rfl ?_
  refine GS.opsNil ?_
  refine GS.seq ?_
  refine GS.region ?_
  iterate 6 refine X.opR rfl rfl rfl ?_
  refine GS.opsNil ?_
  have hE := Option.some.inj hM
  subst hE
  exact GS.ret ⟨_, rfl, ⟨30, rfl⟩⟩

theorem ok_ref02_add {l : (List Int)} {n : Int} {r : (List Int)} (hM : ref02_add l n = some r) : Ct Tryz.prog 36 [(V.sl (List.map V.i l)), (V.i n)] (V.sl (List.map V.i r)) := by
  refine ct_of_gs CC_ok rfl ?_
  unfold ref02_add at hM
  refine GS.seq ?_
  refine GS.region ?_
  refine X.opR rfl rfl rfl ?_
  refine GS.opsNil ?_
  refine GS.seq ?_
  refine GS.region ?_
  refine X.opR rfl rfl rfl ?_
  refine GS.opsNil ?_
  refine GS.seq ?_
  refine X.join (τ := Int) (fun v => ref02_add_j1 l n v = some r) (fun v => ⟨[(0, (V.sl (List.map V.i l))), (1, (V.i n)), (5, (V.i v))], [], 0, none, 32⟩) ?_ ?_
  · intro at_ hM
    replace hM : ref02_add_j1 l n at_ = some r := hM
    unfold ref02_add_j1 at hM
    refine GS.seq ?_
    obtain ⟨l1, h_1, hM⟩ := bind_of hM
    obtain ⟨l2, h_2, hM⟩ := bind_of hM
    obtain ⟨l3, h_3, hM⟩ := bind_of hM
    obtain ⟨l4, h_4, hM⟩ := bind_of hM
    obtain ⟨l5, h_5, hM⟩ := bind_of hM
    refine X.draw (by kernel_rfl) ?_
    iterate 3 refine X.dop rfl rfl rfl rfl (by kernel_rfl) rfl rfl ?_
    refine X.dop rfl (X.sliceF (f := V.i) h_1 (fun _ => rfl) rfl rfl rfl rfl rfl rfl (X.boundA_int rfl)) rfl rfl (by kernel_rfl) rfl rfl ?_
    refine X.dop rfl (X.appO (f := V.i) h_2 (fun _ => rfl) rfl rfl rfl rfl rfl rfl rfl rfl rfl rfl) rfl rfl (by kernel_rfl) rfl rfl ?_
    iterate 2 refine X.dop rfl rfl rfl rfl (by kernel_rfl) rfl rfl ?_
    refine X.dop rfl (X.appO (f := V.i) h_3 (fun _ => rfl) rfl rfl rfl rfl rfl rfl rfl rfl rfl rfl) rfl rfl (by kernel_rfl) rfl rfl ?_
    iterate 2 refine X.dop rfl rfl rfl rfl (by kernel_rfl) rfl rfl ?_
    refine X.dop rfl (X.sliceF (f := V.i) h_4 (fun _ => rfl) rfl rfl rfl rfl rfl (X.boundA_int rfl) rfl) rfl rfl (by kernel_rfl) rfl rfl ?_
    refine X.dop rfl (X.appO (f := V.i) h_5 (fun _ => rfl) rfl rfl rfl rfl rfl rfl rfl rfl rfl rfl) rfl rfl (by kernel_rfl) rfl rfl ?_
    refine X.dop rfl rfl rfl rfl (by kernel_rfl) rfl rfl ?_
    refine X.dnil ?_
    refine X.norm [(4, (V.osl 4 0 (List.length l5)))] ?_ rfl (W.sub_cons rfl W.sub_nil)
    have hE := Option.some.inj hM
    subst hE
    exact GS.ret ⟨_, rfl, FR.osl (f := V.i) (l := l5) 9 rfl rfl (fun _ => rfl)⟩
  · intro hj_1
    refine GS.block ?_
    refine X.gc [] (X.loop (σ := Int) (fun v => ⟨[(0, (V.sl (List.map V.i l))), (1, (V.i n)), (5, (V.i v))], [], 0, none, 32⟩) hM ?_ rfl) rfl rfl rfl (gk_cons rfl ⟨9, rfl⟩ (gk_cons rfl ⟨9, rfl⟩ (gk_cons rfl ⟨9, rfl⟩ gk_nil))) (gb_nil)
    intro at_1 b_1 hM hc_2 hr_1
    rw [ref02_add_b2] at hM
    iterate 2 refine GS.seq ?_
    obtain ⟨x, h_6, hM⟩ := gb_of hM
    refine GS.region ?_
    refine X.mid [(0, (V.sl (List.map V.i l))), (1, (V.i n)), (5, (V.i at_1)), (17, (V.b ((decide (at_1 < (l.length : Int))) && (decide (x < n)))))] ?_ ?_
    · intro hg
      refine X.split (decide (at_1 < (l.length : Int))) (fun h_7 => ?_) (fun h_7 => ?_)
      · iterate 2 refine X.opR rfl rfl rfl ?_
        refine X.opR rfl (X.lenF rfl rfl rfl) rfl ?_
        iterate 2 refine X.opR rfl rfl rfl ?_
        iterate 2 refine X.opR (X.on_t rfl rfl rfl h_7) rfl rfl ?_
        refine X.opR (X.on_t rfl rfl rfl h_7) (X.indexF (f := V.i) (h_6 h_7) (fun _ => rfl) rfl rfl rfl rfl) rfl ?_
        refine X.opR (X.on_t rfl rfl rfl h_7) (X.loadF (h_6 h_7) rfl rfl rfl) rfl ?_
        iterate 2 refine X.opR (X.on_t rfl rfl rfl h_7) rfl rfl ?_
        refine X.opR rfl (X.pickand_t (y := decide (x < n)) rfl h_7 rfl) rfl ?_
        refine GS.opsNil ?_
        exact X.norm _ hg rfl (W.sub_cons rfl (W.sub_cons rfl (W.sub_cons rfl (W.sub_cons rfl W.sub_nil))))
      · iterate 2 refine X.opR rfl rfl rfl ?_
        refine X.opR rfl (X.lenF rfl rfl rfl) rfl ?_
        iterate 2 refine X.opR rfl rfl rfl ?_
        iterate 6 refine X.off (X.off_t rfl rfl rfl h_7) rfl ?_
        refine X.opR rfl (X.pickand_f (y := decide (x < n)) rfl h_7 rfl) rfl ?_
        refine GS.opsNil ?_
        exact X.norm _ hg rfl (W.sub_cons rfl (W.sub_cons rfl (W.sub_cons rfl (W.sub_cons rfl W.sub_nil))))
    refine X.cond rfl (fun h_8 => ?_) (fun h_8 => ?_)
    · replace hM := ite_t h_8 hM
      refine GS.skip ?_
      refine GS.block ?_
      refine GS.region ?_
      refine X.opR rfl rfl rfl ?_
      refine X.opR rfl (X.addE rfl rfl) rfl ?_
      refine X.opR rfl rfl rfl ?_
      refine GS.opsNil ?_
      refine GS.endB ?_
      have hE := Option.some.inj hM
      exact X.gc [] (hc_2 (w64 (at_1 + 1)) hE.symm) rfl rfl rfl (gk_cons rfl ⟨9, rfl⟩ (gk_cons rfl ⟨9, rfl⟩ (gk_cons rfl ⟨9, rfl⟩ gk_nil))) (gb_nil)
    · replace hM := ite_f h_8 hM
      refine GS.exit rfl ?_
      obtain ⟨y_1, hM, hy⟩ := map_of hM
      rw [hr_1 _ hy.symm] at hM
      exact X.gc [] (hj_1 at_1 hM) rfl rfl rfl (gk_cons rfl ⟨9, rfl⟩ (gk_cons rfl ⟨9, rfl⟩ (gk_cons rfl ⟨9, rfl⟩ gk_nil))) (gb_nil)

theorem ok_ref02_Shown {w : api_Water} {l : (List api_Gauge)} {r : ref02_Ints} (hM : ref02_Shown w l = some r) : Ct Tryz.prog 8 [(e_api_Water w), (V.sl (List.map e_api_Gauge l))] (e_ref02_Ints r) := by
  refine ct_of_gs CC_ok rfl ?_
  unfold ref02_Shown at hM
  refine GS.seq ?_
  refine GS.region ?_
  iterate 2 refine X.opW rfl rfl rfl rfl ?_
  refine GS.opsNil ?_
  refine GS.seq ?_
  obtain ⟨y, h_1, hM⟩ := bind_of hM
  refine GS.region ?_
  iterate 2 refine X.opR rfl rfl rfl ?_
  refine X.call (ok_ref02_Levels h_1) rfl rfl rfl (.cons (.shut (n := 9) rfl) (.cons (.shut (n := 9) rfl) .nil)) ?_
  refine X.opW rfl rfl rfl rfl ?_
  refine X.op0W rfl rfl rfl ?_
  refine GS.opsNil ?_
  iterate 2 refine GS.seq ?_
  refine GS.region ?_
  iterate 3 refine X.opR rfl rfl rfl ?_
  refine GS.opsNil ?_
  refine X.cond rfl (fun h_2 => ?_) (fun h_2 => ?_)
  · replace hM := ite_t h_2 hM
    refine GS.seq ?_
    refine GS.region ?_
    iterate 3 refine X.opR rfl rfl rfl ?_
    refine X.op0W rfl rfl rfl ?_
    refine GS.opsNil ?_
    have hE := Option.some.inj hM
    subst hE
    exact GS.ret ⟨_, rfl, ⟨30, rfl⟩⟩
  · replace hM := ite_f h_2 hM
    refine GS.skip ?_
    refine GS.seq ?_
    refine GS.region ?_
    refine X.opR rfl rfl rfl ?_
    refine GS.opsNil ?_
    iterate 2 refine GS.seq ?_
    refine GS.region ?_
    refine X.opR rfl rfl rfl ?_
    refine GS.opsNil ?_
    refine X.join (τ := (List Int)) (fun v => ref02_Shown_j1 v = some r) (fun v => ⟨[(4, (V.ptr 0 0 0)), (6, (V.sl (List.map V.i v)))], [.rows 2 [(V.agg [V.nil, (V.i 0)])]], 0, none, 42⟩) ?_ ?_
    · intro out hM
      replace hM : ref02_Shown_j1 out = some r := hM
      unfold ref02_Shown_j1 at hM
      refine GS.seq ?_
      refine GS.region ?_
      iterate 2 refine X.opR rfl rfl rfl ?_
      refine X.op0W rfl rfl rfl ?_
      refine GS.opsNil ?_
      have hE := Option.some.inj hM
      subst hE
      exact GS.ret ⟨_, rfl, ⟨30, rfl⟩⟩
    · intro hj_1
      refine GS.block ?_
      refine X.gc [some 0, some 1] (X.loop (σ := ((List Int) × Int)) (fun v => ⟨[(1, (V.sl (List.map e_api_Gauge l))), (2, (V.ptr 0 0 0)), (4, (V.ptr 1 0 0)), (6, (V.sl (List.map V.i v.1))), (7, (V.i v.2))], [.rows 3 [(e_api_Water w)], .rows 2 [(V.agg [V.nil, (V.i 0)])]], 0, none, 42⟩) hM ?_ rfl) rfl rfl rfl (gk_cons rfl ⟨9, rfl⟩ (gk_cons rfl ⟨9, rfl⟩ (gk_cons rfl ⟨9, rfl⟩ (gk_thin 9 rfl rfl ⟨9, rfl⟩ (gk_cons rfl ⟨9, rfl⟩ gk_nil))))) (gb_box rfl rfl ⟨9, rfl⟩ (gb_box rfl rfl ⟨9, rfl⟩ gb_nil))
      rintro ⟨out2, i⟩ b_1 hM hc_2 hr_1
      rw [ref02_Shown_b2] at hM
      iterate 2 refine GS.seq ?_
      refine GS.region ?_
      iterate 3 refine X.opR rfl rfl rfl ?_
      refine X.opR rfl (X.lenF rfl rfl rfl) rfl ?_
      refine X.opR rfl rfl rfl ?_
      refine GS.opsNil ?_
      refine X.cond rfl (fun h_3 => ?_) (fun h_3 => ?_)
      · replace hM := ite_t h_3 hM
        refine GS.skip ?_
        refine GS.seq ?_
        refine X.join (τ := (List Int)) (fun v => ref02_Shown_j3 i v = some b_1) (fun v => ⟨[(1, (V.sl (List.map e_api_Gauge l))), (2, (V.ptr 0 0 0)), (4, (V.ptr 1 0 0)), (6, (V.sl (List.map V.i v))), (7, (V.i i))], [.rows 3 [(e_api_Water w)], .rows 2 [(V.agg [V.nil, (V.i 0)])]], 0, none, 42⟩) ?_ ?_
        · intro out1 hM
          replace hM : ref02_Shown_j3 i out1 = some b_1 := hM
          unfold ref02_Shown_j3 at hM
          refine GS.region ?_
          refine X.opR rfl rfl rfl ?_
          refine X.opR rfl (X.addE rfl rfl) rfl ?_
          refine X.opR rfl rfl rfl ?_
          refine GS.opsNil ?_
          have hE := Option.some.inj hM
          exact X.gc [some 0, some 1] (hc_2 (out1, w64 (i + 1)) hE.symm) rfl rfl rfl (gk_cons rfl ⟨9, rfl⟩ (gk_cons rfl ⟨9, rfl⟩ (gk_cons rfl ⟨9, rfl⟩ (gk_cons rfl ⟨9, rfl⟩ (gk_cons rfl ⟨9, rfl⟩ gk_nil))))) (gb_box rfl rfl ⟨9, rfl⟩ (gb_box rfl rfl ⟨9, rfl⟩ gb_nil))
        · intro hj_3
          refine GS.block ?_
          refine GS.seq ?_
          obtain ⟨y1, h_4, hM⟩ := bind_of hM
          obtain ⟨y2, h_5, hM⟩ := bind_of hM
          refine GS.region ?_
          iterate 2 refine X.opR rfl rfl rfl ?_
          refine X.call (ok_ref02_less h_4) rfl rfl rfl (.cons (.shut (n := 9) rfl) (.cons (.shut (n := 9) rfl) .nil)) ?_
          refine X.opR rfl rfl rfl ?_
          refine X.call (ok_ref02_some h_5) rfl rfl rfl (.cons (.shut (n := 9) rfl) (.cons (.shut (n := 9) rfl) .nil)) ?_
          refine X.opR rfl rfl rfl ?_
          refine GS.opsNil ?_
          refine GS.seq ?_
          refine GS.region ?_
          iterate 2 refine X.opR rfl rfl rfl ?_
          refine GS.opsNil ?_
          refine X.cond rfl (fun h_6 => ?_) (fun h_6 => ?_)
          · replace hM := ite_t h_6 hM
            obtain ⟨x, h_7, hM⟩ := bind_of hM
            obtain ⟨y3, h_8, hM⟩ := bind_of hM
            refine GS.region ?_
            iterate 4 refine X.opR rfl rfl rfl ?_
            refine X.opR rfl (X.indexF (f := e_api_Cycle) h_7 (fun _ => rfl) rfl rfl rfl rfl) rfl ?_
            refine X.opR rfl rfl rfl ?_
            refine X.opR rfl (X.loadF h_7 rfl rfl rfl) rfl ?_
            refine X.call (ok_ref02_add h_8) rfl rfl rfl (.cons (.shut (n := 9) rfl) (.cons (.shut (n := 9) rfl) .nil)) ?_
            refine X.opR rfl rfl rfl ?_
            refine GS.opsNil ?_
            refine GS.endB ?_
            exact X.gc [some 0, some 1] (hj_3 y3 hM) rfl rfl rfl (gk_cons rfl ⟨9, rfl⟩ (gk_cons rfl ⟨9, rfl⟩ (gk_cons rfl ⟨9, rfl⟩ (gk_cons rfl ⟨9, rfl⟩ (gk_cons rfl ⟨9, rfl⟩ gk_nil))))) (gb_box rfl rfl ⟨9, rfl⟩ (gb_box rfl rfl ⟨9, rfl⟩ gb_nil))
          · replace hM := ite_f h_6 hM
            refine GS.skip ?_
            refine GS.endB ?_
            exact X.gc [some 0, some 1] (hj_3 out2 hM) rfl rfl rfl (gk_cons rfl ⟨9, rfl⟩ (gk_cons rfl ⟨9, rfl⟩ (gk_cons rfl ⟨9, rfl⟩ (gk_cons rfl ⟨9, rfl⟩ (gk_cons rfl ⟨9, rfl⟩ gk_nil))))) (gb_box rfl rfl ⟨9, rfl⟩ (gb_box rfl rfl ⟨9, rfl⟩ gb_nil))
      · replace hM := ite_f h_3 hM
        refine GS.exit rfl ?_
        obtain ⟨y_1, hM, hy⟩ := map_of hM
        rw [hr_1 _ hy.symm] at hM
        exact X.gc [some 1] (hj_1 out2 hM) rfl rfl rfl (gk_cons rfl ⟨9, rfl⟩ (gk_cons rfl ⟨9, rfl⟩ gk_nil)) (gb_box rfl rfl ⟨9, rfl⟩ gb_nil)

theorem ok_tide_Excluded {w : api_Water} {l : (List api_Gauge)} {r : (List Int) × Int} (hM : tide_Excluded w l = some r) : Ct Tryz.prog 9 [(e_api_Water w), (V.sl (List.map e_api_Gauge l))] (V.tup [(V.sl (List.map V.i r.1)), (V.i r.2)]) := by
  refine ct_of_gs CC_ok rfl ?_
  unfold tide_Excluded at hM
  refine GS.seq ?_
  refine GS.region ?_
  refine X.opW rfl rfl rfl rfl ?_
  iterate 2 refine X.opR rfl rfl rfl ?_
  refine GS.opsNil ?_
  refine GS.seq ?_
  obtain ⟨y, h_1, hM⟩ := bind_of hM
  refine GS.region ?_
  iterate 2 refine X.opR rfl rfl rfl ?_
  refine X.call (ok_tide_read h_1) rfl rfl rfl (.cons (.shut (n := 9) rfl) (.cons (.shut (n := 9) rfl) .nil)) ?_
  iterate 5 refine X.opR rfl rfl rfl ?_
  refine GS.opsNil ?_
  iterate 2 refine GS.seq ?_
  obtain ⟨y1, h_2, hM⟩ := gb_of hM
  refine GS.region ?_
  refine X.mid [(1, (V.sl (List.map e_api_Gauge l))), (2, (V.ptr 0 0 0)), (7, (V.i y.2)), (21, (V.b ((!decide (y.2 = 0)) || (!(tide_none y1)))))] ?_ ?_
  · intro hg
    refine X.split (!decide (y.2 = 0)) (fun h_3 => ?_) (fun h_3 => ?_)
    · iterate 3 refine X.opR rfl rfl rfl ?_
      iterate 4 refine X.off (X.off_f rfl rfl rfl h_3) rfl ?_
      refine X.opR rfl (X.pickor_t (y := !(tide_none y1)) rfl h_3 rfl) rfl ?_
      refine GS.opsNil ?_
      exact X.norm _ hg rfl (W.sub_cons rfl (W.sub_cons rfl (W.sub_cons rfl (W.sub_cons rfl W.sub_nil))))
    · iterate 3 refine X.opR rfl rfl rfl ?_
      refine X.opR (X.on_f rfl rfl rfl h_3) rfl rfl ?_
      refine X.call (ok_tide_levels (h_2 (X.nt h_3))) (X.on_f rfl rfl rfl h_3) rfl rfl (.cons (.shut (n := 9) rfl) (.cons (.shut (n := 9) rfl) .nil)) ?_
      refine X.call (ok_tide_none y1) (X.on_f rfl rfl rfl h_3) rfl rfl (.cons (.shut (n := 9) rfl) .nil) ?_
      refine X.opR (X.on_f rfl rfl rfl h_3) rfl rfl ?_
      refine X.opR rfl (X.pickor_f (y := !(tide_none y1)) rfl h_3 rfl) rfl ?_
      refine GS.opsNil ?_
      exact X.norm _ hg rfl (W.sub_cons rfl (W.sub_cons rfl (W.sub_cons rfl (W.sub_cons rfl W.sub_nil))))
  refine X.cond rfl (fun h_4 => ?_) (fun h_4 => ?_)
  · replace hM := ite_t h_4 hM
    refine GS.seq ?_
    refine GS.region ?_
    iterate 3 refine X.opR rfl rfl rfl ?_
    refine GS.opsNil ?_
    have hE := Option.some.inj hM
    subst hE
    exact GS.ret ⟨_, rfl, ⟨30, rfl⟩⟩
  · replace hM := ite_f h_4 hM
    refine GS.skip ?_
    refine GS.seq ?_
    obtain ⟨y2, h_5, hM⟩ := bind_of hM
    refine GS.region ?_
    iterate 2 refine X.opR rfl rfl rfl ?_
    refine X.call (ok_tide_without h_5) rfl rfl rfl (.cons (.shut (n := 9) rfl) (.cons (.shut (n := 9) rfl) (.cons (.shut (n := 9) rfl) .nil))) ?_
    iterate 2 refine X.opR rfl rfl rfl ?_
    refine GS.opsNil ?_
    have hE := Option.some.inj hM
    subst hE
    exact GS.ret ⟨_, rfl, ⟨30, rfl⟩⟩

theorem ok_ref02_Excluded {w : api_Water} {l : (List api_Gauge)} {r : ref02_Ints} (hM : ref02_Excluded w l = some r) : Ct Tryz.prog 10 [(e_api_Water w), (V.sl (List.map e_api_Gauge l))] (e_ref02_Ints r) := by
  refine ct_of_gs CC_ok rfl ?_
  unfold ref02_Excluded at hM
  refine GS.seq ?_
  refine GS.region ?_
  iterate 2 refine X.opW rfl rfl rfl rfl ?_
  refine GS.opsNil ?_
  refine GS.seq ?_
  obtain ⟨y, h_1, hM⟩ := bind_of hM
  refine GS.region ?_
  iterate 2 refine X.opR rfl rfl rfl ?_
  refine X.call (ok_ref02_Gauged h_1) rfl rfl rfl (.cons (.shut (n := 9) rfl) (.cons (.shut (n := 9) rfl) .nil)) ?_
  refine X.opR rfl rfl rfl ?_
  refine GS.opsNil ?_
  iterate 2 refine GS.seq ?_
  refine GS.region ?_
  iterate 2 refine X.opR rfl rfl rfl ?_
  refine GS.opsNil ?_
  refine X.cond rfl (fun h_2 => ?_) (fun h_2 => ?_)
  · replace hM := ite_t h_2 hM
    refine GS.seq ?_
    refine GS.region ?_
    iterate 2 refine X.opR rfl rfl rfl ?_
    refine X.op0W rfl rfl rfl ?_
    refine GS.opsNil ?_
    have hE := Option.some.inj hM
    subst hE
    exact GS.ret ⟨_, rfl, ⟨30, rfl⟩⟩
  · replace hM := ite_f h_2 hM
    refine GS.skip ?_
    refine GS.seq ?_
    refine GS.region ?_
    refine X.opR rfl rfl rfl ?_
    refine GS.opsNil ?_
    refine GS.seq ?_
    obtain ⟨y1, h_3, hM⟩ := bind_of hM
    refine GS.region ?_
    iterate 2 refine X.opR rfl rfl rfl ?_
    refine X.call (ok_ref02_some h_3) rfl rfl rfl (.cons (.shut (n := 9) rfl) (.cons (.shut (n := 9) rfl) .nil)) ?_
    refine X.opR rfl rfl rfl ?_
    refine GS.opsNil ?_
    iterate 2 refine GS.seq ?_
    refine GS.region ?_
    refine X.opR rfl rfl rfl ?_
    refine GS.opsNil ?_
    refine X.join (τ := (List Int)) (fun v => ref02_Excluded_j1 v = some r) (fun v => ⟨[(4, (V.ptr 0 0 0)), (6, (V.sl (List.map V.i v)))], [.rows 2 [(V.agg [V.nil, (V.i 0)])]], 0, none, 47⟩) ?_ ?_
    · intro out hM
      replace hM : ref02_Excluded_j1 out = some r := hM
      unfold ref02_Excluded_j1 at hM
      refine GS.seq ?_
      refine GS.region ?_
      iterate 2 refine X.opR rfl rfl rfl ?_
      refine X.op0W rfl rfl rfl ?_
      refine GS.opsNil ?_
      have hE := Option.some.inj hM
      subst hE
      exact GS.ret ⟨_, rfl, ⟨30, rfl⟩⟩
    · intro hj_1
      refine GS.block ?_
      refine X.gc [some 0, some 1] (X.loop (σ := ((List Int) × Int)) (fun v => ⟨[(1, (V.sl (List.map e_api_Gauge l))), (2, (V.ptr 0 0 0)), (4, (V.ptr 1 0 0)), (6, (V.sl (List.map V.i v.1))), (7, (V.b y1)), (8, (V.i v.2))], [.rows 3 [(e_api_Water w)], .rows 2 [(V.agg [V.nil, (V.i 0)])]], 0, none, 47⟩) hM ?_ rfl) rfl rfl rfl (gk_cons rfl ⟨9, rfl⟩ (gk_cons rfl ⟨9, rfl⟩ (gk_cons rfl ⟨9, rfl⟩ (gk_thin 9 rfl rfl ⟨9, rfl⟩ (gk_cons rfl ⟨9, rfl⟩ (gk_cons rfl ⟨9, rfl⟩ gk_nil)))))) (gb_box rfl rfl ⟨9, rfl⟩ (gb_box rfl rfl ⟨9, rfl⟩ gb_nil))
      rintro ⟨out2, i⟩ b_1 hM hc_2 hr_1
      rw [ref02_Excluded_b2] at hM
      iterate 2 refine GS.seq ?_
      refine GS.region ?_
      refine X.mid [(1, (V.sl (List.map e_api_Gauge l))), (2, (V.ptr 0 0 0)), (4, (V.ptr 1 0 0)), (6, (V.sl (List.map V.i out2))), (7, (V.b y1)), (8, (V.i i)), (28, (V.b ((decide (i < (w.Cycles.length : Int))) && (!y1))))] ?_ ?_
      · intro hg
        refine X.split (decide (i < (w.Cycles.length : Int))) (fun h_4 => ?_) (fun h_4 => ?_)
        · iterate 3 refine X.opR rfl rfl rfl ?_
          refine X.opR rfl (X.lenF rfl rfl rfl) rfl ?_
          iterate 2 refine X.opR rfl rfl rfl ?_
          iterate 2 refine X.opR (X.on_t rfl rfl rfl h_4) rfl rfl ?_
          refine X.opR rfl (X.pickand_t (y := !y1) rfl h_4 rfl) rfl ?_
          refine GS.opsNil ?_
          exact X.norm _ hg rfl (W.sub_cons rfl (W.sub_cons rfl (W.sub_cons rfl (W.sub_cons rfl (W.sub_cons rfl (W.sub_cons rfl (W.sub_cons rfl W.sub_nil)))))))
        · iterate 3 refine X.opR rfl rfl rfl ?_
          refine X.opR rfl (X.lenF rfl rfl rfl) rfl ?_
          iterate 2 refine X.opR rfl rfl rfl ?_
          iterate 2 refine X.off (X.off_t rfl rfl rfl h_4) rfl ?_
          refine X.opR rfl (X.pickand_f (y := !y1) rfl h_4 rfl) rfl ?_
          refine GS.opsNil ?_
          exact X.norm _ hg rfl (W.sub_cons rfl (W.sub_cons rfl (W.sub_cons rfl (W.sub_cons rfl (W.sub_cons rfl (W.sub_cons rfl (W.sub_cons rfl W.sub_nil)))))))
      refine X.cond rfl (fun h_5 => ?_) (fun h_5 => ?_)
      · replace hM := ite_t h_5 hM
        refine GS.skip ?_
        refine GS.seq ?_
        refine X.join (τ := (List Int)) (fun v => ref02_Excluded_j3 i v = some b_1) (fun v => ⟨[(1, (V.sl (List.map e_api_Gauge l))), (2, (V.ptr 0 0 0)), (4, (V.ptr 1 0 0)), (6, (V.sl (List.map V.i v))), (7, (V.b y1)), (8, (V.i i))], [.rows 3 [(e_api_Water w)], .rows 2 [(V.agg [V.nil, (V.i 0)])]], 0, none, 47⟩) ?_ ?_
        · intro out1 hM
          replace hM : ref02_Excluded_j3 i out1 = some b_1 := hM
          unfold ref02_Excluded_j3 at hM
          refine GS.region ?_
          refine X.opR rfl rfl rfl ?_
          refine X.opR rfl (X.addE rfl rfl) rfl ?_
          refine X.opR rfl rfl rfl ?_
          refine GS.opsNil ?_
          have hE := Option.some.inj hM
          exact X.gc [some 0, some 1] (hc_2 (out1, w64 (i + 1)) hE.symm) rfl rfl rfl (gk_cons rfl ⟨9, rfl⟩ (gk_cons rfl ⟨9, rfl⟩ (gk_cons rfl ⟨9, rfl⟩ (gk_cons rfl ⟨9, rfl⟩ (gk_cons rfl ⟨9, rfl⟩ (gk_cons rfl ⟨9, rfl⟩ gk_nil)))))) (gb_box rfl rfl ⟨9, rfl⟩ (gb_box rfl rfl ⟨9, rfl⟩ gb_nil))
        · intro hj_3
          refine GS.block ?_
          refine GS.seq ?_
          obtain ⟨y2, h_6, hM⟩ := bind_of hM
          obtain ⟨y3, h_7, hM⟩ := bind_of hM
          refine GS.region ?_
          iterate 2 refine X.opR rfl rfl rfl ?_
          refine X.call (ok_ref02_less h_6) rfl rfl rfl (.cons (.shut (n := 9) rfl) (.cons (.shut (n := 9) rfl) .nil)) ?_
          refine X.opR rfl rfl rfl ?_
          refine X.call (ok_ref02_some h_7) rfl rfl rfl (.cons (.shut (n := 9) rfl) (.cons (.shut (n := 9) rfl) .nil)) ?_
          refine X.opR rfl rfl rfl ?_
          refine GS.opsNil ?_
          refine GS.seq ?_
          refine GS.region ?_
          refine X.opR rfl rfl rfl ?_
          refine GS.opsNil ?_
          refine X.cond rfl (fun h_8 => ?_) (fun h_8 => ?_)
          · replace hM := ite_t h_8 hM
            obtain ⟨x, h_9, hM⟩ := bind_of hM
            obtain ⟨y4, h_10, hM⟩ := bind_of hM
            refine GS.region ?_
            iterate 4 refine X.opR rfl rfl rfl ?_
            refine X.opR rfl (X.indexF (f := e_api_Cycle) h_9 (fun _ => rfl) rfl rfl rfl rfl) rfl ?_
            refine X.opR rfl rfl rfl ?_
            refine X.opR rfl (X.loadF h_9 rfl rfl rfl) rfl ?_
            refine X.call (ok_ref02_add h_10) rfl rfl rfl (.cons (.shut (n := 9) rfl) (.cons (.shut (n := 9) rfl) .nil)) ?_
            refine X.opR rfl rfl rfl ?_
            refine GS.opsNil ?_
            refine GS.endB ?_
            exact X.gc [some 0, some 1] (hj_3 y4 hM) rfl rfl rfl (gk_cons rfl ⟨9, rfl⟩ (gk_cons rfl ⟨9, rfl⟩ (gk_cons rfl ⟨9, rfl⟩ (gk_cons rfl ⟨9, rfl⟩ (gk_cons rfl ⟨9, rfl⟩ (gk_cons rfl ⟨9, rfl⟩ gk_nil)))))) (gb_box rfl rfl ⟨9, rfl⟩ (gb_box rfl rfl ⟨9, rfl⟩ gb_nil))
          · replace hM := ite_f h_8 hM
            refine GS.skip ?_
            refine GS.endB ?_
            exact X.gc [some 0, some 1] (hj_3 out2 hM) rfl rfl rfl (gk_cons rfl ⟨9, rfl⟩ (gk_cons rfl ⟨9, rfl⟩ (gk_cons rfl ⟨9, rfl⟩ (gk_cons rfl ⟨9, rfl⟩ (gk_cons rfl ⟨9, rfl⟩ (gk_cons rfl ⟨9, rfl⟩ gk_nil)))))) (gb_box rfl rfl ⟨9, rfl⟩ (gb_box rfl rfl ⟨9, rfl⟩ gb_nil))
      · replace hM := ite_f h_5 hM
        refine GS.exit rfl ?_
        obtain ⟨y_1, hM, hy⟩ := map_of hM
        rw [hr_1 _ hy.symm] at hM
        exact X.gc [some 1] (hj_1 out2 hM) rfl rfl rfl (gk_cons rfl ⟨9, rfl⟩ (gk_cons rfl ⟨9, rfl⟩ gk_nil)) (gb_box rfl rfl ⟨9, rfl⟩ gb_nil)

set_option maxHeartbeats 4000000 in
theorem ok_law02_TideExcludes {w : api_Water} {l : (List api_Gauge)} {r : Bool} (hM : law02_TideExcludes w l = some r) : Ct Tryz.prog 3 [(e_api_Water w), (V.sl (List.map e_api_Gauge l))] (V.b r) := by
  refine ct_of_gs CC_ok rfl ?_
  unfold law02_TideExcludes at hM
  refine GS.seq ?_
  refine GS.region ?_
  refine X.opW rfl rfl rfl rfl ?_
  refine X.opR rfl rfl rfl ?_
  refine GS.opsNil ?_
  iterate 2 refine GS.seq ?_
  obtain ⟨y, h_1, hM⟩ := bind_of hM
  refine GS.region ?_
  refine X.mid [(1, (V.sl (List.map e_api_Gauge l))), (2, (V.ptr 0 0 0)), (18, (V.b ((!y) || (decide (60 < (l.length : Int))))))] ?_ ?_
  · intro hg
    refine X.split (!y) (fun h_2 => ?_) (fun h_2 => ?_)
    · refine X.opR rfl rfl rfl ?_
      refine X.call (ok_law02_few h_1) rfl rfl rfl (.cons (.shut (n := 9) rfl) .nil) ?_
      iterate 2 refine X.opR rfl rfl rfl ?_
      iterate 3 refine X.off (X.off_f rfl rfl rfl h_2) rfl ?_
      refine X.opR rfl (X.pickor_t (y := decide (60 < (l.length : Int))) rfl h_2 rfl) rfl ?_
      refine GS.opsNil ?_
      exact X.norm _ hg rfl (W.sub_cons rfl (W.sub_cons rfl (W.sub_cons rfl W.sub_nil)))
    · refine X.opR rfl rfl rfl ?_
      refine X.call (ok_law02_few h_1) rfl rfl rfl (.cons (.shut (n := 9) rfl) .nil) ?_
      iterate 2 refine X.opR rfl rfl rfl ?_
      refine X.opR (X.on_f rfl rfl rfl h_2) rfl rfl ?_
      refine X.opR (X.on_f rfl rfl rfl h_2) (X.lenF rfl rfl rfl) rfl ?_
      refine X.opR (X.on_f rfl rfl rfl h_2) rfl rfl ?_
      refine X.opR rfl (X.pickor_f (y := decide (60 < (l.length : Int))) rfl h_2 rfl) rfl ?_
      refine GS.opsNil ?_
      exact X.norm _ hg rfl (W.sub_cons rfl (W.sub_cons rfl (W.sub_cons rfl W.sub_nil)))
  refine X.cond rfl (fun h_3 => ?_) (fun h_3 => ?_)
  · replace hM := ite_t h_3 hM
    refine GS.seq ?_
    obtain ⟨y1, h_4, hM⟩ := bind_of hM
    refine GS.region ?_
    refine X.call (ok_law02_sanity h_4) rfl rfl rfl .nil ?_
    refine X.opR rfl rfl rfl ?_
    refine GS.opsNil ?_
    have hE := Option.some.inj hM
    subst hE
    exact GS.ret ⟨_, rfl, ⟨30, rfl⟩⟩
  · replace hM := ite_f h_3 hM
    refine GS.skip ?_
    refine GS.seq ?_
    obtain ⟨y2, h_5, hM⟩ := bind_of hM
    refine GS.region ?_
    iterate 2 refine X.opR rfl rfl rfl ?_
    refine X.call (ok_tide_Shown h_5) rfl rfl rfl (.cons (.shut (n := 9) rfl) (.cons (.shut (n := 9) rfl) .nil)) ?_
    iterate 5 refine X.opR rfl rfl rfl ?_
    refine GS.opsNil ?_
    refine GS.seq ?_
    obtain ⟨y3, h_6, hM⟩ := bind_of hM
    refine GS.region ?_
    iterate 2 refine X.opR rfl rfl rfl ?_
    refine X.call (ok_ref02_Shown h_6) rfl rfl rfl (.cons (.shut (n := 9) rfl) (.cons (.shut (n := 9) rfl) .nil)) ?_
    refine X.opW rfl rfl rfl rfl ?_
    refine X.op0W rfl rfl rfl ?_
    refine GS.opsNil ?_
    refine GS.seq ?_
    obtain ⟨y4, h_7, hM⟩ := bind_of hM
    refine GS.region ?_
    iterate 2 refine X.opR rfl rfl rfl ?_
    refine X.call (ok_tide_Excluded h_7) rfl rfl rfl (.cons (.shut (n := 9) rfl) (.cons (.shut (n := 9) rfl) .nil)) ?_
    iterate 5 refine X.opR rfl rfl rfl ?_
    refine GS.opsNil ?_
    refine GS.seq ?_
    obtain ⟨y5, h_8, hM⟩ := bind_of hM
    refine GS.region ?_
    iterate 2 refine X.opR rfl rfl rfl ?_
    refine X.call (ok_ref02_Excluded h_8) rfl rfl rfl (.cons (.shut (n := 9) rfl) (.cons (.shut (n := 9) rfl) .nil)) ?_
    refine X.opW rfl rfl rfl rfl ?_
    refine X.op0W rfl rfl rfl ?_
    refine GS.opsNil ?_
    refine GS.seq ?_
    obtain ⟨y6, h_9, hM⟩ := bind_of hM
    obtain ⟨y7, h_10, hM⟩ := gb_of hM
    obtain ⟨y8, h_11, hM⟩ := gb_of hM
    refine GS.region ?_
    refine X.mid [(4, (V.b ((((y6 && y7) && (decide (y2.2 = y3.E))) && y8) && (decide (y4.2 = y5.E)))))] ?_ ?_
    · intro hg
      refine X.split (y6) (fun h_12 => ?_) (fun h_12 => ?_)
      · refine X.split ((y6 && y7)) (fun h_13 => ?_) (fun h_13 => ?_)
        · refine X.split (((y6 && y7) && (decide (y2.2 = y3.E)))) (fun h_14 => ?_) (fun h_14 => ?_)
          · refine X.split ((((y6 && y7) && (decide (y2.2 = y3.E))) && y8)) (fun h_15 => ?_) (fun h_15 => ?_)
            · refine X.call (ok_law02_sanity h_9) rfl rfl rfl .nil ?_
              refine X.opR rfl rfl rfl ?_
              iterate 3 refine X.opR (X.on_t rfl rfl rfl h_12) rfl rfl ?_
              refine X.call (ok_ref02_SameInts (h_10 h_12)) (X.on_t rfl rfl rfl h_12) rfl rfl (.cons (.shut (n := 9) rfl) (.cons (.shut (n := 9) rfl) .nil)) ?_
              refine X.opR rfl (X.pickand_t (y := y7) rfl h_12 rfl) rfl ?_
              refine X.opR rfl rfl rfl ?_
              iterate 4 refine X.opR (X.on_t rfl rfl rfl h_13) rfl rfl ?_
              refine X.opR rfl (X.pickand_t (y := decide (y2.2 = y3.E)) rfl h_13 rfl) rfl ?_
              refine X.opR rfl rfl rfl ?_
              iterate 3 refine X.opR (X.on_t rfl rfl rfl h_14) rfl rfl ?_
              refine X.call (ok_ref02_SameInts (h_11 h_14)) (X.on_t rfl rfl rfl h_14) rfl rfl (.cons (.shut (n := 9) rfl) (.cons (.shut (n := 9) rfl) .nil)) ?_
              refine X.opR rfl (X.pickand_t (y := y8) rfl h_14 rfl) rfl ?_
              refine X.opR rfl rfl rfl ?_
              iterate 4 refine X.opR (X.on_t rfl rfl rfl h_15) rfl rfl ?_
              refine X.opR rfl (X.pickand_t (y := decide (y4.2 = y5.E)) rfl h_15 rfl) rfl ?_
              refine X.opR rfl rfl rfl ?_
              refine GS.opsNil ?_
              exact X.norm _ hg rfl (W.sub_cons rfl W.sub_nil)
            · refine X.call (ok_law02_sanity h_9) rfl rfl rfl .nil ?_
              refine X.opR rfl rfl rfl ?_
              iterate 3 refine X.opR (X.on_t rfl rfl rfl h_12) rfl rfl ?_
              refine X.call (ok_ref02_SameInts (h_10 h_12)) (X.on_t rfl rfl rfl h_12) rfl rfl (.cons (.shut (n := 9) rfl) (.cons (.shut (n := 9) rfl) .nil)) ?_
              refine X.opR rfl (X.pickand_t (y := y7) rfl h_12 rfl) rfl ?_
              refine X.opR rfl rfl rfl ?_
              iterate 4 refine X.opR (X.on_t rfl rfl rfl h_13) rfl rfl ?_
              refine X.opR rfl (X.pickand_t (y := decide (y2.2 = y3.E)) rfl h_13 rfl) rfl ?_
              refine X.opR rfl rfl rfl ?_
              iterate 3 refine X.opR (X.on_t rfl rfl rfl h_14) rfl rfl ?_
              refine X.call (ok_ref02_SameInts (h_11 h_14)) (X.on_t rfl rfl rfl h_14) rfl rfl (.cons (.shut (n := 9) rfl) (.cons (.shut (n := 9) rfl) .nil)) ?_
              refine X.opR rfl (X.pickand_t (y := y8) rfl h_14 rfl) rfl ?_
              refine X.opR rfl rfl rfl ?_
              iterate 4 refine X.off (X.off_t rfl rfl rfl h_15) rfl ?_
              refine X.opR rfl (X.pickand_f (y := decide (y4.2 = y5.E)) rfl h_15 rfl) rfl ?_
              refine X.opR rfl rfl rfl ?_
              refine GS.opsNil ?_
              exact X.norm _ hg rfl (W.sub_cons rfl W.sub_nil)
          · refine X.call (ok_law02_sanity h_9) rfl rfl rfl .nil ?_
            refine X.opR rfl rfl rfl ?_
            iterate 3 refine X.opR (X.on_t rfl rfl rfl h_12) rfl rfl ?_
            refine X.call (ok_ref02_SameInts (h_10 h_12)) (X.on_t rfl rfl rfl h_12) rfl rfl (.cons (.shut (n := 9) rfl) (.cons (.shut (n := 9) rfl) .nil)) ?_
            refine X.opR rfl (X.pickand_t (y := y7) rfl h_12 rfl) rfl ?_
            refine X.opR rfl rfl rfl ?_
            iterate 4 refine X.opR (X.on_t rfl rfl rfl h_13) rfl rfl ?_
            refine X.opR rfl (X.pickand_t (y := decide (y2.2 = y3.E)) rfl h_13 rfl) rfl ?_
            refine X.opR rfl rfl rfl ?_
            iterate 4 refine X.off (X.off_t rfl rfl rfl h_14) rfl ?_
            refine X.opR rfl (X.pickand_f (y := y8) rfl h_14 rfl) rfl ?_
            refine X.opR rfl rfl rfl ?_
            iterate 4 refine X.off (X.off_t rfl rfl rfl (X.and_ff h_14)) rfl ?_
            refine X.opR rfl (X.pickand_f (y := decide (y4.2 = y5.E)) rfl (X.and_ff h_14) rfl) rfl ?_
            refine X.opR rfl rfl rfl ?_
            refine GS.opsNil ?_
            exact X.norm _ hg rfl (W.sub_cons rfl W.sub_nil)
        · refine X.call (ok_law02_sanity h_9) rfl rfl rfl .nil ?_
          refine X.opR rfl rfl rfl ?_
          iterate 3 refine X.opR (X.on_t rfl rfl rfl h_12) rfl rfl ?_
          refine X.call (ok_ref02_SameInts (h_10 h_12)) (X.on_t rfl rfl rfl h_12) rfl rfl (.cons (.shut (n := 9) rfl) (.cons (.shut (n := 9) rfl) .nil)) ?_
          refine X.opR rfl (X.pickand_t (y := y7) rfl h_12 rfl) rfl ?_
          refine X.opR rfl rfl rfl ?_
          iterate 4 refine X.off (X.off_t rfl rfl rfl h_13) rfl ?_
          refine X.opR rfl (X.pickand_f (y := decide (y2.2 = y3.E)) rfl h_13 rfl) rfl ?_
          refine X.opR rfl rfl rfl ?_
          iterate 4 refine X.off (X.off_t rfl rfl rfl (X.and_ff h_13)) rfl ?_
          refine X.opR rfl (X.pickand_f (y := y8) rfl (X.and_ff h_13) rfl) rfl ?_
          refine X.opR rfl rfl rfl ?_
          iterate 4 refine X.off (X.off_t rfl rfl rfl (X.and_ff (X.and_ff h_13))) rfl ?_
          refine X.opR rfl (X.pickand_f (y := decide (y4.2 = y5.E)) rfl (X.and_ff (X.and_ff h_13)) rfl) rfl ?_
          refine X.opR rfl rfl rfl ?_
          refine GS.opsNil ?_
          exact X.norm _ hg rfl (W.sub_cons rfl W.sub_nil)
      · refine X.call (ok_law02_sanity h_9) rfl rfl rfl .nil ?_
        refine X.opR rfl rfl rfl ?_
        iterate 4 refine X.off (X.off_t rfl rfl rfl h_12) rfl ?_
        refine X.opR rfl (X.pickand_f (y := y7) rfl h_12 rfl) rfl ?_
        refine X.opR rfl rfl rfl ?_
        iterate 4 refine X.off (X.off_t rfl rfl rfl (X.and_ff h_12)) rfl ?_
        refine X.opR rfl (X.pickand_f (y := decide (y2.2 = y3.E)) rfl (X.and_ff h_12) rfl) rfl ?_
        refine X.opR rfl rfl rfl ?_
        iterate 4 refine X.off (X.off_t rfl rfl rfl (X.and_ff (X.and_ff h_12))) rfl ?_
        refine X.opR rfl (X.pickand_f (y := y8) rfl (X.and_ff (X.and_ff h_12)) rfl) rfl ?_
        refine X.opR rfl rfl rfl ?_
        iterate 4 refine X.off (X.off_t rfl rfl rfl (X.and_ff (X.and_ff (X.and_ff h_12)))) rfl ?_
        refine X.opR rfl (X.pickand_f (y := decide (y4.2 = y5.E)) rfl (X.and_ff (X.and_ff (X.and_ff h_12))) rfl) rfl ?_
        refine X.opR rfl rfl rfl ?_
        refine GS.opsNil ?_
        exact X.norm _ hg rfl (W.sub_cons rfl W.sub_nil)
    have hE := Option.some.inj hM
    subst hE
    exact GS.ret ⟨_, rfl, ⟨30, rfl⟩⟩

end Go.Proofs.YtphmekpaalfliaaGreat
