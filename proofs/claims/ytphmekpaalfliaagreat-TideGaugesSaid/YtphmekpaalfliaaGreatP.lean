/- The program's functions compute the plain ones. Conditions: none. Printed by a program (wip/tools/xg.py). -/
import Derived.Test.YtphmekpaalfliaaGreatP2
set_option linter.unusedVariables false
set_option linter.unusedSimpArgs false
namespace Go.Proofs.YtphmekpaalfliaaGreat
open Go Go.Am Go.Proofs Go.Mx

set_option maxHeartbeats 4000000 in
theorem ok_tide_Clashes {w : api_Water} {l : (List api_Gauge)} {r : (List Arr_2_int) × Int} (hM : tide_Clashes w l = some r) : Ct Tryz.prog 16 [(e_api_Water w), (V.sl (List.map e_api_Gauge l))] (V.tup [(V.sl (List.map e_Arr_2_int r.1)), (V.i r.2)]) := by
  refine ct_of_gs CC_ok rfl ?_
  unfold tide_Clashes at hM
  refine GS.seq ?_
  refine GS.region ?_
  refine X.opW rfl rfl rfl rfl ?_
  iterate 2 refine X.opR rfl rfl rfl ?_
  refine GS.opsNil ?_
  refine GS.seq ?_
  obtain ⟨y, h_1, hM⟩ := bind_of hM
  refine GS.region ?_
  iterate 2 refine X.opR rfl rfl rfl ?_
  refine X.own (own_tide_read h_1) (fun z_1 => (V.tup [(ovlz z_1 1 y.1), (V.i y.2)])) rfl rfl rfl (.cons (.shut (n := 9) rfl) (.cons (.shut (n := 9) rfl) .nil)) rfl (fun _ => ⟨_, (X.rn_tup2 (X.rn_ovl rfl) rfl)⟩) (fun _ => ⟨_, X.rnB_obl 9 (fun _ => rfl)⟩) (fun z_1 => ?_)
  iterate 5 refine X.opR rfl rfl rfl ?_
  refine GS.opsNil ?_
  iterate 2 refine GS.seq ?_
  refine GS.region ?_
  iterate 2 refine X.opR rfl rfl rfl ?_
  refine GS.opsNil ?_
  refine X.cond rfl (fun h_2 => ?_) (fun h_2 => ?_)
  · replace hM := ite_t h_2 hM
    refine GS.seq ?_
    refine GS.region ?_
    iterate 3 refine X.opR rfl rfl rfl ?_
    refine GS.opsNil ?_
    have hE := Option.some.inj hM
    subst hE
    exact GS.ret ⟨_, rfl, ⟨30, rfl⟩⟩
  · replace hM := ite_f h_2 hM
    refine GS.skip ?_
    refine GS.seq ?_
    obtain ⟨l1, h_3, hM⟩ := bind_of hM
    refine GS.region ?_
    refine X.opR rfl rfl rfl ?_
    refine X.norm [(0, (e_api_Water w)), (1, (V.sl (List.map e_api_Gauge l))), (2, (V.ptr 0 0 0)), (4, V.nil), (5, (V.i 0)), (14, (e_api_Water w)), (15, (V.sl (List.map e_api_Gauge l))), (16, (V.tup [(ovlz z_1 1 y.1), (V.i y.2)])), (13, (V.tup [(ovlz z_1 1 y.1), (V.i y.2)])), (17, (ovlz z_1 1 y.1)), (18, (V.i y.2)), (6, (ovlz z_1 1 y.1)), (7, (V.i y.2)), (19, (V.i y.2)), (20, (V.b (!decide (y.2 = 0)))), (22, (ovlz z_1 1 y.1))] ?_ rfl (W.sub_cons rfl (W.sub_cons rfl (W.sub_cons rfl (W.sub_cons rfl (W.sub_cons rfl (W.sub_cons rfl (W.sub_cons rfl (W.sub_cons rfl (W.sub_cons rfl (W.sub_cons rfl (W.sub_cons rfl (W.sub_cons rfl (W.sub_cons rfl (W.sub_cons rfl (W.sub_cons rfl (W.sub_cons rfl W.sub_nil))))))))))))))))
    refine X.sortF (z := z_1) h_3 by_known (fun _ _ _ h => h) (K' := [(0, (e_api_Water w)), (1, (V.sl (List.map e_api_Gauge l))), (2, (V.ptr 0 0 0)), (4, V.nil), (5, (V.i 0)), (14, (e_api_Water w)), (15, (V.sl (List.map e_api_Gauge l))), (16, (V.tup [(ovlz z_1 1 y.1), (V.i y.2)])), (13, (V.tup [(ovlz z_1 1 y.1), (V.i y.2)])), (17, (ovlz z_1 1 l1)), (18, (V.i y.2)), (6, (ovlz z_1 1 l1)), (7, (V.i y.2)), (19, (V.i y.2)), (20, (V.b (!decide (y.2 = 0)))), (22, (ovlz z_1 1 l1))]) (H' := [.rows 3 [(e_api_Water w)], oblz z_1 6 e_tide_known l1]) rfl rfl rfl rfl rfl rfl ?_ ?_ ?_
    · first | rfl | rw [X.ovlz_len (X.srtFO_len by_known.swo h_3)] | simp only [ovl, X.ovlz_len (X.srtFO_len by_known.swo h_3)] | simp only [X.srtFO_len by_known.swo h_3]
    · first | rfl | (simp only [hput]; rfl)
    refine GS.opsNil ?_
    refine GS.seq ?_
    refine GS.region ?_
    refine X.opR rfl rfl rfl ?_
    refine GS.opsNil ?_
    iterate 2 refine GS.seq ?_
    refine GS.region ?_
    refine X.opR rfl rfl rfl ?_
    refine X.opR rfl (X.lenN (l := l1) rfl rfl rfl) rfl ?_
    refine X.opR rfl rfl rfl ?_
    refine GS.opsNil ?_
    refine X.join (τ := (List Arr_2_int)) (fun v => tide_Clashes_j1 v = some r) (fun v => ⟨[(8, (ovl 0 v))], [obl 2 e_Arr_2_int v], 0, none, 78⟩) ?_ ?_
    · intro l2 hM
      replace hM : tide_Clashes_j1 l2 = some r := hM
      unfold tide_Clashes_j1 at hM
      refine GS.seq ?_
      refine GS.region ?_
      iterate 3 refine X.opR rfl rfl rfl ?_
      refine GS.opsNil ?_
      have hE := Option.some.inj hM
      subst hE
      exact GS.ret ⟨_, rfl, FR.tup (.cons (FR.ovl (f := e_Arr_2_int) (l := l2) 9 rfl rfl (fun _ => rfl)) (.cons ⟨30, rfl⟩ .nil))⟩
    · intro hj_1
      refine GS.block ?_
      refine X.gc [some 1, none] (X.loop (σ := (Int × (List Arr_2_int))) (fun v => ⟨[(6, (ovlz z_1 0 l1)), (8, (ovl 1 v.2)), (24, (ovlz z_1 0 l1)), (25, (V.i (l1.length : Int))), (26, (V.i v.1))], [oblz z_1 6 e_tide_known l1, obl 2 e_Arr_2_int v.2], 0, none, 78⟩) hM ?_ rfl) rfl rfl rfl (gk_cons rfl (rn_ovl rfl) (gk_cons rfl ⟨9, rfl⟩ (gk_cons rfl (rn_ovl rfl) (gk_cons rfl ⟨9, rfl⟩ (gk_cons rfl ⟨9, rfl⟩ gk_nil))))) (gb_obl 9 rfl rfl (fun _ => rfl) (gb_pad' rfl gb_nil))
      rintro ⟨x3, l9⟩ b_1 hM hc_2 hr_1
      rw [tide_Clashes_b2] at hM
      refine GS.seq ?_
      refine GS.region ?_
      refine X.opR rfl rfl rfl ?_
      refine GS.opsNil ?_
      refine GS.seq ?_
      refine X.cond rfl (fun h_4 => ?_) (fun h_4 => ?_)
      · replace hM := ite_t h_4 hM
        refine GS.skip ?_
        refine GS.seq ?_
        refine X.join (τ := (List Arr_2_int)) (fun v => tide_Clashes_j3 x3 v = some b_1) (fun v => ⟨[(6, (ovlz z_1 0 l1)), (8, (ovl 1 v)), (24, (ovlz z_1 0 l1)), (25, (V.i (l1.length : Int))), (26, (V.i x3))], [oblz z_1 6 e_tide_known l1, obl 2 e_Arr_2_int v], 0, none, 78⟩) ?_ ?_
        · intro l3 hM
          replace hM : tide_Clashes_j3 x3 l3 = some b_1 := hM
          unfold tide_Clashes_j3 at hM
          refine GS.region ?_
          refine X.opR rfl (X.addE rfl rfl) rfl ?_
          refine X.opR rfl rfl rfl ?_
          refine GS.opsNil ?_
          have hE := Option.some.inj hM
          exact X.gc [some 0, some 1] (hc_2 (w64 (x3 + 1), l3) hE.symm) rfl rfl rfl (gk_cons rfl (rn_ovl rfl) (gk_cons rfl (rn_ovl rfl) (gk_cons rfl (rn_ovl rfl) (gk_cons rfl ⟨9, rfl⟩ (gk_cons rfl ⟨9, rfl⟩ gk_nil))))) (gb_obl 9 rfl rfl (fun _ => rfl) (gb_obl 9 rfl rfl (fun _ => rfl) gb_nil))
        · intro hj_3
          refine GS.block ?_
          refine GS.seq ?_
          obtain ⟨x, h_5, hM⟩ := bind_of hM
          refine GS.region ?_
          refine X.opR rfl rfl rfl ?_
          refine X.opR rfl (X.indexN h_5 rfl rfl rfl rfl rfl) rfl ?_
          refine X.opR rfl (X.loadN h_5 rfl rfl rfl rfl) rfl ?_
          refine X.opW rfl rfl rfl rfl ?_
          refine X.opR rfl rfl rfl ?_
          refine X.op0W rfl rfl rfl ?_
          refine GS.opsNil ?_
          iterate 2 refine GS.seq ?_
          refine GS.region ?_
          iterate 2 refine X.opR rfl rfl rfl ?_
          refine X.call (ok_tide_none x.levels) rfl rfl rfl (.cons (.shut (n := 9) rfl) .nil) ?_
          refine GS.opsNil ?_
          refine X.cond rfl (fun h_6 => ?_) (fun h_6 => ?_)
          · replace hM := ite_t h_6 hM
            refine GS.seq ?_
            obtain ⟨l4, h_7, hM⟩ := bind_of hM
            refine GS.region ?_
            iterate 8 refine X.opR rfl rfl rfl ?_
            refine X.opW (H' := [oblz z_1 6 e_tide_known l1, obl 2 e_Arr_2_int l9, .rows 6 [(e_tide_known x)], .rows 2 (List.map e_Arr_2_int ([(⟨x.Gauge.ID, x.Gauge.ID⟩ : Arr_2_int)]))]) rfl rfl rfl rfl ?_
            refine X.appN (f := e_Arr_2_int) h_7 (fun _ => rfl) (by rfl) (by rfl) (by rfl) (by rfl) (by rfl) (by rfl) (by rfl) (by rfl) (by rfl) (by rfl) (by rfl) (by exact rfl) (by rfl) (by rfl) ?_
            refine X.opR rfl rfl rfl ?_
            refine GS.opsNil ?_
            refine GS.exit rfl ?_
            exact X.gc [some 0, some 4] (hj_3 l4 hM) rfl rfl rfl (gk_cons rfl (rn_ovl rfl) (gk_cons rfl (rv_ne (app_ne h_7) rfl) (gk_cons rfl (rn_ovl rfl) (gk_cons rfl ⟨9, rfl⟩ (gk_cons rfl ⟨9, rfl⟩ gk_nil))))) (gb_obl 9 rfl rfl (fun _ => rfl) (gb_obl' 9 (app_ne h_7) rfl rfl (fun _ => rfl) gb_nil))
          · replace hM := ite_f h_6 hM
            refine GS.skip ?_
            refine GS.seq ?_
            obtain ⟨l5, h_8, hM⟩ := bind_of hM
            refine GS.region ?_
            iterate 2 refine X.opR rfl rfl rfl ?_
            refine X.opR rfl (X.addE rfl rfl) rfl ?_
            refine X.opR rfl (X.sliceN (z := z_1) (f := e_tide_known) (l := l1) h_8 rfl rfl rfl rfl rfl rfl (X.boundA_int rfl) rfl) rfl ?_
            refine X.opR rfl (X.lenS h_8 rfl rfl rfl) rfl ?_
            refine X.opR rfl rfl rfl ?_
            refine GS.opsNil ?_
            refine GS.block ?_
            refine X.gc [some 0, some 1, some 2] (X.loop (σ := (Int × (List Arr_2_int))) (fun v => ⟨[(6, (ovlz z_1 0 l1)), (8, (ovl 1 v.2)), (10, (V.ptr 2 0 0)), (24, (ovlz z_1 0 l1)), (25, (V.i (l1.length : Int))), (26, (V.i x3)), (47, (ovs z_1 0 l1 l5 (w64 (x3 + 1)))), (48, (V.i (l5.length : Int))), (49, (V.i v.1))], [oblz z_1 6 e_tide_known l1, obl 2 e_Arr_2_int v.2, .rows 6 [(e_tide_known x)]], 0, none, 78⟩) hM ?_ rfl) rfl rfl rfl (gk_cons rfl (rn_ovl rfl) (gk_cons rfl (rn_ovl rfl) (gk_cons rfl ⟨9, rfl⟩ (gk_cons rfl (rn_ovl rfl) (gk_cons rfl ⟨9, rfl⟩ (gk_cons rfl ⟨9, rfl⟩ (gk_cons rfl (X.rv_ovs rfl) (gk_cons rfl ⟨9, rfl⟩ (gk_cons rfl ⟨9, rfl⟩ gk_nil))))))))) (gb_obl 9 rfl rfl (fun _ => rfl) (gb_obl 9 rfl rfl (fun _ => rfl) (gb_box rfl rfl ⟨9, rfl⟩ gb_nil)))
            rintro ⟨x2, l8⟩ b_2 hM hc_4 hr_2
            rw [tide_Clashes_b4] at hM
            refine GS.seq ?_
            refine GS.region ?_
            refine X.opR rfl rfl rfl ?_
            refine GS.opsNil ?_
            refine GS.seq ?_
            refine X.cond rfl (fun h_9 => ?_) (fun h_9 => ?_)
            · replace hM := ite_t h_9 hM
              refine GS.skip ?_
              refine GS.seq ?_
              refine X.join (τ := (List Arr_2_int)) (fun v => tide_Clashes_j5 x2 v = some b_2) (fun v => ⟨[(6, (ovlz z_1 0 l1)), (8, (ovl 1 v)), (10, (V.ptr 2 0 0)), (24, (ovlz z_1 0 l1)), (25, (V.i (l1.length : Int))), (26, (V.i x3)), (47, (ovs z_1 0 l1 l5 (w64 (x3 + 1)))), (48, (V.i (l5.length : Int))), (49, (V.i x2))], [oblz z_1 6 e_tide_known l1, obl 2 e_Arr_2_int v, .rows 6 [(e_tide_known x)]], 0, none, 78⟩) ?_ ?_
              · intro l6 hM
                replace hM : tide_Clashes_j5 x2 l6 = some b_2 := hM
                unfold tide_Clashes_j5 at hM
                refine GS.region ?_
                refine X.opR rfl (X.addE rfl rfl) rfl ?_
                refine X.opR rfl rfl rfl ?_
                refine GS.opsNil ?_
                have hE := Option.some.inj hM
                exact X.gc [some 0, some 1, some 2] (hc_4 (w64 (x2 + 1), l6) hE.symm) rfl rfl rfl (gk_cons rfl (rn_ovl rfl) (gk_cons rfl (rn_ovl rfl) (gk_cons rfl ⟨9, rfl⟩ (gk_cons rfl (rn_ovl rfl) (gk_cons rfl ⟨9, rfl⟩ (gk_cons rfl ⟨9, rfl⟩ (gk_cons rfl (X.rv_ovs rfl) (gk_cons rfl ⟨9, rfl⟩ (gk_cons rfl ⟨9, rfl⟩ gk_nil))))))))) (gb_obl 9 rfl rfl (fun _ => rfl) (gb_obl 9 rfl rfl (fun _ => rfl) (gb_box rfl rfl ⟨9, rfl⟩ gb_nil)))
              · intro hj_5
                refine GS.block ?_
                refine GS.seq ?_
                obtain ⟨x1, h_10, hM⟩ := bind_of hM
                refine GS.region ?_
                refine X.opR rfl (X.indexS (f := e_tide_known) h_8 h_10 rfl rfl rfl rfl rfl) rfl ?_
                refine X.opR rfl (X.loadN (X.sub_ix h_8 h_10) rfl rfl rfl rfl) rfl ?_
                refine X.opW (H' := [oblz z_1 6 e_tide_known l1, obl 2 e_Arr_2_int l8, .rows 6 [(e_tide_known x)], .rows 6 [(V.agg [(V.i 0), (V.i 0), (V.i 0), (V.i 0), (V.i 0), (V.i 0)])]]) rfl rfl rfl rfl ?_
                refine X.op0W (H' := [oblz z_1 6 e_tide_known l1, obl 2 e_Arr_2_int l8, .rows 6 [(e_tide_known x)], .rows 6 [(e_tide_known x1)]]) rfl rfl rfl ?_
                refine GS.opsNil ?_
                refine GS.seq ?_
                refine GS.region ?_
                refine X.mid [(6, (ovlz z_1 0 l1)), (8, (ovl 1 l8)), (10, (V.ptr 2 0 0)), (12, (V.ptr 3 0 0)), (24, (ovlz z_1 0 l1)), (25, (V.i (l1.length : Int))), (26, (V.i x3)), (47, (ovs z_1 0 l1 l5 (w64 (x3 + 1)))), (48, (V.i (l5.length : Int))), (49, (V.i x2)), (64, (V.b ((!(tide_none x1.levels)) && (tide_none (tide_both x.levels x1.levels)))))] ?_ ?_
                · intro hg
                  refine X.split (!(tide_none x1.levels)) (fun h_11 => ?_) (fun h_11 => ?_)
                  · iterate 2 refine X.opR rfl rfl rfl ?_
                    refine X.call (ok_tide_none x1.levels) rfl rfl rfl (.cons (.shut (n := 9) rfl) .nil) ?_
                    iterate 2 refine X.opR rfl rfl rfl ?_
                    iterate 4 refine X.opR (X.on_t rfl rfl rfl h_11) rfl rfl ?_
                    refine X.call (ok_tide_both x.levels x1.levels) (X.on_t rfl rfl rfl h_11) rfl rfl (.cons (.shut (n := 9) rfl) (.cons (.shut (n := 9) rfl) .nil)) ?_
                    refine X.call (ok_tide_none (tide_both x.levels x1.levels)) (X.on_t rfl rfl rfl h_11) rfl rfl (.cons (.shut (n := 9) rfl) .nil) ?_
                    refine X.opR rfl (X.pickand_t (y := (tide_none (tide_both x.levels x1.levels))) rfl h_11 rfl) rfl ?_
                    refine GS.opsNil ?_
                    exact X.norm _ hg rfl (W.sub_cons rfl (W.sub_cons rfl (W.sub_cons rfl (W.sub_cons rfl (W.sub_cons rfl (W.sub_cons rfl (W.sub_cons rfl (W.sub_cons rfl (W.sub_cons rfl (W.sub_cons rfl (W.sub_cons rfl W.sub_nil)))))))))))
                  · iterate 2 refine X.opR rfl rfl rfl ?_
                    refine X.call (ok_tide_none x1.levels) rfl rfl rfl (.cons (.shut (n := 9) rfl) .nil) ?_
                    iterate 2 refine X.opR rfl rfl rfl ?_
                    iterate 6 refine X.off (X.off_t rfl rfl rfl h_11) rfl ?_
                    refine X.opR rfl (X.pickand_f (y := (tide_none (tide_both x.levels x1.levels))) rfl h_11 rfl) rfl ?_
                    refine GS.opsNil ?_
                    exact X.norm _ hg rfl (W.sub_cons rfl (W.sub_cons rfl (W.sub_cons rfl (W.sub_cons rfl (W.sub_cons rfl (W.sub_cons rfl (W.sub_cons rfl (W.sub_cons rfl (W.sub_cons rfl (W.sub_cons rfl (W.sub_cons rfl W.sub_nil)))))))))))
                refine X.cond rfl (fun h_12 => ?_) (fun h_12 => ?_)
                · replace hM := ite_t h_12 hM
                  obtain ⟨l7, h_13, hM⟩ := bind_of hM
                  refine GS.region ?_
                  iterate 8 refine X.opR rfl rfl rfl ?_
                  refine X.opW (H' := [oblz z_1 6 e_tide_known l1, obl 2 e_Arr_2_int l8, .rows 6 [(e_tide_known x)], .rows 6 [(e_tide_known x1)], .rows 2 (List.map e_Arr_2_int ([(⟨x.Gauge.ID, x1.Gauge.ID⟩ : Arr_2_int)]))]) rfl rfl rfl rfl ?_
                  refine X.appN (f := e_Arr_2_int) h_13 (fun _ => rfl) (by rfl) (by rfl) (by rfl) (by rfl) (by rfl) (by rfl) (by rfl) (by rfl) (by rfl) (by rfl) (by rfl) (by exact rfl) (by rfl) (by rfl) ?_
                  refine X.opR rfl rfl rfl ?_
                  refine GS.opsNil ?_
                  refine GS.endB ?_
                  exact X.gc [some 0, some 5, some 2] (hj_5 l7 hM) rfl rfl rfl (gk_cons rfl (rn_ovl rfl) (gk_cons rfl (rv_ne (app_ne h_13) rfl) (gk_cons rfl ⟨9, rfl⟩ (gk_cons rfl (rn_ovl rfl) (gk_cons rfl ⟨9, rfl⟩ (gk_cons rfl ⟨9, rfl⟩ (gk_cons rfl (X.rv_ovs rfl) (gk_cons rfl ⟨9, rfl⟩ (gk_cons rfl ⟨9, rfl⟩ gk_nil))))))))) (gb_obl 9 rfl rfl (fun _ => rfl) (gb_obl' 9 (app_ne h_13) rfl rfl (fun _ => rfl) (gb_box rfl rfl ⟨9, rfl⟩ gb_nil)))
                · replace hM := ite_f h_12 hM
                  refine GS.skip ?_
                  refine GS.endB ?_
                  exact X.gc [some 0, some 1, some 2] (hj_5 l8 hM) rfl rfl rfl (gk_cons rfl (rn_ovl rfl) (gk_cons rfl (rn_ovl rfl) (gk_cons rfl ⟨9, rfl⟩ (gk_cons rfl (rn_ovl rfl) (gk_cons rfl ⟨9, rfl⟩ (gk_cons rfl ⟨9, rfl⟩ (gk_cons rfl (X.rv_ovs rfl) (gk_cons rfl ⟨9, rfl⟩ (gk_cons rfl ⟨9, rfl⟩ gk_nil))))))))) (gb_obl 9 rfl rfl (fun _ => rfl) (gb_obl 9 rfl rfl (fun _ => rfl) (gb_box rfl rfl ⟨9, rfl⟩ gb_nil)))
            · replace hM := ite_f h_9 hM
              refine GS.exit rfl ?_
              refine GS.endB ?_
              obtain ⟨y_2, hM, hy⟩ := map_of hM
              rw [hr_2 _ hy.symm] at hM
              exact X.gc [some 0, some 1] (hj_3 l8 hM) rfl rfl rfl (gk_cons rfl (rn_ovl rfl) (gk_cons rfl (rn_ovl rfl) (gk_cons rfl (rn_ovl rfl) (gk_cons rfl ⟨9, rfl⟩ (gk_cons rfl ⟨9, rfl⟩ gk_nil))))) (gb_obl 9 rfl rfl (fun _ => rfl) (gb_obl 9 rfl rfl (fun _ => rfl) gb_nil))
      · replace hM := ite_f h_4 hM
        refine GS.exit rfl ?_
        obtain ⟨y_1, hM, hy⟩ := map_of hM
        rw [hr_1 _ hy.symm] at hM
        exact X.gc [some 1] (hj_1 l9 hM) rfl rfl rfl (gk_cons rfl (rn_ovl rfl) gk_nil) (gb_obl 9 rfl rfl (fun _ => rfl) gb_nil)

abbrev e_ref02_Pairs (x : ref02_Pairs) : V := .agg [(V.sl (List.map e_Arr_2_int x.L)), (V.i x.E)]

set_option maxHeartbeats 4000000 in
theorem ok_ref02_put {l : (List Arr_2_int)} {p : Arr_2_int} {r : (List Arr_2_int)} (hM : ref02_put l p = some r) : Ct Tryz.prog 52 [(V.sl (List.map e_Arr_2_int l)), (e_Arr_2_int p)] (V.sl (List.map e_Arr_2_int r)) := by
  refine ct_of_gs CC_ok rfl ?_
  unfold ref02_put at hM
  refine GS.seq ?_
  refine GS.region ?_
  refine X.opW rfl rfl rfl rfl ?_
  refine X.opR rfl rfl rfl ?_
  refine GS.opsNil ?_
  refine GS.seq ?_
  refine GS.region ?_
  refine X.opR rfl rfl rfl ?_
  refine GS.opsNil ?_
  refine GS.seq ?_
  refine X.join (τ := Int) (fun v => ref02_put_j1 l p v = some r) (fun v => ⟨[(0, (V.sl (List.map e_Arr_2_int l))), (3, (V.ptr 0 0 0)), (5, (V.i v))], [.rows 2 [(e_Arr_2_int p)]], 0, none, 54⟩) ?_ ?_
  · intro at_ hM
    replace hM : ref02_put_j1 l p at_ = some r := hM
    unfold ref02_put_j1 at hM
    refine GS.seq ?_
    obtain ⟨l1, h_1, hM⟩ := bind_of hM
    obtain ⟨l2, h_2, hM⟩ := bind_of hM
    obtain ⟨l3, h_3, hM⟩ := bind_of hM
    obtain ⟨l4, h_4, hM⟩ := bind_of hM
    obtain ⟨l5, h_5, hM⟩ := bind_of hM
    refine X.draw (by kernel_rfl) ?_
    iterate 3 refine X.dop rfl rfl rfl rfl (by kernel_rfl) rfl rfl ?_
    refine X.dop rfl (X.sliceF (f := e_Arr_2_int) h_1 (fun _ => rfl) rfl rfl rfl rfl rfl rfl (X.boundA_int rfl)) rfl rfl (by kernel_rfl) rfl rfl ?_
    refine X.dop rfl (X.appO (f := e_Arr_2_int) h_2 (fun _ => rfl) rfl rfl rfl rfl rfl rfl rfl rfl rfl rfl) rfl rfl (by kernel_rfl) rfl rfl ?_
    iterate 2 refine X.dop rfl rfl rfl rfl (by kernel_rfl) rfl rfl ?_
    refine X.dop rfl (X.appO (f := e_Arr_2_int) h_3 (fun _ => rfl) rfl rfl rfl rfl rfl rfl rfl rfl rfl rfl) rfl rfl (by kernel_rfl) rfl rfl ?_
    iterate 2 refine X.dop rfl rfl rfl rfl (by kernel_rfl) rfl rfl ?_
    refine X.dop rfl (X.sliceF (f := e_Arr_2_int) h_4 (fun _ => rfl) rfl rfl rfl rfl rfl (X.boundA_int rfl) rfl) rfl rfl (by kernel_rfl) rfl rfl ?_
    refine X.dop rfl (X.appO (f := e_Arr_2_int) h_5 (fun _ => rfl) rfl rfl rfl rfl rfl rfl rfl rfl rfl rfl) rfl rfl (by kernel_rfl) rfl rfl ?_
    refine X.dop rfl rfl rfl rfl (by kernel_rfl) rfl rfl ?_
    refine X.dnil ?_
    refine X.norm [(4, (V.osl 5 0 (List.length l5)))] ?_ rfl (W.sub_cons rfl W.sub_nil)
    have hE := Option.some.inj hM
    subst hE
    exact GS.ret ⟨_, rfl, FR.osl (f := e_Arr_2_int) (l := l5) 9 rfl rfl (fun _ => rfl)⟩
  · intro hj_1
    refine GS.block ?_
    refine X.gc [some 0] (X.loop (σ := Int) (fun v => ⟨[(0, (V.sl (List.map e_Arr_2_int l))), (3, (V.ptr 0 0 0)), (5, (V.i v))], [.rows 2 [(e_Arr_2_int p)]], 0, none, 54⟩) hM ?_ rfl) rfl rfl rfl (gk_cons rfl ⟨9, rfl⟩ (gk_cons rfl ⟨9, rfl⟩ (gk_cons rfl ⟨9, rfl⟩ gk_nil))) (gb_box rfl rfl ⟨9, rfl⟩ gb_nil)
    intro at_1 b_1 hM hc_2 hr_1
    rw [ref02_put_b2] at hM
    iterate 2 refine GS.seq ?_
    obtain ⟨x, h_6, hM⟩ := gb_of hM
    obtain ⟨x1, h_7, hM⟩ := gb_of hM
    obtain ⟨x2, h_8, hM⟩ := gb_of hM
    refine X.mid [(0, (V.sl (List.map e_Arr_2_int l))), (3, (V.ptr 0 0 0)), (5, (V.i at_1)), (39, (V.b ((decide (at_1 < (l.length : Int))) && ((decide (x.a0 < p.a0)) || ((decide (x1.a0 = p.a0)) && (decide (x2.a1 < p.a1)))))))] ?_ ?_
    · intro hg
      refine X.split (decide (at_1 < (l.length : Int))) (fun h_9 => ?_) (fun h_9 => ?_)
      · refine X.split (decide (x.a0 < p.a0)) (fun h_10 => ?_) (fun h_10 => ?_)
        · refine X.drawc (by kernel_rfl) rfl ?_
          iterate 2 refine X.cop rfl rfl rfl rfl ?_
          refine X.cop rfl (X.lenF rfl rfl rfl) rfl rfl ?_
          iterate 2 refine X.cop rfl rfl rfl rfl ?_
          iterate 2 refine X.cop (X.on_t rfl rfl rfl h_9) rfl rfl rfl ?_
          refine X.cop (X.on_t rfl rfl rfl h_9) (X.indexF (f := e_Arr_2_int) (h_6 h_9) (fun _ => rfl) rfl rfl rfl rfl) rfl rfl ?_
          refine X.cop (X.on_t rfl rfl rfl h_9) rfl rfl rfl ?_
          refine X.cop (X.on_t rfl rfl rfl h_9) (X.loadF (h_6 h_9) rfl rfl rfl) rfl rfl ?_
          iterate 4 refine X.cop (X.on_t rfl rfl rfl h_9) rfl rfl rfl ?_
          iterate 9 refine X.coff (X.off_f rfl rfl rfl h_10) rfl rfl ?_
          iterate 8 refine X.coff rfl rfl rfl ?_
          refine X.coff (X.off_f rfl rfl rfl h_10) rfl rfl ?_
          refine X.cop (X.on_t rfl rfl rfl h_9) (X.pickor_t (y := ((decide (x1.a0 = p.a0)) && (decide (x2.a1 < p.a1)))) rfl h_10 rfl) rfl rfl ?_
          refine X.cop rfl (X.pickand_t (y := ((decide (x.a0 < p.a0)) || ((decide (x1.a0 = p.a0)) && (decide (x2.a1 < p.a1))))) rfl h_9 rfl) rfl rfl ?_
          refine X.cnil ?_
          exact X.norm _ hg rfl (W.sub_cons rfl (W.sub_cons rfl (W.sub_cons rfl (W.sub_cons rfl W.sub_nil))))
        · refine X.split (decide (x1.a0 = p.a0)) (fun h_11 => ?_) (fun h_11 => ?_)
          · refine X.drawc (by kernel_rfl) rfl ?_
            iterate 2 refine X.cop rfl rfl rfl rfl ?_
            refine X.cop rfl (X.lenF rfl rfl rfl) rfl rfl ?_
            iterate 2 refine X.cop rfl rfl rfl rfl ?_
            iterate 2 refine X.cop (X.on_t rfl rfl rfl h_9) rfl rfl rfl ?_
            refine X.cop (X.on_t rfl rfl rfl h_9) (X.indexF (f := e_Arr_2_int) (h_6 h_9) (fun _ => rfl) rfl rfl rfl rfl) rfl rfl ?_
            refine X.cop (X.on_t rfl rfl rfl h_9) rfl rfl rfl ?_
            refine X.cop (X.on_t rfl rfl rfl h_9) (X.loadF (h_6 h_9) rfl rfl rfl) rfl rfl ?_
            iterate 4 refine X.cop (X.on_t rfl rfl rfl h_9) rfl rfl rfl ?_
            iterate 2 refine X.cop (X.on_f rfl rfl rfl h_10) rfl rfl rfl ?_
            refine X.cop (X.on_f rfl rfl rfl h_10) (X.indexF (f := e_Arr_2_int) (h_7 (X.and_tt h_9 (X.nt h_10))) (fun _ => rfl) rfl rfl rfl rfl) rfl rfl ?_
            refine X.cop (X.on_f rfl rfl rfl h_10) rfl rfl rfl ?_
            refine X.cop (X.on_f rfl rfl rfl h_10) (X.loadF (h_7 (X.and_tt h_9 (X.nt h_10))) rfl rfl rfl) rfl rfl ?_
            iterate 4 refine X.cop (X.on_f rfl rfl rfl h_10) rfl rfl rfl ?_
            iterate 2 refine X.cop (X.on_t rfl rfl rfl h_11) rfl rfl rfl ?_
            refine X.cop (X.on_t rfl rfl rfl h_11) (X.indexF (f := e_Arr_2_int) (h_8 (X.and_tt (X.and_tt h_9 (X.nt h_10)) h_11)) (fun _ => rfl) rfl rfl rfl rfl) rfl rfl ?_
            refine X.cop (X.on_t rfl rfl rfl h_11) rfl rfl rfl ?_
            refine X.cop (X.on_t rfl rfl rfl h_11) (X.loadF (h_8 (X.and_tt (X.and_tt h_9 (X.nt h_10)) h_11)) rfl rfl rfl) rfl rfl ?_
            iterate 3 refine X.cop (X.on_t rfl rfl rfl h_11) rfl rfl rfl ?_
            refine X.cop (X.on_f rfl rfl rfl h_10) (X.pickand_t (y := decide (x2.a1 < p.a1)) rfl h_11 rfl) rfl rfl ?_
            refine X.cop (X.on_t rfl rfl rfl h_9) (X.pickor_f (y := ((decide (x1.a0 = p.a0)) && (decide (x2.a1 < p.a1)))) rfl h_10 rfl) rfl rfl ?_
            refine X.cop rfl (X.pickand_t (y := ((decide (x.a0 < p.a0)) || ((decide (x1.a0 = p.a0)) && (decide (x2.a1 < p.a1))))) rfl h_9 rfl) rfl rfl ?_
            refine X.cnil ?_
            exact X.norm _ hg rfl (W.sub_cons rfl (W.sub_cons rfl (W.sub_cons rfl (W.sub_cons rfl W.sub_nil))))
          · refine X.drawc (by kernel_rfl) rfl ?_
            iterate 2 refine X.cop rfl rfl rfl rfl ?_
            refine X.cop rfl (X.lenF rfl rfl rfl) rfl rfl ?_
            iterate 2 refine X.cop rfl rfl rfl rfl ?_
            iterate 2 refine X.cop (X.on_t rfl rfl rfl h_9) rfl rfl rfl ?_
            refine X.cop (X.on_t rfl rfl rfl h_9) (X.indexF (f := e_Arr_2_int) (h_6 h_9) (fun _ => rfl) rfl rfl rfl rfl) rfl rfl ?_
            refine X.cop (X.on_t rfl rfl rfl h_9) rfl rfl rfl ?_
            refine X.cop (X.on_t rfl rfl rfl h_9) (X.loadF (h_6 h_9) rfl rfl rfl) rfl rfl ?_
            iterate 4 refine X.cop (X.on_t rfl rfl rfl h_9) rfl rfl rfl ?_
            iterate 2 refine X.cop (X.on_f rfl rfl rfl h_10) rfl rfl rfl ?_
            refine X.cop (X.on_f rfl rfl rfl h_10) (X.indexF (f := e_Arr_2_int) (h_7 (X.and_tt h_9 (X.nt h_10))) (fun _ => rfl) rfl rfl rfl rfl) rfl rfl ?_
            refine X.cop (X.on_f rfl rfl rfl h_10) rfl rfl rfl ?_
            refine X.cop (X.on_f rfl rfl rfl h_10) (X.loadF (h_7 (X.and_tt h_9 (X.nt h_10))) rfl rfl rfl) rfl rfl ?_
            iterate 4 refine X.cop (X.on_f rfl rfl rfl h_10) rfl rfl rfl ?_
            iterate 8 refine X.coff (X.off_t rfl rfl rfl h_11) rfl rfl ?_
            refine X.cop (X.on_f rfl rfl rfl h_10) (X.pickand_f (y := decide (x2.a1 < p.a1)) rfl h_11 rfl) rfl rfl ?_
            refine X.cop (X.on_t rfl rfl rfl h_9) (X.pickor_f (y := ((decide (x1.a0 = p.a0)) && (decide (x2.a1 < p.a1)))) rfl h_10 rfl) rfl rfl ?_
            refine X.cop rfl (X.pickand_t (y := ((decide (x.a0 < p.a0)) || ((decide (x1.a0 = p.a0)) && (decide (x2.a1 < p.a1))))) rfl h_9 rfl) rfl rfl ?_
            refine X.cnil ?_
            exact X.norm _ hg rfl (W.sub_cons rfl (W.sub_cons rfl (W.sub_cons rfl (W.sub_cons rfl W.sub_nil))))
      · refine X.drawc (by kernel_rfl) rfl ?_
        iterate 2 refine X.cop rfl rfl rfl rfl ?_
        refine X.cop rfl (X.lenF rfl rfl rfl) rfl rfl ?_
        iterate 2 refine X.cop rfl rfl rfl rfl ?_
        iterate 9 refine X.coff (X.off_t rfl rfl rfl h_9) rfl rfl ?_
        iterate 18 refine X.coff rfl rfl rfl ?_
        refine X.coff (X.off_t rfl rfl rfl h_9) rfl rfl ?_
        refine X.cop rfl (X.pickand_f (y := ((decide (x.a0 < p.a0)) || ((decide (x1.a0 = p.a0)) && (decide (x2.a1 < p.a1))))) rfl h_9 rfl) rfl rfl ?_
        refine X.cnil ?_
        exact X.norm _ hg rfl (W.sub_cons rfl (W.sub_cons rfl (W.sub_cons rfl (W.sub_cons rfl W.sub_nil))))
    refine X.cond rfl (fun h_12 => ?_) (fun h_12 => ?_)
    · replace hM := ite_t h_12 hM
      refine GS.skip ?_
      refine GS.block ?_
      refine GS.region ?_
      refine X.opR rfl rfl rfl ?_
      refine X.opR rfl (X.addE rfl rfl) rfl ?_
      refine X.opR rfl rfl rfl ?_
      refine GS.opsNil ?_
      refine GS.endB ?_
      have hE := Option.some.inj hM
      exact X.gc [some 0] (hc_2 (w64 (at_1 + 1)) hE.symm) rfl rfl rfl (gk_cons rfl ⟨9, rfl⟩ (gk_cons rfl ⟨9, rfl⟩ (gk_cons rfl ⟨9, rfl⟩ gk_nil))) (gb_box rfl rfl ⟨9, rfl⟩ gb_nil)
    · replace hM := ite_f h_12 hM
      refine GS.exit rfl ?_
      obtain ⟨y_1, hM, hy⟩ := map_of hM
      rw [hr_1 _ hy.symm] at hM
      exact X.gc [some 0] (hj_1 at_1 hM) rfl rfl rfl (gk_cons rfl ⟨9, rfl⟩ (gk_cons rfl ⟨9, rfl⟩ (gk_cons rfl ⟨9, rfl⟩ gk_nil))) (gb_box rfl rfl ⟨9, rfl⟩ gb_nil)

set_option maxHeartbeats 4000000 in
theorem ok_ref02_Clashes {w : api_Water} {l : (List api_Gauge)} {r : ref02_Pairs} (hM : ref02_Clashes w l = some r) : Ct Tryz.prog 17 [(e_api_Water w), (V.sl (List.map e_api_Gauge l))] (e_ref02_Pairs r) := by
  refine ct_of_gs CC_ok rfl ?_
  unfold ref02_Clashes at hM
  refine GS.seq ?_
  refine GS.region ?_
  iterate 2 refine X.opW rfl rfl rfl rfl ?_
  refine GS.opsNil ?_
  refine GS.seq ?_
  obtain ⟨y, h_1, hM⟩ := bind_of hM
  refine GS.region ?_
  iterate 2 refine X.opR rfl rfl rfl ?_
  refine X.call (ok_ref02_Gauged h_1) rfl rfl rfl (.cons (.shut (n := 9) rfl) (.cons (.shut (n := 9) rfl) .nil)) ?_
  refine X.opR rfl rfl rfl ?_
  refine GS.opsNil ?_
  iterate 2 refine GS.seq ?_
  refine GS.region ?_
  iterate 2 refine X.opR rfl rfl rfl ?_
  refine GS.opsNil ?_
  refine X.cond rfl (fun h_2 => ?_) (fun h_2 => ?_)
  · replace hM := ite_t h_2 hM
    refine GS.seq ?_
    refine GS.region ?_
    iterate 2 refine X.opR rfl rfl rfl ?_
    refine X.op0W rfl rfl rfl ?_
    refine GS.opsNil ?_
    have hE := Option.some.inj hM
    subst hE
    exact GS.ret ⟨_, rfl, ⟨30, rfl⟩⟩
  · replace hM := ite_f h_2 hM
    refine GS.skip ?_
    refine GS.seq ?_
    refine GS.region ?_
    refine X.opR rfl rfl rfl ?_
    refine GS.opsNil ?_
    iterate 2 refine GS.seq ?_
    refine GS.region ?_
    refine X.opR rfl rfl rfl ?_
    refine GS.opsNil ?_
    refine X.join (τ := (List Arr_2_int)) (fun v => ref02_Clashes_j1 v = some r) (fun v => ⟨[(4, (V.ptr 0 0 0)), (6, (V.sl (List.map e_Arr_2_int v)))], [.rows 2 [(V.agg [V.nil, (V.i 0)])]], 0, none, 111⟩) ?_ ?_
    · intro out hM
      replace hM : ref02_Clashes_j1 out = some r := hM
      unfold ref02_Clashes_j1 at hM
      refine GS.seq ?_
      refine GS.region ?_
      iterate 2 refine X.opR rfl rfl rfl ?_
      refine X.op0W rfl rfl rfl ?_
      refine GS.opsNil ?_
      have hE := Option.some.inj hM
      subst hE
      exact GS.ret ⟨_, rfl, ⟨30, rfl⟩⟩
    · intro hj_1
      refine GS.block ?_
      refine X.gc [some 0, some 1] (X.loop (σ := ((List Arr_2_int) × Int)) (fun v => ⟨[(1, (V.sl (List.map e_api_Gauge l))), (2, (V.ptr 0 0 0)), (4, (V.ptr 1 0 0)), (6, (V.sl (List.map e_Arr_2_int v.1))), (7, (V.i v.2))], [.rows 3 [(e_api_Water w)], .rows 2 [(V.agg [V.nil, (V.i 0)])]], 0, none, 111⟩) hM ?_ rfl) rfl rfl rfl (gk_cons rfl ⟨9, rfl⟩ (gk_cons rfl ⟨9, rfl⟩ (gk_cons rfl ⟨9, rfl⟩ (gk_thin 9 rfl rfl ⟨9, rfl⟩ (gk_cons rfl ⟨9, rfl⟩ gk_nil))))) (gb_box rfl rfl ⟨9, rfl⟩ (gb_box rfl rfl ⟨9, rfl⟩ gb_nil))
      rintro ⟨out5, i⟩ b_1 hM hc_2 hr_1
      rw [ref02_Clashes_b2] at hM
      iterate 2 refine GS.seq ?_
      refine GS.region ?_
      iterate 2 refine X.opR rfl rfl rfl ?_
      refine X.opR rfl (X.lenF rfl rfl rfl) rfl ?_
      refine X.opR rfl rfl rfl ?_
      refine GS.opsNil ?_
      refine X.cond rfl (fun h_3 => ?_) (fun h_3 => ?_)
      · replace hM := ite_t h_3 hM
        refine GS.skip ?_
        refine GS.seq ?_
        refine GS.block ?_
        refine GS.seq ?_
        obtain ⟨x, h_4, hM⟩ := bind_of hM
        obtain ⟨y1, h_5, hM⟩ := bind_of hM
        refine X.draw (by kernel_rfl) ?_
        iterate 3 refine X.dop rfl rfl rfl rfl (by kernel_rfl) rfl rfl ?_
        refine X.dop rfl (X.indexF (f := e_api_Gauge) h_4 (fun _ => rfl) rfl rfl rfl rfl) rfl rfl (by kernel_rfl) rfl rfl ?_
        refine X.dop rfl (X.loadF h_4 rfl rfl rfl) rfl rfl (by kernel_rfl) rfl rfl ?_
        refine X.dcall (ok_ref02_agreed h_5) rfl rfl rfl (by kernel_rfl) rfl (.cons (.shut (n := 9) rfl) (.cons (.shut (n := 9) rfl) .nil)) ?_
        refine X.dop rfl rfl rfl rfl (by kernel_rfl) rfl rfl ?_
        refine X.dop0 rfl rfl rfl rfl (by kernel_rfl) rfl ?_
        refine X.dnil ?_
        refine X.norm [(1, (V.sl (List.map e_api_Gauge l))), (2, (V.ptr 0 0 0)), (4, (V.ptr 1 0 0)), (6, (V.sl (List.map e_Arr_2_int out5))), (7, (V.i i)), (8, (V.ptr 2 0 0))] ?_ rfl (W.sub_cons rfl (W.sub_cons rfl (W.sub_cons rfl (W.sub_cons rfl (W.sub_cons rfl (W.sub_cons rfl W.sub_nil))))))
        iterate 2 refine GS.seq ?_
        refine GS.region ?_
        iterate 5 refine X.opR rfl rfl rfl ?_
        refine GS.opsNil ?_
        refine X.join (τ := (List Arr_2_int)) (fun v => ref02_Clashes_j3 w l i y1 v = some b_1) (fun v => ⟨[(1, (V.sl (List.map e_api_Gauge l))), (2, (V.ptr 0 0 0)), (4, (V.ptr 1 0 0)), (6, (V.sl (List.map e_Arr_2_int v))), (7, (V.i i)), (8, (V.ptr 2 0 0))], [.rows 3 [(e_api_Water w)], .rows 2 [(V.agg [V.nil, (V.i 0)])], .rows 2 [(e_api_Span y1)]], 0, none, 111⟩) ?_ ?_
        · intro out1 hM
          replace hM : ref02_Clashes_j3 w l i y1 out1 = some b_1 := hM
          unfold ref02_Clashes_j3 at hM
          refine GS.seq ?_
          refine GS.region ?_
          refine X.opR rfl rfl rfl ?_
          refine GS.opsNil ?_
          refine X.join (τ := (List Arr_2_int)) (fun v => ref02_Clashes_j4 i v = some b_1) (fun v => ⟨[(1, (V.sl (List.map e_api_Gauge l))), (2, (V.ptr 0 0 0)), (4, (V.ptr 1 0 0)), (6, (V.sl (List.map e_Arr_2_int v))), (7, (V.i i))], [.rows 3 [(e_api_Water w)], .rows 2 [(V.agg [V.nil, (V.i 0)])]], 0, none, 111⟩) ?_ ?_
          · intro out2 hM
            replace hM : ref02_Clashes_j4 i out2 = some b_1 := hM
            unfold ref02_Clashes_j4 at hM
            refine GS.endB ?_
            refine GS.region ?_
            refine X.opR rfl rfl rfl ?_
            refine X.opR rfl (X.addE rfl rfl) rfl ?_
            refine X.opR rfl rfl rfl ?_
            refine GS.opsNil ?_
            have hE := Option.some.inj hM
            exact X.gc [some 0, some 1] (hc_2 (out2, w64 (i + 1)) hE.symm) rfl rfl rfl (gk_cons rfl ⟨9, rfl⟩ (gk_cons rfl ⟨9, rfl⟩ (gk_cons rfl ⟨9, rfl⟩ (gk_cons rfl ⟨9, rfl⟩ (gk_cons rfl ⟨9, rfl⟩ gk_nil))))) (gb_box rfl rfl ⟨9, rfl⟩ (gb_box rfl rfl ⟨9, rfl⟩ gb_nil))
          · intro hj_4
            refine GS.block ?_
            refine X.gc [some 0, some 1, some 2] (X.loop (σ := ((List Arr_2_int) × Int)) (fun v => ⟨[(1, (V.sl (List.map e_api_Gauge l))), (2, (V.ptr 0 0 0)), (4, (V.ptr 1 0 0)), (6, (V.sl (List.map e_Arr_2_int v.1))), (7, (V.i i)), (8, (V.ptr 2 0 0)), (9, (V.i v.2))], [.rows 3 [(e_api_Water w)], .rows 2 [(V.agg [V.nil, (V.i 0)])], .rows 2 [(e_api_Span y1)]], 0, none, 111⟩) hM ?_ rfl) rfl rfl rfl (gk_cons rfl ⟨9, rfl⟩ (gk_cons rfl ⟨9, rfl⟩ (gk_cons rfl ⟨9, rfl⟩ (gk_cons rfl ⟨9, rfl⟩ (gk_cons rfl ⟨9, rfl⟩ (gk_cons rfl ⟨9, rfl⟩ (gk_cons rfl ⟨9, rfl⟩ gk_nil))))))) (gb_box rfl rfl ⟨9, rfl⟩ (gb_box rfl rfl ⟨9, rfl⟩ (gb_box rfl rfl ⟨9, rfl⟩ gb_nil)))
            rintro ⟨out4, k⟩ b_2 hM hc_5 hr_2
            rw [ref02_Clashes_b5] at hM
            iterate 2 refine GS.seq ?_
            refine GS.region ?_
            iterate 3 refine X.opR rfl rfl rfl ?_
            refine GS.opsNil ?_
            refine X.cond rfl (fun h_6 => ?_) (fun h_6 => ?_)
            · replace hM := ite_t h_6 hM
              refine GS.skip ?_
              refine GS.seq ?_
              refine X.join (τ := (List Arr_2_int)) (fun v => ref02_Clashes_j6 k v = some b_2) (fun v => ⟨[(1, (V.sl (List.map e_api_Gauge l))), (2, (V.ptr 0 0 0)), (4, (V.ptr 1 0 0)), (6, (V.sl (List.map e_Arr_2_int v))), (7, (V.i i)), (8, (V.ptr 2 0 0)), (9, (V.i k))], [.rows 3 [(e_api_Water w)], .rows 2 [(V.agg [V.nil, (V.i 0)])], .rows 2 [(e_api_Span y1)]], 0, none, 111⟩) ?_ ?_
              · intro out3 hM
                replace hM : ref02_Clashes_j6 k out3 = some b_2 := hM
                unfold ref02_Clashes_j6 at hM
                refine GS.region ?_
                refine X.opR rfl rfl rfl ?_
                refine X.opR rfl (X.addE rfl rfl) rfl ?_
                refine X.opR rfl rfl rfl ?_
                refine GS.opsNil ?_
                have hE := Option.some.inj hM
                exact X.gc [some 0, some 1, some 2] (hc_5 (out3, w64 (k + 1)) hE.symm) rfl rfl rfl (gk_cons rfl ⟨9, rfl⟩ (gk_cons rfl ⟨9, rfl⟩ (gk_cons rfl ⟨9, rfl⟩ (gk_cons rfl ⟨9, rfl⟩ (gk_cons rfl ⟨9, rfl⟩ (gk_cons rfl ⟨9, rfl⟩ (gk_cons rfl ⟨9, rfl⟩ gk_nil))))))) (gb_box rfl rfl ⟨9, rfl⟩ (gb_box rfl rfl ⟨9, rfl⟩ (gb_box rfl rfl ⟨9, rfl⟩ gb_nil)))
              · intro hj_6
                refine GS.block ?_
                refine GS.seq ?_
                obtain ⟨x1, h_7, hM⟩ := bind_of hM
                obtain ⟨y2, h_8, hM⟩ := bind_of hM
                refine X.draw (by kernel_rfl) ?_
                iterate 3 refine X.dop rfl rfl rfl rfl (by kernel_rfl) rfl rfl ?_
                refine X.dop rfl (X.indexF (f := e_api_Gauge) h_7 (fun _ => rfl) rfl rfl rfl rfl) rfl rfl (by kernel_rfl) rfl rfl ?_
                refine X.dop rfl (X.loadF h_7 rfl rfl rfl) rfl rfl (by kernel_rfl) rfl rfl ?_
                refine X.dcall (ok_ref02_agreed h_8) rfl rfl rfl (by kernel_rfl) rfl (.cons (.shut (n := 9) rfl) (.cons (.shut (n := 9) rfl) .nil)) ?_
                refine X.dop rfl rfl rfl rfl (by kernel_rfl) rfl rfl ?_
                refine X.dop0 rfl rfl rfl rfl (by kernel_rfl) rfl ?_
                refine X.dnil ?_
                refine X.norm [(1, (V.sl (List.map e_api_Gauge l))), (2, (V.ptr 0 0 0)), (4, (V.ptr 1 0 0)), (6, (V.sl (List.map e_Arr_2_int out4))), (7, (V.i i)), (8, (V.ptr 2 0 0)), (9, (V.i k)), (10, (V.ptr 3 0 0))] ?_ rfl (W.sub_cons rfl (W.sub_cons rfl (W.sub_cons rfl (W.sub_cons rfl (W.sub_cons rfl (W.sub_cons rfl (W.sub_cons rfl (W.sub_cons rfl W.sub_nil))))))))
                refine GS.seq ?_
                refine GS.region ?_
                refine X.mid [(1, (V.sl (List.map e_api_Gauge l))), (2, (V.ptr 0 0 0)), (4, (V.ptr 1 0 0)), (6, (V.sl (List.map e_Arr_2_int out4))), (7, (V.i i)), (8, (V.ptr 2 0 0)), (9, (V.i k)), (83, (V.b (((decide (y1.Lo ≤ y1.Hi)) && (decide (y2.Lo ≤ y2.Hi))) && (decide ((min y1.Hi y2.Hi) < (max y1.Lo y2.Lo))))))] ?_ ?_
                · intro hg
                  refine X.split (decide (y1.Lo ≤ y1.Hi)) (fun h_9 => ?_) (fun h_9 => ?_)
                  · refine X.split (((decide (y1.Lo ≤ y1.Hi)) && (decide (y2.Lo ≤ y2.Hi)))) (fun h_10 => ?_) (fun h_10 => ?_)
                    · iterate 6 refine X.opR rfl rfl rfl ?_
                      iterate 5 refine X.opR (X.on_t rfl rfl rfl h_9) rfl rfl ?_
                      refine X.opR rfl (X.pickand_t (y := decide (y2.Lo ≤ y2.Hi)) rfl h_9 rfl) rfl ?_
                      refine X.opR rfl rfl rfl ?_
                      iterate 4 refine X.opR (X.on_t rfl rfl rfl h_10) rfl rfl ?_
                      refine X.opR (X.on_t rfl rfl rfl h_10) (X.maxE rfl rfl) rfl ?_
                      iterate 4 refine X.opR (X.on_t rfl rfl rfl h_10) rfl rfl ?_
                      refine X.opR (X.on_t rfl rfl rfl h_10) (X.minE rfl rfl) rfl ?_
                      refine X.opR (X.on_t rfl rfl rfl h_10) rfl rfl ?_
                      refine X.opR rfl (X.pickand_t (y := decide ((min y1.Hi y2.Hi) < (max y1.Lo y2.Lo))) rfl h_10 rfl) rfl ?_
                      refine GS.opsNil ?_
                      exact X.norm _ hg rfl (W.sub_cons rfl (W.sub_cons rfl (W.sub_cons rfl (W.sub_cons rfl (W.sub_cons rfl (W.sub_cons rfl (W.sub_cons rfl (W.sub_cons rfl W.sub_nil))))))))
                    · iterate 6 refine X.opR rfl rfl rfl ?_
                      iterate 5 refine X.opR (X.on_t rfl rfl rfl h_9) rfl rfl ?_
                      refine X.opR rfl (X.pickand_t (y := decide (y2.Lo ≤ y2.Hi)) rfl h_9 rfl) rfl ?_
                      refine X.opR rfl rfl rfl ?_
                      iterate 11 refine X.off (X.off_t rfl rfl rfl h_10) rfl ?_
                      refine X.opR rfl (X.pickand_f (y := decide ((min y1.Hi y2.Hi) < (max y1.Lo y2.Lo))) rfl h_10 rfl) rfl ?_
                      refine GS.opsNil ?_
                      exact X.norm _ hg rfl (W.sub_cons rfl (W.sub_cons rfl (W.sub_cons rfl (W.sub_cons rfl (W.sub_cons rfl (W.sub_cons rfl (W.sub_cons rfl (W.sub_cons rfl W.sub_nil))))))))
                  · iterate 6 refine X.opR rfl rfl rfl ?_
                    iterate 5 refine X.off (X.off_t rfl rfl rfl h_9) rfl ?_
                    refine X.opR rfl (X.pickand_f (y := decide (y2.Lo ≤ y2.Hi)) rfl h_9 rfl) rfl ?_
                    refine X.opR rfl rfl rfl ?_
                    iterate 11 refine X.off (X.off_t rfl rfl rfl (X.and_ff h_9)) rfl ?_
                    refine X.opR rfl (X.pickand_f (y := decide ((min y1.Hi y2.Hi) < (max y1.Lo y2.Lo))) rfl (X.and_ff h_9) rfl) rfl ?_
                    refine GS.opsNil ?_
                    exact X.norm _ hg rfl (W.sub_cons rfl (W.sub_cons rfl (W.sub_cons rfl (W.sub_cons rfl (W.sub_cons rfl (W.sub_cons rfl (W.sub_cons rfl (W.sub_cons rfl W.sub_nil))))))))
                refine X.cond rfl (fun h_11 => ?_) (fun h_11 => ?_)
                · replace hM := ite_t h_11 hM
                  obtain ⟨x2, h_12, hM⟩ := bind_of hM
                  obtain ⟨x3, h_13, hM⟩ := bind_of hM
                  obtain ⟨x4, h_14, hM⟩ := bind_of hM
                  obtain ⟨x5, h_15, hM⟩ := bind_of hM
                  obtain ⟨y3, h_16, hM⟩ := bind_of hM
                  refine X.drawc (by kernel_rfl) rfl ?_
                  iterate 3 refine X.cop rfl rfl rfl rfl ?_
                  refine X.cop rfl (X.indexF (f := e_api_Gauge) h_12 (fun _ => rfl) rfl rfl rfl rfl) rfl rfl ?_
                  refine X.cop rfl rfl rfl rfl ?_
                  refine X.cop rfl (X.loadF h_12 rfl rfl rfl) rfl rfl ?_
                  iterate 2 refine X.cop rfl rfl rfl rfl ?_
                  refine X.cop rfl (X.indexF (f := e_api_Gauge) h_13 (fun _ => rfl) rfl rfl rfl rfl) rfl rfl ?_
                  refine X.cop rfl rfl rfl rfl ?_
                  refine X.cop rfl (X.loadF h_13 rfl rfl rfl) rfl rfl ?_
                  refine X.cop rfl (X.minE rfl rfl) rfl rfl ?_
                  iterate 2 refine X.cop rfl rfl rfl rfl ?_
                  refine X.cop rfl (X.indexF (f := e_api_Gauge) h_14 (fun _ => rfl) rfl rfl rfl rfl) rfl rfl ?_
                  refine X.cop rfl rfl rfl rfl ?_
                  refine X.cop rfl (X.loadF h_14 rfl rfl rfl) rfl rfl ?_
                  iterate 2 refine X.cop rfl rfl rfl rfl ?_
                  refine X.cop rfl (X.indexF (f := e_api_Gauge) h_15 (fun _ => rfl) rfl rfl rfl rfl) rfl rfl ?_
                  refine X.cop rfl rfl rfl rfl ?_
                  refine X.cop rfl (X.loadF h_15 rfl rfl rfl) rfl rfl ?_
                  refine X.cop rfl (X.maxE rfl rfl) rfl rfl ?_
                  refine X.cop rfl rfl rfl rfl ?_
                  refine X.ccall (ok_ref02_put h_16) rfl rfl rfl rfl (.cons (.shut (n := 9) rfl) (.cons (.shut (n := 9) rfl) .nil)) ?_
                  refine X.cop rfl rfl rfl rfl ?_
                  refine X.cnil ?_
                  refine X.norm [(1, (V.sl (List.map e_api_Gauge l))), (2, (V.ptr 0 0 0)), (4, (V.ptr 1 0 0)), (6, (V.sl (List.map e_Arr_2_int y3))), (7, (V.i i)), (8, (V.ptr 2 0 0)), (9, (V.i k))] ?_ rfl (W.sub_cons rfl (W.sub_cons rfl (W.sub_cons rfl (W.sub_cons rfl (W.sub_cons rfl (W.sub_cons rfl (W.sub_cons rfl W.sub_nil)))))))
                  refine GS.endB ?_
                  exact X.gc [some 0, some 1, some 2] (hj_6 y3 hM) rfl rfl rfl (gk_cons rfl ⟨9, rfl⟩ (gk_cons rfl ⟨9, rfl⟩ (gk_cons rfl ⟨9, rfl⟩ (gk_cons rfl ⟨9, rfl⟩ (gk_cons rfl ⟨9, rfl⟩ (gk_cons rfl ⟨9, rfl⟩ (gk_cons rfl ⟨9, rfl⟩ gk_nil))))))) (gb_box rfl rfl ⟨9, rfl⟩ (gb_box rfl rfl ⟨9, rfl⟩ (gb_box rfl rfl ⟨9, rfl⟩ gb_nil)))
                · replace hM := ite_f h_11 hM
                  refine GS.skip ?_
                  refine GS.endB ?_
                  exact X.gc [some 0, some 1, some 2] (hj_6 out4 hM) rfl rfl rfl (gk_cons rfl ⟨9, rfl⟩ (gk_cons rfl ⟨9, rfl⟩ (gk_cons rfl ⟨9, rfl⟩ (gk_cons rfl ⟨9, rfl⟩ (gk_cons rfl ⟨9, rfl⟩ (gk_cons rfl ⟨9, rfl⟩ (gk_cons rfl ⟨9, rfl⟩ gk_nil))))))) (gb_box rfl rfl ⟨9, rfl⟩ (gb_box rfl rfl ⟨9, rfl⟩ (gb_box rfl rfl ⟨9, rfl⟩ gb_nil)))
            · replace hM := ite_f h_6 hM
              refine GS.exit rfl ?_
              obtain ⟨y_2, hM, hy⟩ := map_of hM
              rw [hr_2 _ hy.symm] at hM
              exact X.gc [some 0, some 1] (hj_4 out4 hM) rfl rfl rfl (gk_cons rfl ⟨9, rfl⟩ (gk_cons rfl ⟨9, rfl⟩ (gk_cons rfl ⟨9, rfl⟩ (gk_cons rfl ⟨9, rfl⟩ (gk_cons rfl ⟨9, rfl⟩ gk_nil))))) (gb_box rfl rfl ⟨9, rfl⟩ (gb_box rfl rfl ⟨9, rfl⟩ gb_nil))
        · intro hj_3
          refine X.cond rfl (fun h_17 => ?_) (fun h_17 => ?_)
          · replace hM := ite_t h_17 hM
            obtain ⟨x6, h_18, hM⟩ := bind_of hM
            obtain ⟨x7, h_19, hM⟩ := bind_of hM
            obtain ⟨y4, h_20, hM⟩ := bind_of hM
            refine X.drawc (by kernel_rfl) rfl ?_
            iterate 3 refine X.cop rfl rfl rfl rfl ?_
            refine X.cop rfl (X.indexF (f := e_api_Gauge) h_18 (fun _ => rfl) rfl rfl rfl rfl) rfl rfl ?_
            refine X.cop rfl rfl rfl rfl ?_
            refine X.cop rfl (X.loadF h_18 rfl rfl rfl) rfl rfl ?_
            iterate 2 refine X.cop rfl rfl rfl rfl ?_
            refine X.cop rfl (X.indexF (f := e_api_Gauge) h_19 (fun _ => rfl) rfl rfl rfl rfl) rfl rfl ?_
            refine X.cop rfl rfl rfl rfl ?_
            refine X.cop rfl (X.loadF h_19 rfl rfl rfl) rfl rfl ?_
            refine X.cop rfl rfl rfl rfl ?_
            refine X.ccall (ok_ref02_put h_20) rfl rfl rfl rfl (.cons (.shut (n := 9) rfl) (.cons (.shut (n := 9) rfl) .nil)) ?_
            refine X.cop rfl rfl rfl rfl ?_
            refine X.cnil ?_
            refine X.norm [(1, (V.sl (List.map e_api_Gauge l))), (2, (V.ptr 0 0 0)), (4, (V.ptr 1 0 0)), (6, (V.sl (List.map e_Arr_2_int y4))), (7, (V.i i)), (8, (V.ptr 2 0 0))] ?_ rfl (W.sub_cons rfl (W.sub_cons rfl (W.sub_cons rfl (W.sub_cons rfl (W.sub_cons rfl (W.sub_cons rfl W.sub_nil))))))
            exact X.gc [some 0, some 1, some 2] (hj_3 y4 hM) rfl rfl rfl (gk_cons rfl ⟨9, rfl⟩ (gk_cons rfl ⟨9, rfl⟩ (gk_cons rfl ⟨9, rfl⟩ (gk_cons rfl ⟨9, rfl⟩ (gk_cons rfl ⟨9, rfl⟩ (gk_cons rfl ⟨9, rfl⟩ gk_nil)))))) (gb_box rfl rfl ⟨9, rfl⟩ (gb_box rfl rfl ⟨9, rfl⟩ (gb_box rfl rfl ⟨9, rfl⟩ gb_nil)))
          · replace hM := ite_f h_17 hM
            refine GS.skip ?_
            exact X.gc [some 0, some 1, some 2] (hj_3 out5 hM) rfl rfl rfl (gk_cons rfl ⟨9, rfl⟩ (gk_cons rfl ⟨9, rfl⟩ (gk_cons rfl ⟨9, rfl⟩ (gk_cons rfl ⟨9, rfl⟩ (gk_cons rfl ⟨9, rfl⟩ (gk_cons rfl ⟨9, rfl⟩ gk_nil)))))) (gb_box rfl rfl ⟨9, rfl⟩ (gb_box rfl rfl ⟨9, rfl⟩ (gb_box rfl rfl ⟨9, rfl⟩ gb_nil)))
      · replace hM := ite_f h_3 hM
        refine GS.exit rfl ?_
        obtain ⟨y_1, hM, hy⟩ := map_of hM
        rw [hr_1 _ hy.symm] at hM
        exact X.gc [some 1] (hj_1 out5 hM) rfl rfl rfl (gk_cons rfl ⟨9, rfl⟩ (gk_cons rfl ⟨9, rfl⟩ gk_nil)) (gb_box rfl rfl ⟨9, rfl⟩ gb_nil)

theorem ok_tide_Suspects {w : api_Water} {l : (List api_Gauge)} {r : (List Int) × Int} (hM : tide_Suspects w l = some r) : Ct Tryz.prog 18 [(e_api_Water w), (V.sl (List.map e_api_Gauge l))] (V.tup [(V.sl (List.map V.i r.1)), (V.i r.2)]) := by
  refine ct_of_gs CC_ok rfl ?_
  unfold tide_Suspects at hM
  refine GS.seq ?_
  refine GS.region ?_
  refine X.opW rfl rfl rfl rfl ?_
  iterate 2 refine X.opR rfl rfl rfl ?_
  refine GS.opsNil ?_
  refine GS.seq ?_
  obtain ⟨y, h_1, hM⟩ := bind_of hM
  refine GS.region ?_
  iterate 2 refine X.opR rfl rfl rfl ?_
  refine X.call (ok_tide_read h_1) rfl rfl rfl (.cons (.shut (n := 9) rfl) (.cons (.shut (n := 9) rfl) .nil)) ?_
  iterate 5 refine X.opR rfl rfl rfl ?_
  refine GS.opsNil ?_
  iterate 2 refine GS.seq ?_
  obtain ⟨y1, h_2, hM⟩ := gb_of hM
  refine GS.region ?_
  refine X.mid [(6, (V.sl (List.map e_tide_known y.1))), (7, (V.i y.2)), (24, (V.b ((!decide (y.2 = 0)) || (!(tide_none y1)))))] ?_ ?_
  · intro hg
    refine X.split (!decide (y.2 = 0)) (fun h_3 => ?_) (fun h_3 => ?_)
    · iterate 3 refine X.opR rfl rfl rfl ?_
      iterate 4 refine X.off (X.off_f rfl rfl rfl h_3) rfl ?_
      refine X.opR rfl (X.pickor_t (y := !(tide_none y1)) rfl h_3 rfl) rfl ?_
      refine GS.opsNil ?_
      exact X.norm _ hg rfl (W.sub_cons rfl (W.sub_cons rfl (W.sub_cons rfl W.sub_nil)))
    · iterate 3 refine X.opR rfl rfl rfl ?_
      refine X.opR (X.on_f rfl rfl rfl h_3) rfl rfl ?_
      refine X.call (ok_tide_levels (h_2 (X.nt h_3))) (X.on_f rfl rfl rfl h_3) rfl rfl (.cons (.shut (n := 9) rfl) (.cons (.shut (n := 9) rfl) .nil)) ?_
      refine X.call (ok_tide_none y1) (X.on_f rfl rfl rfl h_3) rfl rfl (.cons (.shut (n := 9) rfl) .nil) ?_
      refine X.opR (X.on_f rfl rfl rfl h_3) rfl rfl ?_
      refine X.opR rfl (X.pickor_f (y := !(tide_none y1)) rfl h_3 rfl) rfl ?_
      refine GS.opsNil ?_
      exact X.norm _ hg rfl (W.sub_cons rfl (W.sub_cons rfl (W.sub_cons rfl W.sub_nil)))
  refine X.cond rfl (fun h_4 => ?_) (fun h_4 => ?_)
  · replace hM := ite_t h_4 hM
    refine GS.seq ?_
    refine GS.region ?_
    iterate 3 refine X.opR rfl rfl rfl ?_
    refine GS.opsNil ?_
    have hE := Option.some.inj hM
    subst hE
    exact GS.ret ⟨_, rfl, ⟨30, rfl⟩⟩
  · replace hM := ite_f h_4 hM
    refine GS.skip ?_
    refine GS.seq ?_
    refine GS.region ?_
    refine X.opR rfl rfl rfl ?_
    refine GS.opsNil ?_
    iterate 2 refine GS.seq ?_
    refine GS.region ?_
    refine X.opR rfl rfl rfl ?_
    refine X.opR rfl (X.lenF rfl rfl rfl) rfl ?_
    refine X.opR rfl rfl rfl ?_
    refine GS.opsNil ?_
    refine X.join (τ := (List Int)) (fun v => tide_Suspects_j1 v = some r) (fun v => ⟨[(8, (ovl 0 v))], [obl 1 V.i v], 0, none, 48⟩) ?_ ?_
    · intro l1 hM
      replace hM : tide_Suspects_j1 l1 = some r := hM
      unfold tide_Suspects_j1 at hM
      refine GS.seq ?_
      obtain ⟨l2, h_5, hM⟩ := bind_of hM
      refine GS.region ?_
      refine X.opR rfl rfl rfl ?_
      refine X.norm [(8, (ovl 0 l1)), (45, (ovl 0 l1))] ?_ rfl (W.sub_cons rfl (W.sub_cons rfl W.sub_nil))
      refine X.sortInt (z := true) h_5 sort_C sort_nil (fun _ _ _ h => h) (K' := [(8, (ovl 0 l2)), (45, (ovl 0 l2))]) (H' := [obl 1 V.i l2]) rfl rfl rfl rfl rfl rfl ?_ ?_ ?_
      · first | rfl | rw [X.ovlz_len (srtO_len h_5)] | simp only [ovl, X.ovlz_len (srtO_len h_5)] | simp only [srtO_len h_5]
      · first | rfl | (simp only [hput]; rfl)
      refine GS.opsNil ?_
      refine GS.seq ?_
      refine GS.region ?_
      iterate 3 refine X.opR rfl rfl rfl ?_
      refine GS.opsNil ?_
      have hE := Option.some.inj hM
      subst hE
      exact GS.ret ⟨_, rfl, FR.tup (.cons (FR.ovl (f := V.i) (l := l2) 9 rfl rfl (fun _ => rfl)) (.cons ⟨30, rfl⟩ .nil))⟩
    · intro hj_1
      refine GS.block ?_
      refine X.gc [none] (X.loop (σ := (Int × (List Int))) (fun v => ⟨[(6, (V.sl (List.map e_tide_known y.1))), (8, (ovl 0 v.2)), (26, (V.sl (List.map e_tide_known y.1))), (27, (V.i (y.1.length : Int))), (28, (V.i v.1))], [obl 1 V.i v.2], 0, none, 48⟩) hM ?_ rfl) rfl rfl rfl (gk_cons rfl ⟨9, rfl⟩ (gk_cons rfl ⟨9, rfl⟩ (gk_cons rfl ⟨9, rfl⟩ (gk_cons rfl ⟨9, rfl⟩ (gk_cons rfl ⟨9, rfl⟩ gk_nil))))) (gb_pad' rfl gb_nil)
      rintro ⟨x1, l5⟩ b_1 hM hc_2 hr_1
      rw [tide_Suspects_b2] at hM
      refine GS.seq ?_
      refine GS.region ?_
      refine X.opR rfl rfl rfl ?_
      refine GS.opsNil ?_
      refine GS.seq ?_
      refine X.cond rfl (fun h_6 => ?_) (fun h_6 => ?_)
      · replace hM := ite_t h_6 hM
        refine GS.skip ?_
        refine GS.seq ?_
        refine X.join (τ := (List Int)) (fun v => tide_Suspects_j3 x1 v = some b_1) (fun v => ⟨[(6, (V.sl (List.map e_tide_known y.1))), (8, (ovl 0 v)), (26, (V.sl (List.map e_tide_known y.1))), (27, (V.i (y.1.length : Int))), (28, (V.i x1))], [obl 1 V.i v], 0, none, 48⟩) ?_ ?_
        · intro l3 hM
          replace hM : tide_Suspects_j3 x1 l3 = some b_1 := hM
          unfold tide_Suspects_j3 at hM
          refine GS.region ?_
          refine X.opR rfl (X.addE rfl rfl) rfl ?_
          refine X.opR rfl rfl rfl ?_
          refine GS.opsNil ?_
          have hE := Option.some.inj hM
          exact X.gc [some 0] (hc_2 (w64 (x1 + 1), l3) hE.symm) rfl rfl rfl (gk_cons rfl ⟨9, rfl⟩ (gk_cons rfl (rn_ovl rfl) (gk_cons rfl ⟨9, rfl⟩ (gk_cons rfl ⟨9, rfl⟩ (gk_cons rfl ⟨9, rfl⟩ gk_nil))))) (gb_obl 9 rfl rfl (fun _ => rfl) gb_nil)
        · intro hj_3
          refine GS.block ?_
          refine GS.seq ?_
          obtain ⟨x, h_7, hM⟩ := bind_of hM
          refine GS.region ?_
          refine X.opR rfl rfl rfl ?_
          refine X.opR rfl (X.indexF (f := e_tide_known) h_7 (fun _ => rfl) rfl rfl rfl rfl) rfl ?_
          refine X.opR rfl (X.loadF h_7 rfl rfl rfl) rfl ?_
          refine X.opW rfl rfl rfl rfl ?_
          refine X.opR rfl rfl rfl ?_
          refine X.op0W rfl rfl rfl ?_
          refine GS.opsNil ?_
          refine GS.seq ?_
          obtain ⟨y2, h_8, hM⟩ := bind_of hM
          refine GS.region ?_
          iterate 2 refine X.opR rfl rfl rfl ?_
          refine X.call (ok_tide_levels h_8) rfl rfl rfl (.cons (.shut (n := 9) rfl) (.cons (.shut (n := 9) rfl) .nil)) ?_
          refine X.call (ok_tide_none y2) rfl rfl rfl (.cons (.shut (n := 9) rfl) .nil) ?_
          refine X.opR rfl rfl rfl ?_
          refine GS.opsNil ?_
          refine X.cond rfl (fun h_9 => ?_) (fun h_9 => ?_)
          · replace hM := ite_t h_9 hM
            obtain ⟨l4, h_10, hM⟩ := bind_of hM
            refine GS.region ?_
            iterate 4 refine X.opR rfl rfl rfl ?_
            refine X.opW rfl rfl rfl rfl ?_
            refine X.appN (f := V.i) h_10 (fun _ => rfl) (by rfl) (by rfl) (by rfl) (by rfl) (by rfl) (by rfl) (by rfl) (by rfl) (by rfl) (by rfl) (by rfl) (by exact rfl) (by rfl) (by rfl) ?_
            refine X.opR rfl rfl rfl ?_
            refine GS.opsNil ?_
            refine GS.endB ?_
            exact X.gc [some 3] (hj_3 l4 hM) rfl rfl rfl (gk_cons rfl ⟨9, rfl⟩ (gk_cons rfl (rv_ne (app_ne h_10) rfl) (gk_cons rfl ⟨9, rfl⟩ (gk_cons rfl ⟨9, rfl⟩ (gk_cons rfl ⟨9, rfl⟩ gk_nil))))) (gb_obl' 9 (app_ne h_10) rfl rfl (fun _ => rfl) gb_nil)
          · replace hM := ite_f h_9 hM
            refine GS.skip ?_
            refine GS.endB ?_
            exact X.gc [some 0] (hj_3 l5 hM) rfl rfl rfl (gk_cons rfl ⟨9, rfl⟩ (gk_cons rfl (rn_ovl rfl) (gk_cons rfl ⟨9, rfl⟩ (gk_cons rfl ⟨9, rfl⟩ (gk_cons rfl ⟨9, rfl⟩ gk_nil))))) (gb_obl 9 rfl rfl (fun _ => rfl) gb_nil)
      · replace hM := ite_f h_6 hM
        refine GS.exit rfl ?_
        obtain ⟨y_1, hM, hy⟩ := map_of hM
        rw [hr_1 _ hy.symm] at hM
        exact X.gc [some 0] (hj_1 l5 hM) rfl rfl rfl (gk_cons rfl (rn_ovl rfl) gk_nil) (gb_obl 9 rfl rfl (fun _ => rfl) gb_nil)

abbrev e_ref02_Ints (x : ref02_Ints) : V := .agg [(V.sl (List.map V.i x.L)), (V.i x.E)]

theorem ok_ref02_some {w : api_Water} {l : (List api_Gauge)} {r : Bool} (hM : ref02_some w l = some r) : Ct Tryz.prog 34 [(e_api_Water w), (V.sl (List.map e_api_Gauge l))] (V.b r) := by
  refine ct_of_gs CC_ok rfl ?_
  unfold ref02_some at hM
  refine GS.seq ?_
  refine GS.region ?_
  refine X.opW rfl rfl rfl rfl ?_
  refine X.opR rfl rfl rfl ?_
  refine GS.opsNil ?_
  refine GS.seq ?_
  obtain ⟨y, h_1, hM⟩ := bind_of hM
  refine GS.region ?_
  iterate 2 refine X.opR rfl rfl rfl ?_
  refine X.call (ok_ref02_agreedAll h_1) rfl rfl rfl (.cons (.shut (n := 9) rfl) (.cons (.shut (n := 9) rfl) .nil)) ?_
  refine X.opW rfl rfl rfl rfl ?_
  refine X.op0W rfl rfl rfl ?_
  refine GS.opsNil ?_
  refine GS.seq ?_
  refine GS.region ?_
  iterate 6 refine X.opR rfl rfl rfl ?_
  refine GS.opsNil ?_
  have hE := Option.some.inj hM
  subst hE
  exact GS.ret ⟨_, rfl, ⟨30, rfl⟩⟩

theorem ok_ref02_add {l : (List Int)} {n : Int} {r : (List Int)} (hM : ref02_add l n = some r) : Ct Tryz.prog 36 [(V.sl (List.map V.i l)), (V.i n)] (V.sl (List.map V.i r)) := by
  refine ct_of_gs CC_ok rfl ?_
  unfold ref02_add at hM
  refine GS.seq ?_
  refine GS.region ?_
  refine X.opR rfl rfl rfl ?_
  refine GS.opsNil ?_
  refine GS.seq ?_
  refine GS.region ?_
  refine X.opR rfl rfl rfl ?_
  refine GS.opsNil ?_
  refine GS.seq ?_
  refine X.join (τ := Int) (fun v => ref02_add_j1 l n v = some r) (fun v => ⟨[(0, (V.sl (List.map V.i l))), (1, (V.i n)), (5, (V.i v))], [], 0, none, 32⟩) ?_ ?_
  · intro at_ hM
    replace hM : ref02_add_j1 l n at_ = some r := hM
    unfold ref02_add_j1 at hM
    refine GS.seq ?_
    obtain ⟨l1, h_1, hM⟩ := bind_of hM
    obtain ⟨l2, h_2, hM⟩ := bind_of hM
    obtain ⟨l3, h_3, hM⟩ := bind_of hM
    obtain ⟨l4, h_4, hM⟩ := bind_of hM
    obtain ⟨l5, h_5, hM⟩ := bind_of hM
    refine X.draw (by kernel_rfl) ?_
    iterate 3 refine X.dop rfl rfl rfl rfl (by kernel_rfl) rfl rfl ?_
    refine X.dop rfl (X.sliceF (f := V.i) h_1 (fun _ => rfl) rfl rfl rfl rfl rfl rfl (X.boundA_int rfl)) rfl rfl (by kernel_rfl) rfl rfl ?_
    refine X.dop rfl (X.appO (f := V.i) h_2 (fun _ => rfl) rfl rfl rfl rfl rfl rfl rfl rfl rfl rfl) rfl rfl (by kernel_rfl) rfl rfl ?_
    iterate 2 refine X.dop rfl rfl rfl rfl (by kernel_rfl) rfl rfl ?_
    refine X.dop rfl (X.appO (f := V.i) h_3 (fun _ => rfl) rfl rfl rfl rfl rfl rfl rfl rfl rfl rfl) rfl rfl (by kernel_rfl) rfl rfl ?_
    iterate 2 refine X.dop rfl rfl rfl rfl (by kernel_rfl) rfl rfl ?_
    refine X.dop rfl (X.sliceF (f := V.i) h_4 (fun _ => rfl) rfl rfl rfl rfl rfl (X.boundA_int rfl) rfl) rfl rfl (by kernel_rfl) rfl rfl ?_
    refine X.dop rfl (X.appO (f := V.i) h_5 (fun _ => rfl) rfl rfl rfl rfl rfl rfl rfl rfl rfl rfl) rfl rfl (by kernel_rfl) rfl rfl ?_
    refine X.dop rfl rfl rfl rfl (by kernel_rfl) rfl rfl ?_
    refine X.dnil ?_
    refine X.norm [(4, (V.osl 4 0 (List.length l5)))] ?_ rfl (W.sub_cons rfl W.sub_nil)
    have hE := Option.some.inj hM
    subst hE
    exact GS.ret ⟨_, rfl, FR.osl (f := V.i) (l := l5) 9 rfl rfl (fun _ => rfl)⟩
  · intro hj_1
    refine GS.block ?_
    refine X.gc [] (X.loop (σ := Int) (fun v => ⟨[(0, (V.sl (List.map V.i l))), (1, (V.i n)), (5, (V.i v))], [], 0, none, 32⟩) hM ?_ rfl) rfl rfl rfl (gk_cons rfl ⟨9, rfl⟩ (gk_cons rfl ⟨9, rfl⟩ (gk_cons rfl ⟨9, rfl⟩ gk_nil))) (gb_nil)
    intro at_1 b_1 hM hc_2 hr_1
    rw [ref02_add_b2] at hM
    iterate 2 refine GS.seq ?_
    obtain ⟨x, h_6, hM⟩ := gb_of hM
    refine GS.region ?_
    refine X.mid [(0, (V.sl (List.map V.i l))), (1, (V.i n)), (5, (V.i at_1)), (17, (V.b ((decide (at_1 < (l.length : Int))) && (decide (x < n)))))] ?_ ?_
    · intro hg
      refine X.split (decide (at_1 < (l.length : Int))) (fun h_7 => ?_) (fun h_7 => ?_)
      · iterate 2 refine X.opR rfl rfl rfl ?_
        refine X.opR rfl (X.lenF rfl rfl rfl) rfl ?_
        iterate 2 refine X.opR rfl rfl rfl ?_
        iterate 2 refine X.opR (X.on_t rfl rfl rfl h_7) rfl rfl ?_
        refine X.opR (X.on_t rfl rfl rfl h_7) (X.indexF (f := V.i) (h_6 h_7) (fun _ => rfl) rfl rfl rfl rfl) rfl ?_
        refine X.opR (X.on_t rfl rfl rfl h_7) (X.loadF (h_6 h_7) rfl rfl rfl) rfl ?_
        iterate 2 refine X.opR (X.on_t rfl rfl rfl h_7) rfl rfl ?_
        refine X.opR rfl (X.pickand_t (y := decide (x < n)) rfl h_7 rfl) rfl ?_
        refine GS.opsNil ?_
        exact X.norm _ hg rfl (W.sub_cons rfl (W.sub_cons rfl (W.sub_cons rfl (W.sub_cons rfl W.sub_nil))))
      · iterate 2 refine X.opR rfl rfl rfl ?_
        refine X.opR rfl (X.lenF rfl rfl rfl) rfl ?_
        iterate 2 refine X.opR rfl rfl rfl ?_
        iterate 6 refine X.off (X.off_t rfl rfl rfl h_7) rfl ?_
        refine X.opR rfl (X.pickand_f (y := decide (x < n)) rfl h_7 rfl) rfl ?_
        refine GS.opsNil ?_
        exact X.norm _ hg rfl (W.sub_cons rfl (W.sub_cons rfl (W.sub_cons rfl (W.sub_cons rfl W.sub_nil))))
    refine X.cond rfl (fun h_8 => ?_) (fun h_8 => ?_)
    · replace hM := ite_t h_8 hM
      refine GS.skip ?_
      refine GS.block ?_
      refine GS.region ?_
      refine X.opR rfl rfl rfl ?_
      refine X.opR rfl (X.addE rfl rfl) rfl ?_
      refine X.opR rfl rfl rfl ?_
      refine GS.opsNil ?_
      refine GS.endB ?_
      have hE := Option.some.inj hM
      exact X.gc [] (hc_2 (w64 (at_1 + 1)) hE.symm) rfl rfl rfl (gk_cons rfl ⟨9, rfl⟩ (gk_cons rfl ⟨9, rfl⟩ (gk_cons rfl ⟨9, rfl⟩ gk_nil))) (gb_nil)
    · replace hM := ite_f h_8 hM
      refine GS.exit rfl ?_
      obtain ⟨y_1, hM, hy⟩ := map_of hM
      rw [hr_1 _ hy.symm] at hM
      exact X.gc [] (hj_1 at_1 hM) rfl rfl rfl (gk_cons rfl ⟨9, rfl⟩ (gk_cons rfl ⟨9, rfl⟩ (gk_cons rfl ⟨9, rfl⟩ gk_nil))) (gb_nil)

theorem ok_ref02_Suspects {w : api_Water} {l : (List api_Gauge)} {r : ref02_Ints} (hM : ref02_Suspects w l = some r) : Ct Tryz.prog 19 [(e_api_Water w), (V.sl (List.map e_api_Gauge l))] (e_ref02_Ints r) := by
  refine ct_of_gs CC_ok rfl ?_
  unfold ref02_Suspects at hM
  refine GS.seq ?_
  refine GS.region ?_
  iterate 2 refine X.opW rfl rfl rfl rfl ?_
  refine GS.opsNil ?_
  refine GS.seq ?_
  obtain ⟨y, h_1, hM⟩ := bind_of hM
  refine GS.region ?_
  iterate 2 refine X.opR rfl rfl rfl ?_
  refine X.call (ok_ref02_Gauged h_1) rfl rfl rfl (.cons (.shut (n := 9) rfl) (.cons (.shut (n := 9) rfl) .nil)) ?_
  refine X.opR rfl rfl rfl ?_
  refine GS.opsNil ?_
  iterate 2 refine GS.seq ?_
  refine GS.region ?_
  iterate 2 refine X.opR rfl rfl rfl ?_
  refine GS.opsNil ?_
  refine X.cond rfl (fun h_2 => ?_) (fun h_2 => ?_)
  · replace hM := ite_t h_2 hM
    refine GS.seq ?_
    refine GS.region ?_
    iterate 2 refine X.opR rfl rfl rfl ?_
    refine X.op0W rfl rfl rfl ?_
    refine GS.opsNil ?_
    have hE := Option.some.inj hM
    subst hE
    exact GS.ret ⟨_, rfl, ⟨30, rfl⟩⟩
  · replace hM := ite_f h_2 hM
    refine GS.skip ?_
    refine GS.seq ?_
    refine GS.region ?_
    refine X.opR rfl rfl rfl ?_
    refine GS.opsNil ?_
    refine GS.seq ?_
    obtain ⟨y1, h_3, hM⟩ := bind_of hM
    refine GS.region ?_
    iterate 2 refine X.opR rfl rfl rfl ?_
    refine X.call (ok_ref02_some h_3) rfl rfl rfl (.cons (.shut (n := 9) rfl) (.cons (.shut (n := 9) rfl) .nil)) ?_
    refine X.opR rfl rfl rfl ?_
    refine GS.opsNil ?_
    iterate 2 refine GS.seq ?_
    refine GS.region ?_
    refine X.opR rfl rfl rfl ?_
    refine GS.opsNil ?_
    refine X.join (τ := (List Int)) (fun v => ref02_Suspects_j1 v = some r) (fun v => ⟨[(4, (V.ptr 0 0 0)), (6, (V.sl (List.map V.i v)))], [.rows 2 [(V.agg [V.nil, (V.i 0)])]], 0, none, 52⟩) ?_ ?_
    · intro out hM
      replace hM : ref02_Suspects_j1 out = some r := hM
      unfold ref02_Suspects_j1 at hM
      refine GS.seq ?_
      refine GS.region ?_
      iterate 2 refine X.opR rfl rfl rfl ?_
      refine X.op0W rfl rfl rfl ?_
      refine GS.opsNil ?_
      have hE := Option.some.inj hM
      subst hE
      exact GS.ret ⟨_, rfl, ⟨30, rfl⟩⟩
    · intro hj_1
      refine GS.block ?_
      refine X.gc [some 0, some 1] (X.loop (σ := ((List Int) × Int)) (fun v => ⟨[(1, (V.sl (List.map e_api_Gauge l))), (2, (V.ptr 0 0 0)), (4, (V.ptr 1 0 0)), (6, (V.sl (List.map V.i v.1))), (7, (V.b y1)), (8, (V.i v.2))], [.rows 3 [(e_api_Water w)], .rows 2 [(V.agg [V.nil, (V.i 0)])]], 0, none, 52⟩) hM ?_ rfl) rfl rfl rfl (gk_cons rfl ⟨9, rfl⟩ (gk_cons rfl ⟨9, rfl⟩ (gk_cons rfl ⟨9, rfl⟩ (gk_thin 9 rfl rfl ⟨9, rfl⟩ (gk_cons rfl ⟨9, rfl⟩ (gk_cons rfl ⟨9, rfl⟩ gk_nil)))))) (gb_box rfl rfl ⟨9, rfl⟩ (gb_box rfl rfl ⟨9, rfl⟩ gb_nil))
      rintro ⟨out2, i⟩ b_1 hM hc_2 hr_1
      rw [ref02_Suspects_b2] at hM
      iterate 2 refine GS.seq ?_
      refine GS.region ?_
      refine X.mid [(1, (V.sl (List.map e_api_Gauge l))), (2, (V.ptr 0 0 0)), (4, (V.ptr 1 0 0)), (6, (V.sl (List.map V.i out2))), (7, (V.b y1)), (8, (V.i i)), (27, (V.b ((decide (i < (l.length : Int))) && (!y1))))] ?_ ?_
      · intro hg
        refine X.split (decide (i < (l.length : Int))) (fun h_4 => ?_) (fun h_4 => ?_)
        · iterate 2 refine X.opR rfl rfl rfl ?_
          refine X.opR rfl (X.lenF rfl rfl rfl) rfl ?_
          iterate 2 refine X.opR rfl rfl rfl ?_
          iterate 2 refine X.opR (X.on_t rfl rfl rfl h_4) rfl rfl ?_
          refine X.opR rfl (X.pickand_t (y := !y1) rfl h_4 rfl) rfl ?_
          refine GS.opsNil ?_
          exact X.norm _ hg rfl (W.sub_cons rfl (W.sub_cons rfl (W.sub_cons rfl (W.sub_cons rfl (W.sub_cons rfl (W.sub_cons rfl (W.sub_cons rfl W.sub_nil)))))))
        · iterate 2 refine X.opR rfl rfl rfl ?_
          refine X.opR rfl (X.lenF rfl rfl rfl) rfl ?_
          iterate 2 refine X.opR rfl rfl rfl ?_
          iterate 2 refine X.off (X.off_t rfl rfl rfl h_4) rfl ?_
          refine X.opR rfl (X.pickand_f (y := !y1) rfl h_4 rfl) rfl ?_
          refine GS.opsNil ?_
          exact X.norm _ hg rfl (W.sub_cons rfl (W.sub_cons rfl (W.sub_cons rfl (W.sub_cons rfl (W.sub_cons rfl (W.sub_cons rfl (W.sub_cons rfl W.sub_nil)))))))
      refine X.cond rfl (fun h_5 => ?_) (fun h_5 => ?_)
      · replace hM := ite_t h_5 hM
        refine GS.skip ?_
        refine GS.seq ?_
        refine X.join (τ := (List Int)) (fun v => ref02_Suspects_j3 i v = some b_1) (fun v => ⟨[(1, (V.sl (List.map e_api_Gauge l))), (2, (V.ptr 0 0 0)), (4, (V.ptr 1 0 0)), (6, (V.sl (List.map V.i v))), (7, (V.b y1)), (8, (V.i i))], [.rows 3 [(e_api_Water w)], .rows 2 [(V.agg [V.nil, (V.i 0)])]], 0, none, 52⟩) ?_ ?_
        · intro out1 hM
          replace hM : ref02_Suspects_j3 i out1 = some b_1 := hM
          unfold ref02_Suspects_j3 at hM
          refine GS.region ?_
          refine X.opR rfl rfl rfl ?_
          refine X.opR rfl (X.addE rfl rfl) rfl ?_
          refine X.opR rfl rfl rfl ?_
          refine GS.opsNil ?_
          have hE := Option.some.inj hM
          exact X.gc [some 0, some 1] (hc_2 (out1, w64 (i + 1)) hE.symm) rfl rfl rfl (gk_cons rfl ⟨9, rfl⟩ (gk_cons rfl ⟨9, rfl⟩ (gk_cons rfl ⟨9, rfl⟩ (gk_cons rfl ⟨9, rfl⟩ (gk_cons rfl ⟨9, rfl⟩ (gk_cons rfl ⟨9, rfl⟩ gk_nil)))))) (gb_box rfl rfl ⟨9, rfl⟩ (gb_box rfl rfl ⟨9, rfl⟩ gb_nil))
        · intro hj_3
          refine GS.block ?_
          refine GS.seq ?_
          obtain ⟨l1, h_6, hM⟩ := bind_of hM
          obtain ⟨l2, h_7, hM⟩ := bind_of hM
          obtain ⟨l3, h_8, hM⟩ := bind_of hM
          obtain ⟨l4, h_9, hM⟩ := bind_of hM
          obtain ⟨y2, h_10, hM⟩ := bind_of hM
          refine X.draw (by kernel_rfl) ?_
          iterate 4 refine X.dop rfl rfl rfl rfl (by kernel_rfl) rfl rfl ?_
          refine X.dop rfl (X.sliceF (f := e_api_Gauge) h_6 (fun _ => rfl) rfl rfl rfl rfl rfl rfl (X.boundA_int rfl)) rfl rfl (by kernel_rfl) rfl rfl ?_
          refine X.dop rfl (X.appO (f := e_api_Gauge) h_7 (fun _ => rfl) rfl rfl rfl rfl rfl rfl rfl rfl rfl rfl) rfl rfl (by kernel_rfl) rfl rfl ?_
          iterate 2 refine X.dop rfl rfl rfl rfl (by kernel_rfl) rfl rfl ?_
          refine X.dop rfl (X.addE rfl rfl) rfl rfl (by kernel_rfl) rfl rfl ?_
          refine X.dop rfl (X.sliceF (f := e_api_Gauge) h_8 (fun _ => rfl) rfl rfl rfl rfl rfl (X.boundA_int rfl) rfl) rfl rfl (by kernel_rfl) rfl rfl ?_
          refine X.dop rfl (X.appO (f := e_api_Gauge) h_9 (fun _ => rfl) rfl rfl rfl rfl rfl rfl rfl rfl rfl rfl) rfl rfl (by kernel_rfl) rfl rfl ?_
          refine X.dcallF (ok_ref02_some h_10) rfl rfl rfl (by kernel_rfl) rfl (m := 9) rfl (.cons (.shut (n := 9) rfl) (.cons (FR.arg (FR.osl (f := e_api_Gauge) (l := l4) 9 rfl rfl (fun _ => rfl))) .nil)) ?_
          refine X.dop rfl rfl rfl rfl (by kernel_rfl) rfl rfl ?_
          refine X.dnil ?_
          refine X.norm [(1, (V.sl (List.map e_api_Gauge l))), (2, (V.ptr 0 0 0)), (4, (V.ptr 1 0 0)), (6, (V.sl (List.map V.i out2))), (7, (V.b y1)), (8, (V.i i)), (9, (V.b y2))] ?_ rfl (W.sub_cons rfl (W.sub_cons rfl (W.sub_cons rfl (W.sub_cons rfl (W.sub_cons rfl (W.sub_cons rfl (W.sub_cons rfl W.sub_nil)))))))
          refine GS.seq ?_
          refine GS.region ?_
          refine X.opR rfl rfl rfl ?_
          refine GS.opsNil ?_
          refine X.cond rfl (fun h_11 => ?_) (fun h_11 => ?_)
          · replace hM := ite_t h_11 hM
            obtain ⟨x, h_12, hM⟩ := bind_of hM
            obtain ⟨y3, h_13, hM⟩ := bind_of hM
            refine GS.region ?_
            iterate 3 refine X.opR rfl rfl rfl ?_
            refine X.opR rfl (X.indexF (f := e_api_Gauge) h_12 (fun _ => rfl) rfl rfl rfl rfl) rfl ?_
            refine X.opR rfl rfl rfl ?_
            refine X.opR rfl (X.loadF h_12 rfl rfl rfl) rfl ?_
            refine X.call (ok_ref02_add h_13) rfl rfl rfl (.cons (.shut (n := 9) rfl) (.cons (.shut (n := 9) rfl) .nil)) ?_
            refine X.opR rfl rfl rfl ?_
            refine GS.opsNil ?_
            refine GS.endB ?_
            exact X.gc [some 0, some 1] (hj_3 y3 hM) rfl rfl rfl (gk_cons rfl ⟨9, rfl⟩ (gk_cons rfl ⟨9, rfl⟩ (gk_cons rfl ⟨9, rfl⟩ (gk_cons rfl ⟨9, rfl⟩ (gk_cons rfl ⟨9, rfl⟩ (gk_cons rfl ⟨9, rfl⟩ gk_nil)))))) (gb_box rfl rfl ⟨9, rfl⟩ (gb_box rfl rfl ⟨9, rfl⟩ gb_nil))
          · replace hM := ite_f h_11 hM
            refine GS.skip ?_
            refine GS.endB ?_
            exact X.gc [some 0, some 1] (hj_3 out2 hM) rfl rfl rfl (gk_cons rfl ⟨9, rfl⟩ (gk_cons rfl ⟨9, rfl⟩ (gk_cons rfl ⟨9, rfl⟩ (gk_cons rfl ⟨9, rfl⟩ (gk_cons rfl ⟨9, rfl⟩ (gk_cons rfl ⟨9, rfl⟩ gk_nil)))))) (gb_box rfl rfl ⟨9, rfl⟩ (gb_box rfl rfl ⟨9, rfl⟩ gb_nil))
      · replace hM := ite_f h_5 hM
        refine GS.exit rfl ?_
        obtain ⟨y_1, hM, hy⟩ := map_of hM
        rw [hr_1 _ hy.symm] at hM
        exact X.gc [some 1] (hj_1 out2 hM) rfl rfl rfl (gk_cons rfl ⟨9, rfl⟩ (gk_cons rfl ⟨9, rfl⟩ gk_nil)) (gb_box rfl rfl ⟨9, rfl⟩ gb_nil)

theorem eq_Arr_2_int (a b : Arr_2_int) : eqA CC.ty 97 (e_Arr_2_int a) (e_Arr_2_int b) = some (decide (a = b)) := by
  refine (X.eqArr rfl rfl (X.eqel rfl rfl rfl (X.eqel rfl rfl rfl X.eqel_nil))).trans ?_
  congr 1
  rw [Bool.eq_iff_iff]
  simp only [Bool.and_eq_true, decide_eq_true_eq, beq_iff_eq, and_true]
  constructor
  · intro h
    obtain ⟨a1, a2⟩ := a
    obtain ⟨b3, b4⟩ := b
    simp at h
    simp [h]
  · rintro rfl
    simp

theorem ok_ref02_SamePairs {a : (List Arr_2_int)} {b : (List Arr_2_int)} {r : Bool} (hM : ref02_SamePairs a b = some r) : Ct Tryz.prog 20 [(V.sl (List.map e_Arr_2_int a)), (V.sl (List.map e_Arr_2_int b))] (V.b r) := by
  refine ct_of_gs CC_ok rfl ?_
  unfold ref02_SamePairs at hM
  refine GS.seq ?_
  refine GS.region ?_
  refine X.opR rfl rfl rfl ?_
  refine GS.opsNil ?_
  iterate 2 refine GS.seq ?_
  refine GS.region ?_
  refine X.opR rfl rfl rfl ?_
  refine X.opR rfl (X.lenF rfl rfl rfl) rfl ?_
  refine X.opR rfl rfl rfl ?_
  refine X.opR rfl (X.lenF rfl rfl rfl) rfl ?_
  refine X.opR rfl rfl rfl ?_
  refine GS.opsNil ?_
  refine X.cond rfl (fun h_1 => ?_) (fun h_1 => ?_)
  · replace hM := ite_t h_1 hM
    refine GS.seq ?_
    refine GS.region ?_
    refine X.opR rfl rfl rfl ?_
    refine GS.opsNil ?_
    have hE := Option.some.inj hM
    subst hE
    exact GS.ret ⟨_, rfl, ⟨30, rfl⟩⟩
  · replace hM := ite_f h_1 hM
    refine GS.skip ?_
    iterate 2 refine GS.seq ?_
    refine GS.region ?_
    refine X.opR rfl rfl rfl ?_
    refine GS.opsNil ?_
    refine X.join (τ := Unit) (fun v => ref02_SamePairs_j1 = some r) (fun v => ⟨[], [], 0, none, 26⟩) ?_ ?_
    · intro _ hM
      replace hM : ref02_SamePairs_j1 = some r := hM
      unfold ref02_SamePairs_j1 at hM
      refine GS.seq ?_
      refine GS.region ?_
      refine X.opR rfl rfl rfl ?_
      refine GS.opsNil ?_
      have hE := Option.some.inj hM
      subst hE
      exact GS.ret ⟨_, rfl, ⟨30, rfl⟩⟩
    · intro hj_1
      refine GS.block ?_
      refine X.gc [] (X.loop (σ := Int) (fun v => ⟨[(0, (V.sl (List.map e_Arr_2_int a))), (1, (V.sl (List.map e_Arr_2_int b))), (5, (V.i v))], [], 0, none, 26⟩) hM ?_ rfl) rfl rfl rfl (gk_cons rfl ⟨9, rfl⟩ (gk_cons rfl ⟨9, rfl⟩ (gk_cons rfl ⟨9, rfl⟩ gk_nil))) (gb_nil)
      intro i b_1 hM hc_2 hr_1
      rw [ref02_SamePairs_b2] at hM
      iterate 2 refine GS.seq ?_
      refine GS.region ?_
      iterate 2 refine X.opR rfl rfl rfl ?_
      refine X.opR rfl (X.lenF rfl rfl rfl) rfl ?_
      refine X.opR rfl rfl rfl ?_
      refine GS.opsNil ?_
      refine X.cond rfl (fun h_2 => ?_) (fun h_2 => ?_)
      · replace hM := ite_t h_2 hM
        refine GS.skip ?_
        refine GS.seq ?_
        refine GS.block ?_
        refine GS.seq ?_
        obtain ⟨x, h_3, hM⟩ := bind_of hM
        obtain ⟨x1, h_4, hM⟩ := bind_of hM
        refine X.drawc (by kernel_rfl) rfl ?_
        iterate 2 refine X.cop rfl rfl rfl rfl ?_
        refine X.cop rfl (X.indexF (f := e_Arr_2_int) h_3 (fun _ => rfl) rfl rfl rfl rfl) rfl rfl ?_
        refine X.cop rfl (X.loadF h_3 rfl rfl rfl) rfl rfl ?_
        iterate 2 refine X.cop rfl rfl rfl rfl ?_
        refine X.cop rfl (X.indexF (f := e_Arr_2_int) h_4 (fun _ => rfl) rfl rfl rfl rfl) rfl rfl ?_
        refine X.cop rfl (X.loadF h_4 rfl rfl rfl) rfl rfl ?_
        refine X.cop rfl (X.neqE (eq_Arr_2_int x x1) rfl rfl) rfl rfl ?_
        refine X.cnil ?_
        refine X.norm [(0, (V.sl (List.map e_Arr_2_int a))), (1, (V.sl (List.map e_Arr_2_int b))), (5, (V.i i)), (25, (V.b (!decide (x = x1))))] ?_ rfl (W.sub_cons rfl (W.sub_cons rfl (W.sub_cons rfl (W.sub_cons rfl W.sub_nil))))
        refine X.cond rfl (fun h_5 => ?_) (fun h_5 => ?_)
        · replace hM := ite_t h_5 hM
          refine GS.seq ?_
          refine GS.region ?_
          refine X.opR rfl rfl rfl ?_
          refine GS.opsNil ?_
          have hE := Option.some.inj hM
          replace hE := hr_1 _ hE.symm
          subst hE
          exact GS.ret ⟨_, rfl, ⟨30, rfl⟩⟩
        · replace hM := ite_f h_5 hM
          refine GS.skip ?_
          refine GS.endB ?_
          refine GS.region ?_
          refine X.opR rfl rfl rfl ?_
          refine X.opR rfl (X.addE rfl rfl) rfl ?_
          refine X.opR rfl rfl rfl ?_
          refine GS.opsNil ?_
          have hE := Option.some.inj hM
          exact X.gc [] (hc_2 (w64 (i + 1)) hE.symm) rfl rfl rfl (gk_cons rfl ⟨9, rfl⟩ (gk_cons rfl ⟨9, rfl⟩ (gk_cons rfl ⟨9, rfl⟩ gk_nil))) (gb_nil)
      · replace hM := ite_f h_2 hM
        refine GS.exit rfl ?_
        obtain ⟨y_1, hM, hy⟩ := map_of hM
        rw [hr_1 _ hy.symm] at hM
        exact X.gc [] (hj_1 () hM) rfl rfl rfl (gk_nil) (gb_nil)

set_option maxHeartbeats 4000000 in
theorem ok_law02_TideGauges {w : api_Water} {l : (List api_Gauge)} {r : Bool} (hM : law02_TideGauges w l = some r) : Ct Tryz.prog 4 [(e_api_Water w), (V.sl (List.map e_api_Gauge l))] (V.b r) := by
  refine ct_of_gs CC_ok rfl ?_
  unfold law02_TideGauges at hM
  refine GS.seq ?_
  refine GS.region ?_
  refine X.opW rfl rfl rfl rfl ?_
  refine X.opR rfl rfl rfl ?_
  refine GS.opsNil ?_
  iterate 2 refine GS.seq ?_
  obtain ⟨y, h_1, hM⟩ := bind_of hM
  refine GS.region ?_
  refine X.mid [(1, (V.sl (List.map e_api_Gauge l))), (2, (V.ptr 0 0 0)), (27, (V.b ((!y) || (decide (60 < (l.length : Int))))))] ?_ ?_
  · intro hg
    refine X.split (!y) (fun h_2 => ?_) (fun h_2 => ?_)
    · refine X.opR rfl rfl rfl ?_
      refine X.call (ok_law02_few h_1) rfl rfl rfl (.cons (.shut (n := 9) rfl) .nil) ?_
      iterate 2 refine X.opR rfl rfl rfl ?_
      iterate 3 refine X.off (X.off_f rfl rfl rfl h_2) rfl ?_
      refine X.opR rfl (X.pickor_t (y := decide (60 < (l.length : Int))) rfl h_2 rfl) rfl ?_
      refine GS.opsNil ?_
      exact X.norm _ hg rfl (W.sub_cons rfl (W.sub_cons rfl (W.sub_cons rfl W.sub_nil)))
    · refine X.opR rfl rfl rfl ?_
      refine X.call (ok_law02_few h_1) rfl rfl rfl (.cons (.shut (n := 9) rfl) .nil) ?_
      iterate 2 refine X.opR rfl rfl rfl ?_
      refine X.opR (X.on_f rfl rfl rfl h_2) rfl rfl ?_
      refine X.opR (X.on_f rfl rfl rfl h_2) (X.lenF rfl rfl rfl) rfl ?_
      refine X.opR (X.on_f rfl rfl rfl h_2) rfl rfl ?_
      refine X.opR rfl (X.pickor_f (y := decide (60 < (l.length : Int))) rfl h_2 rfl) rfl ?_
      refine GS.opsNil ?_
      exact X.norm _ hg rfl (W.sub_cons rfl (W.sub_cons rfl (W.sub_cons rfl W.sub_nil)))
  refine X.cond rfl (fun h_3 => ?_) (fun h_3 => ?_)
  · replace hM := ite_t h_3 hM
    refine GS.seq ?_
    obtain ⟨y1, h_4, hM⟩ := bind_of hM
    refine GS.region ?_
    refine X.call (ok_law02_sanity h_4) rfl rfl rfl .nil ?_
    refine X.opR rfl rfl rfl ?_
    refine GS.opsNil ?_
    have hE := Option.some.inj hM
    subst hE
    exact GS.ret ⟨_, rfl, ⟨30, rfl⟩⟩
  · replace hM := ite_f h_3 hM
    refine GS.skip ?_
    refine GS.seq ?_
    obtain ⟨y2, h_5, hM⟩ := bind_of hM
    refine GS.region ?_
    iterate 2 refine X.opR rfl rfl rfl ?_
    refine X.call (ok_tide_Levels h_5) rfl rfl rfl (.cons (.shut (n := 9) rfl) (.cons (.shut (n := 9) rfl) .nil)) ?_
    iterate 3 refine X.opR rfl rfl rfl ?_
    refine X.opW rfl rfl rfl rfl ?_
    refine X.op0W rfl rfl rfl ?_
    refine X.opR rfl rfl rfl ?_
    refine GS.opsNil ?_
    refine GS.seq ?_
    obtain ⟨y3, h_6, hM⟩ := bind_of hM
    refine GS.region ?_
    iterate 2 refine X.opR rfl rfl rfl ?_
    refine X.call (ok_ref02_Levels h_6) rfl rfl rfl (.cons (.shut (n := 9) rfl) (.cons (.shut (n := 9) rfl) .nil)) ?_
    refine X.opW rfl rfl rfl rfl ?_
    refine X.op0W rfl rfl rfl ?_
    refine GS.opsNil ?_
    refine GS.seq ?_
    obtain ⟨y4, h_7, hM⟩ := bind_of hM
    refine GS.region ?_
    iterate 2 refine X.opR rfl rfl rfl ?_
    refine X.call (ok_tide_Rests h_7) rfl rfl rfl (.cons (.shut (n := 9) rfl) (.cons (.shut (n := 9) rfl) .nil)) ?_
    iterate 7 refine X.opR rfl rfl rfl ?_
    refine GS.opsNil ?_
    refine GS.seq ?_
    obtain ⟨y5, h_8, hM⟩ := bind_of hM
    refine GS.region ?_
    iterate 2 refine X.opR rfl rfl rfl ?_
    refine X.call (ok_ref02_Rests h_8) rfl rfl rfl (.cons (.shut (n := 9) rfl) (.cons (.shut (n := 9) rfl) .nil)) ?_
    iterate 7 refine X.opR rfl rfl rfl ?_
    refine GS.opsNil ?_
    refine GS.seq ?_
    obtain ⟨y6, h_9, hM⟩ := bind_of hM
    refine GS.region ?_
    iterate 2 refine X.opR rfl rfl rfl ?_
    refine X.call (ok_tide_Clashes h_9) rfl rfl rfl (.cons (.shut (n := 9) rfl) (.cons (.shut (n := 9) rfl) .nil)) ?_
    iterate 5 refine X.opR rfl rfl rfl ?_
    refine GS.opsNil ?_
    refine GS.seq ?_
    obtain ⟨y7, h_10, hM⟩ := bind_of hM
    refine GS.region ?_
    iterate 2 refine X.opR rfl rfl rfl ?_
    refine X.call (ok_ref02_Clashes h_10) rfl rfl rfl (.cons (.shut (n := 9) rfl) (.cons (.shut (n := 9) rfl) .nil)) ?_
    refine X.opW (H' := [.rows 3 [(e_api_Water w)], .rows 2 [(e_api_Span y2.1)], .rows 3 [(e_ref02_Known y3)], .rows 2 [(V.agg [V.nil, (V.i 0)])]]) rfl rfl rfl rfl ?_
    refine X.op0W (H' := [.rows 3 [(e_api_Water w)], .rows 2 [(e_api_Span y2.1)], .rows 3 [(e_ref02_Known y3)], .rows 2 [(e_ref02_Pairs y7)]]) rfl rfl rfl ?_
    refine GS.opsNil ?_
    refine GS.seq ?_
    obtain ⟨y8, h_11, hM⟩ := bind_of hM
    refine GS.region ?_
    iterate 2 refine X.opR rfl rfl rfl ?_
    refine X.call (ok_tide_Suspects h_11) rfl rfl rfl (.cons (.shut (n := 9) rfl) (.cons (.shut (n := 9) rfl) .nil)) ?_
    iterate 5 refine X.opR rfl rfl rfl ?_
    refine GS.opsNil ?_
    refine GS.seq ?_
    obtain ⟨y9, h_12, hM⟩ := bind_of hM
    refine GS.region ?_
    iterate 2 refine X.opR rfl rfl rfl ?_
    refine X.call (ok_ref02_Suspects h_12) rfl rfl rfl (.cons (.shut (n := 9) rfl) (.cons (.shut (n := 9) rfl) .nil)) ?_
    refine X.opW (H' := [.rows 3 [(e_api_Water w)], .rows 2 [(e_api_Span y2.1)], .rows 3 [(e_ref02_Known y3)], .rows 2 [(e_ref02_Pairs y7)], .rows 2 [(V.agg [V.nil, (V.i 0)])]]) rfl rfl rfl rfl ?_
    refine X.op0W (H' := [.rows 3 [(e_api_Water w)], .rows 2 [(e_api_Span y2.1)], .rows 3 [(e_ref02_Known y3)], .rows 2 [(e_ref02_Pairs y7)], .rows 2 [(e_ref02_Ints y9)]]) rfl rfl rfl ?_
    refine GS.opsNil ?_
    refine GS.seq ?_
    obtain ⟨y10, h_13, hM⟩ := bind_of hM
    obtain ⟨y11, h_14, hM⟩ := gb_of hM
    obtain ⟨y12, h_15, hM⟩ := gb_of hM
    refine GS.region ?_
    refine X.mid [(4, (V.b (((((((((y10 && (decide (y2.1 = y3.S))) && (decide (y2.2 = y3.E))) && (decide (y4.1 = y5.1))) && (decide (y4.2.1 = y5.2.1))) && (decide (y4.2.2 = y5.2.2))) && y11) && (decide (y6.2 = y7.E))) && y12) && (decide (y8.2 = y9.E)))))] ?_ ?_
    · intro hg
      refine X.split (y10) (fun h_16 => ?_) (fun h_16 => ?_)
      · refine X.split ((y10 && (decide (y2.1 = y3.S)))) (fun h_17 => ?_) (fun h_17 => ?_)
        · refine X.split (((y10 && (decide (y2.1 = y3.S))) && (decide (y2.2 = y3.E)))) (fun h_18 => ?_) (fun h_18 => ?_)
          · refine X.split ((((y10 && (decide (y2.1 = y3.S))) && (decide (y2.2 = y3.E))) && (decide (y4.1 = y5.1)))) (fun h_19 => ?_) (fun h_19 => ?_)
            · refine X.split (((((y10 && (decide (y2.1 = y3.S))) && (decide (y2.2 = y3.E))) && (decide (y4.1 = y5.1))) && (decide (y4.2.1 = y5.2.1)))) (fun h_20 => ?_) (fun h_20 => ?_)
              · refine X.split ((((((y10 && (decide (y2.1 = y3.S))) && (decide (y2.2 = y3.E))) && (decide (y4.1 = y5.1))) && (decide (y4.2.1 = y5.2.1))) && (decide (y4.2.2 = y5.2.2)))) (fun h_21 => ?_) (fun h_21 => ?_)
                · refine X.split (((((((y10 && (decide (y2.1 = y3.S))) && (decide (y2.2 = y3.E))) && (decide (y4.1 = y5.1))) && (decide (y4.2.1 = y5.2.1))) && (decide (y4.2.2 = y5.2.2))) && y11)) (fun h_22 => ?_) (fun h_22 => ?_)
                  · refine X.split ((((((((y10 && (decide (y2.1 = y3.S))) && (decide (y2.2 = y3.E))) && (decide (y4.1 = y5.1))) && (decide (y4.2.1 = y5.2.1))) && (decide (y4.2.2 = y5.2.2))) && y11) && (decide (y6.2 = y7.E)))) (fun h_23 => ?_) (fun h_23 => ?_)
                    · refine X.split (((((((((y10 && (decide (y2.1 = y3.S))) && (decide (y2.2 = y3.E))) && (decide (y4.1 = y5.1))) && (decide (y4.2.1 = y5.2.1))) && (decide (y4.2.2 = y5.2.2))) && y11) && (decide (y6.2 = y7.E))) && y12)) (fun h_24 => ?_) (fun h_24 => ?_)
                      · refine X.call (ok_law02_sanity h_13) rfl rfl rfl .nil ?_
                        refine X.opR rfl rfl rfl ?_
                        iterate 3 refine X.opR (X.on_t rfl rfl rfl h_16) rfl rfl ?_
                        refine X.opR (X.on_t rfl rfl rfl h_16) (X.eqlE (eq_api_Span y2.1 y3.S) rfl rfl) rfl ?_
                        refine X.opR rfl (X.pickand_t (y := decide (y2.1 = y3.S)) rfl h_16 rfl) rfl ?_
                        refine X.opR rfl rfl rfl ?_
                        iterate 4 refine X.opR (X.on_t rfl rfl rfl h_17) rfl rfl ?_
                        refine X.opR rfl (X.pickand_t (y := decide (y2.2 = y3.E)) rfl h_17 rfl) rfl ?_
                        refine X.opR rfl rfl rfl ?_
                        iterate 3 refine X.opR (X.on_t rfl rfl rfl h_18) rfl rfl ?_
                        refine X.opR rfl (X.pickand_t (y := decide (y4.1 = y5.1)) rfl h_18 rfl) rfl ?_
                        refine X.opR rfl rfl rfl ?_
                        iterate 3 refine X.opR (X.on_t rfl rfl rfl h_19) rfl rfl ?_
                        refine X.opR rfl (X.pickand_t (y := decide (y4.2.1 = y5.2.1)) rfl h_19 rfl) rfl ?_
                        refine X.opR rfl rfl rfl ?_
                        iterate 3 refine X.opR (X.on_t rfl rfl rfl h_20) rfl rfl ?_
                        refine X.opR rfl (X.pickand_t (y := decide (y4.2.2 = y5.2.2)) rfl h_20 rfl) rfl ?_
                        refine X.opR rfl rfl rfl ?_
                        iterate 3 refine X.opR (X.on_t rfl rfl rfl h_21) rfl rfl ?_
                        refine X.call (ok_ref02_SamePairs (h_14 h_21)) (X.on_t rfl rfl rfl h_21) rfl rfl (.cons (.shut (n := 9) rfl) (.cons (.shut (n := 9) rfl) .nil)) ?_
                        refine X.opR rfl (X.pickand_t (y := y11) rfl h_21 rfl) rfl ?_
                        refine X.opR rfl rfl rfl ?_
                        iterate 4 refine X.opR (X.on_t rfl rfl rfl h_22) rfl rfl ?_
                        refine X.opR rfl (X.pickand_t (y := decide (y6.2 = y7.E)) rfl h_22 rfl) rfl ?_
                        refine X.opR rfl rfl rfl ?_
                        iterate 3 refine X.opR (X.on_t rfl rfl rfl h_23) rfl rfl ?_
                        refine X.call (ok_ref02_SameInts (h_15 h_23)) (X.on_t rfl rfl rfl h_23) rfl rfl (.cons (.shut (n := 9) rfl) (.cons (.shut (n := 9) rfl) .nil)) ?_
                        refine X.opR rfl (X.pickand_t (y := y12) rfl h_23 rfl) rfl ?_
                        refine X.opR rfl rfl rfl ?_
                        iterate 4 refine X.opR (X.on_t rfl rfl rfl h_24) rfl rfl ?_
                        refine X.opR rfl (X.pickand_t (y := decide (y8.2 = y9.E)) rfl h_24 rfl) rfl ?_
                        refine X.opR rfl rfl rfl ?_
                        refine GS.opsNil ?_
                        exact X.norm _ hg rfl (W.sub_cons rfl W.sub_nil)
                      · refine X.call (ok_law02_sanity h_13) rfl rfl rfl .nil ?_
                        refine X.opR rfl rfl rfl ?_
                        iterate 3 refine X.opR (X.on_t rfl rfl rfl h_16) rfl rfl ?_
                        refine X.opR (X.on_t rfl rfl rfl h_16) (X.eqlE (eq_api_Span y2.1 y3.S) rfl rfl) rfl ?_
                        refine X.opR rfl (X.pickand_t (y := decide (y2.1 = y3.S)) rfl h_16 rfl) rfl ?_
                        refine X.opR rfl rfl rfl ?_
                        iterate 4 refine X.opR (X.on_t rfl rfl rfl h_17) rfl rfl ?_
                        refine X.opR rfl (X.pickand_t (y := decide (y2.2 = y3.E)) rfl h_17 rfl) rfl ?_
                        refine X.opR rfl rfl rfl ?_
                        iterate 3 refine X.opR (X.on_t rfl rfl rfl h_18) rfl rfl ?_
                        refine X.opR rfl (X.pickand_t (y := decide (y4.1 = y5.1)) rfl h_18 rfl) rfl ?_
                        refine X.opR rfl rfl rfl ?_
                        iterate 3 refine X.opR (X.on_t rfl rfl rfl h_19) rfl rfl ?_
                        refine X.opR rfl (X.pickand_t (y := decide (y4.2.1 = y5.2.1)) rfl h_19 rfl) rfl ?_
                        refine X.opR rfl rfl rfl ?_
                        iterate 3 refine X.opR (X.on_t rfl rfl rfl h_20) rfl rfl ?_
                        refine X.opR rfl (X.pickand_t (y := decide (y4.2.2 = y5.2.2)) rfl h_20 rfl) rfl ?_
                        refine X.opR rfl rfl rfl ?_
                        iterate 3 refine X.opR (X.on_t rfl rfl rfl h_21) rfl rfl ?_
                        refine X.call (ok_ref02_SamePairs (h_14 h_21)) (X.on_t rfl rfl rfl h_21) rfl rfl (.cons (.shut (n := 9) rfl) (.cons (.shut (n := 9) rfl) .nil)) ?_
                        refine X.opR rfl (X.pickand_t (y := y11) rfl h_21 rfl) rfl ?_
                        refine X.opR rfl rfl rfl ?_
                        iterate 4 refine X.opR (X.on_t rfl rfl rfl h_22) rfl rfl ?_
                        refine X.opR rfl (X.pickand_t (y := decide (y6.2 = y7.E)) rfl h_22 rfl) rfl ?_
                        refine X.opR rfl rfl rfl ?_
                        iterate 3 refine X.opR (X.on_t rfl rfl rfl h_23) rfl rfl ?_
                        refine X.call (ok_ref02_SameInts (h_15 h_23)) (X.on_t rfl rfl rfl h_23) rfl rfl (.cons (.shut (n := 9) rfl) (.cons (.shut (n := 9) rfl) .nil)) ?_
                        refine X.opR rfl (X.pickand_t (y := y12) rfl h_23 rfl) rfl ?_
                        refine X.opR rfl rfl rfl ?_
                        iterate 4 refine X.off (X.off_t rfl rfl rfl h_24) rfl ?_
                        refine X.opR rfl (X.pickand_f (y := decide (y8.2 = y9.E)) rfl h_24 rfl) rfl ?_
                        refine X.opR rfl rfl rfl ?_
                        refine GS.opsNil ?_
                        exact X.norm _ hg rfl (W.sub_cons rfl W.sub_nil)
                    · refine X.call (ok_law02_sanity h_13) rfl rfl rfl .nil ?_
                      refine X.opR rfl rfl rfl ?_
                      iterate 3 refine X.opR (X.on_t rfl rfl rfl h_16) rfl rfl ?_
                      refine X.opR (X.on_t rfl rfl rfl h_16) (X.eqlE (eq_api_Span y2.1 y3.S) rfl rfl) rfl ?_
                      refine X.opR rfl (X.pickand_t (y := decide (y2.1 = y3.S)) rfl h_16 rfl) rfl ?_
                      refine X.opR rfl rfl rfl ?_
                      iterate 4 refine X.opR (X.on_t rfl rfl rfl h_17) rfl rfl ?_
                      refine X.opR rfl (X.pickand_t (y := decide (y2.2 = y3.E)) rfl h_17 rfl) rfl ?_
                      refine X.opR rfl rfl rfl ?_
                      iterate 3 refine X.opR (X.on_t rfl rfl rfl h_18) rfl rfl ?_
                      refine X.opR rfl (X.pickand_t (y := decide (y4.1 = y5.1)) rfl h_18 rfl) rfl ?_
                      refine X.opR rfl rfl rfl ?_
                      iterate 3 refine X.opR (X.on_t rfl rfl rfl h_19) rfl rfl ?_
                      refine X.opR rfl (X.pickand_t (y := decide (y4.2.1 = y5.2.1)) rfl h_19 rfl) rfl ?_
                      refine X.opR rfl rfl rfl ?_
                      iterate 3 refine X.opR (X.on_t rfl rfl rfl h_20) rfl rfl ?_
                      refine X.opR rfl (X.pickand_t (y := decide (y4.2.2 = y5.2.2)) rfl h_20 rfl) rfl ?_
                      refine X.opR rfl rfl rfl ?_
                      iterate 3 refine X.opR (X.on_t rfl rfl rfl h_21) rfl rfl ?_
                      refine X.call (ok_ref02_SamePairs (h_14 h_21)) (X.on_t rfl rfl rfl h_21) rfl rfl (.cons (.shut (n := 9) rfl) (.cons (.shut (n := 9) rfl) .nil)) ?_
                      refine X.opR rfl (X.pickand_t (y := y11) rfl h_21 rfl) rfl ?_
                      refine X.opR rfl rfl rfl ?_
                      iterate 4 refine X.opR (X.on_t rfl rfl rfl h_22) rfl rfl ?_
                      refine X.opR rfl (X.pickand_t (y := decide (y6.2 = y7.E)) rfl h_22 rfl) rfl ?_
                      refine X.opR rfl rfl rfl ?_
                      iterate 4 refine X.off (X.off_t rfl rfl rfl h_23) rfl ?_
                      refine X.opR rfl (X.pickand_f (y := y12) rfl h_23 rfl) rfl ?_
                      refine X.opR rfl rfl rfl ?_
                      iterate 4 refine X.off (X.off_t rfl rfl rfl (X.and_ff h_23)) rfl ?_
                      refine X.opR rfl (X.pickand_f (y := decide (y8.2 = y9.E)) rfl (X.and_ff h_23) rfl) rfl ?_
                      refine X.opR rfl rfl rfl ?_
                      refine GS.opsNil ?_
                      exact X.norm _ hg rfl (W.sub_cons rfl W.sub_nil)
                  · refine X.call (ok_law02_sanity h_13) rfl rfl rfl .nil ?_
                    refine X.opR rfl rfl rfl ?_
                    iterate 3 refine X.opR (X.on_t rfl rfl rfl h_16) rfl rfl ?_
                    refine X.opR (X.on_t rfl rfl rfl h_16) (X.eqlE (eq_api_Span y2.1 y3.S) rfl rfl) rfl ?_
                    refine X.opR rfl (X.pickand_t (y := decide (y2.1 = y3.S)) rfl h_16 rfl) rfl ?_
                    refine X.opR rfl rfl rfl ?_
                    iterate 4 refine X.opR (X.on_t rfl rfl rfl h_17) rfl rfl ?_
                    refine X.opR rfl (X.pickand_t (y := decide (y2.2 = y3.E)) rfl h_17 rfl) rfl ?_
                    refine X.opR rfl rfl rfl ?_
                    iterate 3 refine X.opR (X.on_t rfl rfl rfl h_18) rfl rfl ?_
                    refine X.opR rfl (X.pickand_t (y := decide (y4.1 = y5.1)) rfl h_18 rfl) rfl ?_
                    refine X.opR rfl rfl rfl ?_
                    iterate 3 refine X.opR (X.on_t rfl rfl rfl h_19) rfl rfl ?_
                    refine X.opR rfl (X.pickand_t (y := decide (y4.2.1 = y5.2.1)) rfl h_19 rfl) rfl ?_
                    refine X.opR rfl rfl rfl ?_
                    iterate 3 refine X.opR (X.on_t rfl rfl rfl h_20) rfl rfl ?_
                    refine X.opR rfl (X.pickand_t (y := decide (y4.2.2 = y5.2.2)) rfl h_20 rfl) rfl ?_
                    refine X.opR rfl rfl rfl ?_
                    iterate 3 refine X.opR (X.on_t rfl rfl rfl h_21) rfl rfl ?_
                    refine X.call (ok_ref02_SamePairs (h_14 h_21)) (X.on_t rfl rfl rfl h_21) rfl rfl (.cons (.shut (n := 9) rfl) (.cons (.shut (n := 9) rfl) .nil)) ?_
                    refine X.opR rfl (X.pickand_t (y := y11) rfl h_21 rfl) rfl ?_
                    refine X.opR rfl rfl rfl ?_
                    iterate 4 refine X.off (X.off_t rfl rfl rfl h_22) rfl ?_
                    refine X.opR rfl (X.pickand_f (y := decide (y6.2 = y7.E)) rfl h_22 rfl) rfl ?_
                    refine X.opR rfl rfl rfl ?_
                    iterate 4 refine X.off (X.off_t rfl rfl rfl (X.and_ff h_22)) rfl ?_
                    refine X.opR rfl (X.pickand_f (y := y12) rfl (X.and_ff h_22) rfl) rfl ?_
                    refine X.opR rfl rfl rfl ?_
                    iterate 4 refine X.off (X.off_t rfl rfl rfl (X.and_ff (X.and_ff h_22))) rfl ?_
                    refine X.opR rfl (X.pickand_f (y := decide (y8.2 = y9.E)) rfl (X.and_ff (X.and_ff h_22)) rfl) rfl ?_
                    refine X.opR rfl rfl rfl ?_
                    refine GS.opsNil ?_
                    exact X.norm _ hg rfl (W.sub_cons rfl W.sub_nil)
                · refine X.call (ok_law02_sanity h_13) rfl rfl rfl .nil ?_
                  refine X.opR rfl rfl rfl ?_
                  iterate 3 refine X.opR (X.on_t rfl rfl rfl h_16) rfl rfl ?_
                  refine X.opR (X.on_t rfl rfl rfl h_16) (X.eqlE (eq_api_Span y2.1 y3.S) rfl rfl) rfl ?_
                  refine X.opR rfl (X.pickand_t (y := decide (y2.1 = y3.S)) rfl h_16 rfl) rfl ?_
                  refine X.opR rfl rfl rfl ?_
                  iterate 4 refine X.opR (X.on_t rfl rfl rfl h_17) rfl rfl ?_
                  refine X.opR rfl (X.pickand_t (y := decide (y2.2 = y3.E)) rfl h_17 rfl) rfl ?_
                  refine X.opR rfl rfl rfl ?_
                  iterate 3 refine X.opR (X.on_t rfl rfl rfl h_18) rfl rfl ?_
                  refine X.opR rfl (X.pickand_t (y := decide (y4.1 = y5.1)) rfl h_18 rfl) rfl ?_
                  refine X.opR rfl rfl rfl ?_
                  iterate 3 refine X.opR (X.on_t rfl rfl rfl h_19) rfl rfl ?_
                  refine X.opR rfl (X.pickand_t (y := decide (y4.2.1 = y5.2.1)) rfl h_19 rfl) rfl ?_
                  refine X.opR rfl rfl rfl ?_
                  iterate 3 refine X.opR (X.on_t rfl rfl rfl h_20) rfl rfl ?_
                  refine X.opR rfl (X.pickand_t (y := decide (y4.2.2 = y5.2.2)) rfl h_20 rfl) rfl ?_
                  refine X.opR rfl rfl rfl ?_
                  iterate 4 refine X.off (X.off_t rfl rfl rfl h_21) rfl ?_
                  refine X.opR rfl (X.pickand_f (y := y11) rfl h_21 rfl) rfl ?_
                  refine X.opR rfl rfl rfl ?_
                  iterate 4 refine X.off (X.off_t rfl rfl rfl (X.and_ff h_21)) rfl ?_
                  refine X.opR rfl (X.pickand_f (y := decide (y6.2 = y7.E)) rfl (X.and_ff h_21) rfl) rfl ?_
                  refine X.opR rfl rfl rfl ?_
                  iterate 4 refine X.off (X.off_t rfl rfl rfl (X.and_ff (X.and_ff h_21))) rfl ?_
                  refine X.opR rfl (X.pickand_f (y := y12) rfl (X.and_ff (X.and_ff h_21)) rfl) rfl ?_
                  refine X.opR rfl rfl rfl ?_
                  iterate 4 refine X.off (X.off_t rfl rfl rfl (X.and_ff (X.and_ff (X.and_ff h_21)))) rfl ?_
                  refine X.opR rfl (X.pickand_f (y := decide (y8.2 = y9.E)) rfl (X.and_ff (X.and_ff (X.and_ff h_21))) rfl) rfl ?_
                  refine X.opR rfl rfl rfl ?_
                  refine GS.opsNil ?_
                  exact X.norm _ hg rfl (W.sub_cons rfl W.sub_nil)
              · refine X.call (ok_law02_sanity h_13) rfl rfl rfl .nil ?_
                refine X.opR rfl rfl rfl ?_
                iterate 3 refine X.opR (X.on_t rfl rfl rfl h_16) rfl rfl ?_
                refine X.opR (X.on_t rfl rfl rfl h_16) (X.eqlE (eq_api_Span y2.1 y3.S) rfl rfl) rfl ?_
                refine X.opR rfl (X.pickand_t (y := decide (y2.1 = y3.S)) rfl h_16 rfl) rfl ?_
                refine X.opR rfl rfl rfl ?_
                iterate 4 refine X.opR (X.on_t rfl rfl rfl h_17) rfl rfl ?_
                refine X.opR rfl (X.pickand_t (y := decide (y2.2 = y3.E)) rfl h_17 rfl) rfl ?_
                refine X.opR rfl rfl rfl ?_
                iterate 3 refine X.opR (X.on_t rfl rfl rfl h_18) rfl rfl ?_
                refine X.opR rfl (X.pickand_t (y := decide (y4.1 = y5.1)) rfl h_18 rfl) rfl ?_
                refine X.opR rfl rfl rfl ?_
                iterate 3 refine X.opR (X.on_t rfl rfl rfl h_19) rfl rfl ?_
                refine X.opR rfl (X.pickand_t (y := decide (y4.2.1 = y5.2.1)) rfl h_19 rfl) rfl ?_
                refine X.opR rfl rfl rfl ?_
                iterate 3 refine X.off (X.off_t rfl rfl rfl h_20) rfl ?_
                refine X.opR rfl (X.pickand_f (y := decide (y4.2.2 = y5.2.2)) rfl h_20 rfl) rfl ?_
                refine X.opR rfl rfl rfl ?_
                iterate 4 refine X.off (X.off_t rfl rfl rfl (X.and_ff h_20)) rfl ?_
                refine X.opR rfl (X.pickand_f (y := y11) rfl (X.and_ff h_20) rfl) rfl ?_
                refine X.opR rfl rfl rfl ?_
                iterate 4 refine X.off (X.off_t rfl rfl rfl (X.and_ff (X.and_ff h_20))) rfl ?_
                refine X.opR rfl (X.pickand_f (y := decide (y6.2 = y7.E)) rfl (X.and_ff (X.and_ff h_20)) rfl) rfl ?_
                refine X.opR rfl rfl rfl ?_
                iterate 4 refine X.off (X.off_t rfl rfl rfl (X.and_ff (X.and_ff (X.and_ff h_20)))) rfl ?_
                refine X.opR rfl (X.pickand_f (y := y12) rfl (X.and_ff (X.and_ff (X.and_ff h_20))) rfl) rfl ?_
                refine X.opR rfl rfl rfl ?_
                iterate 4 refine X.off (X.off_t rfl rfl rfl (X.and_ff (X.and_ff (X.and_ff (X.and_ff h_20))))) rfl ?_
                refine X.opR rfl (X.pickand_f (y := decide (y8.2 = y9.E)) rfl (X.and_ff (X.and_ff (X.and_ff (X.and_ff h_20)))) rfl) rfl ?_
                refine X.opR rfl rfl rfl ?_
                refine GS.opsNil ?_
                exact X.norm _ hg rfl (W.sub_cons rfl W.sub_nil)
            · refine X.call (ok_law02_sanity h_13) rfl rfl rfl .nil ?_
              refine X.opR rfl rfl rfl ?_
              iterate 3 refine X.opR (X.on_t rfl rfl rfl h_16) rfl rfl ?_
              refine X.opR (X.on_t rfl rfl rfl h_16) (X.eqlE (eq_api_Span y2.1 y3.S) rfl rfl) rfl ?_
              refine X.opR rfl (X.pickand_t (y := decide (y2.1 = y3.S)) rfl h_16 rfl) rfl ?_
              refine X.opR rfl rfl rfl ?_
              iterate 4 refine X.opR (X.on_t rfl rfl rfl h_17) rfl rfl ?_
              refine X.opR rfl (X.pickand_t (y := decide (y2.2 = y3.E)) rfl h_17 rfl) rfl ?_
              refine X.opR rfl rfl rfl ?_
              iterate 3 refine X.opR (X.on_t rfl rfl rfl h_18) rfl rfl ?_
              refine X.opR rfl (X.pickand_t (y := decide (y4.1 = y5.1)) rfl h_18 rfl) rfl ?_
              refine X.opR rfl rfl rfl ?_
              iterate 3 refine X.off (X.off_t rfl rfl rfl h_19) rfl ?_
              refine X.opR rfl (X.pickand_f (y := decide (y4.2.1 = y5.2.1)) rfl h_19 rfl) rfl ?_
              refine X.opR rfl rfl rfl ?_
              iterate 3 refine X.off (X.off_t rfl rfl rfl (X.and_ff h_19)) rfl ?_
              refine X.opR rfl (X.pickand_f (y := decide (y4.2.2 = y5.2.2)) rfl (X.and_ff h_19) rfl) rfl ?_
              refine X.opR rfl rfl rfl ?_
              iterate 4 refine X.off (X.off_t rfl rfl rfl (X.and_ff (X.and_ff h_19))) rfl ?_
              refine X.opR rfl (X.pickand_f (y := y11) rfl (X.and_ff (X.and_ff h_19)) rfl) rfl ?_
              refine X.opR rfl rfl rfl ?_
              iterate 4 refine X.off (X.off_t rfl rfl rfl (X.and_ff (X.and_ff (X.and_ff h_19)))) rfl ?_
              refine X.opR rfl (X.pickand_f (y := decide (y6.2 = y7.E)) rfl (X.and_ff (X.and_ff (X.and_ff h_19))) rfl) rfl ?_
              refine X.opR rfl rfl rfl ?_
              iterate 4 refine X.off (X.off_t rfl rfl rfl (X.and_ff (X.and_ff (X.and_ff (X.and_ff h_19))))) rfl ?_
              refine X.opR rfl (X.pickand_f (y := y12) rfl (X.and_ff (X.and_ff (X.and_ff (X.and_ff h_19)))) rfl) rfl ?_
              refine X.opR rfl rfl rfl ?_
              iterate 4 refine X.off (X.off_t rfl rfl rfl (X.and_ff (X.and_ff (X.and_ff (X.and_ff (X.and_ff h_19)))))) rfl ?_
              refine X.opR rfl (X.pickand_f (y := decide (y8.2 = y9.E)) rfl (X.and_ff (X.and_ff (X.and_ff (X.and_ff (X.and_ff h_19))))) rfl) rfl ?_
              refine X.opR rfl rfl rfl ?_
              refine GS.opsNil ?_
              exact X.norm _ hg rfl (W.sub_cons rfl W.sub_nil)
          · refine X.call (ok_law02_sanity h_13) rfl rfl rfl .nil ?_
            refine X.opR rfl rfl rfl ?_
            iterate 3 refine X.opR (X.on_t rfl rfl rfl h_16) rfl rfl ?_
            refine X.opR (X.on_t rfl rfl rfl h_16) (X.eqlE (eq_api_Span y2.1 y3.S) rfl rfl) rfl ?_
            refine X.opR rfl (X.pickand_t (y := decide (y2.1 = y3.S)) rfl h_16 rfl) rfl ?_
            refine X.opR rfl rfl rfl ?_
            iterate 4 refine X.opR (X.on_t rfl rfl rfl h_17) rfl rfl ?_
            refine X.opR rfl (X.pickand_t (y := decide (y2.2 = y3.E)) rfl h_17 rfl) rfl ?_
            refine X.opR rfl rfl rfl ?_
            iterate 3 refine X.off (X.off_t rfl rfl rfl h_18) rfl ?_
            refine X.opR rfl (X.pickand_f (y := decide (y4.1 = y5.1)) rfl h_18 rfl) rfl ?_
            refine X.opR rfl rfl rfl ?_
            iterate 3 refine X.off (X.off_t rfl rfl rfl (X.and_ff h_18)) rfl ?_
            refine X.opR rfl (X.pickand_f (y := decide (y4.2.1 = y5.2.1)) rfl (X.and_ff h_18) rfl) rfl ?_
            refine X.opR rfl rfl rfl ?_
            iterate 3 refine X.off (X.off_t rfl rfl rfl (X.and_ff (X.and_ff h_18))) rfl ?_
            refine X.opR rfl (X.pickand_f (y := decide (y4.2.2 = y5.2.2)) rfl (X.and_ff (X.and_ff h_18)) rfl) rfl ?_
            refine X.opR rfl rfl rfl ?_
            iterate 4 refine X.off (X.off_t rfl rfl rfl (X.and_ff (X.and_ff (X.and_ff h_18)))) rfl ?_
            refine X.opR rfl (X.pickand_f (y := y11) rfl (X.and_ff (X.and_ff (X.and_ff h_18))) rfl) rfl ?_
            refine X.opR rfl rfl rfl ?_
            iterate 4 refine X.off (X.off_t rfl rfl rfl (X.and_ff (X.and_ff (X.and_ff (X.and_ff h_18))))) rfl ?_
            refine X.opR rfl (X.pickand_f (y := decide (y6.2 = y7.E)) rfl (X.and_ff (X.and_ff (X.and_ff (X.and_ff h_18)))) rfl) rfl ?_
            refine X.opR rfl rfl rfl ?_
            iterate 4 refine X.off (X.off_t rfl rfl rfl (X.and_ff (X.and_ff (X.and_ff (X.and_ff (X.and_ff h_18)))))) rfl ?_
            refine X.opR rfl (X.pickand_f (y := y12) rfl (X.and_ff (X.and_ff (X.and_ff (X.and_ff (X.and_ff h_18))))) rfl) rfl ?_
            refine X.opR rfl rfl rfl ?_
            iterate 4 refine X.off (X.off_t rfl rfl rfl (X.and_ff (X.and_ff (X.and_ff (X.and_ff (X.and_ff (X.and_ff h_18))))))) rfl ?_
            refine X.opR rfl (X.pickand_f (y := decide (y8.2 = y9.E)) rfl (X.and_ff (X.and_ff (X.and_ff (X.and_ff (X.and_ff (X.and_ff h_18)))))) rfl) rfl ?_
            refine X.opR rfl rfl rfl ?_
            refine GS.opsNil ?_
            exact X.norm _ hg rfl (W.sub_cons rfl W.sub_nil)
        · refine X.call (ok_law02_sanity h_13) rfl rfl rfl .nil ?_
          refine X.opR rfl rfl rfl ?_
          iterate 3 refine X.opR (X.on_t rfl rfl rfl h_16) rfl rfl ?_
          refine X.opR (X.on_t rfl rfl rfl h_16) (X.eqlE (eq_api_Span y2.1 y3.S) rfl rfl) rfl ?_
          refine X.opR rfl (X.pickand_t (y := decide (y2.1 = y3.S)) rfl h_16 rfl) rfl ?_
          refine X.opR rfl rfl rfl ?_
          iterate 4 refine X.off (X.off_t rfl rfl rfl h_17) rfl ?_
          refine X.opR rfl (X.pickand_f (y := decide (y2.2 = y3.E)) rfl h_17 rfl) rfl ?_
          refine X.opR rfl rfl rfl ?_
          iterate 3 refine X.off (X.off_t rfl rfl rfl (X.and_ff h_17)) rfl ?_
          refine X.opR rfl (X.pickand_f (y := decide (y4.1 = y5.1)) rfl (X.and_ff h_17) rfl) rfl ?_
          refine X.opR rfl rfl rfl ?_
          iterate 3 refine X.off (X.off_t rfl rfl rfl (X.and_ff (X.and_ff h_17))) rfl ?_
          refine X.opR rfl (X.pickand_f (y := decide (y4.2.1 = y5.2.1)) rfl (X.and_ff (X.and_ff h_17)) rfl) rfl ?_
          refine X.opR rfl rfl rfl ?_
          iterate 3 refine X.off (X.off_t rfl rfl rfl (X.and_ff (X.and_ff (X.and_ff h_17)))) rfl ?_
          refine X.opR rfl (X.pickand_f (y := decide (y4.2.2 = y5.2.2)) rfl (X.and_ff (X.and_ff (X.and_ff h_17))) rfl) rfl ?_
          refine X.opR rfl rfl rfl ?_
          iterate 4 refine X.off (X.off_t rfl rfl rfl (X.and_ff (X.and_ff (X.and_ff (X.and_ff h_17))))) rfl ?_
          refine X.opR rfl (X.pickand_f (y := y11) rfl (X.and_ff (X.and_ff (X.and_ff (X.and_ff h_17)))) rfl) rfl ?_
          refine X.opR rfl rfl rfl ?_
          iterate 4 refine X.off (X.off_t rfl rfl rfl (X.and_ff (X.and_ff (X.and_ff (X.and_ff (X.and_ff h_17)))))) rfl ?_
          refine X.opR rfl (X.pickand_f (y := decide (y6.2 = y7.E)) rfl (X.and_ff (X.and_ff (X.and_ff (X.and_ff (X.and_ff h_17))))) rfl) rfl ?_
          refine X.opR rfl rfl rfl ?_
          iterate 4 refine X.off (X.off_t rfl rfl rfl (X.and_ff (X.and_ff (X.and_ff (X.and_ff (X.and_ff (X.and_ff h_17))))))) rfl ?_
          refine X.opR rfl (X.pickand_f (y := y12) rfl (X.and_ff (X.and_ff (X.and_ff (X.and_ff (X.and_ff (X.and_ff h_17)))))) rfl) rfl ?_
          refine X.opR rfl rfl rfl ?_
          iterate 4 refine X.off (X.off_t rfl rfl rfl (X.and_ff (X.and_ff (X.and_ff (X.and_ff (X.and_ff (X.and_ff (X.and_ff h_17)))))))) rfl ?_
          refine X.opR rfl (X.pickand_f (y := decide (y8.2 = y9.E)) rfl (X.and_ff (X.and_ff (X.and_ff (X.and_ff (X.and_ff (X.and_ff (X.and_ff h_17))))))) rfl) rfl ?_
          refine X.opR rfl rfl rfl ?_
          refine GS.opsNil ?_
          exact X.norm _ hg rfl (W.sub_cons rfl W.sub_nil)
      · refine X.call (ok_law02_sanity h_13) rfl rfl rfl .nil ?_
        refine X.opR rfl rfl rfl ?_
        iterate 4 refine X.off (X.off_t rfl rfl rfl h_16) rfl ?_
        refine X.opR rfl (X.pickand_f (y := decide (y2.1 = y3.S)) rfl h_16 rfl) rfl ?_
        refine X.opR rfl rfl rfl ?_
        iterate 4 refine X.off (X.off_t rfl rfl rfl (X.and_ff h_16)) rfl ?_
        refine X.opR rfl (X.pickand_f (y := decide (y2.2 = y3.E)) rfl (X.and_ff h_16) rfl) rfl ?_
        refine X.opR rfl rfl rfl ?_
        iterate 3 refine X.off (X.off_t rfl rfl rfl (X.and_ff (X.and_ff h_16))) rfl ?_
        refine X.opR rfl (X.pickand_f (y := decide (y4.1 = y5.1)) rfl (X.and_ff (X.and_ff h_16)) rfl) rfl ?_
        refine X.opR rfl rfl rfl ?_
        iterate 3 refine X.off (X.off_t rfl rfl rfl (X.and_ff (X.and_ff (X.and_ff h_16)))) rfl ?_
        refine X.opR rfl (X.pickand_f (y := decide (y4.2.1 = y5.2.1)) rfl (X.and_ff (X.and_ff (X.and_ff h_16))) rfl) rfl ?_
        refine X.opR rfl rfl rfl ?_
        iterate 3 refine X.off (X.off_t rfl rfl rfl (X.and_ff (X.and_ff (X.and_ff (X.and_ff h_16))))) rfl ?_
        refine X.opR rfl (X.pickand_f (y := decide (y4.2.2 = y5.2.2)) rfl (X.and_ff (X.and_ff (X.and_ff (X.and_ff h_16)))) rfl) rfl ?_
        refine X.opR rfl rfl rfl ?_
        iterate 4 refine X.off (X.off_t rfl rfl rfl (X.and_ff (X.and_ff (X.and_ff (X.and_ff (X.and_ff h_16)))))) rfl ?_
        refine X.opR rfl (X.pickand_f (y := y11) rfl (X.and_ff (X.and_ff (X.and_ff (X.and_ff (X.and_ff h_16))))) rfl) rfl ?_
        refine X.opR rfl rfl rfl ?_
        iterate 4 refine X.off (X.off_t rfl rfl rfl (X.and_ff (X.and_ff (X.and_ff (X.and_ff (X.and_ff (X.and_ff h_16))))))) rfl ?_
        refine X.opR rfl (X.pickand_f (y := decide (y6.2 = y7.E)) rfl (X.and_ff (X.and_ff (X.and_ff (X.and_ff (X.and_ff (X.and_ff h_16)))))) rfl) rfl ?_
        refine X.opR rfl rfl rfl ?_
        iterate 4 refine X.off (X.off_t rfl rfl rfl (X.and_ff (X.and_ff (X.and_ff (X.and_ff (X.and_ff (X.and_ff (X.and_ff h_16)))))))) rfl ?_
        refine X.opR rfl (X.pickand_f (y := y12) rfl (X.and_ff (X.and_ff (X.and_ff (X.and_ff (X.and_ff (X.and_ff (X.and_ff h_16))))))) rfl) rfl ?_
        refine X.opR rfl rfl rfl ?_
        iterate 4 refine X.off (X.off_t rfl rfl rfl (X.and_ff (X.and_ff (X.and_ff (X.and_ff (X.and_ff (X.and_ff (X.and_ff (X.and_ff h_16))))))))) rfl ?_
        refine X.opR rfl (X.pickand_f (y := decide (y8.2 = y9.E)) rfl (X.and_ff (X.and_ff (X.and_ff (X.and_ff (X.and_ff (X.and_ff (X.and_ff (X.and_ff h_16)))))))) rfl) rfl ?_
        refine X.opR rfl rfl rfl ?_
        refine GS.opsNil ?_
        exact X.norm _ hg rfl (W.sub_cons rfl W.sub_nil)
    have hE := Option.some.inj hM
    subst hE
    exact GS.ret ⟨_, rfl, ⟨30, rfl⟩⟩

end Go.Proofs.YtphmekpaalfliaaGreat
