/- The program's functions compute the plain ones. Conditions: none. Printed by a program (wip/tools/xg.py). -/
import Derived.Test.YthfnbjoecocfaaaP1
set_option linter.unusedVariables false
set_option linter.unusedSimpArgs false
namespace Go.Proofs.Ythfnbjoecocfaaa
open Go Go.Am Go.Proofs Go.Mx

set_option maxHeartbeats 4000000 in
theorem ok_hull_unloading_search {u : hull_unloading} {end_ : hull_done} {r : (List api_Drop) × Int} (hM : hull_unloading_search u end_ = some r) : Ct Try.prog 115 [(e_hull_unloading u), (e_hull_done end_)] (V.tup [(V.sl (List.map e_api_Drop r.1)), (V.i r.2)]) := by
  refine ct_of_gs CC_ok rfl ?_
  unfold hull_unloading_search at hM
  refine X.sq ?_
  iterate 2 refine X.opW rfl rfl rfl rfl ?_
  iterate 2 refine X.q rfl ?_
  refine GS.opsNil ?_
  refine GS.scope ?_
  refine X.sq ?_
  refine X.opW rfl rfl rfl rfl ?_
  refine X.q rfl ?_
  refine X.op0W rfl (X.putV (f := e_hull_done) (g := V.i) (pos := posE) (k := (⟨0, 0, 0, 0, 0, 0, 0, 0⟩ : hull_done)) (v := (-1)) (l := []) key_hull_done (fun l => by rw [X.insAt_agg, List.length_map]; rfl) rfl rfl rfl rfl rfl rfl rfl) rfl ?_
  iterate 2 refine X.q rfl ?_
  refine X.nq ?_
  refine X.q rfl ?_
  refine X.opW (H' := [.rows 14 [(e_hull_unloading u)], .rows 8 [(e_hull_done end_)], .map (List.map (fun p => e_hull_done p.1) (putM posE [] (⟨0, 0, 0, 0, 0, 0, 0, 0⟩ : hull_done) (-1))) (List.map (fun p => V.i p.2) (putM posE [] (⟨0, 0, 0, 0, 0, 0, 0, 0⟩ : hull_done) (-1))), .rows 8 (List.map e_hull_done ([(⟨0, 0, 0, 0, 0, 0, 0, 0⟩ : hull_done)]))]) rfl rfl rfl rfl ?_
  refine X.q rfl ?_
  refine GS.opsNil ?_
  refine GS.seq ?_
  refine GS.label ?_
  refine GS.seq ?_
  refine X.join (τ := (List (hull_done × Int))) (fun v => hull_unloading_search_j1 u end_ v = some r) (fun v => ⟨[(2, (V.ptr 0 0 0)), (3, (V.ptr 1 0 0)), (6, (V.map 2))], [.rows 14 [(e_hull_unloading u)], .rows 8 [(e_hull_done end_)], .map (List.map (fun p => e_hull_done p.1) v) (List.map (fun p => V.i p.2) v)], 0, none, 125⟩) ?_ ?_
  · intro m hM
    replace hM : hull_unloading_search_j1 u end_ m = some r := hM
    unfold hull_unloading_search_j1 at hM
    refine GS.seq ?_
    refine X.sq ?_
    iterate 2 refine X.q rfl ?_
    refine X.opR rfl (X.lookW (f := e_hull_done) (g := V.i) (k := end_) (l := m) (z := 0) (ok := true) key_hull_done rfl rfl rfl rfl rfl rfl) rfl ?_
    iterate 5 refine X.q rfl ?_
    refine X.nq ?_
    iterate 2 refine X.q rfl ?_
    refine GS.opsNil ?_
    refine X.cond rfl (fun h_1 => ?_) (fun h_1 => ?_)
    · replace hM := ite_t h_1 hM
      refine X.sq ?_
      iterate 2 refine X.q rfl ?_
      refine GS.opsNil ?_
      have hE := Option.some.inj hM
      subst hE
      exact GS.ret ⟨_, rfl, ⟨30, rfl⟩⟩
    replace hM := ite_f h_1 hM
    refine GS.skip ?_
    refine X.sq ?_
    refine X.q rfl ?_
    refine GS.opsNil ?_
    refine GS.seq ?_
    refine X.sq ?_
    refine X.q rfl ?_
    refine X.opW (H' := [.rows 14 [(e_hull_unloading u)], .rows 8 [(e_hull_done end_)], .map (List.map (fun p => e_hull_done p.1) m) (List.map (fun p => V.i p.2) m), .rows 8 [(V.agg [(V.i 0), (V.i 0), (V.i 0), (V.i 0), (V.i 0), (V.i 0), (V.i 0), (V.i 0)])]]) rfl rfl rfl rfl ?_
    refine X.op0W (H' := [.rows 14 [(e_hull_unloading u)], .rows 8 [(e_hull_done end_)], .map (List.map (fun p => e_hull_done p.1) m) (List.map (fun p => V.i p.2) m), .rows 8 [(e_hull_done end_)]]) rfl rfl rfl ?_
    refine GS.opsNil ?_
    refine X.join (τ := (List api_Drop)) (fun v => hull_unloading_search_j2 v = some r) (fun v => ⟨[(15, (ovl 0 v))], [obl 2 e_api_Drop v], 0, none, 125⟩) ?_ ?_
    · intro l hM
      replace hM : hull_unloading_search_j2 l = some r := hM
      unfold hull_unloading_search_j2 at hM
      refine X.sq ?_
      refine X.q rfl ?_
      refine X.joinO (τ := (List api_Drop)) (fun v => hull_unloading_search_j3 v = some r) (fun v => ⟨[(15, (ovl 0 v))], [obl 2 e_api_Drop v], 0, none, 125⟩) ?_ ?_
      · intro l1 hM
        replace hM : hull_unloading_search_j3 l1 = some r := hM
        unfold hull_unloading_search_j3 at hM
        refine X.nq ?_
        iterate 3 refine X.q rfl ?_
        refine GS.opsNil ?_
        have hE := Option.some.inj hM
        subst hE
        exact GS.ret ⟨_, rfl, FR.tup (.cons (FR.ovl (f := e_api_Drop) (l := l1) 9 rfl rfl (fun _ => rfl)) (.cons ⟨30, rfl⟩ .nil))⟩
      intro hj_3
      refine X.inl rfl rfl rfl rfl ?_
      refine X.sq ?_
      refine X.q rfl ?_
      refine X.opR rfl (X.lenN (l := l) rfl rfl rfl) rfl ?_
      refine X.opR rfl (X.subE rfl rfl) rfl ?_
      iterate 2 refine X.q rfl ?_
      refine GS.opsNil ?_
      refine GS.block ?_
      refine X.gc [] (X.loop (σ := (Int × Int × (List api_Drop))) (fun v => ⟨[(0, (ovl 0 v.2.2)), (2, (V.i v.1)), (3, (V.i v.2.1))], [obl 2 e_api_Drop v.2.2], 0, none, 28⟩) hM ?_ rfl) rfl rfl rfl (gk_cons rfl (rn_ovl rfl) (ga rfl rfl)) (gb_obl 9 rfl rfl (fun _ => rfl) gb_nil)
      rintro ⟨i, j, l2⟩ b_1 hM hc_4 hr_1
      rw [hull_unloading_search_b4] at hM
      refine GS.seq ?_
      refine X.sq ?_
      iterate 3 refine X.q rfl ?_
      refine GS.opsNil ?_
      refine X.cond rfl (fun h_2 => ?_) (fun h_2 => ?_)
      · replace hM := ite_t h_2 hM
        refine GS.skip ?_
        refine GS.seq ?_
        refine GS.block ?_
        obtain ⟨x, h_3, hM⟩ := bind_of hM
        obtain ⟨x1, h_4, hM⟩ := bind_of hM
        obtain ⟨x2, h_5, hM⟩ := bind_of hM
        obtain ⟨x3, h_6, hM⟩ := bind_of hM
        refine X.draw (by kernel_rfl) ?_
        iterate 6 refine X.dop rfl rfl rfl rfl (by kernel_rfl) rfl rfl ?_
        refine X.dop rfl (X.indexN h_3 rfl rfl rfl rfl rfl) rfl rfl (by kernel_rfl) rfl rfl ?_
        refine X.dop rfl (X.loadN h_3 rfl rfl rfl rfl) rfl rfl (by kernel_rfl) rfl rfl ?_
        iterate 2 refine X.dop rfl rfl rfl rfl (by kernel_rfl) rfl rfl ?_
        refine X.dop rfl (X.indexN h_4 rfl rfl rfl rfl rfl) rfl rfl (by kernel_rfl) rfl rfl ?_
        refine X.dop rfl (X.loadN h_4 rfl rfl rfl rfl) rfl rfl (by kernel_rfl) rfl rfl ?_
        refine X.dop rfl (X.indexN h_5 rfl rfl rfl rfl rfl) rfl rfl (by kernel_rfl) rfl rfl ?_
        refine X.dop0 rfl (X.storeN (b := x) h_5 rfl rfl rfl rfl rfl rfl rfl) rfl rfl (by kernel_rfl) rfl ?_
        refine X.dop rfl (X.indexN h_6 rfl rfl (X.kev_eq rfl X.ovl_put) rfl rfl) rfl rfl (by kernel_rfl) rfl rfl ?_
        refine X.dop0 rfl (X.storeN (b := x1) h_6 rfl rfl rfl rfl rfl rfl rfl) rfl rfl (by kernel_rfl) rfl ?_
        refine X.dnil ?_
        refine X.norm [(0, (ovl 0 l2)), (2, (V.i i)), (3, (V.i j))] ?_ rfl (sr rfl)
        refine GS.endB ?_
        refine GS.region ?_
        refine X.q rfl ?_
        refine X.opR rfl (X.addE rfl rfl) rfl ?_
        refine X.q rfl ?_
        refine X.opR rfl (X.subE rfl rfl) rfl ?_
        iterate 2 refine X.q rfl ?_
        refine GS.opsNil ?_
        have hE := Option.some.inj hM
        exact X.gc [] (hc_4 (w64 (i + 1), w64 (j - 1), (put (put l2 i x) j x1)) hE.symm) rfl rfl rfl (gk_cons rfl (rv_eq (Eq.trans X.ovl_put X.ovl_put) (rn_ovl rfl)) (ga rfl rfl)) (gb_obl 9 rfl rfl (fun _ => rfl) gb_nil)
      replace hM := ite_f h_2 hM
      refine GS.exit rfl ?_
      obtain ⟨_, h_7, hM⟩ := bind_of hM
      replace h_7 := sameO_of h_7
      refine GS.nil ⟨_, rfl, ?_⟩
      refine X.norm (H' := [obl 2 e_api_Drop l2]) [(15, (ovl 0 l2))] ?_ rfl (X.sub_eq rfl (X.ovlz_len h_7) W.sub_nil)
      obtain ⟨y_1, hM, hy⟩ := map_of hM
      rw [hr_1 _ hy.symm] at hM
      exact X.gc [some 0] (hj_3 l2 hM) rfl rfl rfl (gk_cons rfl (rn_ovl rfl) gk_nil) (gb_obl 9 rfl rfl (fun _ => rfl) gb_nil)
    intro hj_2
    refine GS.block ?_
    refine X.gc [some 0, some 2, none, some 3] (X.loop (σ := ((List api_Drop) × hull_done)) (fun v => ⟨[(2, (V.ptr 0 0 0)), (6, (V.map 1)), (15, (ovl 2 v.1)), (16, (V.ptr 3 0 0))], [.rows 14 [(e_hull_unloading u)], .map (List.map (fun p => e_hull_done p.1) m) (List.map (fun p => V.i p.2) m), obl 2 e_api_Drop v.1, .rows 8 [(e_hull_done v.2)]], 0, none, 125⟩) hM ?_ rfl) rfl rfl rfl (ga rfl rfl) (gb9 rfl rfl rfl (X.gb_mapK 9 rfl rfl (fun _ => rfl) (fun _ => rfl) (gb_pad' rfl (gb9 rfl rfl rfl gb_nil))))
    rintro ⟨l4, at_⟩ b_1 hM hc_5 hr_1
    rw [hull_unloading_search_b5] at hM
    refine GS.seq ?_
    refine X.sq ?_
    iterate 2 refine X.q rfl ?_
    refine X.opR rfl (X.lookW (f := e_hull_done) (g := V.i) (k := at_) (l := m) (z := 0) (ok := false) key_hull_done rfl rfl rfl rfl rfl rfl) rfl ?_
    refine X.q rfl ?_
    refine GS.opsNil ?_
    refine X.cond rfl (fun h_8 => ?_) (fun h_8 => ?_)
    · replace hM := ite_t h_8 hM
      refine GS.skip ?_
      refine GS.seq ?_
      refine GS.block ?_
      refine X.sq ?_
      iterate 2 refine X.q rfl ?_
      refine X.opR rfl (X.lookW (f := e_hull_done) (g := V.i) (k := at_) (l := m) (z := 0) (ok := false) key_hull_done rfl rfl rfl rfl rfl rfl) rfl ?_
      refine X.q rfl ?_
      refine X.nq ?_
      refine X.q rfl ?_
      refine X.opW (H' := [.rows 14 [(e_hull_unloading u)], .map (List.map (fun p => e_hull_done p.1) m) (List.map (fun p => V.i p.2) m), obl 2 e_api_Drop l4, .rows 8 [(e_hull_done at_)], .rows 8 [(V.agg [(V.i 0), (V.i 0), (V.i 0), (V.i 0), (V.i 0), (V.i 0), (V.i 0), (V.i 0)])]]) rfl rfl rfl rfl ?_
      refine X.op0W (H' := [.rows 14 [(e_hull_unloading u)], .map (List.map (fun p => e_hull_done p.1) m) (List.map (fun p => V.i p.2) m), obl 2 e_api_Drop l4, .rows 8 [(e_hull_done at_)], .rows 8 [(e_hull_done at_)]]) rfl rfl rfl ?_
      refine GS.opsNil ?_
      refine GS.seq ?_
      obtain ⟨y, h_9, hM⟩ := bind_of hM
      obtain ⟨y1, h_10, hM⟩ := bind_of hM
      refine GS.region ?_
      refine X.q rfl ?_
      refine X.opR rfl (X.indexArr (k := 8) (l := hull_done.toL at_) h_9 rfl rfl rfl rfl rfl) rfl ?_
      refine X.opR rfl (X.loadArr (l := hull_done.toL at_) (pre := []) (post := []) h_9 rfl rfl rfl rfl rfl rfl rfl) rfl ?_
      refine X.opR rfl (X.subE rfl rfl) rfl ?_
      refine X.opR rfl (X.indexArr (k := 8) (l := hull_done.toL at_) h_10 rfl rfl rfl rfl rfl) rfl ?_
      refine X.op0W (H' := [.rows 14 [(e_hull_unloading u)], .map (List.map (fun p => e_hull_done p.1) m) (List.map (fun p => V.i p.2) m), obl 2 e_api_Drop l4, .rows 8 [(e_hull_done at_)], .rows 8 [(e_hull_done (hull_done.set at_ ((lookM at_ m).getD 0) (w64 (y - 1))))]]) rfl (X.storeArr (l := hull_done.toL at_) (l' := hull_done.toL (hull_done.set at_ ((lookM at_ m).getD 0) (w64 (y - 1)))) (pre := []) (post := []) h_10 (hull_done.toL_set _ _ _) rfl rfl rfl rfl rfl rfl rfl rfl rfl) rfl ?_
      refine GS.opsNil ?_
      refine GS.seq ?_
      obtain ⟨y2, h_11, hM⟩ := bind_of hM
      obtain ⟨x4, h_12, hM⟩ := bind_of hM
      obtain ⟨y3, h_13, hM⟩ := bind_of hM
      obtain ⟨x5, h_14, hM⟩ := bind_of hM
      obtain ⟨l3, h_15, hM⟩ := bind_of hM
      refine X.draw (by kernel_rfl) ?_
      iterate 4 refine X.dop rfl rfl rfl rfl (by kernel_rfl) rfl rfl ?_
      refine X.dcall (ok_hull_unloading_behind h_11) rfl rfl rfl (by kernel_rfl) rfl (.cons (.shut (n := 9) rfl) (.cons (.shut (n := 9) rfl) .nil)) ?_
      refine X.dop rfl rfl rfl rfl (by kernel_rfl) rfl rfl ?_
      refine X.dop rfl (X.indexF (f := V.i) h_12 (fun _ => rfl) rfl rfl rfl rfl) rfl rfl (by kernel_rfl) rfl rfl ?_
      refine X.dop rfl (X.loadF h_12 rfl rfl rfl) rfl rfl (by kernel_rfl) rfl rfl ?_
      iterate 2 refine X.dop rfl rfl rfl rfl (by kernel_rfl) rfl rfl ?_
      refine X.dcall (ok_hull_unloading_behind h_13) rfl rfl rfl (by kernel_rfl) rfl (.cons (.shut (n := 9) rfl) (.cons (.shut (n := 9) rfl) .nil)) ?_
      refine X.dop rfl rfl rfl rfl (by kernel_rfl) rfl rfl ?_
      refine X.dop rfl (X.indexF (f := V.i) h_14 (fun _ => rfl) rfl rfl rfl rfl) rfl rfl (by kernel_rfl) rfl rfl ?_
      refine X.dop rfl (X.loadF h_14 rfl rfl rfl) rfl rfl (by kernel_rfl) rfl rfl ?_
      refine X.dop rfl (X.subE rfl rfl) rfl rfl (by kernel_rfl) rfl rfl ?_
      iterate 2 refine X.dop rfl rfl rfl rfl (by kernel_rfl) rfl rfl ?_
      refine X.dappN (f := e_api_Drop) h_15 (fun _ => rfl) (by rfl) (by rfl) (by rfl) (by rfl) (by rfl) (by rfl) (by rfl) (by rfl) (by rfl) (by rfl) (by rfl) (by exact rfl) (by rfl) (by rfl) (by kernel_rfl) (by rfl) (by rfl) ?_
      refine X.dop rfl rfl rfl rfl (by kernel_rfl) rfl rfl ?_
      refine X.dnil ?_
      refine X.norm [(2, (V.ptr 0 0 0)), (6, (V.map 1)), (15, (V.osl 6 0 (List.length l3))), (16, (V.ptr 3 0 0)), (18, (V.ptr 4 0 0))] ?_ rfl (sr rfl)
      refine GS.region ?_
      refine X.q rfl ?_
      refine X.op0W (H' := [.rows 14 [(e_hull_unloading u)], .map (List.map (fun p => e_hull_done p.1) m) (List.map (fun p => V.i p.2) m), .dead, .rows 8 [(e_hull_done (hull_done.set at_ ((lookM at_ m).getD 0) (w64 (y - 1))))], .rows 8 [(e_hull_done (hull_done.set at_ ((lookM at_ m).getD 0) (w64 (y - 1))))], .rows 2 (List.map e_api_Drop ([(⟨((lookM at_ m).getD 0), w64 (x4 - x5)⟩ : api_Drop)])), .rows 2 (List.map e_api_Drop l3)]) rfl rfl rfl ?_
      refine GS.opsNil ?_
      refine GS.endB ?_
      refine X.sq ?_
      refine X.q rfl ?_
      refine X.mq ?_
      refine X.opW (H' := [.rows 14 [(e_hull_unloading u)], .map (List.map (fun p => e_hull_done p.1) m) (List.map (fun p => V.i p.2) m), .dead, .rows 8 [(e_hull_done (hull_done.set at_ ((lookM at_ m).getD 0) (w64 (y - 1))))], .rows 8 [(e_hull_done (hull_done.set at_ ((lookM at_ m).getD 0) (w64 (y - 1))))], .rows 2 (List.map e_api_Drop ([(⟨((lookM at_ m).getD 0), w64 (x4 - x5)⟩ : api_Drop)])), .rows 2 (List.map e_api_Drop l3), .rows 8 [(V.agg [(V.i 0), (V.i 0), (V.i 0), (V.i 0), (V.i 0), (V.i 0), (V.i 0), (V.i 0)])]]) rfl rfl rfl rfl ?_
      refine X.op0W (H' := [.rows 14 [(e_hull_unloading u)], .map (List.map (fun p => e_hull_done p.1) m) (List.map (fun p => V.i p.2) m), .dead, .rows 8 [(e_hull_done (hull_done.set at_ ((lookM at_ m).getD 0) (w64 (y - 1))))], .rows 8 [(e_hull_done (hull_done.set at_ ((lookM at_ m).getD 0) (w64 (y - 1))))], .rows 2 (List.map e_api_Drop ([(⟨((lookM at_ m).getD 0), w64 (x4 - x5)⟩ : api_Drop)])), .rows 2 (List.map e_api_Drop l3), .rows 8 [(e_hull_done (hull_done.set at_ ((lookM at_ m).getD 0) (w64 (y - 1))))]]) rfl rfl rfl ?_
      refine GS.opsNil ?_
      have hE := Option.some.inj hM
      exact X.gc [some 0, some 1, some 6, some 7] (hc_5 (l3, (hull_done.set at_ ((lookM at_ m).getD 0) (w64 (y - 1)))) hE.symm) rfl rfl rfl (gk_cons rfl ⟨9, rfl⟩ (gk_cons rfl ⟨9, rfl⟩ (gk_cons rfl (rv_ne (app_ne h_15) rfl) (ga rfl rfl)))) (gb9 rfl rfl rfl (X.gb_mapK 9 rfl rfl (fun _ => rfl) (fun _ => rfl) (gb_obl' 9 (app_ne h_15) rfl rfl (fun _ => rfl) (gb9 rfl rfl rfl gb_nil))))
    replace hM := ite_f h_8 hM
    refine GS.exit rfl ?_
    obtain ⟨y_1, hM, hy⟩ := map_of hM
    rw [hr_1 _ hy.symm] at hM
    exact X.gc [some 2] (hj_2 l4 hM) rfl rfl rfl (gk_cons rfl (rn_ovl rfl) gk_nil) (gb_obl 9 rfl rfl (fun _ => rfl) gb_nil)
  intro hj_1
  refine GS.block ?_
  refine X.gc [some 0, some 1, some 2, some 3] (X.loop (σ := (Int × (List (hull_done × Int)) × (List hull_done))) (fun v => ⟨[(2, (V.ptr 0 0 0)), (3, (V.ptr 1 0 0)), (6, (V.map 2)), (7, (oqv 3 v.2.2 v.1))], [.rows 14 [(e_hull_unloading u)], .rows 8 [(e_hull_done end_)], .map (List.map (fun p => e_hull_done p.1) v.2.1) (List.map (fun p => V.i p.2) v.2.1), .rows 8 (List.map e_hull_done v.2.2)], 0, none, 125⟩) hM ?_ rfl) rfl rfl rfl (ga rfl rfl) (gb9 rfl rfl rfl (gb9 rfl rfl rfl (X.gb_mapK 9 rfl rfl (fun _ => rfl) (fun _ => rfl) (gb_rows 9 rfl rfl (fun _ => rfl) gb_nil))))
  rintro ⟨a3, m3, l8⟩ b_1 hM hc_6 hr_1
  rw [hull_unloading_search_b6] at hM
  refine GS.seq ?_
  refine X.sq ?_
  refine X.q rfl ?_
  refine X.opR rfl (X.lenQ rfl rfl rfl) rfl ?_
  refine X.q rfl ?_
  refine GS.opsNil ?_
  refine X.cond rfl (fun h_16 => ?_) (fun h_16 => ?_)
  · replace hM := ite_t h_16 hM
    refine GS.skip ?_
    refine GS.block ?_
    refine GS.seq ?_
    obtain ⟨x6, h_17, hM⟩ := bind_of hM
    refine GS.region ?_
    refine X.q rfl ?_
    refine X.opR rfl (X.indexQ (f := e_hull_done) h_17 rfl rfl rfl rfl rfl) rfl ?_
    refine X.opR rfl (X.loadO (X.ix_drop h_17) rfl rfl rfl rfl) rfl ?_
    refine X.opW (H' := [.rows 14 [(e_hull_unloading u)], .rows 8 [(e_hull_done end_)], .map (List.map (fun p => e_hull_done p.1) m3) (List.map (fun p => V.i p.2) m3), .rows 8 (List.map e_hull_done l8), .rows 8 [(V.agg [(V.i 0), (V.i 0), (V.i 0), (V.i 0), (V.i 0), (V.i 0), (V.i 0), (V.i 0)])]]) rfl rfl rfl rfl ?_
    refine X.op0W (H' := [.rows 14 [(e_hull_unloading u)], .rows 8 [(e_hull_done end_)], .map (List.map (fun p => e_hull_done p.1) m3) (List.map (fun p => V.i p.2) m3), .rows 8 (List.map e_hull_done l8), .rows 8 [(e_hull_done x6)]]) rfl rfl rfl ?_
    refine GS.opsNil ?_
    refine GS.seq ?_
    obtain ⟨a, h_18, hM⟩ := bind_of hM
    refine GS.region ?_
    refine X.q rfl ?_
    refine X.opR rfl (X.sliceQ (f := e_hull_done) (l := l8) (a := a3) h_18 rfl rfl rfl rfl rfl rfl (X.boundA_int rfl)) rfl ?_
    refine X.q rfl ?_
    refine X.nq ?_
    iterate 2 refine X.q rfl ?_
    refine X.opR rfl (X.lenF rfl rfl rfl) rfl ?_
    refine X.q rfl ?_
    refine GS.opsNil ?_
    refine GS.block ?_
    refine X.gc [some 0, some 1, some 2, some 3, some 4] (X.loop (σ := (Int × Int × (List (hull_done × Int)) × (List hull_done))) (fun v => ⟨[(2, (V.ptr 0 0 0)), (3, (V.ptr 1 0 0)), (6, (V.map 2)), (7, (oqv 3 v.2.2.2 v.1)), (8, (V.ptr 4 0 0)), (34, (V.i (u.from_.length : Int))), (35, (V.i v.2.1))], [.rows 14 [(e_hull_unloading u)], .rows 8 [(e_hull_done end_)], .map (List.map (fun p => e_hull_done p.1) v.2.2.1) (List.map (fun p => V.i p.2) v.2.2.1), .rows 8 (List.map e_hull_done v.2.2.2), .rows 8 [(e_hull_done x6)]], 0, none, 125⟩) hM ?_ rfl) rfl rfl rfl (ga rfl rfl) (gb9 rfl rfl rfl (gb9 rfl rfl rfl (X.gb_mapK 9 rfl rfl (fun _ => rfl) (fun _ => rfl) (gb_rows 9 rfl rfl (fun _ => rfl) (gb9 rfl rfl rfl gb_nil)))))
    rintro ⟨a2, x7, m2, l7⟩ b_2 hM hc_7 hr_2
    rw [hull_unloading_search_b7] at hM
    refine X.sq ?_
    refine X.q rfl ?_
    refine GS.opsNil ?_
    refine GS.seq ?_
    refine X.cond rfl (fun h_19 => ?_) (fun h_19 => ?_)
    · replace hM := ite_t h_19 hM
      refine GS.skip ?_
      refine GS.seq ?_
      refine X.join (τ := Int × (List (hull_done × Int)) × (List hull_done)) (fun v => hull_unloading_search_j8 x7 v.1 v.2.1 v.2.2 = some b_2) (fun v => ⟨[(2, (V.ptr 0 0 0)), (3, (V.ptr 1 0 0)), (6, (V.map 2)), (7, (oqv 3 v.2.2 v.1)), (8, (V.ptr 4 0 0)), (34, (V.i (u.from_.length : Int))), (35, (V.i x7))], [.rows 14 [(e_hull_unloading u)], .rows 8 [(e_hull_done end_)], .map (List.map (fun p => e_hull_done p.1) v.2.1) (List.map (fun p => V.i p.2) v.2.1), .rows 8 (List.map e_hull_done v.2.2), .rows 8 [(e_hull_done x6)]], 0, none, 125⟩) ?_ ?_
      · rintro ⟨a1, m1, l5⟩ hM
        replace hM : hull_unloading_search_j8 x7 a1 m1 l5 = some b_2 := hM
        unfold hull_unloading_search_j8 at hM
        refine GS.region ?_
        refine X.opR rfl (X.addE rfl rfl) rfl ?_
        refine X.q rfl ?_
        refine GS.opsNil ?_
        have hE := Option.some.inj hM
        exact X.gc [some 0, some 1, some 2, some 3, some 4] (hc_7 (a1, w64 (x7 + 1), m1, l5) hE.symm) rfl rfl rfl (ga rfl rfl) (gb9 rfl rfl rfl (gb9 rfl rfl rfl (X.gb_mapK 9 rfl rfl (fun _ => rfl) (fun _ => rfl) (gb_rows 9 rfl rfl (fun _ => rfl) (gb9 rfl rfl rfl gb_nil)))))
      intro hj_8
      refine GS.block ?_
      refine X.sq ?_
      iterate 2 refine X.q rfl ?_
      refine X.nq ?_
      refine X.q rfl ?_
      refine X.opW (H' := [.rows 14 [(e_hull_unloading u)], .rows 8 [(e_hull_done end_)], .map (List.map (fun p => e_hull_done p.1) m2) (List.map (fun p => V.i p.2) m2), .rows 8 (List.map e_hull_done l7), .rows 8 [(e_hull_done x6)], .rows 8 [(V.agg [(V.i 0), (V.i 0), (V.i 0), (V.i 0), (V.i 0), (V.i 0), (V.i 0), (V.i 0)])]]) rfl rfl rfl rfl ?_
      refine X.op0W (H' := [.rows 14 [(e_hull_unloading u)], .rows 8 [(e_hull_done end_)], .map (List.map (fun p => e_hull_done p.1) m2) (List.map (fun p => V.i p.2) m2), .rows 8 (List.map e_hull_done l7), .rows 8 [(e_hull_done x6)], .rows 8 [(e_hull_done x6)]]) rfl rfl rfl ?_
      refine GS.opsNil ?_
      refine GS.seq ?_
      obtain ⟨y4, h_20, hM⟩ := bind_of hM
      obtain ⟨y5, h_21, hM⟩ := bind_of hM
      refine GS.region ?_
      refine X.q rfl ?_
      refine X.opR rfl (X.indexArr (k := 8) (l := hull_done.toL x6) h_20 rfl rfl rfl rfl rfl) rfl ?_
      refine X.opR rfl (X.loadArr (l := hull_done.toL x6) (pre := []) (post := []) h_20 rfl rfl rfl rfl rfl rfl rfl) rfl ?_
      refine X.opR rfl (X.addE rfl rfl) rfl ?_
      refine X.opR rfl (X.indexArr (k := 8) (l := hull_done.toL x6) h_21 rfl rfl rfl rfl rfl) rfl ?_
      refine X.op0W (H' := [.rows 14 [(e_hull_unloading u)], .rows 8 [(e_hull_done end_)], .map (List.map (fun p => e_hull_done p.1) m2) (List.map (fun p => V.i p.2) m2), .rows 8 (List.map e_hull_done l7), .rows 8 [(e_hull_done x6)], .rows 8 [(e_hull_done (hull_done.set x6 x7 (w64 (y4 + 1))))]]) rfl (X.storeArr (l := hull_done.toL x6) (l' := hull_done.toL (hull_done.set x6 x7 (w64 (y4 + 1)))) (pre := []) (post := []) h_21 (hull_done.toL_set _ _ _) rfl rfl rfl rfl rfl rfl rfl rfl rfl) rfl ?_
      refine GS.opsNil ?_
      refine GS.seq ?_
      refine X.sq ?_
      iterate 2 refine X.q rfl ?_
      refine X.opR rfl (X.lookW (f := e_hull_done) (g := V.i) (k := (hull_done.set x6 x7 (w64 (y4 + 1)))) (l := m2) (z := 0) (ok := true) key_hull_done rfl rfl rfl rfl rfl rfl) rfl ?_
      iterate 5 refine X.q rfl ?_
      refine GS.opsNil ?_
      refine GS.seq ?_
      obtain ⟨y6, h_22, hM⟩ := gb_of hM
      obtain ⟨y7, h_23, hM⟩ := gb_of hM
      obtain ⟨y8, h_24, hM⟩ := gb_of hM
      obtain ⟨y9, h_25, hM⟩ := gb_of hM
      refine X.mid [(2, (V.ptr 0 0 0)), (3, (V.ptr 1 0 0)), (6, (V.map 2)), (7, (oqv 3 l7 a2)), (8, (V.ptr 4 0 0)), (9, (V.i x7)), (10, (V.ptr 5 0 0)), (34, (V.i (u.from_.length : Int))), (35, (V.i x7)), (68, (V.b ((((lookM (hull_done.set x6 x7 (w64 (y4 + 1))) m2).isSome) || (decide (y7 < y6))) || (!y9))))] ?_ ?_
      · intro hg
        refine X.split ((lookM (hull_done.set x6 x7 (w64 (y4 + 1))) m2).isSome) (fun h_26 => ?_) (fun h_26 => ?_)
        · refine X.drawc (by kernel_rfl) rfl ?_
          iterate 2 refine X.cop rfl rfl rfl rfl ?_
          iterate 7 refine X.coff (X.off_f rfl rfl rfl h_26) rfl rfl ?_
          refine X.cop rfl (X.pickor_t (y := decide (y7 < y6)) rfl h_26 rfl) rfl rfl ?_
          refine X.cop rfl rfl rfl rfl ?_
          iterate 7 refine X.coff (X.off_f rfl rfl rfl (X.or_tt h_26)) rfl rfl ?_
          refine X.cop rfl (X.pickor_t (y := !y9) rfl (X.or_tt h_26) rfl) rfl rfl ?_
          refine X.cnil ?_
          exact X.norm _ hg rfl (sr rfl)
        refine X.split ((((lookM (hull_done.set x6 x7 (w64 (y4 + 1))) m2).isSome) || (decide (y7 < y6)))) (fun h_27 => ?_) (fun h_27 => ?_)
        · refine X.drawc (by kernel_rfl) rfl ?_
          iterate 2 refine X.cop rfl rfl rfl rfl ?_
          refine X.cop (X.on_f rfl rfl rfl h_26) rfl rfl rfl ?_
          refine X.cop (X.on_f rfl rfl rfl h_26) (X.indexArr (k := 8) (l := hull_done.toL (hull_done.set x6 x7 (w64 (y4 + 1)))) (h_22 (X.nt h_26)) rfl rfl rfl rfl rfl) rfl rfl ?_
          refine X.cop (X.on_f rfl rfl rfl h_26) (X.loadArr (l := hull_done.toL (hull_done.set x6 x7 (w64 (y4 + 1)))) (pre := []) (post := []) (h_22 (X.nt h_26)) rfl rfl rfl rfl rfl rfl rfl) rfl rfl ?_
          refine X.cop (X.on_f rfl rfl rfl h_26) rfl rfl rfl ?_
          refine X.cop (X.on_f rfl rfl rfl h_26) (X.indexArr (k := 8) (l := hull_done.toL end_) (h_23 (X.nt h_26)) rfl rfl rfl rfl rfl) rfl rfl ?_
          refine X.cop (X.on_f rfl rfl rfl h_26) (X.loadArr (l := hull_done.toL end_) (pre := []) (post := []) (h_23 (X.nt h_26)) rfl rfl rfl rfl rfl rfl rfl) rfl rfl ?_
          refine X.cop (X.on_f rfl rfl rfl h_26) rfl rfl rfl ?_
          refine X.cop rfl (X.pickor_f (y := decide (y7 < y6)) rfl h_26 rfl) rfl rfl ?_
          refine X.cop rfl rfl rfl rfl ?_
          iterate 7 refine X.coff (X.off_f rfl rfl rfl h_27) rfl rfl ?_
          refine X.cop rfl (X.pickor_t (y := !y9) rfl h_27 rfl) rfl rfl ?_
          refine X.cnil ?_
          exact X.norm _ hg rfl (sr rfl)
        refine X.drawc (by kernel_rfl) rfl ?_
        iterate 2 refine X.cop rfl rfl rfl rfl ?_
        refine X.cop (X.on_f rfl rfl rfl h_26) rfl rfl rfl ?_
        refine X.cop (X.on_f rfl rfl rfl h_26) (X.indexArr (k := 8) (l := hull_done.toL (hull_done.set x6 x7 (w64 (y4 + 1)))) (h_22 (X.nt h_26)) rfl rfl rfl rfl rfl) rfl rfl ?_
        refine X.cop (X.on_f rfl rfl rfl h_26) (X.loadArr (l := hull_done.toL (hull_done.set x6 x7 (w64 (y4 + 1)))) (pre := []) (post := []) (h_22 (X.nt h_26)) rfl rfl rfl rfl rfl rfl rfl) rfl rfl ?_
        refine X.cop (X.on_f rfl rfl rfl h_26) rfl rfl rfl ?_
        refine X.cop (X.on_f rfl rfl rfl h_26) (X.indexArr (k := 8) (l := hull_done.toL end_) (h_23 (X.nt h_26)) rfl rfl rfl rfl rfl) rfl rfl ?_
        refine X.cop (X.on_f rfl rfl rfl h_26) (X.loadArr (l := hull_done.toL end_) (pre := []) (post := []) (h_23 (X.nt h_26)) rfl rfl rfl rfl rfl rfl rfl) rfl rfl ?_
        refine X.cop (X.on_f rfl rfl rfl h_26) rfl rfl rfl ?_
        refine X.cop rfl (X.pickor_f (y := decide (y7 < y6)) rfl h_26 rfl) rfl rfl ?_
        refine X.cop rfl rfl rfl rfl ?_
        iterate 4 refine X.cop (X.on_f rfl rfl rfl h_27) rfl rfl rfl ?_
        refine X.ccall (ok_hull_unloading_behind (h_24 (X.nt h_27))) (X.on_f rfl rfl rfl h_27) rfl rfl rfl (.cons (.shut (n := 9) rfl) (.cons (.shut (n := 9) rfl) .nil)) ?_
        refine X.ccall (ok_hull_steady (h_25 (X.nt h_27))) (X.on_f rfl rfl rfl h_27) rfl rfl rfl (.cons (.shut (n := 9) rfl) (.cons (.shut (n := 9) rfl) .nil)) ?_
        refine X.cop (X.on_f rfl rfl rfl h_27) rfl rfl rfl ?_
        refine X.cop rfl (X.pickor_f (y := !y9) rfl h_27 rfl) rfl rfl ?_
        refine X.cnil ?_
        exact X.norm _ hg rfl (sr rfl)
      refine X.cond rfl (fun h_28 => ?_) (fun h_28 => ?_)
      · replace hM := ite_t h_28 hM
        refine GS.exit rfl ?_
        exact X.gc [some 0, some 1, some 2, some 3, some 4] (hj_8 (a2, m2, l7) hM) rfl rfl rfl (ga rfl rfl) (gb9 rfl rfl rfl (gb9 rfl rfl rfl (X.gb_mapK 9 rfl rfl (fun _ => rfl) (fun _ => rfl) (gb_rows 9 rfl rfl (fun _ => rfl) (gb9 rfl rfl rfl gb_nil)))))
      replace hM := ite_f h_28 hM
      refine GS.skip ?_
      refine X.sq ?_
      iterate 3 refine X.q rfl ?_
      refine X.op0W (H' := [.rows 14 [(e_hull_unloading u)], .rows 8 [(e_hull_done end_)], .map (List.map (fun p => e_hull_done p.1) (putM posE m2 (hull_done.set x6 x7 (w64 (y4 + 1))) x7)) (List.map (fun p => V.i p.2) (putM posE m2 (hull_done.set x6 x7 (w64 (y4 + 1))) x7)), .rows 8 (List.map e_hull_done l7), .rows 8 [(e_hull_done x6)], .rows 8 [(e_hull_done (hull_done.set x6 x7 (w64 (y4 + 1))))]]) rfl (X.putW (f := e_hull_done) (g := V.i) (pos := posE) (k := (hull_done.set x6 x7 (w64 (y4 + 1)))) (v := x7) (l := m2) key_hull_done (fun l => by rw [X.insAt_agg, List.length_map]; rfl) rfl rfl rfl rfl rfl rfl rfl) rfl ?_
      refine GS.opsNil ?_
      refine GS.seq ?_
      refine X.sq ?_
      iterate 2 refine X.q rfl ?_
      refine X.opR rfl (X.eqlE (eq_hull_done (hull_done.set x6 x7 (w64 (y4 + 1))) end_) rfl rfl) rfl ?_
      refine GS.opsNil ?_
      refine X.cond rfl (fun h_29 => ?_) (fun h_29 => ?_)
      · replace hM := ite_t h_29 hM
        refine GS.exit rfl ?_
        obtain ⟨y_2, hM, hy⟩ := map_of hM
        rw [hr_2 _ hy.symm] at hM
        obtain ⟨y_1, hM, hy⟩ := map_of hM
        rw [hr_1 _ hy.symm] at hM
        exact X.gc [some 0, some 1, some 2] (hj_1 (putM posE m2 (hull_done.set x6 x7 (w64 (y4 + 1))) x7) hM) rfl rfl rfl (ga rfl rfl) (gb9 rfl rfl rfl (gb9 rfl rfl rfl (X.gb_mapK 9 rfl rfl (fun _ => rfl) (fun _ => rfl) gb_nil)))
      replace hM := ite_f h_29 hM
      refine GS.skip ?_
      obtain ⟨l6, h_30, hM⟩ := bind_of hM
      refine GS.region ?_
      iterate 2 refine X.q rfl ?_
      refine X.opW (H' := [.rows 14 [(e_hull_unloading u)], .rows 8 [(e_hull_done end_)], .map (List.map (fun p => e_hull_done p.1) (putM posE m2 (hull_done.set x6 x7 (w64 (y4 + 1))) x7)) (List.map (fun p => V.i p.2) (putM posE m2 (hull_done.set x6 x7 (w64 (y4 + 1))) x7)), .rows 8 (List.map e_hull_done l7), .rows 8 [(e_hull_done x6)], .rows 8 [(e_hull_done (hull_done.set x6 x7 (w64 (y4 + 1))))], .rows 8 (List.map e_hull_done ([(hull_done.set x6 x7 (w64 (y4 + 1)))]))]) rfl rfl rfl rfl ?_
      refine X.opW (H' := [.rows 14 [(e_hull_unloading u)], .rows 8 [(e_hull_done end_)], .map (List.map (fun p => e_hull_done p.1) (putM posE m2 (hull_done.set x6 x7 (w64 (y4 + 1))) x7)) (List.map (fun p => V.i p.2) (putM posE m2 (hull_done.set x6 x7 (w64 (y4 + 1))) x7)), .dead, .rows 8 [(e_hull_done x6)], .rows 8 [(e_hull_done (hull_done.set x6 x7 (w64 (y4 + 1))))], .rows 8 (List.map e_hull_done ([(hull_done.set x6 x7 (w64 (y4 + 1)))])), .rows 8 (List.map e_hull_done l6)]) rfl (X.appQ (f := e_hull_done) (l := l7) (a := a2) h_30 (fun _ => rfl) rfl rfl rfl rfl rfl rfl rfl rfl rfl rfl) rfl rfl ?_
      refine X.q rfl ?_
      refine GS.opsNil ?_
      refine GS.endB ?_
      exact X.gc [some 0, some 1, some 2, some 7, some 4] (hj_8 (0, (putM posE m2 (hull_done.set x6 x7 (w64 (y4 + 1))) x7), l6) hM) rfl rfl rfl (ga rfl rfl) (gb9 rfl rfl rfl (gb9 rfl rfl rfl (X.gb_mapK 9 rfl rfl (fun _ => rfl) (fun _ => rfl) (gb_rows 9 rfl rfl (fun _ => rfl) (gb9 rfl rfl rfl gb_nil)))))
    replace hM := ite_f h_19 hM
    refine GS.exit rfl ?_
    refine GS.endB ?_
    have hE := Option.some.inj hM
    replace hE := hr_2 _ hE.symm
    exact X.gc [some 0, some 1, some 2, some 3] (hc_6 (a2, m2, l7) hE.symm) rfl rfl rfl (ga rfl rfl) (gb9 rfl rfl rfl (gb9 rfl rfl rfl (X.gb_mapK 9 rfl rfl (fun _ => rfl) (fun _ => rfl) (gb_rows 9 rfl rfl (fun _ => rfl) gb_nil))))
  replace hM := ite_f h_16 hM
  refine GS.exit rfl ?_
  obtain ⟨y_1, hM, hy⟩ := map_of hM
  rw [hr_1 _ hy.symm] at hM
  exact X.gc [some 0, some 1, some 2] (hj_1 m3 hM) rfl rfl rfl (ga rfl rfl) (gb9 rfl rfl rfl (gb9 rfl rfl rfl (X.gb_mapK 9 rfl rfl (fun _ => rfl) (fun _ => rfl) gb_nil)))

set_option maxHeartbeats 4000000 in
theorem ok_hull_Order {s : api_Ship} {from_ : (List Int)} {to : (List Int)} {step : Int} {r : (List api_Drop) × Int} (hM : hull_Order s from_ to step = some r) : Ct Try.prog 52 [(e_api_Ship s), (V.sl (List.map V.i from_)), (V.sl (List.map V.i to)), (V.i step)] (V.tup [(V.sl (List.map e_api_Drop r.1)), (V.i r.2)]) := by
  refine ct_of_gs CC_ok rfl ?_
  unfold hull_Order at hM
  refine X.sq ?_
  refine X.opW rfl rfl rfl rfl ?_
  iterate 2 refine X.q rfl ?_
  refine GS.opsNil ?_
  iterate 2 refine GS.seq ?_
  obtain ⟨y, h_1, hM⟩ := bind_of hM
  refine GS.region ?_
  iterate 3 refine X.q rfl ?_
  refine GS.bldF rfl rfl rfl rfl ?_
  refine X.call (ok_hull_loaded h_1) rfl rfl rfl (.cons (.shut (n := 9) rfl) (.cons (.shut (n := 9) rfl) .nil)) ?_
  refine X.q rfl ?_
  refine X.nq ?_
  iterate 2 refine X.q rfl ?_
  refine GS.opsNil ?_
  refine X.cond rfl (fun h_2 => ?_) (fun h_2 => ?_)
  · replace hM := ite_t h_2 hM
    refine X.sq ?_
    iterate 3 refine X.q rfl ?_
    refine GS.opsNil ?_
    have hE := Option.some.inj hM
    subst hE
    exact GS.ret ⟨_, rfl, ⟨30, rfl⟩⟩
  replace hM := ite_f h_2 hM
  refine GS.skip ?_
  refine GS.seq ?_
  refine X.sq ?_
  refine X.q rfl ?_
  refine X.opR rfl (X.lenF rfl rfl rfl) rfl ?_
  refine X.q rfl ?_
  refine GS.opsNil ?_
  refine X.join (τ := Unit) (fun v => hull_Order_j1 s from_ to step = some r) (fun v => ⟨[(1, (V.sl (List.map V.i from_))), (2, (V.sl (List.map V.i to))), (3, (V.i step)), (4, (V.ptr 0 0 0))], [.rows 11 [(e_api_Ship s)]], 0, none, 94⟩) ?_ ?_
  · intro _ hM
    replace hM : hull_Order_j1 s from_ to step = some r := hM
    unfold hull_Order_j1 at hM
    refine GS.seq ?_
    refine X.sq ?_
    refine X.q rfl ?_
    refine X.call (ok_hull_within step 1 65536) rfl rfl rfl (.cons (.shut (n := 9) rfl) (.cons (.shut (n := 9) rfl) (.cons (.shut (n := 9) rfl) .nil))) ?_
    refine X.q rfl ?_
    refine GS.opsNil ?_
    refine X.cond rfl (fun h_3 => ?_) (fun h_3 => ?_)
    · replace hM := ite_t h_3 hM
      refine X.sq ?_
      iterate 2 refine X.q rfl ?_
      refine GS.opsNil ?_
      have hE := Option.some.inj hM
      subst hE
      exact GS.ret ⟨_, rfl, ⟨30, rfl⟩⟩
    replace hM := ite_f h_3 hM
    refine GS.skip ?_
    refine X.sq ?_
    iterate 5 refine X.q rfl ?_
    refine X.opW rfl rfl rfl rfl ?_
    refine X.op0W rfl rfl rfl ?_
    refine X.nq ?_
    refine X.opW rfl rfl rfl rfl ?_
    refine X.nq ?_
    iterate 2 refine X.q rfl ?_
    refine GS.opsNil ?_
    refine GS.seq ?_
    refine X.sq ?_
    refine X.q rfl ?_
    refine X.opR rfl (X.lenF rfl rfl rfl) rfl ?_
    refine X.q rfl ?_
    refine GS.opsNil ?_
    refine X.join (τ := Int × Int × hull_done) (fun v => hull_Order_j2 s from_ to step v.1 v.2.1 v.2.2 = some r) (fun v => ⟨[(1, (V.sl (List.map V.i from_))), (2, (V.sl (List.map V.i to))), (4, (V.ptr 0 0 0)), (12, (V.ptr 1 0 0)), (13, (V.ptr 2 0 0)), (14, (V.i v.1)), (15, (V.i v.2.1))], [.rows 11 [(e_api_Ship s)], .rows 14 [(V.agg [(V.i s.ID), (V.i s.Light), (V.i s.Lever), (V.i s.Height), (V.sl (List.map e_api_Hold s.Holds)), (V.sl (List.map e_api_Knot s.Mean.Knots)), (V.i s.Mean.Err), (V.sl (List.map e_api_Knot s.Mtac.Knots)), (V.i s.Mtac.Err), (V.i s.Turn), (V.i s.Least), (V.sl (List.map V.i from_)), (V.sl (List.map V.i to)), (V.i step)])], .rows 8 [(e_hull_done v.2.2)]], 0, none, 94⟩) ?_ ?_
    · rintro ⟨states, all, end_⟩ hM
      replace hM : hull_Order_j2 s from_ to step states all end_ = some r := hM
      unfold hull_Order_j2 at hM
      refine GS.seq ?_
      refine GS.block ?_
      refine X.sq ?_
      refine X.mid [(1, (V.sl (List.map V.i from_))), (2, (V.sl (List.map V.i to))), (4, (V.ptr 0 0 0)), (12, (V.ptr 1 0 0)), (13, (V.ptr 2 0 0)), (71, (V.b ((decide (2000 < states)) || (decide (60 < all)))))] ?_ ?_
      · intro hg
        refine X.split (decide (2000 < states)) (fun h_4 => ?_) (fun h_4 => ?_)
        · iterate 3 refine X.q rfl ?_
          iterate 2 refine X.off (X.off_f rfl rfl rfl h_4) rfl ?_
          refine X.opR rfl (X.pickor_t (y := decide (60 < all)) rfl h_4 rfl) rfl ?_
          refine X.q rfl ?_
          refine GS.opsNil ?_
          exact X.norm _ hg rfl (sr rfl)
        iterate 3 refine X.q rfl ?_
        iterate 2 refine X.opR (X.on_f rfl rfl rfl h_4) rfl rfl ?_
        refine X.opR rfl (X.pickor_f (y := decide (60 < all)) rfl h_4 rfl) rfl ?_
        refine X.q rfl ?_
        refine GS.opsNil ?_
        exact X.norm _ hg rfl (sr rfl)
      refine X.cond rfl (fun h_5 => ?_) (fun h_5 => ?_)
      · replace hM := ite_t h_5 hM
        refine X.sq ?_
        iterate 2 refine X.q rfl ?_
        refine GS.opsNil ?_
        have hE := Option.some.inj hM
        subst hE
        exact GS.ret ⟨_, rfl, ⟨30, rfl⟩⟩
      replace hM := ite_f h_5 hM
      refine GS.seq ?_
      obtain ⟨y1, h_6, hM⟩ := bind_of hM
      obtain ⟨y2, h_7, hM⟩ := gb_of hM
      refine GS.region ?_
      refine X.mid [(12, (V.ptr 1 0 0)), (13, (V.ptr 2 0 0)), (78, (V.b ((!y1) || (!y2))))] ?_ ?_
      · intro hg
        refine X.split (!y1) (fun h_8 => ?_) (fun h_8 => ?_)
        · iterate 2 refine X.q rfl ?_
          refine X.call (ok_hull_steady h_6) rfl rfl rfl (.cons (.shut (n := 9) rfl) (.cons (.shut (n := 9) rfl) .nil)) ?_
          iterate 2 refine X.q rfl ?_
          iterate 4 refine X.off (X.off_f rfl rfl rfl h_8) rfl ?_
          refine X.opR rfl (X.pickor_t (y := !y2) rfl h_8 rfl) rfl ?_
          refine X.q rfl ?_
          refine GS.opsNil ?_
          exact X.norm _ hg rfl (sr rfl)
        iterate 2 refine X.q rfl ?_
        refine X.call (ok_hull_steady h_6) rfl rfl rfl (.cons (.shut (n := 9) rfl) (.cons (.shut (n := 9) rfl) .nil)) ?_
        iterate 2 refine X.q rfl ?_
        iterate 2 refine X.opR (X.on_f rfl rfl rfl h_8) rfl rfl ?_
        refine X.call (ok_hull_steady (h_7 (X.nt h_8))) (X.on_f rfl rfl rfl h_8) rfl rfl (.cons (.shut (n := 9) rfl) (.cons (.shut (n := 9) rfl) .nil)) ?_
        refine X.opR (X.on_f rfl rfl rfl h_8) rfl rfl ?_
        refine X.opR rfl (X.pickor_f (y := !y2) rfl h_8 rfl) rfl ?_
        refine X.q rfl ?_
        refine GS.opsNil ?_
        exact X.norm _ hg rfl (sr rfl)
      refine X.cond rfl (fun h_9 => ?_) (fun h_9 => ?_)
      · replace hM := ite_t h_9 hM
        refine X.sq ?_
        iterate 2 refine X.q rfl ?_
        refine GS.opsNil ?_
        have hE := Option.some.inj hM
        subst hE
        exact GS.ret ⟨_, rfl, ⟨30, rfl⟩⟩
      replace hM := ite_f h_9 hM
      refine GS.skip ?_
      refine GS.endB ?_
      refine GS.seq ?_
      obtain ⟨y3, h_10, hM⟩ := bind_of hM
      refine GS.region ?_
      iterate 2 refine X.q rfl ?_
      refine X.call (ok_hull_unloading_search h_10) rfl rfl rfl (.cons (.shut (n := 9) rfl) (.cons (.shut (n := 9) rfl) .nil)) ?_
      iterate 4 refine X.q rfl ?_
      refine GS.opsNil ?_
      have hE := Option.some.inj hM
      subst hE
      exact GS.ret ⟨_, rfl, ⟨30, rfl⟩⟩
    intro hj_2
    refine GS.block ?_
    refine X.gc [some 0, some 1, some 2] (X.loop (σ := (Int × Int × Int × hull_done)) (fun v => ⟨[(1, (V.sl (List.map V.i from_))), (2, (V.sl (List.map V.i to))), (4, (V.ptr 0 0 0)), (12, (V.ptr 1 0 0)), (13, (V.ptr 2 0 0)), (14, (V.i v.1)), (15, (V.i v.2.1)), (49, (V.i (from_.length : Int))), (50, (V.i v.2.2.1))], [.rows 11 [(e_api_Ship s)], .rows 14 [(V.agg [(V.i s.ID), (V.i s.Light), (V.i s.Lever), (V.i s.Height), (V.sl (List.map e_api_Hold s.Holds)), (V.sl (List.map e_api_Knot s.Mean.Knots)), (V.i s.Mean.Err), (V.sl (List.map e_api_Knot s.Mtac.Knots)), (V.i s.Mtac.Err), (V.i s.Turn), (V.i s.Least), (V.sl (List.map V.i from_)), (V.sl (List.map V.i to)), (V.i step)])], .rows 8 [(e_hull_done v.2.2.2)]], 0, none, 94⟩) hM ?_ rfl) rfl rfl rfl (ga rfl rfl) (gb9 rfl rfl rfl (gb9 rfl rfl rfl (gb9 rfl rfl rfl gb_nil)))
    rintro ⟨states1, all1, x, end_1⟩ b_1 hM hc_3 hr_1
    rw [hull_Order_b3] at hM
    refine X.sq ?_
    refine X.q rfl ?_
    refine GS.opsNil ?_
    refine GS.seq ?_
    refine X.cond rfl (fun h_11 => ?_) (fun h_11 => ?_)
    · replace hM := ite_t h_11 hM
      refine GS.skip ?_
      refine GS.seq ?_
      refine GS.block ?_
      refine X.sq ?_
      iterate 2 refine X.q rfl ?_
      refine GS.opsNil ?_
      refine GS.seq ?_
      obtain ⟨y4, h_12, hM⟩ := bind_of hM
      obtain ⟨y5, h_13, hM⟩ := bind_of hM
      refine GS.region ?_
      iterate 3 refine X.q rfl ?_
      refine X.call (ok_hull_unloading_steps h_12) rfl rfl rfl (.cons (.shut (n := 9) rfl) (.cons (.shut (n := 9) rfl) .nil)) ?_
      refine X.opR rfl (X.indexArr (k := 8) (l := hull_done.toL end_1) h_13 rfl rfl rfl rfl rfl) rfl ?_
      refine X.op0W rfl (X.storeArr (l := hull_done.toL end_1) (l' := hull_done.toL (hull_done.set end_1 x y4)) (pre := []) (post := []) h_13 (hull_done.toL_set _ _ _) rfl rfl rfl rfl rfl rfl rfl rfl rfl) rfl ?_
      refine GS.opsNil ?_
      obtain ⟨y6, h_14, hM⟩ := bind_of hM
      obtain ⟨y7, h_15, hM⟩ := bind_of hM
      refine X.drawc (by kernel_rfl) rfl ?_
      iterate 2 refine X.cop rfl rfl rfl rfl ?_
      refine X.cop rfl (X.indexArr (k := 8) (l := hull_done.toL (hull_done.set end_1 x y4)) h_14 rfl rfl rfl rfl rfl) rfl rfl ?_
      refine X.cop rfl (X.loadArr (l := hull_done.toL (hull_done.set end_1 x y4)) (pre := []) (post := []) h_14 rfl rfl rfl rfl rfl rfl rfl) rfl rfl ?_
      refine X.cop rfl (X.addE rfl rfl) rfl rfl ?_
      refine X.cop rfl (X.mulE rfl rfl) rfl rfl ?_
      refine X.cop rfl (X.minE rfl rfl) rfl rfl ?_
      iterate 2 refine X.cop rfl rfl rfl rfl ?_
      refine X.cop rfl (X.indexArr (k := 8) (l := hull_done.toL (hull_done.set end_1 x y4)) h_15 rfl rfl rfl rfl rfl) rfl rfl ?_
      refine X.cop rfl (X.loadArr (l := hull_done.toL (hull_done.set end_1 x y4)) (pre := []) (post := []) h_15 rfl rfl rfl rfl rfl rfl rfl) rfl rfl ?_
      refine X.cop rfl (X.addE rfl rfl) rfl rfl ?_
      iterate 2 refine X.cop rfl rfl rfl rfl ?_
      refine X.cnil ?_
      refine X.norm [(1, (V.sl (List.map V.i from_))), (2, (V.sl (List.map V.i to))), (4, (V.ptr 0 0 0)), (12, (V.ptr 1 0 0)), (13, (V.ptr 2 0 0)), (14, (V.i (min (w64 (states1 * (w64 (y6 + 1)))) 2001))), (15, (V.i (w64 (all1 + y7)))), (49, (V.i (from_.length : Int))), (50, (V.i x))] ?_ rfl (sr rfl)
      refine GS.endB ?_
      refine GS.region ?_
      refine X.opR rfl (X.addE rfl rfl) rfl ?_
      refine X.q rfl ?_
      refine GS.opsNil ?_
      have hE := Option.some.inj hM
      exact X.gc [some 0, some 1, some 2] (hc_3 (min (w64 (states1 * (w64 (y6 + 1)))) 2001, w64 (all1 + y7), w64 (x + 1), (hull_done.set end_1 x y4)) hE.symm) rfl rfl rfl (ga rfl rfl) (gb9 rfl rfl rfl (gb9 rfl rfl rfl (gb9 rfl rfl rfl gb_nil)))
    replace hM := ite_f h_11 hM
    refine GS.exit rfl ?_
    obtain ⟨y_1, hM, hy⟩ := map_of hM
    rw [hr_1 _ hy.symm] at hM
    exact X.gc [some 0, some 1, some 2] (hj_2 (states1, all1, end_1) hM) rfl rfl rfl (ga rfl rfl) (gb9 rfl rfl rfl (gb9 rfl rfl rfl (gb9 rfl rfl rfl gb_nil)))
  intro hj_1
  refine GS.block ?_
  refine X.gc [some 0] (X.loop (σ := Int) (fun v => ⟨[(1, (V.sl (List.map V.i from_))), (2, (V.sl (List.map V.i to))), (3, (V.i step)), (4, (V.ptr 0 0 0)), (26, (V.i (from_.length : Int))), (27, (V.i v))], [.rows 11 [(e_api_Ship s)]], 0, none, 94⟩) hM ?_ rfl) rfl rfl rfl (ga rfl rfl) (gb9 rfl rfl rfl gb_nil)
  intro x3 b_1 hM hc_4 hr_1
  rw [hull_Order_b4] at hM
  refine X.sq ?_
  refine X.q rfl ?_
  refine GS.opsNil ?_
  refine GS.seq ?_
  refine X.cond rfl (fun h_16 => ?_) (fun h_16 => ?_)
  · replace hM := ite_t h_16 hM
    refine GS.skip ?_
    refine GS.seq ?_
    refine GS.block ?_
    refine X.sq ?_
    iterate 2 refine X.q rfl ?_
    refine GS.opsNil ?_
    refine GS.seq ?_
    obtain ⟨x1, h_17, hM⟩ := bind_of hM
    obtain ⟨x2, h_18, hM⟩ := bind_of hM
    refine X.drawc (by kernel_rfl) rfl ?_
    iterate 2 refine X.cop rfl rfl rfl rfl ?_
    refine X.cop rfl (X.indexF (f := V.i) h_17 (fun _ => rfl) rfl rfl rfl rfl) rfl rfl ?_
    refine X.cop rfl (X.loadF h_17 rfl rfl rfl) rfl rfl ?_
    iterate 2 refine X.cop rfl rfl rfl rfl ?_
    refine X.cop rfl (X.indexF (f := V.i) h_18 (fun _ => rfl) rfl rfl rfl rfl) rfl rfl ?_
    refine X.cop rfl (X.loadF h_18 rfl rfl rfl) rfl rfl ?_
    refine X.cop rfl rfl rfl rfl ?_
    refine X.cnil ?_
    refine X.norm [(1, (V.sl (List.map V.i from_))), (2, (V.sl (List.map V.i to))), (3, (V.i step)), (4, (V.ptr 0 0 0)), (26, (V.i (from_.length : Int))), (27, (V.i x3)), (38, (V.b (decide (x2 < x1))))] ?_ rfl (sr rfl)
    refine X.cond rfl (fun h_19 => ?_) (fun h_19 => ?_)
    · replace hM := ite_t h_19 hM
      refine X.sq ?_
      iterate 2 refine X.q rfl ?_
      refine GS.opsNil ?_
      have hE := Option.some.inj hM
      replace hE := hr_1 _ hE.symm
      subst hE
      exact GS.ret ⟨_, rfl, ⟨30, rfl⟩⟩
    replace hM := ite_f h_19 hM
    refine GS.skip ?_
    refine GS.endB ?_
    refine GS.region ?_
    refine X.opR rfl (X.addE rfl rfl) rfl ?_
    refine X.q rfl ?_
    refine GS.opsNil ?_
    have hE := Option.some.inj hM
    exact X.gc [some 0] (hc_4 (w64 (x3 + 1)) hE.symm) rfl rfl rfl (ga rfl rfl) (gb9 rfl rfl rfl gb_nil)
  replace hM := ite_f h_16 hM
  refine GS.exit rfl ?_
  obtain ⟨y_1, hM, hy⟩ := map_of hM
  rw [hr_1 _ hy.symm] at hM
  exact X.gc [some 0] (hj_1 () hM) rfl rfl rfl (ga rfl rfl) (gb9 rfl rfl rfl gb_nil)

set_option maxHeartbeats 4000000 in
theorem ok_hull_Behind {s : api_Ship} {l : api_Load} {out : (List api_Span)} {r : api_Load × Int} (hM : hull_Behind s l out = some r) : Ct Try.prog 18 [(e_api_Ship s), (e_api_Load l), (V.sl (List.map e_api_Span out))] (V.tup [(e_api_Load r.1), (V.i r.2)]) := by
  refine ct_of_gs CC_ok rfl ?_
  unfold hull_Behind at hM
  refine X.sq ?_
  iterate 3 refine X.opW rfl rfl rfl rfl ?_
  refine X.q rfl ?_
  refine GS.opsNil ?_
  iterate 2 refine GS.seq ?_
  obtain ⟨y, h_1, hM⟩ := bind_of hM
  refine GS.region ?_
  iterate 2 refine X.q rfl ?_
  refine X.call (ok_hull_CheckLoad h_1) rfl rfl rfl (.cons (.shut (n := 9) rfl) (.cons (.shut (n := 9) rfl) .nil)) ?_
  refine X.q rfl ?_
  refine X.nq ?_
  iterate 2 refine X.q rfl ?_
  refine GS.opsNil ?_
  refine X.cond rfl (fun h_2 => ?_) (fun h_2 => ?_)
  · replace hM := ite_t h_2 hM
    refine X.sq ?_
    iterate 2 refine X.q rfl ?_
    refine X.op0W rfl rfl rfl ?_
    refine X.q rfl ?_
    refine GS.opsNil ?_
    have hE := Option.some.inj hM
    subst hE
    exact GS.ret ⟨_, rfl, ⟨30, rfl⟩⟩
  replace hM := ite_f h_2 hM
  refine GS.skip ?_
  refine GS.seq ?_
  refine X.sq ?_
  refine X.q rfl ?_
  refine X.opR rfl (X.lenF rfl rfl rfl) rfl ?_
  iterate 2 refine X.q rfl ?_
  refine X.opR rfl (X.lenF rfl rfl rfl) rfl ?_
  refine X.q rfl ?_
  refine GS.opsNil ?_
  refine X.cond rfl (fun h_3 => ?_) (fun h_3 => ?_)
  · replace hM := ite_t h_3 hM
    refine X.sq ?_
    refine X.q rfl ?_
    refine X.op0W rfl rfl rfl ?_
    refine X.q rfl ?_
    refine GS.opsNil ?_
    have hE := Option.some.inj hM
    subst hE
    exact GS.ret ⟨_, rfl, ⟨30, rfl⟩⟩
  replace hM := ite_f h_3 hM
  refine GS.skip ?_
  refine X.sq ?_
  refine X.opW (H' := [.rows 11 [(e_api_Ship s)], .rows 3 [(e_api_Load l)], .rows 3 [(V.agg [V.nil, (V.i 0), (V.i 0)])], .rows 3 [(V.agg [V.nil, (V.i 0), (V.i 0)])]]) rfl rfl rfl rfl ?_
  refine GS.opsNil ?_
  refine GS.seq ?_
  refine X.sq ?_
  refine X.q rfl ?_
  refine X.opR rfl (X.lenF rfl rfl rfl) rfl ?_
  refine X.q rfl ?_
  refine GS.opsNil ?_
  refine X.join (τ := (List api_Span)) (fun v => hull_Behind_j1 s l out v = some r) (fun v => ⟨[(2, (V.sl (List.map e_api_Span out))), (3, (V.ptr 0 0 0)), (4, (V.ptr 1 0 0)), (6, (V.ptr 2 0 0)), (9, (V.ptr 3 0 0))], [.rows 11 [(e_api_Ship s)], .rows 3 [(e_api_Load l)], .rows 3 [(V.agg [V.nil, (V.i 0), (V.i 0)])], .rows 3 [(V.agg [(ovl 4 v), (V.i 0), (V.i 0)])], obl 2 e_api_Span v], 0, none, 120⟩) ?_ ?_
  · intro l1 hM
    replace hM : hull_Behind_j1 s l out l1 = some r := hM
    unfold hull_Behind_j1 at hM
    refine GS.seq ?_
    obtain ⟨y1, h_4, hM⟩ := bind_of hM
    refine GS.region ?_
    refine X.q rfl ?_
    refine X.call (ok_hull_sums h_4) rfl rfl rfl (.cons (.shut (n := 9) rfl) .nil) ?_
    refine X.opW (H' := [.rows 11 [(e_api_Ship s)], .rows 3 [(e_api_Load l)], .rows 3 [(V.agg [V.nil, (V.i 0), (V.i 0)])], .rows 3 [(V.agg [(ovl 4 l1), (V.i 0), (V.i 0)])], obl 2 e_api_Span l1, .rows 2 [(V.agg [(V.i 0), (V.i 0)])]]) rfl rfl rfl rfl ?_
    refine X.op0W (H' := [.rows 11 [(e_api_Ship s)], .rows 3 [(e_api_Load l)], .rows 3 [(V.agg [V.nil, (V.i 0), (V.i 0)])], .rows 3 [(V.agg [(ovl 4 l1), (V.i 0), (V.i 0)])], obl 2 e_api_Span l1, .rows 2 [(e_api_Span y1)]]) rfl rfl rfl ?_
    refine GS.opsNil ?_
    refine GS.seq ?_
    refine X.sq ?_
    iterate 6 refine X.q rfl ?_
    refine GS.opsNil ?_
    refine X.cond rfl (fun h_5 => ?_) (fun h_5 => ?_)
    · replace hM := ite_t h_5 hM
      refine X.sq ?_
      refine X.q rfl ?_
      refine X.op0W (H' := [.rows 11 [(e_api_Ship s)], .rows 3 [(e_api_Load l)], .rows 3 [(V.agg [V.nil, (V.i 0), (V.i 0)])], .rows 3 [(V.agg [(ovl 4 l1), (V.i 0), (V.i 0)])], obl 2 e_api_Span l1, .rows 2 [(e_api_Span y1)]]) rfl rfl rfl ?_
      refine X.q rfl ?_
      refine GS.opsNil ?_
      have hE := Option.some.inj hM
      subst hE
      exact GS.ret ⟨_, rfl, ⟨30, rfl⟩⟩
    replace hM := ite_f h_5 hM
    refine GS.skip ?_
    refine GS.seq ?_
    refine X.draw (by kernel_rfl) ?_
    iterate 5 refine X.dop rfl rfl rfl rfl (by kernel_rfl) rfl rfl ?_
    refine X.dop rfl (X.subE rfl rfl) rfl rfl (by kernel_rfl) rfl rfl ?_
    refine X.dcall (ok_hull_greater_int 0 (w64 (l.All.Lo - y1.Hi))) rfl rfl rfl (by kernel_rfl) rfl (.cons (.shut (n := 9) rfl) (.cons (.shut (n := 9) rfl) .nil)) ?_
    iterate 5 refine X.dop rfl rfl rfl rfl (by kernel_rfl) rfl rfl ?_
    refine X.dop rfl (X.subE rfl rfl) rfl rfl (by kernel_rfl) rfl rfl ?_
    iterate 2 refine X.dop rfl rfl rfl rfl (by kernel_rfl) rfl rfl ?_
    refine X.dop0 rfl rfl rfl rfl (by kernel_rfl) rfl ?_
    refine X.dnil ?_
    refine X.norm [(3, (V.ptr 0 0 0)), (6, (V.ptr 2 0 0)), (9, (V.ptr 3 0 0))] ?_ rfl (sr rfl)
    iterate 2 refine GS.seq ?_
    obtain ⟨y2, h_6, hM⟩ := bind_of hM
    refine GS.region ?_
    iterate 2 refine X.q rfl ?_
    refine X.callF (ok_hull_CheckLoad h_6) rfl rfl rfl (m := 9) rfl (.cons (.shut (n := 9) rfl) (.cons (FR.arg (FR.agg (.cons (FR.ovl (f := e_api_Span) (l := l1) 9 rfl rfl (fun _ => rfl)) (.cons ⟨30, rfl⟩ (.cons ⟨30, rfl⟩ .nil))))) .nil)) ?_
    refine X.q rfl ?_
    refine X.nq ?_
    iterate 2 refine X.q rfl ?_
    refine GS.opsNil ?_
    refine X.cond rfl (fun h_7 => ?_) (fun h_7 => ?_)
    · replace hM := ite_t h_7 hM
      refine X.sq ?_
      iterate 2 refine X.q rfl ?_
      refine X.op0W (H' := [.rows 11 [(e_api_Ship s)], .rows 3 [(e_api_Load l)], .rows 3 [(V.agg [V.nil, (V.i 0), (V.i 0)])], .rows 3 [(V.agg [(ovl 4 l1), (V.i (hull_greater_int 0 (w64 (l.All.Lo - y1.Hi)))), (V.i (w64 (l.All.Hi - y1.Lo)))])], obl 2 e_api_Span l1, .rows 2 [(e_api_Span y1)]]) rfl rfl rfl ?_
      refine X.q rfl ?_
      refine GS.opsNil ?_
      have hE := Option.some.inj hM
      subst hE
      exact GS.ret ⟨_, rfl, ⟨30, rfl⟩⟩
    replace hM := ite_f h_7 hM
    refine GS.skip ?_
    refine X.sq ?_
    refine X.q rfl ?_
    refine X.op0W (H' := [.rows 11 [(e_api_Ship s)], .rows 3 [(e_api_Load l)], .rows 3 [(V.agg [(ovl 4 l1), (V.i (hull_greater_int 0 (w64 (l.All.Lo - y1.Hi)))), (V.i (w64 (l.All.Hi - y1.Lo)))])], .rows 3 [(V.agg [(ovl 4 l1), (V.i (hull_greater_int 0 (w64 (l.All.Lo - y1.Hi)))), (V.i (w64 (l.All.Hi - y1.Lo)))])], obl 2 e_api_Span l1, .rows 2 [(e_api_Span y1)]]) rfl (v := undefV) (wr := [(2, .rows 3 [(V.agg [(ovl 4 l1), (V.i (hull_greater_int 0 (w64 (l.All.Lo - y1.Hi)))), (V.i (w64 (l.All.Hi - y1.Lo)))])])]) (by rcases X.ovl_or (z := true) 4 l1 with h0 | ⟨n0, h0⟩ <;> simp only [h0] <;> rfl) rfl ?_
    refine X.q rfl ?_
    refine GS.opsNil ?_
    have hE := Option.some.inj hM
    subst hE
    exact GS.ret ⟨_, rfl, FR.tup (.cons (FR.agg (.cons (FR.ovl (f := e_api_Span) (l := l1) 9 rfl rfl (fun _ => rfl)) (.cons ⟨30, rfl⟩ (.cons ⟨30, rfl⟩ .nil)))) (.cons ⟨30, rfl⟩ .nil))⟩
  intro hj_1
  refine GS.block ?_
  refine X.gc [some 0, some 1, some 2, some 3, none] (X.loop (σ := (Int × (List api_Span))) (fun v => ⟨[(2, (V.sl (List.map e_api_Span out))), (3, (V.ptr 0 0 0)), (4, (V.ptr 1 0 0)), (6, (V.ptr 2 0 0)), (9, (V.ptr 3 0 0)), (29, (V.sl (List.map e_api_Span out))), (30, (V.i (out.length : Int))), (31, (V.i v.1))], [.rows 11 [(e_api_Ship s)], .rows 3 [(e_api_Load l)], .rows 3 [(V.agg [V.nil, (V.i 0), (V.i 0)])], .rows 3 [(V.agg [(ovl 4 v.2), (V.i 0), (V.i 0)])], obl 2 e_api_Span v.2], 0, none, 120⟩) hM ?_ rfl) rfl rfl rfl (ga rfl rfl) (gb9 rfl rfl rfl (gb9 rfl rfl rfl (gb9 rfl rfl rfl (gb9 rfl rfl rfl (gb_pad' rfl gb_nil)))))
  rintro ⟨x3, l3⟩ b_1 hM hc_2 hr_1
  rw [hull_Behind_b2] at hM
  refine X.sq ?_
  refine X.q rfl ?_
  refine GS.opsNil ?_
  refine GS.seq ?_
  refine X.cond rfl (fun h_8 => ?_) (fun h_8 => ?_)
  · replace hM := ite_t h_8 hM
    refine GS.skip ?_
    refine GS.seq ?_
    refine GS.block ?_
    refine GS.seq ?_
    obtain ⟨x, h_9, hM⟩ := bind_of hM
    refine GS.region ?_
    refine X.q rfl ?_
    refine X.opR rfl (X.indexF (f := e_api_Span) h_9 (fun _ => rfl) rfl rfl rfl rfl) rfl ?_
    refine X.opR rfl (X.loadF h_9 rfl rfl rfl) rfl ?_
    refine X.opW (H' := [.rows 11 [(e_api_Ship s)], .rows 3 [(e_api_Load l)], .rows 3 [(V.agg [V.nil, (V.i 0), (V.i 0)])], .rows 3 [(V.agg [(ovl 4 l3), (V.i 0), (V.i 0)])], obl 2 e_api_Span l3, .rows 2 [(V.agg [(V.i 0), (V.i 0)])]]) rfl rfl rfl rfl ?_
    refine X.q rfl ?_
    refine X.op0W (H' := [.rows 11 [(e_api_Ship s)], .rows 3 [(e_api_Load l)], .rows 3 [(V.agg [V.nil, (V.i 0), (V.i 0)])], .rows 3 [(V.agg [(ovl 4 l3), (V.i 0), (V.i 0)])], obl 2 e_api_Span l3, .rows 2 [(e_api_Span x)]]) rfl rfl rfl ?_
    refine GS.opsNil ?_
    refine GS.seq ?_
    obtain ⟨x1, h_10, hM⟩ := bind_of hM
    refine GS.region ?_
    iterate 3 refine X.q rfl ?_
    refine X.opR rfl (X.indexF (f := e_api_Span) h_10 (fun _ => rfl) rfl rfl rfl rfl) rfl ?_
    refine X.opR rfl (X.loadF h_10 rfl rfl rfl) rfl ?_
    refine X.opW (H' := [.rows 11 [(e_api_Ship s)], .rows 3 [(e_api_Load l)], .rows 3 [(V.agg [V.nil, (V.i 0), (V.i 0)])], .rows 3 [(V.agg [(ovl 4 l3), (V.i 0), (V.i 0)])], obl 2 e_api_Span l3, .rows 2 [(e_api_Span x)], .rows 2 [(V.agg [(V.i 0), (V.i 0)])]]) rfl rfl rfl rfl ?_
    refine X.op0W (H' := [.rows 11 [(e_api_Ship s)], .rows 3 [(e_api_Load l)], .rows 3 [(V.agg [V.nil, (V.i 0), (V.i 0)])], .rows 3 [(V.agg [(ovl 4 l3), (V.i 0), (V.i 0)])], obl 2 e_api_Span l3, .rows 2 [(e_api_Span x)], .rows 2 [(e_api_Span x1)]]) rfl rfl rfl ?_
    refine GS.opsNil ?_
    iterate 2 refine GS.seq ?_
    obtain ⟨x2, h_11, hM⟩ := gb_of hM
    refine X.mid [(2, (V.sl (List.map e_api_Span out))), (3, (V.ptr 0 0 0)), (4, (V.ptr 1 0 0)), (6, (V.ptr 2 0 0)), (9, (V.ptr 3 0 0)), (11, (V.ptr 5 0 0)), (12, (V.ptr 6 0 0)), (29, (V.sl (List.map e_api_Span out))), (30, (V.i (out.length : Int))), (31, (V.i x3)), (68, (V.b ((((decide (x.Lo < 0)) || (decide (x.Hi < x.Lo))) || (decide (x2.Room < x.Hi))) || (decide (x1.Hi < x.Lo)))))] ?_ ?_
    · intro hg
      refine X.split (decide (x.Lo < 0)) (fun h_12 => ?_) (fun h_12 => ?_)
      · refine X.drawc (by kernel_rfl) rfl ?_
        iterate 4 refine X.cop rfl rfl rfl rfl ?_
        iterate 5 refine X.coff (X.off_f rfl rfl rfl h_12) rfl rfl ?_
        refine X.cop rfl (X.pickor_t (y := decide (x.Hi < x.Lo)) rfl h_12 rfl) rfl rfl ?_
        refine X.cop rfl rfl rfl rfl ?_
        iterate 9 refine X.coff (X.off_f rfl rfl rfl (X.or_tt h_12)) rfl rfl ?_
        refine X.cop rfl (X.pickor_t (y := decide (x2.Room < x.Hi)) rfl (X.or_tt h_12) rfl) rfl rfl ?_
        refine X.cop rfl rfl rfl rfl ?_
        iterate 5 refine X.coff (X.off_f rfl rfl rfl (X.or_tt (X.or_tt h_12))) rfl rfl ?_
        refine X.cop rfl (X.pickor_t (y := decide (x1.Hi < x.Lo)) rfl (X.or_tt (X.or_tt h_12)) rfl) rfl rfl ?_
        refine X.cnil ?_
        exact X.norm _ hg rfl (sr rfl)
      refine X.split (((decide (x.Lo < 0)) || (decide (x.Hi < x.Lo)))) (fun h_13 => ?_) (fun h_13 => ?_)
      · refine X.drawc (by kernel_rfl) rfl ?_
        iterate 4 refine X.cop rfl rfl rfl rfl ?_
        iterate 5 refine X.cop (X.on_f rfl rfl rfl h_12) rfl rfl rfl ?_
        refine X.cop rfl (X.pickor_f (y := decide (x.Hi < x.Lo)) rfl h_12 rfl) rfl rfl ?_
        refine X.cop rfl rfl rfl rfl ?_
        iterate 9 refine X.coff (X.off_f rfl rfl rfl h_13) rfl rfl ?_
        refine X.cop rfl (X.pickor_t (y := decide (x2.Room < x.Hi)) rfl h_13 rfl) rfl rfl ?_
        refine X.cop rfl rfl rfl rfl ?_
        iterate 5 refine X.coff (X.off_f rfl rfl rfl (X.or_tt h_13)) rfl rfl ?_
        refine X.cop rfl (X.pickor_t (y := decide (x1.Hi < x.Lo)) rfl (X.or_tt h_13) rfl) rfl rfl ?_
        refine X.cnil ?_
        exact X.norm _ hg rfl (sr rfl)
      refine X.split ((((decide (x.Lo < 0)) || (decide (x.Hi < x.Lo))) || (decide (x2.Room < x.Hi)))) (fun h_14 => ?_) (fun h_14 => ?_)
      · refine X.drawc (by kernel_rfl) rfl ?_
        iterate 4 refine X.cop rfl rfl rfl rfl ?_
        iterate 5 refine X.cop (X.on_f rfl rfl rfl h_12) rfl rfl rfl ?_
        refine X.cop rfl (X.pickor_f (y := decide (x.Hi < x.Lo)) rfl h_12 rfl) rfl rfl ?_
        refine X.cop rfl rfl rfl rfl ?_
        iterate 5 refine X.cop (X.on_f rfl rfl rfl h_13) rfl rfl rfl ?_
        refine X.cop (X.on_f rfl rfl rfl h_13) (X.indexF (f := e_api_Hold) (h_11 (X.nt h_13)) (fun _ => rfl) rfl rfl rfl rfl) rfl rfl ?_
        refine X.cop (X.on_f rfl rfl rfl h_13) rfl rfl rfl ?_
        refine X.cop (X.on_f rfl rfl rfl h_13) (X.loadF (h_11 (X.nt h_13)) rfl rfl rfl) rfl rfl ?_
        refine X.cop (X.on_f rfl rfl rfl h_13) rfl rfl rfl ?_
        refine X.cop rfl (X.pickor_f (y := decide (x2.Room < x.Hi)) rfl h_13 rfl) rfl rfl ?_
        refine X.cop rfl rfl rfl rfl ?_
        iterate 5 refine X.coff (X.off_f rfl rfl rfl h_14) rfl rfl ?_
        refine X.cop rfl (X.pickor_t (y := decide (x1.Hi < x.Lo)) rfl h_14 rfl) rfl rfl ?_
        refine X.cnil ?_
        exact X.norm _ hg rfl (sr rfl)
      refine X.drawc (by kernel_rfl) rfl ?_
      iterate 4 refine X.cop rfl rfl rfl rfl ?_
      iterate 5 refine X.cop (X.on_f rfl rfl rfl h_12) rfl rfl rfl ?_
      refine X.cop rfl (X.pickor_f (y := decide (x.Hi < x.Lo)) rfl h_12 rfl) rfl rfl ?_
      refine X.cop rfl rfl rfl rfl ?_
      iterate 5 refine X.cop (X.on_f rfl rfl rfl h_13) rfl rfl rfl ?_
      refine X.cop (X.on_f rfl rfl rfl h_13) (X.indexF (f := e_api_Hold) (h_11 (X.nt h_13)) (fun _ => rfl) rfl rfl rfl rfl) rfl rfl ?_
      refine X.cop (X.on_f rfl rfl rfl h_13) rfl rfl rfl ?_
      refine X.cop (X.on_f rfl rfl rfl h_13) (X.loadF (h_11 (X.nt h_13)) rfl rfl rfl) rfl rfl ?_
      refine X.cop (X.on_f rfl rfl rfl h_13) rfl rfl rfl ?_
      refine X.cop rfl (X.pickor_f (y := decide (x2.Room < x.Hi)) rfl h_13 rfl) rfl rfl ?_
      refine X.cop rfl rfl rfl rfl ?_
      iterate 5 refine X.cop (X.on_f rfl rfl rfl h_14) rfl rfl rfl ?_
      refine X.cop rfl (X.pickor_f (y := decide (x1.Hi < x.Lo)) rfl h_14 rfl) rfl rfl ?_
      refine X.cnil ?_
      exact X.norm _ hg rfl (sr rfl)
    refine X.cond rfl (fun h_15 => ?_) (fun h_15 => ?_)
    · replace hM := ite_t h_15 hM
      refine X.sq ?_
      refine X.q rfl ?_
      refine X.op0W (H' := [.rows 11 [(e_api_Ship s)], .rows 3 [(e_api_Load l)], .rows 3 [(V.agg [V.nil, (V.i 0), (V.i 0)])], .rows 3 [(V.agg [(ovl 4 l3), (V.i 0), (V.i 0)])], obl 2 e_api_Span l3, .rows 2 [(e_api_Span x)], .rows 2 [(e_api_Span x1)]]) rfl rfl rfl ?_
      refine X.q rfl ?_
      refine GS.opsNil ?_
      have hE := Option.some.inj hM
      replace hE := hr_1 _ hE.symm
      subst hE
      exact GS.ret ⟨_, rfl, ⟨30, rfl⟩⟩
    replace hM := ite_f h_15 hM
    refine GS.skip ?_
    obtain ⟨l2, h_16, hM⟩ := bind_of hM
    refine X.draw (by kernel_rfl) ?_
    iterate 6 refine X.dop rfl rfl rfl rfl (by kernel_rfl) rfl rfl ?_
    refine X.dop rfl (X.subE rfl rfl) rfl rfl (by kernel_rfl) rfl rfl ?_
    refine X.dcall (ok_hull_greater_int 0 (w64 (x1.Lo - x.Hi))) rfl rfl rfl (by kernel_rfl) rfl (.cons (.shut (n := 9) rfl) (.cons (.shut (n := 9) rfl) .nil)) ?_
    iterate 4 refine X.dop rfl rfl rfl rfl (by kernel_rfl) rfl rfl ?_
    refine X.dop rfl (X.subE rfl rfl) rfl rfl (by kernel_rfl) rfl rfl ?_
    iterate 2 refine X.dop rfl rfl rfl rfl (by kernel_rfl) rfl rfl ?_
    refine X.dappN (f := e_api_Span) h_16 (fun _ => rfl) (by rfl) (by rfl) (by rfl) (by rfl) (by rfl) (by rfl) (by rfl) (by rfl) (by rfl) (by rfl) (by rfl) (by exact rfl) (by rfl) (by rfl) (by kernel_rfl) (by rfl) (by rfl) ?_
    refine X.dop rfl rfl rfl rfl (by kernel_rfl) rfl rfl ?_
    refine X.dop0 rfl rfl rfl rfl (by kernel_rfl) rfl ?_
    refine X.dnil ?_
    refine X.norm [(2, (V.sl (List.map e_api_Span out))), (3, (V.ptr 0 0 0)), (4, (V.ptr 1 0 0)), (6, (V.ptr 2 0 0)), (9, (V.ptr 3 0 0)), (29, (V.sl (List.map e_api_Span out))), (30, (V.i (out.length : Int))), (31, (V.i x3))] ?_ rfl (sr rfl)
    refine GS.endB ?_
    refine GS.region ?_
    refine X.opR rfl (X.addE rfl rfl) rfl ?_
    refine X.q rfl ?_
    refine GS.opsNil ?_
    have hE := Option.some.inj hM
    exact X.gc [some 0, some 1, some 2, some 3, some 8] (hc_2 (w64 (x3 + 1), l2) hE.symm) rfl rfl rfl (ga rfl rfl) (gb9 rfl rfl rfl (gb9 rfl rfl rfl (gb9 rfl rfl rfl (gb_box rfl rfl (rn_agg (.cons (rv_ne (app_ne h_16) rfl) (.cons ⟨9, rfl⟩ (.cons ⟨9, rfl⟩ .nil)))) (gb_obl' 9 (app_ne h_16) rfl rfl (fun _ => rfl) gb_nil)))))
  replace hM := ite_f h_8 hM
  refine GS.exit rfl ?_
  obtain ⟨y_1, hM, hy⟩ := map_of hM
  rw [hr_1 _ hy.symm] at hM
  exact X.gc [some 0, some 1, some 2, some 3, some 4] (hj_1 l3 hM) rfl rfl rfl (ga rfl rfl) (gb9 rfl rfl rfl (gb9 rfl rfl rfl (gb9 rfl rfl rfl (gb_box rfl rfl (rn_agg (.cons (rn_ovl rfl) (.cons ⟨9, rfl⟩ (.cons ⟨9, rfl⟩ .nil)))) (gb_obl 9 rfl rfl (fun _ => rfl) gb_nil)))))

theorem eq_api_Frac (a b : api_Frac) : eqA CC.ty 121 (e_api_Frac a) (e_api_Frac b) = some (decide (a = b)) := by
  refine (X.eqa rfl rfl (X.eqp rfl rfl rfl (X.eqp rfl rfl rfl X.eqn'))).trans ?_
  congr 1
  rw [Bool.eq_iff_iff]
  simp only [Bool.and_eq_true, decide_eq_true_eq, beq_iff_eq, and_true]
  constructor
  · intro h
    obtain ⟨a1, a2⟩ := a
    obtain ⟨b3, b4⟩ := b
    simp at h
    simp [h]
  · rintro rfl
    simp

theorem eq_api_Draughts (a b : api_Draughts) : eqA CC.ty 101 (e_api_Draughts a) (e_api_Draughts b) = some (decide (a = b)) := by
  refine (X.eqa rfl rfl (X.eqp rfl rfl (X.eqs rfl rfl (X.eqp rfl rfl rfl (X.eqp rfl rfl rfl X.eqn'))) (X.eqp rfl rfl (X.eqs rfl rfl (X.eqp rfl rfl rfl (X.eqp rfl rfl rfl X.eqn'))) X.eqn'))).trans ?_
  congr 1
  rw [Bool.eq_iff_iff]
  simp only [Bool.and_eq_true, decide_eq_true_eq, beq_iff_eq, and_true]
  constructor
  · intro h
    obtain ⟨⟨a1, a2⟩, ⟨a3, a4⟩⟩ := a
    obtain ⟨⟨b5, b6⟩, ⟨b7, b8⟩⟩ := b
    simp at h
    simp [h]
  · rintro rfl
    simp

theorem eq_api_Span (a b : api_Span) : eqA CC.ty 30 (e_api_Span a) (e_api_Span b) = some (decide (a = b)) := by
  refine (X.eqa rfl rfl (X.eqp rfl rfl rfl (X.eqp rfl rfl rfl X.eqn'))).trans ?_
  congr 1
  rw [Bool.eq_iff_iff]
  simp only [Bool.and_eq_true, decide_eq_true_eq, beq_iff_eq, and_true]
  constructor
  · intro h
    obtain ⟨a1, a2⟩ := a
    obtain ⟨b3, b4⟩ := b
    simp at h
    simp [h]
  · rintro rfl
    simp

theorem ok_ref03_SameLoads {a : api_Load} {b : api_Load} {r : Bool} (hM : ref03_SameLoads a b = some r) : Ct Try.prog 20 [(e_api_Load a), (e_api_Load b)] (V.b r) := by
  refine ct_of_gs CC_ok rfl ?_
  unfold ref03_SameLoads at hM
  refine X.sq ?_
  iterate 2 refine X.opW rfl rfl rfl rfl ?_
  refine X.q rfl ?_
  refine GS.opsNil ?_
  refine GS.seq ?_
  refine X.sq ?_
  refine X.mid [(2, (V.ptr 0 0 0)), (3, (V.ptr 1 0 0)), (19, (V.b ((!decide (a.All = b.All)) || (!decide ((a.Holds.length : Int) = (b.Holds.length : Int))))))] ?_ ?_
  · intro hg
    refine X.split (!decide (a.All = b.All)) (fun h_1 => ?_) (fun h_1 => ?_)
    · iterate 4 refine X.q rfl ?_
      refine X.opR rfl (X.neqE (eq_api_Span a.All b.All) rfl rfl) rfl ?_
      refine X.q rfl ?_
      iterate 7 refine X.off (X.off_f rfl rfl rfl h_1) rfl ?_
      refine X.opR rfl (X.pickor_t (y := !decide ((a.Holds.length : Int) = (b.Holds.length : Int))) rfl h_1 rfl) rfl ?_
      refine GS.opsNil ?_
      exact X.norm _ hg rfl (sr rfl)
    iterate 4 refine X.q rfl ?_
    refine X.opR rfl (X.neqE (eq_api_Span a.All b.All) rfl rfl) rfl ?_
    refine X.q rfl ?_
    iterate 2 refine X.opR (X.on_f rfl rfl rfl h_1) rfl rfl ?_
    refine X.opR (X.on_f rfl rfl rfl h_1) (X.lenF rfl rfl rfl) rfl ?_
    iterate 2 refine X.opR (X.on_f rfl rfl rfl h_1) rfl rfl ?_
    refine X.opR (X.on_f rfl rfl rfl h_1) (X.lenF rfl rfl rfl) rfl ?_
    refine X.opR (X.on_f rfl rfl rfl h_1) rfl rfl ?_
    refine X.opR rfl (X.pickor_f (y := !decide ((a.Holds.length : Int) = (b.Holds.length : Int))) rfl h_1 rfl) rfl ?_
    refine GS.opsNil ?_
    exact X.norm _ hg rfl (sr rfl)
  refine X.cond rfl (fun h_2 => ?_) (fun h_2 => ?_)
  · replace hM := ite_t h_2 hM
    refine X.sq ?_
    refine X.q rfl ?_
    refine GS.opsNil ?_
    have hE := Option.some.inj hM
    subst hE
    exact GS.ret ⟨_, rfl, ⟨30, rfl⟩⟩
  replace hM := ite_f h_2 hM
  refine GS.skip ?_
  refine GS.seq ?_
  refine X.sq ?_
  refine X.q rfl ?_
  refine GS.opsNil ?_
  refine X.join (τ := Unit) (fun v => ref03_SameLoads_j1 = some r) (fun v => ⟨[], [], 0, none, 38⟩) ?_ ?_
  · intro _ hM
    replace hM : ref03_SameLoads_j1 = some r := hM
    unfold ref03_SameLoads_j1 at hM
    refine X.sq ?_
    refine X.q rfl ?_
    refine GS.opsNil ?_
    have hE := Option.some.inj hM
    subst hE
    exact GS.ret ⟨_, rfl, ⟨30, rfl⟩⟩
  intro hj_1
  refine GS.block ?_
  refine X.gc [some 0, some 1] (X.loop (σ := Int) (fun v => ⟨[(2, (V.ptr 0 0 0)), (3, (V.ptr 1 0 0)), (5, (V.i v))], [.rows 3 [(e_api_Load a)], .rows 3 [(e_api_Load b)]], 0, none, 38⟩) hM ?_ rfl) rfl rfl rfl (ga rfl rfl) (gb9 rfl rfl rfl (gb9 rfl rfl rfl gb_nil))
  intro i b_1 hM hc_2 hr_1
  rw [ref03_SameLoads_b2] at hM
  refine GS.seq ?_
  refine X.sq ?_
  iterate 3 refine X.q rfl ?_
  refine X.opR rfl (X.lenF rfl rfl rfl) rfl ?_
  refine X.q rfl ?_
  refine GS.opsNil ?_
  refine X.cond rfl (fun h_3 => ?_) (fun h_3 => ?_)
  · replace hM := ite_t h_3 hM
    refine GS.skip ?_
    refine GS.seq ?_
    refine GS.block ?_
    refine GS.seq ?_
    obtain ⟨x, h_4, hM⟩ := bind_of hM
    obtain ⟨x1, h_5, hM⟩ := bind_of hM
    refine X.drawc (by kernel_rfl) rfl ?_
    iterate 3 refine X.cop rfl rfl rfl rfl ?_
    refine X.cop rfl (X.indexF (f := e_api_Span) h_4 (fun _ => rfl) rfl rfl rfl rfl) rfl rfl ?_
    refine X.cop rfl (X.loadF h_4 rfl rfl rfl) rfl rfl ?_
    iterate 3 refine X.cop rfl rfl rfl rfl ?_
    refine X.cop rfl (X.indexF (f := e_api_Span) h_5 (fun _ => rfl) rfl rfl rfl rfl) rfl rfl ?_
    refine X.cop rfl (X.loadF h_5 rfl rfl rfl) rfl rfl ?_
    refine X.cop rfl (X.neqE (eq_api_Span x x1) rfl rfl) rfl rfl ?_
    refine X.cnil ?_
    refine X.norm [(2, (V.ptr 0 0 0)), (3, (V.ptr 1 0 0)), (5, (V.i i)), (37, (V.b (!decide (x = x1))))] ?_ rfl (sr rfl)
    refine X.cond rfl (fun h_6 => ?_) (fun h_6 => ?_)
    · replace hM := ite_t h_6 hM
      refine X.sq ?_
      refine X.q rfl ?_
      refine GS.opsNil ?_
      have hE := Option.some.inj hM
      replace hE := hr_1 _ hE.symm
      subst hE
      exact GS.ret ⟨_, rfl, ⟨30, rfl⟩⟩
    replace hM := ite_f h_6 hM
    refine GS.skip ?_
    refine GS.endB ?_
    refine GS.region ?_
    refine X.q rfl ?_
    refine X.opR rfl (X.addE rfl rfl) rfl ?_
    refine X.q rfl ?_
    refine GS.opsNil ?_
    have hE := Option.some.inj hM
    exact X.gc [some 0, some 1] (hc_2 (w64 (i + 1)) hE.symm) rfl rfl rfl (ga rfl rfl) (gb9 rfl rfl rfl (gb9 rfl rfl rfl gb_nil))
  replace hM := ite_f h_3 hM
  refine GS.exit rfl ?_
  obtain ⟨y_1, hM, hy⟩ := map_of hM
  rw [hr_1 _ hy.symm] at hM
  exact X.gc [] (hj_1 () hM) rfl rfl rfl (gk_nil) (gb_nil)

theorem ok_ref03_SameInts {a : (List Int)} {b : (List Int)} {r : Bool} (hM : ref03_SameInts a b = some r) : Ct Try.prog 57 [(V.sl (List.map V.i a)), (V.sl (List.map V.i b))] (V.b r) := by
  refine ct_of_gs CC_ok rfl ?_
  unfold ref03_SameInts at hM
  refine X.sq ?_
  refine X.q rfl ?_
  refine GS.opsNil ?_
  refine GS.seq ?_
  refine X.sq ?_
  refine X.q rfl ?_
  refine X.opR rfl (X.lenF rfl rfl rfl) rfl ?_
  refine X.q rfl ?_
  refine X.opR rfl (X.lenF rfl rfl rfl) rfl ?_
  refine X.q rfl ?_
  refine GS.opsNil ?_
  refine X.cond rfl (fun h_1 => ?_) (fun h_1 => ?_)
  · replace hM := ite_t h_1 hM
    refine X.sq ?_
    refine X.q rfl ?_
    refine GS.opsNil ?_
    have hE := Option.some.inj hM
    subst hE
    exact GS.ret ⟨_, rfl, ⟨30, rfl⟩⟩
  replace hM := ite_f h_1 hM
  refine GS.skip ?_
  refine GS.seq ?_
  refine X.sq ?_
  refine X.q rfl ?_
  refine GS.opsNil ?_
  refine X.join (τ := Unit) (fun v => ref03_SameInts_j1 = some r) (fun v => ⟨[], [], 0, none, 26⟩) ?_ ?_
  · intro _ hM
    replace hM : ref03_SameInts_j1 = some r := hM
    unfold ref03_SameInts_j1 at hM
    refine X.sq ?_
    refine X.q rfl ?_
    refine GS.opsNil ?_
    have hE := Option.some.inj hM
    subst hE
    exact GS.ret ⟨_, rfl, ⟨30, rfl⟩⟩
  intro hj_1
  refine GS.block ?_
  refine X.gc [] (X.loop (σ := Int) (fun v => ⟨[(0, (V.sl (List.map V.i a))), (1, (V.sl (List.map V.i b))), (5, (V.i v))], [], 0, none, 26⟩) hM ?_ rfl) rfl rfl rfl (ga rfl rfl) (gb_nil)
  intro i b_1 hM hc_2 hr_1
  rw [ref03_SameInts_b2] at hM
  refine GS.seq ?_
  refine X.sq ?_
  iterate 2 refine X.q rfl ?_
  refine X.opR rfl (X.lenF rfl rfl rfl) rfl ?_
  refine X.q rfl ?_
  refine GS.opsNil ?_
  refine X.cond rfl (fun h_2 => ?_) (fun h_2 => ?_)
  · replace hM := ite_t h_2 hM
    refine GS.skip ?_
    refine GS.seq ?_
    refine GS.block ?_
    refine GS.seq ?_
    obtain ⟨x, h_3, hM⟩ := bind_of hM
    obtain ⟨x1, h_4, hM⟩ := bind_of hM
    refine X.drawc (by kernel_rfl) rfl ?_
    iterate 2 refine X.cop rfl rfl rfl rfl ?_
    refine X.cop rfl (X.indexF (f := V.i) h_3 (fun _ => rfl) rfl rfl rfl rfl) rfl rfl ?_
    refine X.cop rfl (X.loadF h_3 rfl rfl rfl) rfl rfl ?_
    iterate 2 refine X.cop rfl rfl rfl rfl ?_
    refine X.cop rfl (X.indexF (f := V.i) h_4 (fun _ => rfl) rfl rfl rfl rfl) rfl rfl ?_
    refine X.cop rfl (X.loadF h_4 rfl rfl rfl) rfl rfl ?_
    refine X.cop rfl rfl rfl rfl ?_
    refine X.cnil ?_
    refine X.norm [(0, (V.sl (List.map V.i a))), (1, (V.sl (List.map V.i b))), (5, (V.i i)), (25, (V.b (!decide (x = x1))))] ?_ rfl (sr rfl)
    refine X.cond rfl (fun h_5 => ?_) (fun h_5 => ?_)
    · replace hM := ite_t h_5 hM
      refine X.sq ?_
      refine X.q rfl ?_
      refine GS.opsNil ?_
      have hE := Option.some.inj hM
      replace hE := hr_1 _ hE.symm
      subst hE
      exact GS.ret ⟨_, rfl, ⟨30, rfl⟩⟩
    replace hM := ite_f h_5 hM
    refine GS.skip ?_
    refine GS.endB ?_
    refine GS.region ?_
    refine X.q rfl ?_
    refine X.opR rfl (X.addE rfl rfl) rfl ?_
    refine X.q rfl ?_
    refine GS.opsNil ?_
    have hE := Option.some.inj hM
    exact X.gc [] (hc_2 (w64 (i + 1)) hE.symm) rfl rfl rfl (ga rfl rfl) (gb_nil)
  replace hM := ite_f h_2 hM
  refine GS.exit rfl ?_
  obtain ⟨y_1, hM, hy⟩ := map_of hM
  rw [hr_1 _ hy.symm] at hM
  exact X.gc [] (hj_1 () hM) rfl rfl rfl (gk_nil) (gb_nil)

set_option maxHeartbeats 4000000 in
theorem ok_law03_sanity {r : Bool} (hM : law03_sanity = some r) : Ct Try.prog 17 [] (V.b r) := by
  refine ct_of_gs CC_ok rfl ?_
  unfold law03_sanity at hM
  refine X.sq ?_
  refine X.q rfl ?_
  refine X.nq ?_
  refine X.call ok_law03_Ship rfl rfl rfl .nil ?_
  refine X.opW rfl rfl rfl rfl ?_
  refine X.op0W rfl rfl rfl ?_
  refine X.nq ?_
  refine X.opW rfl rfl rfl rfl ?_
  refine X.q rfl ?_
  refine GS.opsNil ?_
  refine GS.seq ?_
  replace hM := bind_of hM
  obtain ⟨y, h_1, hM⟩ := hM
  refine GS.region ?_
  iterate 2 refine X.q rfl ?_
  refine X.callF (ok_hull_Moment h_1) rfl rfl rfl (m := 9) rfl (.cons (.shut (n := 9) rfl) (.cons (FR.arg ⟨30, rfl⟩) .nil)) ?_
  iterate 5 refine X.q rfl ?_
  refine GS.opsNil ?_
  refine GS.seq ?_
  replace hM := bind_of hM
  obtain ⟨y1, h_2, hM⟩ := hM
  refine GS.region ?_
  iterate 2 refine X.q rfl ?_
  refine X.callF (ok_hull_Gravity h_2) rfl rfl rfl (m := 9) rfl (.cons (.shut (n := 9) rfl) (.cons (FR.arg ⟨30, rfl⟩) .nil)) ?_
  iterate 3 refine X.q rfl ?_
  refine X.opW rfl rfl rfl rfl ?_
  refine X.op0W rfl rfl rfl ?_
  refine X.q rfl ?_
  refine GS.opsNil ?_
  refine GS.seq ?_
  replace hM := bind_of hM
  obtain ⟨y2, h_3, hM⟩ := hM
  refine GS.region ?_
  iterate 2 refine X.q rfl ?_
  refine X.callF (ok_hull_Stiff h_3) rfl rfl rfl (m := 9) rfl (.cons (.shut (n := 9) rfl) (.cons (FR.arg ⟨30, rfl⟩) .nil)) ?_
  iterate 3 refine X.q rfl ?_
  refine X.opW (H' := [.rows 11 [(e_api_Ship (law03_Ship))], .rows 1 (List.map V.i ([100, 200])), .rows 2 [(e_api_Frac y1.1)], .rows 2 [(V.agg [(V.i 0), (V.i 0)])]]) rfl rfl rfl rfl ?_
  refine X.op0W (H' := [.rows 11 [(e_api_Ship (law03_Ship))], .rows 1 (List.map V.i ([100, 200])), .rows 2 [(e_api_Frac y1.1)], .rows 2 [(e_api_Frac y2.1)]]) rfl rfl rfl ?_
  refine X.q rfl ?_
  refine GS.opsNil ?_
  refine GS.seq ?_
  replace hM := bind_of hM
  obtain ⟨y3, h_4, hM⟩ := hM
  refine GS.region ?_
  iterate 2 refine X.q rfl ?_
  refine X.callF (ok_hull_Afloat h_4) rfl rfl rfl (m := 9) rfl (.cons (.shut (n := 9) rfl) (.cons (FR.arg ⟨30, rfl⟩) .nil)) ?_
  iterate 3 refine X.q rfl ?_
  refine X.opW (H' := [.rows 11 [(e_api_Ship (law03_Ship))], .rows 1 (List.map V.i ([100, 200])), .rows 2 [(e_api_Frac y1.1)], .rows 2 [(e_api_Frac y2.1)], .rows 4 [(V.agg [(V.i 0), (V.i 0), (V.i 0), (V.i 0)])]]) rfl rfl rfl rfl ?_
  refine X.op0W (H' := [.rows 11 [(e_api_Ship (law03_Ship))], .rows 1 (List.map V.i ([100, 200])), .rows 2 [(e_api_Frac y1.1)], .rows 2 [(e_api_Frac y2.1)], .rows 4 [(e_api_Draughts y3.1)]]) rfl rfl rfl ?_
  refine X.q rfl ?_
  refine GS.opsNil ?_
  refine GS.seq ?_
  replace hM := bind_of hM
  obtain ⟨y4, h_5, hM⟩ := hM
  refine X.draw (by kernel_rfl) ?_
  refine X.dop rfl rfl rfl rfl (by kernel_rfl) rfl rfl ?_
  refine X.dcall (ok_law03_of 0 400 100 200 300 350) rfl rfl rfl (by kernel_rfl) rfl (.cons (.shut (n := 9) rfl) (.cons (.shut (n := 9) rfl) (.cons (.shut (n := 9) rfl) (.cons (.shut (n := 9) rfl) (.cons (.shut (n := 9) rfl) (.cons (.shut (n := 9) rfl) .nil)))))) ?_
  refine X.dbld rfl rfl rfl rfl rfl (by kernel_rfl) rfl ?_
  refine X.dcall (ok_hull_Most h_5) rfl rfl rfl (by kernel_rfl) rfl (.cons (.shut (n := 9) rfl) (.cons (.shut (n := 9) rfl) (.cons (.shut (n := 9) rfl) .nil))) ?_
  iterate 4 refine X.dop rfl rfl rfl rfl (by kernel_rfl) rfl rfl ?_
  refine X.dop0 rfl rfl rfl rfl (by kernel_rfl) rfl ?_
  refine X.dop rfl rfl rfl rfl (by kernel_rfl) rfl rfl ?_
  refine X.dnil ?_
  refine X.norm [(1, (V.ptr 0 0 0)), (3, (V.i y.1)), (4, (V.i y.2)), (5, (V.ptr 2 0 0)), (6, (V.i y1.2)), (7, (V.ptr 3 0 0)), (8, (V.i y2.2)), (9, (V.ptr 4 0 0)), (10, (V.i y3.2)), (11, (V.ptr 6 0 0)), (12, (V.i y4.2))] ?_ rfl (sr rfl)
  refine GS.seq ?_
  replace hM := bind_of hM
  obtain ⟨y5, h_6, hM⟩ := hM
  refine X.draw (by kernel_rfl) ?_
  refine X.dop rfl rfl rfl rfl (by kernel_rfl) rfl rfl ?_
  refine X.dcall (ok_law03_of 0 400 100 200 100 150) rfl rfl rfl (by kernel_rfl) rfl (.cons (.shut (n := 9) rfl) (.cons (.shut (n := 9) rfl) (.cons (.shut (n := 9) rfl) (.cons (.shut (n := 9) rfl) (.cons (.shut (n := 9) rfl) (.cons (.shut (n := 9) rfl) .nil)))))) ?_
  refine X.dcall (ok_hull_Narrow h_6) rfl rfl rfl (by kernel_rfl) rfl (.cons (.shut (n := 9) rfl) (.cons (.shut (n := 9) rfl) .nil)) ?_
  iterate 4 refine X.dop rfl rfl rfl rfl (by kernel_rfl) rfl rfl ?_
  refine X.dop0 rfl rfl rfl rfl (by kernel_rfl) rfl ?_
  refine X.dop rfl rfl rfl rfl (by kernel_rfl) rfl rfl ?_
  refine X.dnil ?_
  refine X.norm [(1, (V.ptr 0 0 0)), (3, (V.i y.1)), (4, (V.i y.2)), (5, (V.ptr 2 0 0)), (6, (V.i y1.2)), (7, (V.ptr 3 0 0)), (8, (V.i y2.2)), (9, (V.ptr 4 0 0)), (10, (V.i y3.2)), (11, (V.ptr 6 0 0)), (12, (V.i y4.2)), (13, (V.ptr 7 0 0)), (14, (V.i y5.2))] ?_ rfl (sr rfl)
  refine GS.seq ?_
  replace hM := bind_of hM
  obtain ⟨y6, h_7, hM⟩ := hM
  refine X.drawc (by kernel_rfl) rfl ?_
  refine X.cop rfl rfl rfl rfl ?_
  refine X.ccall (ok_law03_of 0 400 0 400 0 400) rfl rfl rfl rfl (.cons (.shut (n := 9) rfl) (.cons (.shut (n := 9) rfl) (.cons (.shut (n := 9) rfl) (.cons (.shut (n := 9) rfl) (.cons (.shut (n := 9) rfl) (.cons (.shut (n := 9) rfl) .nil)))))) ?_
  refine X.ccall (ok_hull_Steady h_7) rfl rfl rfl rfl (.cons (.shut (n := 9) rfl) (.cons (.shut (n := 9) rfl) .nil)) ?_
  iterate 7 refine X.cop rfl rfl rfl rfl ?_
  refine X.cnil ?_
  refine X.norm [(1, (V.ptr 0 0 0)), (3, (V.i y.1)), (4, (V.i y.2)), (5, (V.ptr 2 0 0)), (6, (V.i y1.2)), (7, (V.ptr 3 0 0)), (8, (V.i y2.2)), (9, (V.ptr 4 0 0)), (10, (V.i y3.2)), (11, (V.ptr 6 0 0)), (12, (V.i y4.2)), (13, (V.ptr 7 0 0)), (14, (V.i y5.2)), (15, (V.sl (List.map V.i y6.1))), (16, (V.b y6.2.1)), (17, (V.i y6.2.2))] ?_ rfl (sr rfl)
  refine GS.seq ?_
  replace hM := bind_of hM
  obtain ⟨y7, h_8, hM⟩ := hM
  refine GS.region ?_
  refine X.q rfl ?_
  iterate 2 refine GS.bldF rfl rfl rfl rfl ?_
  refine X.call (ok_hull_Order h_8) rfl rfl rfl (.cons (.shut (n := 9) rfl) (.cons (.shut (n := 9) rfl) (.cons (.shut (n := 9) rfl) (.cons (.shut (n := 9) rfl) .nil)))) ?_
  iterate 5 refine X.q rfl ?_
  refine GS.opsNil ?_
  refine GS.seq ?_
  replace hM := bind_of hM
  obtain ⟨y8, h_9, hM⟩ := hM
  refine X.draw (by kernel_rfl) ?_
  refine X.dop rfl rfl rfl rfl (by kernel_rfl) rfl rfl ?_
  refine X.dcall (ok_law03_of 100 200 50 50 150 250) rfl rfl rfl (by kernel_rfl) rfl (.cons (.shut (n := 9) rfl) (.cons (.shut (n := 9) rfl) (.cons (.shut (n := 9) rfl) (.cons (.shut (n := 9) rfl) (.cons (.shut (n := 9) rfl) (.cons (.shut (n := 9) rfl) .nil)))))) ?_
  iterate 2 refine X.dop rfl rfl rfl rfl (by kernel_rfl) rfl rfl ?_
  refine X.dbld rfl rfl rfl rfl rfl (by kernel_rfl) rfl ?_
  refine X.dcall (ok_hull_Behind h_9) rfl rfl rfl (by kernel_rfl) rfl (.cons (.shut (n := 9) rfl) (.cons (.shut (n := 9) rfl) (.cons (.shut (n := 9) rfl) .nil))) ?_
  iterate 4 refine X.dop rfl rfl rfl rfl (by kernel_rfl) rfl rfl ?_
  refine X.dop0 rfl rfl rfl rfl (by kernel_rfl) rfl ?_
  refine X.dop rfl rfl rfl rfl (by kernel_rfl) rfl rfl ?_
  refine X.dnil ?_
  refine X.norm [(3, (V.i y.1)), (4, (V.i y.2)), (5, (V.ptr 2 0 0)), (6, (V.i y1.2)), (7, (V.ptr 3 0 0)), (8, (V.i y2.2)), (9, (V.ptr 4 0 0)), (10, (V.i y3.2)), (11, (V.ptr 6 0 0)), (12, (V.i y4.2)), (13, (V.ptr 7 0 0)), (14, (V.i y5.2)), (15, (V.sl (List.map V.i y6.1))), (16, (V.b y6.2.1)), (17, (V.i y6.2.2)), (18, (V.sl (List.map e_api_Drop y7.1))), (19, (V.i y7.2)), (20, (V.ptr 9 0 0)), (21, (V.i y8.2))] ?_ rfl (sr rfl)
  refine GS.seq ?_
  refine X.sq ?_
  refine X.mid [(3, (V.i y.1)), (5, (V.ptr 2 0 0)), (7, (V.ptr 3 0 0)), (9, (V.ptr 4 0 0)), (11, (V.ptr 6 0 0)), (13, (V.ptr 7 0 0)), (15, (V.sl (List.map V.i y6.1))), (16, (V.b y6.2.1)), (18, (V.sl (List.map e_api_Drop y7.1))), (20, (V.ptr 9 0 0)), (119, (V.b (((((((((!decide (y.2 = 0)) || (!decide (y1.2 = 0))) || (!decide (y2.2 = 0))) || (!decide (y3.2 = 0))) || (!decide (y4.2 = 0))) || (!decide (y5.2 = 0))) || (!decide (y6.2.2 = 0))) || (!decide (y7.2 = 0))) || (!decide (y8.2 = 0)))))] ?_ ?_
  · intro hg
    refine X.split (!decide (y.2 = 0)) (fun h_10 => ?_) (fun h_10 => ?_)
    · iterate 3 refine X.q rfl ?_
      iterate 2 refine X.off (X.off_f rfl rfl rfl h_10) rfl ?_
      refine X.opR rfl (X.pickor_t (y := !decide (y1.2 = 0)) rfl h_10 rfl) rfl ?_
      refine X.q rfl ?_
      iterate 2 refine X.off (X.off_f rfl rfl rfl (X.or_tt h_10)) rfl ?_
      refine X.opR rfl (X.pickor_t (y := !decide (y2.2 = 0)) rfl (X.or_tt h_10) rfl) rfl ?_
      refine X.q rfl ?_
      iterate 2 refine X.off (X.off_f rfl rfl rfl (X.or_tt (X.or_tt h_10))) rfl ?_
      refine X.opR rfl (X.pickor_t (y := !decide (y3.2 = 0)) rfl (X.or_tt (X.or_tt h_10)) rfl) rfl ?_
      refine X.q rfl ?_
      iterate 2 refine X.off (X.off_f rfl rfl rfl (X.or_tt (X.or_tt (X.or_tt h_10)))) rfl ?_
      refine X.opR rfl (X.pickor_t (y := !decide (y4.2 = 0)) rfl (X.or_tt (X.or_tt (X.or_tt h_10))) rfl) rfl ?_
      refine X.q rfl ?_
      iterate 2 refine X.off (X.off_f rfl rfl rfl (X.or_tt (X.or_tt (X.or_tt (X.or_tt h_10))))) rfl ?_
      refine X.opR rfl (X.pickor_t (y := !decide (y5.2 = 0)) rfl (X.or_tt (X.or_tt (X.or_tt (X.or_tt h_10)))) rfl) rfl ?_
      refine X.q rfl ?_
      iterate 2 refine X.off (X.off_f rfl rfl rfl (X.or_tt (X.or_tt (X.or_tt (X.or_tt (X.or_tt h_10)))))) rfl ?_
      refine X.opR rfl (X.pickor_t (y := !decide (y6.2.2 = 0)) rfl (X.or_tt (X.or_tt (X.or_tt (X.or_tt (X.or_tt h_10))))) rfl) rfl ?_
      refine X.q rfl ?_
      iterate 2 refine X.off (X.off_f rfl rfl rfl (X.or_tt (X.or_tt (X.or_tt (X.or_tt (X.or_tt (X.or_tt h_10))))))) rfl ?_
      refine X.opR rfl (X.pickor_t (y := !decide (y7.2 = 0)) rfl (X.or_tt (X.or_tt (X.or_tt (X.or_tt (X.or_tt (X.or_tt h_10)))))) rfl) rfl ?_
      refine X.q rfl ?_
      iterate 2 refine X.off (X.off_f rfl rfl rfl (X.or_tt (X.or_tt (X.or_tt (X.or_tt (X.or_tt (X.or_tt (X.or_tt h_10)))))))) rfl ?_
      refine X.opR rfl (X.pickor_t (y := !decide (y8.2 = 0)) rfl (X.or_tt (X.or_tt (X.or_tt (X.or_tt (X.or_tt (X.or_tt (X.or_tt h_10))))))) rfl) rfl ?_
      refine GS.opsNil ?_
      exact X.norm _ hg rfl (sr rfl)
    refine X.split (((!decide (y.2 = 0)) || (!decide (y1.2 = 0)))) (fun h_11 => ?_) (fun h_11 => ?_)
    · iterate 3 refine X.q rfl ?_
      iterate 2 refine X.opR (X.on_f rfl rfl rfl h_10) rfl rfl ?_
      refine X.opR rfl (X.pickor_f (y := !decide (y1.2 = 0)) rfl h_10 rfl) rfl ?_
      refine X.q rfl ?_
      iterate 2 refine X.off (X.off_f rfl rfl rfl h_11) rfl ?_
      refine X.opR rfl (X.pickor_t (y := !decide (y2.2 = 0)) rfl h_11 rfl) rfl ?_
      refine X.q rfl ?_
      iterate 2 refine X.off (X.off_f rfl rfl rfl (X.or_tt h_11)) rfl ?_
      refine X.opR rfl (X.pickor_t (y := !decide (y3.2 = 0)) rfl (X.or_tt h_11) rfl) rfl ?_
      refine X.q rfl ?_
      iterate 2 refine X.off (X.off_f rfl rfl rfl (X.or_tt (X.or_tt h_11))) rfl ?_
      refine X.opR rfl (X.pickor_t (y := !decide (y4.2 = 0)) rfl (X.or_tt (X.or_tt h_11)) rfl) rfl ?_
      refine X.q rfl ?_
      iterate 2 refine X.off (X.off_f rfl rfl rfl (X.or_tt (X.or_tt (X.or_tt h_11)))) rfl ?_
      refine X.opR rfl (X.pickor_t (y := !decide (y5.2 = 0)) rfl (X.or_tt (X.or_tt (X.or_tt h_11))) rfl) rfl ?_
      refine X.q rfl ?_
      iterate 2 refine X.off (X.off_f rfl rfl rfl (X.or_tt (X.or_tt (X.or_tt (X.or_tt h_11))))) rfl ?_
      refine X.opR rfl (X.pickor_t (y := !decide (y6.2.2 = 0)) rfl (X.or_tt (X.or_tt (X.or_tt (X.or_tt h_11)))) rfl) rfl ?_
      refine X.q rfl ?_
      iterate 2 refine X.off (X.off_f rfl rfl rfl (X.or_tt (X.or_tt (X.or_tt (X.or_tt (X.or_tt h_11)))))) rfl ?_
      refine X.opR rfl (X.pickor_t (y := !decide (y7.2 = 0)) rfl (X.or_tt (X.or_tt (X.or_tt (X.or_tt (X.or_tt h_11))))) rfl) rfl ?_
      refine X.q rfl ?_
      iterate 2 refine X.off (X.off_f rfl rfl rfl (X.or_tt (X.or_tt (X.or_tt (X.or_tt (X.or_tt (X.or_tt h_11))))))) rfl ?_
      refine X.opR rfl (X.pickor_t (y := !decide (y8.2 = 0)) rfl (X.or_tt (X.or_tt (X.or_tt (X.or_tt (X.or_tt (X.or_tt h_11)))))) rfl) rfl ?_
      refine GS.opsNil ?_
      exact X.norm _ hg rfl (sr rfl)
    refine X.split ((((!decide (y.2 = 0)) || (!decide (y1.2 = 0))) || (!decide (y2.2 = 0)))) (fun h_12 => ?_) (fun h_12 => ?_)
    · iterate 3 refine X.q rfl ?_
      iterate 2 refine X.opR (X.on_f rfl rfl rfl h_10) rfl rfl ?_
      refine X.opR rfl (X.pickor_f (y := !decide (y1.2 = 0)) rfl h_10 rfl) rfl ?_
      refine X.q rfl ?_
      iterate 2 refine X.opR (X.on_f rfl rfl rfl h_11) rfl rfl ?_
      refine X.opR rfl (X.pickor_f (y := !decide (y2.2 = 0)) rfl h_11 rfl) rfl ?_
      refine X.q rfl ?_
      iterate 2 refine X.off (X.off_f rfl rfl rfl h_12) rfl ?_
      refine X.opR rfl (X.pickor_t (y := !decide (y3.2 = 0)) rfl h_12 rfl) rfl ?_
      refine X.q rfl ?_
      iterate 2 refine X.off (X.off_f rfl rfl rfl (X.or_tt h_12)) rfl ?_
      refine X.opR rfl (X.pickor_t (y := !decide (y4.2 = 0)) rfl (X.or_tt h_12) rfl) rfl ?_
      refine X.q rfl ?_
      iterate 2 refine X.off (X.off_f rfl rfl rfl (X.or_tt (X.or_tt h_12))) rfl ?_
      refine X.opR rfl (X.pickor_t (y := !decide (y5.2 = 0)) rfl (X.or_tt (X.or_tt h_12)) rfl) rfl ?_
      refine X.q rfl ?_
      iterate 2 refine X.off (X.off_f rfl rfl rfl (X.or_tt (X.or_tt (X.or_tt h_12)))) rfl ?_
      refine X.opR rfl (X.pickor_t (y := !decide (y6.2.2 = 0)) rfl (X.or_tt (X.or_tt (X.or_tt h_12))) rfl) rfl ?_
      refine X.q rfl ?_
      iterate 2 refine X.off (X.off_f rfl rfl rfl (X.or_tt (X.or_tt (X.or_tt (X.or_tt h_12))))) rfl ?_
      refine X.opR rfl (X.pickor_t (y := !decide (y7.2 = 0)) rfl (X.or_tt (X.or_tt (X.or_tt (X.or_tt h_12)))) rfl) rfl ?_
      refine X.q rfl ?_
      iterate 2 refine X.off (X.off_f rfl rfl rfl (X.or_tt (X.or_tt (X.or_tt (X.or_tt (X.or_tt h_12)))))) rfl ?_
      refine X.opR rfl (X.pickor_t (y := !decide (y8.2 = 0)) rfl (X.or_tt (X.or_tt (X.or_tt (X.or_tt (X.or_tt h_12))))) rfl) rfl ?_
      refine GS.opsNil ?_
      exact X.norm _ hg rfl (sr rfl)
    refine X.split (((((!decide (y.2 = 0)) || (!decide (y1.2 = 0))) || (!decide (y2.2 = 0))) || (!decide (y3.2 = 0)))) (fun h_13 => ?_) (fun h_13 => ?_)
    · iterate 3 refine X.q rfl ?_
      iterate 2 refine X.opR (X.on_f rfl rfl rfl h_10) rfl rfl ?_
      refine X.opR rfl (X.pickor_f (y := !decide (y1.2 = 0)) rfl h_10 rfl) rfl ?_
      refine X.q rfl ?_
      iterate 2 refine X.opR (X.on_f rfl rfl rfl h_11) rfl rfl ?_
      refine X.opR rfl (X.pickor_f (y := !decide (y2.2 = 0)) rfl h_11 rfl) rfl ?_
      refine X.q rfl ?_
      iterate 2 refine X.opR (X.on_f rfl rfl rfl h_12) rfl rfl ?_
      refine X.opR rfl (X.pickor_f (y := !decide (y3.2 = 0)) rfl h_12 rfl) rfl ?_
      refine X.q rfl ?_
      iterate 2 refine X.off (X.off_f rfl rfl rfl h_13) rfl ?_
      refine X.opR rfl (X.pickor_t (y := !decide (y4.2 = 0)) rfl h_13 rfl) rfl ?_
      refine X.q rfl ?_
      iterate 2 refine X.off (X.off_f rfl rfl rfl (X.or_tt h_13)) rfl ?_
      refine X.opR rfl (X.pickor_t (y := !decide (y5.2 = 0)) rfl (X.or_tt h_13) rfl) rfl ?_
      refine X.q rfl ?_
      iterate 2 refine X.off (X.off_f rfl rfl rfl (X.or_tt (X.or_tt h_13))) rfl ?_
      refine X.opR rfl (X.pickor_t (y := !decide (y6.2.2 = 0)) rfl (X.or_tt (X.or_tt h_13)) rfl) rfl ?_
      refine X.q rfl ?_
      iterate 2 refine X.off (X.off_f rfl rfl rfl (X.or_tt (X.or_tt (X.or_tt h_13)))) rfl ?_
      refine X.opR rfl (X.pickor_t (y := !decide (y7.2 = 0)) rfl (X.or_tt (X.or_tt (X.or_tt h_13))) rfl) rfl ?_
      refine X.q rfl ?_
      iterate 2 refine X.off (X.off_f rfl rfl rfl (X.or_tt (X.or_tt (X.or_tt (X.or_tt h_13))))) rfl ?_
      refine X.opR rfl (X.pickor_t (y := !decide (y8.2 = 0)) rfl (X.or_tt (X.or_tt (X.or_tt (X.or_tt h_13)))) rfl) rfl ?_
      refine GS.opsNil ?_
      exact X.norm _ hg rfl (sr rfl)
    refine X.split ((((((!decide (y.2 = 0)) || (!decide (y1.2 = 0))) || (!decide (y2.2 = 0))) || (!decide (y3.2 = 0))) || (!decide (y4.2 = 0)))) (fun h_14 => ?_) (fun h_14 => ?_)
    · iterate 3 refine X.q rfl ?_
      iterate 2 refine X.opR (X.on_f rfl rfl rfl h_10) rfl rfl ?_
      refine X.opR rfl (X.pickor_f (y := !decide (y1.2 = 0)) rfl h_10 rfl) rfl ?_
      refine X.q rfl ?_
      iterate 2 refine X.opR (X.on_f rfl rfl rfl h_11) rfl rfl ?_
      refine X.opR rfl (X.pickor_f (y := !decide (y2.2 = 0)) rfl h_11 rfl) rfl ?_
      refine X.q rfl ?_
      iterate 2 refine X.opR (X.on_f rfl rfl rfl h_12) rfl rfl ?_
      refine X.opR rfl (X.pickor_f (y := !decide (y3.2 = 0)) rfl h_12 rfl) rfl ?_
      refine X.q rfl ?_
      iterate 2 refine X.opR (X.on_f rfl rfl rfl h_13) rfl rfl ?_
      refine X.opR rfl (X.pickor_f (y := !decide (y4.2 = 0)) rfl h_13 rfl) rfl ?_
      refine X.q rfl ?_
      iterate 2 refine X.off (X.off_f rfl rfl rfl h_14) rfl ?_
      refine X.opR rfl (X.pickor_t (y := !decide (y5.2 = 0)) rfl h_14 rfl) rfl ?_
      refine X.q rfl ?_
      iterate 2 refine X.off (X.off_f rfl rfl rfl (X.or_tt h_14)) rfl ?_
      refine X.opR rfl (X.pickor_t (y := !decide (y6.2.2 = 0)) rfl (X.or_tt h_14) rfl) rfl ?_
      refine X.q rfl ?_
      iterate 2 refine X.off (X.off_f rfl rfl rfl (X.or_tt (X.or_tt h_14))) rfl ?_
      refine X.opR rfl (X.pickor_t (y := !decide (y7.2 = 0)) rfl (X.or_tt (X.or_tt h_14)) rfl) rfl ?_
      refine X.q rfl ?_
      iterate 2 refine X.off (X.off_f rfl rfl rfl (X.or_tt (X.or_tt (X.or_tt h_14)))) rfl ?_
      refine X.opR rfl (X.pickor_t (y := !decide (y8.2 = 0)) rfl (X.or_tt (X.or_tt (X.or_tt h_14))) rfl) rfl ?_
      refine GS.opsNil ?_
      exact X.norm _ hg rfl (sr rfl)
    refine X.split (((((((!decide (y.2 = 0)) || (!decide (y1.2 = 0))) || (!decide (y2.2 = 0))) || (!decide (y3.2 = 0))) || (!decide (y4.2 = 0))) || (!decide (y5.2 = 0)))) (fun h_15 => ?_) (fun h_15 => ?_)
    · iterate 3 refine X.q rfl ?_
      iterate 2 refine X.opR (X.on_f rfl rfl rfl h_10) rfl rfl ?_
      refine X.opR rfl (X.pickor_f (y := !decide (y1.2 = 0)) rfl h_10 rfl) rfl ?_
      refine X.q rfl ?_
      iterate 2 refine X.opR (X.on_f rfl rfl rfl h_11) rfl rfl ?_
      refine X.opR rfl (X.pickor_f (y := !decide (y2.2 = 0)) rfl h_11 rfl) rfl ?_
      refine X.q rfl ?_
      iterate 2 refine X.opR (X.on_f rfl rfl rfl h_12) rfl rfl ?_
      refine X.opR rfl (X.pickor_f (y := !decide (y3.2 = 0)) rfl h_12 rfl) rfl ?_
      refine X.q rfl ?_
      iterate 2 refine X.opR (X.on_f rfl rfl rfl h_13) rfl rfl ?_
      refine X.opR rfl (X.pickor_f (y := !decide (y4.2 = 0)) rfl h_13 rfl) rfl ?_
      refine X.q rfl ?_
      iterate 2 refine X.opR (X.on_f rfl rfl rfl h_14) rfl rfl ?_
      refine X.opR rfl (X.pickor_f (y := !decide (y5.2 = 0)) rfl h_14 rfl) rfl ?_
      refine X.q rfl ?_
      iterate 2 refine X.off (X.off_f rfl rfl rfl h_15) rfl ?_
      refine X.opR rfl (X.pickor_t (y := !decide (y6.2.2 = 0)) rfl h_15 rfl) rfl ?_
      refine X.q rfl ?_
      iterate 2 refine X.off (X.off_f rfl rfl rfl (X.or_tt h_15)) rfl ?_
      refine X.opR rfl (X.pickor_t (y := !decide (y7.2 = 0)) rfl (X.or_tt h_15) rfl) rfl ?_
      refine X.q rfl ?_
      iterate 2 refine X.off (X.off_f rfl rfl rfl (X.or_tt (X.or_tt h_15))) rfl ?_
      refine X.opR rfl (X.pickor_t (y := !decide (y8.2 = 0)) rfl (X.or_tt (X.or_tt h_15)) rfl) rfl ?_
      refine GS.opsNil ?_
      exact X.norm _ hg rfl (sr rfl)
    refine X.split ((((((((!decide (y.2 = 0)) || (!decide (y1.2 = 0))) || (!decide (y2.2 = 0))) || (!decide (y3.2 = 0))) || (!decide (y4.2 = 0))) || (!decide (y5.2 = 0))) || (!decide (y6.2.2 = 0)))) (fun h_16 => ?_) (fun h_16 => ?_)
    · iterate 3 refine X.q rfl ?_
      iterate 2 refine X.opR (X.on_f rfl rfl rfl h_10) rfl rfl ?_
      refine X.opR rfl (X.pickor_f (y := !decide (y1.2 = 0)) rfl h_10 rfl) rfl ?_
      refine X.q rfl ?_
      iterate 2 refine X.opR (X.on_f rfl rfl rfl h_11) rfl rfl ?_
      refine X.opR rfl (X.pickor_f (y := !decide (y2.2 = 0)) rfl h_11 rfl) rfl ?_
      refine X.q rfl ?_
      iterate 2 refine X.opR (X.on_f rfl rfl rfl h_12) rfl rfl ?_
      refine X.opR rfl (X.pickor_f (y := !decide (y3.2 = 0)) rfl h_12 rfl) rfl ?_
      refine X.q rfl ?_
      iterate 2 refine X.opR (X.on_f rfl rfl rfl h_13) rfl rfl ?_
      refine X.opR rfl (X.pickor_f (y := !decide (y4.2 = 0)) rfl h_13 rfl) rfl ?_
      refine X.q rfl ?_
      iterate 2 refine X.opR (X.on_f rfl rfl rfl h_14) rfl rfl ?_
      refine X.opR rfl (X.pickor_f (y := !decide (y5.2 = 0)) rfl h_14 rfl) rfl ?_
      refine X.q rfl ?_
      iterate 2 refine X.opR (X.on_f rfl rfl rfl h_15) rfl rfl ?_
      refine X.opR rfl (X.pickor_f (y := !decide (y6.2.2 = 0)) rfl h_15 rfl) rfl ?_
      refine X.q rfl ?_
      iterate 2 refine X.off (X.off_f rfl rfl rfl h_16) rfl ?_
      refine X.opR rfl (X.pickor_t (y := !decide (y7.2 = 0)) rfl h_16 rfl) rfl ?_
      refine X.q rfl ?_
      iterate 2 refine X.off (X.off_f rfl rfl rfl (X.or_tt h_16)) rfl ?_
      refine X.opR rfl (X.pickor_t (y := !decide (y8.2 = 0)) rfl (X.or_tt h_16) rfl) rfl ?_
      refine GS.opsNil ?_
      exact X.norm _ hg rfl (sr rfl)
    refine X.split (((((((((!decide (y.2 = 0)) || (!decide (y1.2 = 0))) || (!decide (y2.2 = 0))) || (!decide (y3.2 = 0))) || (!decide (y4.2 = 0))) || (!decide (y5.2 = 0))) || (!decide (y6.2.2 = 0))) || (!decide (y7.2 = 0)))) (fun h_17 => ?_) (fun h_17 => ?_)
    · iterate 3 refine X.q rfl ?_
      iterate 2 refine X.opR (X.on_f rfl rfl rfl h_10) rfl rfl ?_
      refine X.opR rfl (X.pickor_f (y := !decide (y1.2 = 0)) rfl h_10 rfl) rfl ?_
      refine X.q rfl ?_
      iterate 2 refine X.opR (X.on_f rfl rfl rfl h_11) rfl rfl ?_
      refine X.opR rfl (X.pickor_f (y := !decide (y2.2 = 0)) rfl h_11 rfl) rfl ?_
      refine X.q rfl ?_
      iterate 2 refine X.opR (X.on_f rfl rfl rfl h_12) rfl rfl ?_
      refine X.opR rfl (X.pickor_f (y := !decide (y3.2 = 0)) rfl h_12 rfl) rfl ?_
      refine X.q rfl ?_
      iterate 2 refine X.opR (X.on_f rfl rfl rfl h_13) rfl rfl ?_
      refine X.opR rfl (X.pickor_f (y := !decide (y4.2 = 0)) rfl h_13 rfl) rfl ?_
      refine X.q rfl ?_
      iterate 2 refine X.opR (X.on_f rfl rfl rfl h_14) rfl rfl ?_
      refine X.opR rfl (X.pickor_f (y := !decide (y5.2 = 0)) rfl h_14 rfl) rfl ?_
      refine X.q rfl ?_
      iterate 2 refine X.opR (X.on_f rfl rfl rfl h_15) rfl rfl ?_
      refine X.opR rfl (X.pickor_f (y := !decide (y6.2.2 = 0)) rfl h_15 rfl) rfl ?_
      refine X.q rfl ?_
      iterate 2 refine X.opR (X.on_f rfl rfl rfl h_16) rfl rfl ?_
      refine X.opR rfl (X.pickor_f (y := !decide (y7.2 = 0)) rfl h_16 rfl) rfl ?_
      refine X.q rfl ?_
      iterate 2 refine X.off (X.off_f rfl rfl rfl h_17) rfl ?_
      refine X.opR rfl (X.pickor_t (y := !decide (y8.2 = 0)) rfl h_17 rfl) rfl ?_
      refine GS.opsNil ?_
      exact X.norm _ hg rfl (sr rfl)
    iterate 3 refine X.q rfl ?_
    iterate 2 refine X.opR (X.on_f rfl rfl rfl h_10) rfl rfl ?_
    refine X.opR rfl (X.pickor_f (y := !decide (y1.2 = 0)) rfl h_10 rfl) rfl ?_
    refine X.q rfl ?_
    iterate 2 refine X.opR (X.on_f rfl rfl rfl h_11) rfl rfl ?_
    refine X.opR rfl (X.pickor_f (y := !decide (y2.2 = 0)) rfl h_11 rfl) rfl ?_
    refine X.q rfl ?_
    iterate 2 refine X.opR (X.on_f rfl rfl rfl h_12) rfl rfl ?_
    refine X.opR rfl (X.pickor_f (y := !decide (y3.2 = 0)) rfl h_12 rfl) rfl ?_
    refine X.q rfl ?_
    iterate 2 refine X.opR (X.on_f rfl rfl rfl h_13) rfl rfl ?_
    refine X.opR rfl (X.pickor_f (y := !decide (y4.2 = 0)) rfl h_13 rfl) rfl ?_
    refine X.q rfl ?_
    iterate 2 refine X.opR (X.on_f rfl rfl rfl h_14) rfl rfl ?_
    refine X.opR rfl (X.pickor_f (y := !decide (y5.2 = 0)) rfl h_14 rfl) rfl ?_
    refine X.q rfl ?_
    iterate 2 refine X.opR (X.on_f rfl rfl rfl h_15) rfl rfl ?_
    refine X.opR rfl (X.pickor_f (y := !decide (y6.2.2 = 0)) rfl h_15 rfl) rfl ?_
    refine X.q rfl ?_
    iterate 2 refine X.opR (X.on_f rfl rfl rfl h_16) rfl rfl ?_
    refine X.opR rfl (X.pickor_f (y := !decide (y7.2 = 0)) rfl h_16 rfl) rfl ?_
    refine X.q rfl ?_
    iterate 2 refine X.opR (X.on_f rfl rfl rfl h_17) rfl rfl ?_
    refine X.opR rfl (X.pickor_f (y := !decide (y8.2 = 0)) rfl h_17 rfl) rfl ?_
    refine GS.opsNil ?_
    exact X.norm _ hg rfl (sr rfl)
  refine X.cond rfl (fun h_18 => ?_) (fun h_18 => ?_)
  · replace hM := ite_t h_18 hM
    refine X.sq ?_
    refine X.q rfl ?_
    refine GS.opsNil ?_
    have hE := Option.some.inj hM
    subst hE
    exact GS.ret ⟨_, rfl, ⟨30, rfl⟩⟩
  replace hM := ite_f h_18 hM
  refine GS.skip ?_
  refine X.sq ?_
  refine X.mid [(13, (V.ptr 7 0 0)), (15, (V.sl (List.map V.i y6.1))), (16, (V.b y6.2.1)), (18, (V.sl (List.map e_api_Drop y7.1))), (20, (V.ptr 9 0 0)), (22, (V.b (((((decide (y.1 = (-5000))) && (decide (y1.1 = (⟨760, 7⟩ : api_Frac)))) && (decide (y2.1 = (⟨615, 14⟩ : api_Frac)))) && (decide (y3.1 = (⟨(⟨0, 0⟩ : api_Span), (⟨500, 500⟩ : api_Span)⟩ : api_Draughts)))) && (decide (y4.1.Value = 550)))))] ?_ ?_
  · intro hg
    refine X.split (decide (y.1 = (-5000))) (fun h_19 => ?_) (fun h_19 => ?_)
    · refine X.split (((decide (y.1 = (-5000))) && (decide (y1.1 = (⟨760, 7⟩ : api_Frac))))) (fun h_20 => ?_) (fun h_20 => ?_)
      · refine X.split ((((decide (y.1 = (-5000))) && (decide (y1.1 = (⟨760, 7⟩ : api_Frac)))) && (decide (y2.1 = (⟨615, 14⟩ : api_Frac))))) (fun h_21 => ?_) (fun h_21 => ?_)
        · refine X.split (((((decide (y.1 = (-5000))) && (decide (y1.1 = (⟨760, 7⟩ : api_Frac)))) && (decide (y2.1 = (⟨615, 14⟩ : api_Frac)))) && (decide (y3.1 = (⟨(⟨0, 0⟩ : api_Span), (⟨500, 500⟩ : api_Span)⟩ : api_Draughts))))) (fun h_22 => ?_) (fun h_22 => ?_)
          · iterate 3 refine X.q rfl ?_
            iterate 2 refine X.opR (X.on_t rfl rfl rfl h_19) rfl rfl ?_
            refine X.opR (X.on_t rfl rfl rfl h_19) (X.eqlE (eq_api_Frac y1.1 (⟨760, 7⟩ : api_Frac)) rfl rfl) rfl ?_
            refine X.opR rfl (X.pickand_t (y := decide (y1.1 = (⟨760, 7⟩ : api_Frac))) rfl h_19 rfl) rfl ?_
            refine X.q rfl ?_
            iterate 2 refine X.opR (X.on_t rfl rfl rfl h_20) rfl rfl ?_
            refine X.opR (X.on_t rfl rfl rfl h_20) (X.eqlE (eq_api_Frac y2.1 (⟨615, 14⟩ : api_Frac)) rfl rfl) rfl ?_
            refine X.opR rfl (X.pickand_t (y := decide (y2.1 = (⟨615, 14⟩ : api_Frac))) rfl h_20 rfl) rfl ?_
            refine X.q rfl ?_
            iterate 3 refine X.opR (X.on_t rfl rfl rfl h_21) rfl rfl ?_
            refine X.opR (X.on_t rfl rfl rfl h_21) (X.eqlE (eq_api_Draughts y3.1 (⟨(⟨0, 0⟩ : api_Span), (⟨500, 500⟩ : api_Span)⟩ : api_Draughts)) rfl rfl) rfl ?_
            refine X.opR rfl (X.pickand_t (y := decide (y3.1 = (⟨(⟨0, 0⟩ : api_Span), (⟨500, 500⟩ : api_Span)⟩ : api_Draughts))) rfl h_21 rfl) rfl ?_
            refine X.q rfl ?_
            iterate 3 refine X.opR (X.on_t rfl rfl rfl h_22) rfl rfl ?_
            refine X.opR rfl (X.pickand_t (y := decide (y4.1.Value = 550)) rfl h_22 rfl) rfl ?_
            refine X.q rfl ?_
            refine GS.opsNil ?_
            exact X.norm _ hg rfl (sr rfl)
          iterate 3 refine X.q rfl ?_
          iterate 2 refine X.opR (X.on_t rfl rfl rfl h_19) rfl rfl ?_
          refine X.opR (X.on_t rfl rfl rfl h_19) (X.eqlE (eq_api_Frac y1.1 (⟨760, 7⟩ : api_Frac)) rfl rfl) rfl ?_
          refine X.opR rfl (X.pickand_t (y := decide (y1.1 = (⟨760, 7⟩ : api_Frac))) rfl h_19 rfl) rfl ?_
          refine X.q rfl ?_
          iterate 2 refine X.opR (X.on_t rfl rfl rfl h_20) rfl rfl ?_
          refine X.opR (X.on_t rfl rfl rfl h_20) (X.eqlE (eq_api_Frac y2.1 (⟨615, 14⟩ : api_Frac)) rfl rfl) rfl ?_
          refine X.opR rfl (X.pickand_t (y := decide (y2.1 = (⟨615, 14⟩ : api_Frac))) rfl h_20 rfl) rfl ?_
          refine X.q rfl ?_
          iterate 3 refine X.opR (X.on_t rfl rfl rfl h_21) rfl rfl ?_
          refine X.opR (X.on_t rfl rfl rfl h_21) (X.eqlE (eq_api_Draughts y3.1 (⟨(⟨0, 0⟩ : api_Span), (⟨500, 500⟩ : api_Span)⟩ : api_Draughts)) rfl rfl) rfl ?_
          refine X.opR rfl (X.pickand_t (y := decide (y3.1 = (⟨(⟨0, 0⟩ : api_Span), (⟨500, 500⟩ : api_Span)⟩ : api_Draughts))) rfl h_21 rfl) rfl ?_
          refine X.q rfl ?_
          iterate 3 refine X.off (X.off_t rfl rfl rfl h_22) rfl ?_
          refine X.opR rfl (X.pickand_f (y := decide (y4.1.Value = 550)) rfl h_22 rfl) rfl ?_
          refine X.q rfl ?_
          refine GS.opsNil ?_
          exact X.norm _ hg rfl (sr rfl)
        iterate 3 refine X.q rfl ?_
        iterate 2 refine X.opR (X.on_t rfl rfl rfl h_19) rfl rfl ?_
        refine X.opR (X.on_t rfl rfl rfl h_19) (X.eqlE (eq_api_Frac y1.1 (⟨760, 7⟩ : api_Frac)) rfl rfl) rfl ?_
        refine X.opR rfl (X.pickand_t (y := decide (y1.1 = (⟨760, 7⟩ : api_Frac))) rfl h_19 rfl) rfl ?_
        refine X.q rfl ?_
        iterate 2 refine X.opR (X.on_t rfl rfl rfl h_20) rfl rfl ?_
        refine X.opR (X.on_t rfl rfl rfl h_20) (X.eqlE (eq_api_Frac y2.1 (⟨615, 14⟩ : api_Frac)) rfl rfl) rfl ?_
        refine X.opR rfl (X.pickand_t (y := decide (y2.1 = (⟨615, 14⟩ : api_Frac))) rfl h_20 rfl) rfl ?_
        refine X.q rfl ?_
        iterate 4 refine X.off (X.off_t rfl rfl rfl h_21) rfl ?_
        refine X.opR rfl (X.pickand_f (y := decide (y3.1 = (⟨(⟨0, 0⟩ : api_Span), (⟨500, 500⟩ : api_Span)⟩ : api_Draughts))) rfl h_21 rfl) rfl ?_
        refine X.q rfl ?_
        iterate 3 refine X.off (X.off_t rfl rfl rfl (X.and_ff h_21)) rfl ?_
        refine X.opR rfl (X.pickand_f (y := decide (y4.1.Value = 550)) rfl (X.and_ff h_21) rfl) rfl ?_
        refine X.q rfl ?_
        refine GS.opsNil ?_
        exact X.norm _ hg rfl (sr rfl)
      iterate 3 refine X.q rfl ?_
      iterate 2 refine X.opR (X.on_t rfl rfl rfl h_19) rfl rfl ?_
      refine X.opR (X.on_t rfl rfl rfl h_19) (X.eqlE (eq_api_Frac y1.1 (⟨760, 7⟩ : api_Frac)) rfl rfl) rfl ?_
      refine X.opR rfl (X.pickand_t (y := decide (y1.1 = (⟨760, 7⟩ : api_Frac))) rfl h_19 rfl) rfl ?_
      refine X.q rfl ?_
      iterate 3 refine X.off (X.off_t rfl rfl rfl h_20) rfl ?_
      refine X.opR rfl (X.pickand_f (y := decide (y2.1 = (⟨615, 14⟩ : api_Frac))) rfl h_20 rfl) rfl ?_
      refine X.q rfl ?_
      iterate 4 refine X.off (X.off_t rfl rfl rfl (X.and_ff h_20)) rfl ?_
      refine X.opR rfl (X.pickand_f (y := decide (y3.1 = (⟨(⟨0, 0⟩ : api_Span), (⟨500, 500⟩ : api_Span)⟩ : api_Draughts))) rfl (X.and_ff h_20) rfl) rfl ?_
      refine X.q rfl ?_
      iterate 3 refine X.off (X.off_t rfl rfl rfl (X.and_ff (X.and_ff h_20))) rfl ?_
      refine X.opR rfl (X.pickand_f (y := decide (y4.1.Value = 550)) rfl (X.and_ff (X.and_ff h_20)) rfl) rfl ?_
      refine X.q rfl ?_
      refine GS.opsNil ?_
      exact X.norm _ hg rfl (sr rfl)
    iterate 3 refine X.q rfl ?_
    iterate 3 refine X.off (X.off_t rfl rfl rfl h_19) rfl ?_
    refine X.opR rfl (X.pickand_f (y := decide (y1.1 = (⟨760, 7⟩ : api_Frac))) rfl h_19 rfl) rfl ?_
    refine X.q rfl ?_
    iterate 3 refine X.off (X.off_t rfl rfl rfl (X.and_ff h_19)) rfl ?_
    refine X.opR rfl (X.pickand_f (y := decide (y2.1 = (⟨615, 14⟩ : api_Frac))) rfl (X.and_ff h_19) rfl) rfl ?_
    refine X.q rfl ?_
    iterate 4 refine X.off (X.off_t rfl rfl rfl (X.and_ff (X.and_ff h_19))) rfl ?_
    refine X.opR rfl (X.pickand_f (y := decide (y3.1 = (⟨(⟨0, 0⟩ : api_Span), (⟨500, 500⟩ : api_Span)⟩ : api_Draughts))) rfl (X.and_ff (X.and_ff h_19)) rfl) rfl ?_
    refine X.q rfl ?_
    iterate 3 refine X.off (X.off_t rfl rfl rfl (X.and_ff (X.and_ff (X.and_ff h_19)))) rfl ?_
    refine X.opR rfl (X.pickand_f (y := decide (y4.1.Value = 550)) rfl (X.and_ff (X.and_ff (X.and_ff h_19))) rfl) rfl ?_
    refine X.q rfl ?_
    refine GS.opsNil ?_
    exact X.norm _ hg rfl (sr rfl)
  refine GS.seq ?_
  replace hM := bind_of hM
  obtain ⟨y9, h_23, hM⟩ := hM
  replace hM := gb_of hM
  obtain ⟨y10, h_24, hM⟩ := hM
  replace hM := gb_of hM
  obtain ⟨y11, h_25, hM⟩ := hM
  refine X.midS ⟨[(22, (V.b (((((decide (y.1 = (-5000))) && (decide (y1.1 = (⟨760, 7⟩ : api_Frac)))) && (decide (y2.1 = (⟨615, 14⟩ : api_Frac)))) && (decide (y3.1 = (⟨(⟨0, 0⟩ : api_Span), (⟨500, 500⟩ : api_Span)⟩ : api_Draughts)))) && (decide (y4.1.Value = 550))))), (23, (V.b ((((y9 && (!y6.2.1)) && y10) && (decide ((y7.1.length : Int) = 4))) && y11)))], [], 0, none, 169⟩ ?_ ?_
  · intro hg
    refine X.split (y9) (fun h_26 => ?_) (fun h_26 => ?_)
    · refine X.split ((y9 && (!y6.2.1))) (fun h_27 => ?_) (fun h_27 => ?_)
      · refine X.split (((y9 && (!y6.2.1)) && y10)) (fun h_28 => ?_) (fun h_28 => ?_)
        · refine X.split ((((y9 && (!y6.2.1)) && y10) && (decide ((y7.1.length : Int) = 4)))) (fun h_29 => ?_) (fun h_29 => ?_)
          · refine X.draw (by kernel_rfl) ?_
            refine X.dop rfl rfl rfl rfl (by kernel_rfl) rfl rfl ?_
            refine X.dcall (ok_law03_of 0 50 100 150 100 150) rfl rfl rfl (by kernel_rfl) rfl (.cons (.shut (n := 9) rfl) (.cons (.shut (n := 9) rfl) (.cons (.shut (n := 9) rfl) (.cons (.shut (n := 9) rfl) (.cons (.shut (n := 9) rfl) (.cons (.shut (n := 9) rfl) .nil)))))) ?_
            refine X.dcall (ok_ref03_SameLoads h_23) rfl rfl rfl (by kernel_rfl) rfl (.cons (.shut (n := 9) rfl) (.cons (.shut (n := 9) rfl) .nil)) ?_
            refine X.dop rfl rfl rfl rfl (by kernel_rfl) rfl rfl ?_
            iterate 2 refine X.dop (X.on_t rfl rfl rfl h_26) rfl rfl rfl (by kernel_rfl) rfl rfl ?_
            refine X.dop rfl (X.pickand_t (y := !y6.2.1) rfl h_26 rfl) rfl rfl (by kernel_rfl) rfl rfl ?_
            refine X.dop rfl rfl rfl rfl (by kernel_rfl) rfl rfl ?_
            iterate 2 refine X.dop (X.on_t rfl rfl rfl h_27) rfl rfl rfl (by kernel_rfl) rfl rfl ?_
            refine X.dcallF (ok_ref03_SameInts (h_24 h_27)) (X.on_t rfl rfl rfl h_27) rfl rfl (by kernel_rfl) rfl (m := 9) rfl (.cons (.shut (n := 9) rfl) (.cons (FR.arg ⟨30, rfl⟩) .nil)) ?_
            refine X.dop rfl (X.pickand_t (y := y10) rfl h_27 rfl) rfl rfl (by kernel_rfl) rfl rfl ?_
            refine X.dop rfl rfl rfl rfl (by kernel_rfl) rfl rfl ?_
            refine X.dop (X.on_t rfl rfl rfl h_28) rfl rfl rfl (by kernel_rfl) rfl rfl ?_
            refine X.dop (X.on_t rfl rfl rfl h_28) (X.lenF rfl rfl rfl) rfl rfl (by kernel_rfl) rfl rfl ?_
            refine X.dop (X.on_t rfl rfl rfl h_28) rfl rfl rfl (by kernel_rfl) rfl rfl ?_
            refine X.dop rfl (X.pickand_t (y := decide ((y7.1.length : Int) = 4)) rfl h_28 rfl) rfl rfl (by kernel_rfl) rfl rfl ?_
            refine X.dop rfl rfl rfl rfl (by kernel_rfl) rfl rfl ?_
            refine X.dop (X.on_t rfl rfl rfl h_29) rfl rfl rfl (by kernel_rfl) rfl rfl ?_
            refine X.dcall (ok_law03_of 70 180 40 50 110 230) (X.on_t rfl rfl rfl h_29) rfl rfl (by kernel_rfl) rfl (.cons (.shut (n := 9) rfl) (.cons (.shut (n := 9) rfl) (.cons (.shut (n := 9) rfl) (.cons (.shut (n := 9) rfl) (.cons (.shut (n := 9) rfl) (.cons (.shut (n := 9) rfl) .nil)))))) ?_
            refine X.dcall (ok_ref03_SameLoads (h_25 h_29)) (X.on_t rfl rfl rfl h_29) rfl rfl (by kernel_rfl) rfl (.cons (.shut (n := 9) rfl) (.cons (.shut (n := 9) rfl) .nil)) ?_
            refine X.dop rfl (X.pickand_t (y := y11) rfl h_29 rfl) rfl rfl (by kernel_rfl) rfl rfl ?_
            refine X.dop rfl rfl rfl rfl (by kernel_rfl) rfl rfl ?_
            refine X.dnil ?_
            exact X.gc [] hg rfl rfl rfl (ga rfl rfl) (gb_nil)
          refine X.draw (by kernel_rfl) ?_
          refine X.dop rfl rfl rfl rfl (by kernel_rfl) rfl rfl ?_
          refine X.dcall (ok_law03_of 0 50 100 150 100 150) rfl rfl rfl (by kernel_rfl) rfl (.cons (.shut (n := 9) rfl) (.cons (.shut (n := 9) rfl) (.cons (.shut (n := 9) rfl) (.cons (.shut (n := 9) rfl) (.cons (.shut (n := 9) rfl) (.cons (.shut (n := 9) rfl) .nil)))))) ?_
          refine X.dcall (ok_ref03_SameLoads h_23) rfl rfl rfl (by kernel_rfl) rfl (.cons (.shut (n := 9) rfl) (.cons (.shut (n := 9) rfl) .nil)) ?_
          refine X.dop rfl rfl rfl rfl (by kernel_rfl) rfl rfl ?_
          iterate 2 refine X.dop (X.on_t rfl rfl rfl h_26) rfl rfl rfl (by kernel_rfl) rfl rfl ?_
          refine X.dop rfl (X.pickand_t (y := !y6.2.1) rfl h_26 rfl) rfl rfl (by kernel_rfl) rfl rfl ?_
          refine X.dop rfl rfl rfl rfl (by kernel_rfl) rfl rfl ?_
          iterate 2 refine X.dop (X.on_t rfl rfl rfl h_27) rfl rfl rfl (by kernel_rfl) rfl rfl ?_
          refine X.dcallF (ok_ref03_SameInts (h_24 h_27)) (X.on_t rfl rfl rfl h_27) rfl rfl (by kernel_rfl) rfl (m := 9) rfl (.cons (.shut (n := 9) rfl) (.cons (FR.arg ⟨30, rfl⟩) .nil)) ?_
          refine X.dop rfl (X.pickand_t (y := y10) rfl h_27 rfl) rfl rfl (by kernel_rfl) rfl rfl ?_
          refine X.dop rfl rfl rfl rfl (by kernel_rfl) rfl rfl ?_
          refine X.dop (X.on_t rfl rfl rfl h_28) rfl rfl rfl (by kernel_rfl) rfl rfl ?_
          refine X.dop (X.on_t rfl rfl rfl h_28) (X.lenF rfl rfl rfl) rfl rfl (by kernel_rfl) rfl rfl ?_
          refine X.dop (X.on_t rfl rfl rfl h_28) rfl rfl rfl (by kernel_rfl) rfl rfl ?_
          refine X.dop rfl (X.pickand_t (y := decide ((y7.1.length : Int) = 4)) rfl h_28 rfl) rfl rfl (by kernel_rfl) rfl rfl ?_
          refine X.dop rfl rfl rfl rfl (by kernel_rfl) rfl rfl ?_
          iterate 3 refine X.doff (X.off_t rfl rfl rfl h_29) (by kernel_rfl) rfl ?_
          refine X.dop rfl (X.pickand_f (y := y11) rfl h_29 rfl) rfl rfl (by kernel_rfl) rfl rfl ?_
          refine X.dop rfl rfl rfl rfl (by kernel_rfl) rfl rfl ?_
          refine X.dnil ?_
          exact X.gc [] hg rfl rfl rfl (ga rfl rfl) (gb_nil)
        refine X.draw (by kernel_rfl) ?_
        refine X.dop rfl rfl rfl rfl (by kernel_rfl) rfl rfl ?_
        refine X.dcall (ok_law03_of 0 50 100 150 100 150) rfl rfl rfl (by kernel_rfl) rfl (.cons (.shut (n := 9) rfl) (.cons (.shut (n := 9) rfl) (.cons (.shut (n := 9) rfl) (.cons (.shut (n := 9) rfl) (.cons (.shut (n := 9) rfl) (.cons (.shut (n := 9) rfl) .nil)))))) ?_
        refine X.dcall (ok_ref03_SameLoads h_23) rfl rfl rfl (by kernel_rfl) rfl (.cons (.shut (n := 9) rfl) (.cons (.shut (n := 9) rfl) .nil)) ?_
        refine X.dop rfl rfl rfl rfl (by kernel_rfl) rfl rfl ?_
        iterate 2 refine X.dop (X.on_t rfl rfl rfl h_26) rfl rfl rfl (by kernel_rfl) rfl rfl ?_
        refine X.dop rfl (X.pickand_t (y := !y6.2.1) rfl h_26 rfl) rfl rfl (by kernel_rfl) rfl rfl ?_
        refine X.dop rfl rfl rfl rfl (by kernel_rfl) rfl rfl ?_
        iterate 2 refine X.dop (X.on_t rfl rfl rfl h_27) rfl rfl rfl (by kernel_rfl) rfl rfl ?_
        refine X.dcallF (ok_ref03_SameInts (h_24 h_27)) (X.on_t rfl rfl rfl h_27) rfl rfl (by kernel_rfl) rfl (m := 9) rfl (.cons (.shut (n := 9) rfl) (.cons (FR.arg ⟨30, rfl⟩) .nil)) ?_
        refine X.dop rfl (X.pickand_t (y := y10) rfl h_27 rfl) rfl rfl (by kernel_rfl) rfl rfl ?_
        refine X.dop rfl rfl rfl rfl (by kernel_rfl) rfl rfl ?_
        iterate 3 refine X.doff (X.off_t rfl rfl rfl h_28) (by kernel_rfl) rfl ?_
        refine X.dop rfl (X.pickand_f (y := decide ((y7.1.length : Int) = 4)) rfl h_28 rfl) rfl rfl (by kernel_rfl) rfl rfl ?_
        refine X.dop rfl rfl rfl rfl (by kernel_rfl) rfl rfl ?_
        iterate 3 refine X.doff (X.off_t rfl rfl rfl (X.and_ff h_28)) (by kernel_rfl) rfl ?_
        refine X.dop rfl (X.pickand_f (y := y11) rfl (X.and_ff h_28) rfl) rfl rfl (by kernel_rfl) rfl rfl ?_
        refine X.dop rfl rfl rfl rfl (by kernel_rfl) rfl rfl ?_
        refine X.dnil ?_
        exact X.gc [] hg rfl rfl rfl (ga rfl rfl) (gb_nil)
      refine X.draw (by kernel_rfl) ?_
      refine X.dop rfl rfl rfl rfl (by kernel_rfl) rfl rfl ?_
      refine X.dcall (ok_law03_of 0 50 100 150 100 150) rfl rfl rfl (by kernel_rfl) rfl (.cons (.shut (n := 9) rfl) (.cons (.shut (n := 9) rfl) (.cons (.shut (n := 9) rfl) (.cons (.shut (n := 9) rfl) (.cons (.shut (n := 9) rfl) (.cons (.shut (n := 9) rfl) .nil)))))) ?_
      refine X.dcall (ok_ref03_SameLoads h_23) rfl rfl rfl (by kernel_rfl) rfl (.cons (.shut (n := 9) rfl) (.cons (.shut (n := 9) rfl) .nil)) ?_
      refine X.dop rfl rfl rfl rfl (by kernel_rfl) rfl rfl ?_
      iterate 2 refine X.dop (X.on_t rfl rfl rfl h_26) rfl rfl rfl (by kernel_rfl) rfl rfl ?_
      refine X.dop rfl (X.pickand_t (y := !y6.2.1) rfl h_26 rfl) rfl rfl (by kernel_rfl) rfl rfl ?_
      refine X.dop rfl rfl rfl rfl (by kernel_rfl) rfl rfl ?_
      iterate 3 refine X.doff (X.off_t rfl rfl rfl h_27) (by kernel_rfl) rfl ?_
      refine X.dop rfl (X.pickand_f (y := y10) rfl h_27 rfl) rfl rfl (by kernel_rfl) rfl rfl ?_
      refine X.dop rfl rfl rfl rfl (by kernel_rfl) rfl rfl ?_
      iterate 3 refine X.doff (X.off_t rfl rfl rfl (X.and_ff h_27)) (by kernel_rfl) rfl ?_
      refine X.dop rfl (X.pickand_f (y := decide ((y7.1.length : Int) = 4)) rfl (X.and_ff h_27) rfl) rfl rfl (by kernel_rfl) rfl rfl ?_
      refine X.dop rfl rfl rfl rfl (by kernel_rfl) rfl rfl ?_
      iterate 3 refine X.doff (X.off_t rfl rfl rfl (X.and_ff (X.and_ff h_27))) (by kernel_rfl) rfl ?_
      refine X.dop rfl (X.pickand_f (y := y11) rfl (X.and_ff (X.and_ff h_27)) rfl) rfl rfl (by kernel_rfl) rfl rfl ?_
      refine X.dop rfl rfl rfl rfl (by kernel_rfl) rfl rfl ?_
      refine X.dnil ?_
      exact X.gc [] hg rfl rfl rfl (ga rfl rfl) (gb_nil)
    refine X.draw (by kernel_rfl) ?_
    refine X.dop rfl rfl rfl rfl (by kernel_rfl) rfl rfl ?_
    refine X.dcall (ok_law03_of 0 50 100 150 100 150) rfl rfl rfl (by kernel_rfl) rfl (.cons (.shut (n := 9) rfl) (.cons (.shut (n := 9) rfl) (.cons (.shut (n := 9) rfl) (.cons (.shut (n := 9) rfl) (.cons (.shut (n := 9) rfl) (.cons (.shut (n := 9) rfl) .nil)))))) ?_
    refine X.dcall (ok_ref03_SameLoads h_23) rfl rfl rfl (by kernel_rfl) rfl (.cons (.shut (n := 9) rfl) (.cons (.shut (n := 9) rfl) .nil)) ?_
    refine X.dop rfl rfl rfl rfl (by kernel_rfl) rfl rfl ?_
    iterate 2 refine X.doff (X.off_t rfl rfl rfl h_26) (by kernel_rfl) rfl ?_
    refine X.dop rfl (X.pickand_f (y := !y6.2.1) rfl h_26 rfl) rfl rfl (by kernel_rfl) rfl rfl ?_
    refine X.dop rfl rfl rfl rfl (by kernel_rfl) rfl rfl ?_
    iterate 3 refine X.doff (X.off_t rfl rfl rfl (X.and_ff h_26)) (by kernel_rfl) rfl ?_
    refine X.dop rfl (X.pickand_f (y := y10) rfl (X.and_ff h_26) rfl) rfl rfl (by kernel_rfl) rfl rfl ?_
    refine X.dop rfl rfl rfl rfl (by kernel_rfl) rfl rfl ?_
    iterate 3 refine X.doff (X.off_t rfl rfl rfl (X.and_ff (X.and_ff h_26))) (by kernel_rfl) rfl ?_
    refine X.dop rfl (X.pickand_f (y := decide ((y7.1.length : Int) = 4)) rfl (X.and_ff (X.and_ff h_26)) rfl) rfl rfl (by kernel_rfl) rfl rfl ?_
    refine X.dop rfl rfl rfl rfl (by kernel_rfl) rfl rfl ?_
    iterate 3 refine X.doff (X.off_t rfl rfl rfl (X.and_ff (X.and_ff (X.and_ff h_26)))) (by kernel_rfl) rfl ?_
    refine X.dop rfl (X.pickand_f (y := y11) rfl (X.and_ff (X.and_ff (X.and_ff h_26))) rfl) rfl rfl (by kernel_rfl) rfl rfl ?_
    refine X.dop rfl rfl rfl rfl (by kernel_rfl) rfl rfl ?_
    refine X.dnil ?_
    exact X.gc [] hg rfl rfl rfl (ga rfl rfl) (gb_nil)
  refine X.sq ?_
  refine X.mid [(0, (V.b ((((((decide (y.1 = (-5000))) && (decide (y1.1 = (⟨760, 7⟩ : api_Frac)))) && (decide (y2.1 = (⟨615, 14⟩ : api_Frac)))) && (decide (y3.1 = (⟨(⟨0, 0⟩ : api_Span), (⟨500, 500⟩ : api_Span)⟩ : api_Draughts)))) && (decide (y4.1.Value = 550))) && ((((y9 && (!y6.2.1)) && y10) && (decide ((y7.1.length : Int) = 4))) && y11))))] ?_ ?_
  · intro hg
    refine X.split (decide (y.1 = (-5000))) (fun h_30 => ?_) (fun h_30 => ?_)
    · refine X.split (((decide (y.1 = (-5000))) && (decide (y1.1 = (⟨760, 7⟩ : api_Frac))))) (fun h_31 => ?_) (fun h_31 => ?_)
      · refine X.split ((((decide (y.1 = (-5000))) && (decide (y1.1 = (⟨760, 7⟩ : api_Frac)))) && (decide (y2.1 = (⟨615, 14⟩ : api_Frac))))) (fun h_32 => ?_) (fun h_32 => ?_)
        · refine X.split (((((decide (y.1 = (-5000))) && (decide (y1.1 = (⟨760, 7⟩ : api_Frac)))) && (decide (y2.1 = (⟨615, 14⟩ : api_Frac)))) && (decide (y3.1 = (⟨(⟨0, 0⟩ : api_Span), (⟨500, 500⟩ : api_Span)⟩ : api_Draughts))))) (fun h_33 => ?_) (fun h_33 => ?_)
          · refine X.split ((((((decide (y.1 = (-5000))) && (decide (y1.1 = (⟨760, 7⟩ : api_Frac)))) && (decide (y2.1 = (⟨615, 14⟩ : api_Frac)))) && (decide (y3.1 = (⟨(⟨0, 0⟩ : api_Span), (⟨500, 500⟩ : api_Span)⟩ : api_Draughts)))) && (decide (y4.1.Value = 550)))) (fun h_34 => ?_) (fun h_34 => ?_)
            · iterate 2 refine X.q rfl ?_
              refine X.opR (X.on_t rfl rfl rfl h_34) rfl rfl ?_
              refine X.opR rfl (X.pickand_t (y := ((((y9 && (!y6.2.1)) && y10) && (decide ((y7.1.length : Int) = 4))) && y11)) rfl h_34 rfl) rfl ?_
              refine X.q rfl ?_
              refine GS.opsNil ?_
              exact X.norm _ hg rfl (sr rfl)
            iterate 2 refine X.q rfl ?_
            refine X.off (X.off_t rfl rfl rfl h_34) rfl ?_
            refine X.opR rfl (X.pickand_f (y := ((((y9 && (!y6.2.1)) && y10) && (decide ((y7.1.length : Int) = 4))) && y11)) rfl h_34 rfl) rfl ?_
            refine X.q rfl ?_
            refine GS.opsNil ?_
            exact X.norm _ hg rfl (sr rfl)
          iterate 2 refine X.q rfl ?_
          refine X.off (X.off_t rfl rfl rfl (X.and_ff h_33)) rfl ?_
          refine X.opR rfl (X.pickand_f (y := ((((y9 && (!y6.2.1)) && y10) && (decide ((y7.1.length : Int) = 4))) && y11)) rfl (X.and_ff h_33) rfl) rfl ?_
          refine X.q rfl ?_
          refine GS.opsNil ?_
          exact X.norm _ hg rfl (sr rfl)
        iterate 2 refine X.q rfl ?_
        refine X.off (X.off_t rfl rfl rfl (X.and_ff (X.and_ff h_32))) rfl ?_
        refine X.opR rfl (X.pickand_f (y := ((((y9 && (!y6.2.1)) && y10) && (decide ((y7.1.length : Int) = 4))) && y11)) rfl (X.and_ff (X.and_ff h_32)) rfl) rfl ?_
        refine X.q rfl ?_
        refine GS.opsNil ?_
        exact X.norm _ hg rfl (sr rfl)
      iterate 2 refine X.q rfl ?_
      refine X.off (X.off_t rfl rfl rfl (X.and_ff (X.and_ff (X.and_ff h_31)))) rfl ?_
      refine X.opR rfl (X.pickand_f (y := ((((y9 && (!y6.2.1)) && y10) && (decide ((y7.1.length : Int) = 4))) && y11)) rfl (X.and_ff (X.and_ff (X.and_ff h_31))) rfl) rfl ?_
      refine X.q rfl ?_
      refine GS.opsNil ?_
      exact X.norm _ hg rfl (sr rfl)
    iterate 2 refine X.q rfl ?_
    refine X.off (X.off_t rfl rfl rfl (X.and_ff (X.and_ff (X.and_ff (X.and_ff h_30))))) rfl ?_
    refine X.opR rfl (X.pickand_f (y := ((((y9 && (!y6.2.1)) && y10) && (decide ((y7.1.length : Int) = 4))) && y11)) rfl (X.and_ff (X.and_ff (X.and_ff (X.and_ff h_30)))) rfl) rfl ?_
    refine X.q rfl ?_
    refine GS.opsNil ?_
    exact X.norm _ hg rfl (sr rfl)
  have hE := Option.some.inj hM
  subst hE
  exact GS.ret ⟨_, rfl, ⟨30, rfl⟩⟩

set_option maxHeartbeats 4000000 in
theorem ok_law03_Inside {l : api_Load} {by_ : (List Int)} {r : (List Int) × Bool} (hM : law03_Inside l by_ = some r) : Ct Try.prog 30 [(e_api_Load l), (V.sl (List.map (fun x => V.lit (.int .u16 x)) by_))] (V.tup [(V.sl (List.map V.i r.1)), (V.b r.2)]) := by
  refine ct_of_gs CC_ok rfl ?_
  unfold law03_Inside at hM
  refine X.sq ?_
  refine X.opW rfl rfl rfl rfl ?_
  iterate 2 refine X.q rfl ?_
  refine X.nq ?_
  refine X.q rfl ?_
  refine X.nq ?_
  refine X.q rfl ?_
  refine GS.opsNil ?_
  refine GS.seq ?_
  refine X.sq ?_
  iterate 2 refine X.q rfl ?_
  refine X.opR rfl (X.lenF rfl rfl rfl) rfl ?_
  refine X.q rfl ?_
  refine GS.opsNil ?_
  refine X.join (τ := Int × (List Int)) (fun v => law03_Inside_j1 l v.1 v.2 = some r) (fun v => ⟨[(2, (V.ptr 0 0 0)), (6, (ovl 1 v.2)), (7, (V.i v.1))], [.rows 3 [(e_api_Load l)], obl 1 V.i v.2], 0, none, 109⟩) ?_ ?_
  · rintro ⟨all, l1⟩ hM
    replace hM : law03_Inside_j1 l all l1 = some r := hM
    unfold law03_Inside_j1 at hM
    refine GS.seq ?_
    refine X.sq ?_
    iterate 2 refine X.q rfl ?_
    refine X.opR rfl (X.lenF rfl rfl rfl) rfl ?_
    refine X.q rfl ?_
    refine GS.opsNil ?_
    refine X.join (τ := Int × (List Int)) (fun v => law03_Inside_j2 l v.1 v.2 = some r) (fun v => ⟨[(2, (V.ptr 0 0 0)), (6, (ovl 1 v.2)), (7, (V.i v.1))], [.rows 3 [(e_api_Load l)], obl 1 V.i v.2], 0, none, 109⟩) ?_ ?_
    · rintro ⟨all1, l2⟩ hM
      replace hM : law03_Inside_j2 l all1 l2 = some r := hM
      unfold law03_Inside_j2 at hM
      refine GS.seq ?_
      refine X.mid [(4, (ovl 1 l2)), (5, (V.b ((decide (l.All.Lo ≤ all1)) && (decide (all1 ≤ l.All.Hi)))))] ?_ ?_
      · intro hg
        refine X.split (decide (l.All.Lo ≤ all1)) (fun h_1 => ?_) (fun h_1 => ?_)
        · refine X.drawc (by kernel_rfl) rfl ?_
          iterate 7 refine X.cop rfl rfl rfl rfl ?_
          iterate 5 refine X.cop (X.on_t rfl rfl rfl h_1) rfl rfl rfl ?_
          refine X.cop rfl (X.pickand_t (y := decide (all1 ≤ l.All.Hi)) rfl h_1 rfl) rfl rfl ?_
          iterate 2 refine X.cop rfl rfl rfl rfl ?_
          refine X.cnil ?_
          exact X.norm _ hg rfl (sr rfl)
        refine X.drawc (by kernel_rfl) rfl ?_
        iterate 7 refine X.cop rfl rfl rfl rfl ?_
        iterate 5 refine X.coff (X.off_t rfl rfl rfl h_1) rfl rfl ?_
        refine X.cop rfl (X.pickand_f (y := decide (all1 ≤ l.All.Hi)) rfl h_1 rfl) rfl rfl ?_
        iterate 2 refine X.cop rfl rfl rfl rfl ?_
        refine X.cnil ?_
        exact X.norm _ hg rfl (sr rfl)
      have hE := Option.some.inj hM
      subst hE
      exact GS.ret ⟨_, rfl, FR.tup (.cons (FR.ovl (f := V.i) (l := l2) 9 rfl rfl (fun _ => rfl)) (.cons ⟨30, rfl⟩ .nil))⟩
    intro hj_2
    refine GS.block ?_
    refine X.gc [some 0, some 1] (X.loop (σ := (Int × Int × (List Int))) (fun v => ⟨[(2, (V.ptr 0 0 0)), (6, (ovl 1 v.2.2)), (7, (V.i v.1)), (52, (V.sl (List.map e_api_Span l.Holds))), (53, (V.i (l.Holds.length : Int))), (54, (V.i v.2.1))], [.rows 3 [(e_api_Load l)], obl 1 V.i v.2.2], 0, none, 109⟩) hM ?_ rfl) rfl rfl rfl (gk_cons rfl ⟨9, rfl⟩ (gk_cons rfl (rn_ovl rfl) (ga rfl rfl))) (gb9 rfl rfl rfl (gb_obl 9 rfl rfl (fun _ => rfl) gb_nil))
    rintro ⟨all2, x4, l3⟩ b_1 hM hc_3 hr_1
    rw [law03_Inside_b3] at hM
    refine X.sq ?_
    refine X.q rfl ?_
    refine GS.opsNil ?_
    refine GS.seq ?_
    refine X.cond rfl (fun h_2 => ?_) (fun h_2 => ?_)
    · replace hM := ite_t h_2 hM
      refine GS.skip ?_
      refine GS.seq ?_
      refine GS.block ?_
      refine GS.seq ?_
      obtain ⟨x, h_3, hM⟩ := bind_of hM
      refine GS.region ?_
      refine X.q rfl ?_
      refine X.opR rfl (X.indexF (f := e_api_Span) h_3 (fun _ => rfl) rfl rfl rfl rfl) rfl ?_
      refine X.opR rfl (X.loadF h_3 rfl rfl rfl) rfl ?_
      refine X.opW rfl rfl rfl rfl ?_
      refine X.q rfl ?_
      refine X.op0W rfl rfl rfl ?_
      refine GS.opsNil ?_
      refine GS.seq ?_
      obtain ⟨x1, h_4, hM⟩ := bind_of hM
      refine X.drawc (by kernel_rfl) rfl ?_
      iterate 6 refine X.cop rfl rfl rfl rfl ?_
      refine X.cop rfl (X.indexN h_4 rfl rfl rfl rfl rfl) rfl rfl ?_
      refine X.cop rfl (X.loadN h_4 rfl rfl rfl rfl) rfl rfl ?_
      iterate 4 refine X.cop rfl rfl rfl rfl ?_
      refine X.cop rfl (X.subE rfl rfl) rfl rfl ?_
      refine X.cop rfl (X.maxE rfl rfl) rfl rfl ?_
      refine X.cop rfl (X.addE rfl rfl) rfl rfl ?_
      iterate 4 refine X.cop rfl rfl rfl rfl ?_
      refine X.cop rfl (X.subE rfl rfl) rfl rfl ?_
      refine X.cop rfl (X.maxE rfl rfl) rfl rfl ?_
      refine X.cop rfl (X.subE rfl rfl) rfl rfl ?_
      refine X.cop rfl (X.minE rfl rfl) rfl rfl ?_
      refine X.cop rfl (X.maxE rfl rfl) rfl rfl ?_
      refine X.cop rfl rfl rfl rfl ?_
      refine X.cnil ?_
      refine X.norm [(2, (V.ptr 0 0 0)), (6, (ovl 1 l3)), (7, (V.i all2)), (11, (V.i x4)), (13, (V.i (max x.Lo (min x.Hi (w64 ((w64 (x1 + (max 0 (w64 (l.All.Lo - all2))))) - (max 0 (w64 (all2 - l.All.Hi))))))))), (52, (V.sl (List.map e_api_Span l.Holds))), (53, (V.i (l.Holds.length : Int))), (54, (V.i x4))] ?_ rfl (sr rfl)
      obtain ⟨x2, h_5, hM⟩ := bind_of hM
      obtain ⟨x3, h_6, hM⟩ := bind_of hM
      refine GS.region ?_
      iterate 5 refine X.q rfl ?_
      refine X.opR rfl (X.addE rfl rfl) rfl ?_
      iterate 2 refine X.q rfl ?_
      refine X.opR rfl (X.indexN h_5 rfl rfl rfl rfl rfl) rfl ?_
      refine X.opR rfl (X.loadN h_5 rfl rfl rfl rfl) rfl ?_
      refine X.opR rfl (X.subE rfl rfl) rfl ?_
      refine X.opR rfl (X.indexN h_6 rfl rfl rfl rfl rfl) rfl ?_
      refine X.op0W rfl (X.storeN (b := max x.Lo (min x.Hi (w64 ((w64 (x1 + (max 0 (w64 (l.All.Lo - all2))))) - (max 0 (w64 (all2 - l.All.Hi))))))) h_6 rfl rfl rfl rfl rfl rfl rfl) rfl ?_
      refine X.q rfl ?_
      refine GS.opsNil ?_
      refine GS.endB ?_
      refine GS.region ?_
      refine X.opR rfl (X.addE rfl rfl) rfl ?_
      refine X.q rfl ?_
      refine GS.opsNil ?_
      have hE := Option.some.inj hM
      exact X.gc [some 0, some 1] (hc_3 (w64 ((w64 (all2 + (max x.Lo (min x.Hi (w64 ((w64 (x1 + (max 0 (w64 (l.All.Lo - all2))))) - (max 0 (w64 (all2 - l.All.Hi))))))))) - x2), w64 (x4 + 1), (put l3 x4 (max x.Lo (min x.Hi (w64 ((w64 (x1 + (max 0 (w64 (l.All.Lo - all2))))) - (max 0 (w64 (all2 - l.All.Hi))))))))) hE.symm) rfl rfl rfl (gk_cons rfl ⟨9, rfl⟩ (gk_cons rfl (rv_eq X.ovl_put (rn_ovl rfl)) (ga rfl rfl))) (gb9 rfl rfl rfl (gb_obl 9 rfl rfl (fun _ => rfl) gb_nil))
    replace hM := ite_f h_2 hM
    refine GS.exit rfl ?_
    obtain ⟨y_1, hM, hy⟩ := map_of hM
    rw [hr_1 _ hy.symm] at hM
    exact X.gc [some 0, some 1] (hj_2 (all2, l3) hM) rfl rfl rfl (gk_cons rfl ⟨9, rfl⟩ (gk_cons rfl (rn_ovl rfl) (ga rfl rfl))) (gb9 rfl rfl rfl (gb_obl 9 rfl rfl (fun _ => rfl) gb_nil))
  intro hj_1
  refine GS.block ?_
  refine X.gc [some 0, none] (X.loop (σ := (Int × Int × (List Int))) (fun v => ⟨[(1, (V.sl (List.map (fun x => V.lit (.int .u16 x)) by_))), (2, (V.ptr 0 0 0)), (6, (ovl 1 v.2.2)), (7, (V.i v.1)), (15, (V.sl (List.map e_api_Span l.Holds))), (16, (V.i (l.Holds.length : Int))), (17, (V.i v.2.1))], [.rows 3 [(e_api_Load l)], obl 1 V.i v.2.2], 0, none, 109⟩) hM ?_ rfl) rfl rfl rfl (ga rfl rfl) (gb9 rfl rfl rfl (gb_pad' rfl gb_nil))
  rintro ⟨all3, x7, l5⟩ b_1 hM hc_4 hr_1
  rw [law03_Inside_b4] at hM
  refine X.sq ?_
  refine X.q rfl ?_
  refine GS.opsNil ?_
  refine GS.seq ?_
  refine X.cond rfl (fun h_7 => ?_) (fun h_7 => ?_)
  · replace hM := ite_t h_7 hM
    refine GS.skip ?_
    refine GS.seq ?_
    refine GS.block ?_
    refine GS.seq ?_
    obtain ⟨x5, h_8, hM⟩ := bind_of hM
    refine GS.region ?_
    refine X.q rfl ?_
    refine X.opR rfl (X.indexF (f := e_api_Span) h_8 (fun _ => rfl) rfl rfl rfl rfl) rfl ?_
    refine X.opR rfl (X.loadF h_8 rfl rfl rfl) rfl ?_
    refine X.opW rfl rfl rfl rfl ?_
    refine X.q rfl ?_
    refine X.op0W rfl rfl rfl ?_
    refine X.nq ?_
    iterate 3 refine X.q rfl ?_
    refine GS.opsNil ?_
    refine GS.seq ?_
    refine X.sq ?_
    iterate 2 refine X.q rfl ?_
    refine X.opR rfl (X.lenF rfl rfl rfl) rfl ?_
    refine X.q rfl ?_
    refine GS.opsNil ?_
    refine X.join (τ := Int) (fun v => law03_Inside_j5 all3 x7 l5 v = some b_1) (fun v => ⟨[(1, (V.sl (List.map (fun x => V.lit (.int .u16 x)) by_))), (2, (V.ptr 0 0 0)), (6, (ovl 1 l5)), (7, (V.i all3)), (10, (V.i v)), (15, (V.sl (List.map e_api_Span l.Holds))), (16, (V.i (l.Holds.length : Int))), (17, (V.i x7))], [.rows 3 [(e_api_Load l)], obl 1 V.i l5], 0, none, 109⟩) ?_ ?_
    · intro n hM
      replace hM : law03_Inside_j5 all3 x7 l5 n = some b_1 := hM
      unfold law03_Inside_j5 at hM
      obtain ⟨l4, h_9, hM⟩ := bind_of hM
      refine GS.region ?_
      iterate 2 refine X.q rfl ?_
      refine X.opW rfl rfl rfl rfl ?_
      refine X.appN (f := V.i) h_9 (fun _ => rfl) (by rfl) (by rfl) (by rfl) (by rfl) (by rfl) (by rfl) (by rfl) (by rfl) (by rfl) (by rfl) (by rfl) (by exact rfl) (by rfl) (by rfl) ?_
      iterate 2 refine X.q rfl ?_
      refine X.opR rfl (X.addE rfl rfl) rfl ?_
      iterate 2 refine X.q rfl ?_
      refine GS.opsNil ?_
      refine GS.endB ?_
      refine GS.region ?_
      refine X.opR rfl (X.addE rfl rfl) rfl ?_
      refine X.q rfl ?_
      refine GS.opsNil ?_
      have hE := Option.some.inj hM
      exact X.gc [some 0, some 3] (hc_4 (w64 (all3 + n), w64 (x7 + 1), l4) hE.symm) rfl rfl rfl (gk_cons rfl ⟨9, rfl⟩ (gk_cons rfl ⟨9, rfl⟩ (gk_cons rfl (rv_ne (app_ne h_9) rfl) (ga rfl rfl)))) (gb9 rfl rfl rfl (gb_obl' 9 (app_ne h_9) rfl rfl (fun _ => rfl) gb_nil))
    intro hj_5
    refine X.cond rfl (fun h_10 => ?_) (fun h_10 => ?_)
    · replace hM := ite_t h_10 hM
      obtain ⟨x6, h_11, hM⟩ := bind_of hM
      obtain ⟨q, h_12, hM⟩ := bind_of hM
      refine X.drawc (by kernel_rfl) rfl ?_
      iterate 4 refine X.cop rfl rfl rfl rfl ?_
      refine X.cop rfl (X.indexF (f := (fun x => V.lit (.int .u16 x))) h_11 (fun _ => rfl) rfl rfl rfl rfl) rfl rfl ?_
      refine X.cop rfl (X.loadF h_11 rfl rfl rfl) rfl rfl ?_
      refine X.cop rfl (X.convE rfl rfl rfl rfl) rfl rfl ?_
      iterate 4 refine X.cop rfl rfl rfl rfl ?_
      refine X.cop rfl (X.subE rfl rfl) rfl rfl ?_
      refine X.cop rfl (X.addE rfl rfl) rfl rfl ?_
      refine X.cop rfl (X.remE h_12 rfl rfl) rfl rfl ?_
      refine X.cop rfl (X.addE rfl rfl) rfl rfl ?_
      refine X.cop rfl rfl rfl rfl ?_
      refine X.cnil ?_
      refine X.norm [(1, (V.sl (List.map (fun x => V.lit (.int .u16 x)) by_))), (2, (V.ptr 0 0 0)), (6, (ovl 1 l5)), (7, (V.i all3)), (10, (V.i (w64 (x5.Lo + q)))), (15, (V.sl (List.map e_api_Span l.Holds))), (16, (V.i (l.Holds.length : Int))), (17, (V.i x7))] ?_ rfl (sr rfl)
      exact X.gc [some 0, some 1] (hj_5 (w64 (x5.Lo + q)) hM) rfl rfl rfl (gk_cons rfl ⟨9, rfl⟩ (gk_cons rfl ⟨9, rfl⟩ (gk_cons rfl (rn_ovl rfl) (ga rfl rfl)))) (gb9 rfl rfl rfl (gb_obl 9 rfl rfl (fun _ => rfl) gb_nil))
    replace hM := ite_f h_10 hM
    refine GS.skip ?_
    exact X.gc [some 0, some 1] (hj_5 x5.Lo hM) rfl rfl rfl (gk_cons rfl ⟨9, rfl⟩ (gk_cons rfl ⟨9, rfl⟩ (gk_cons rfl (rn_ovl rfl) (ga rfl rfl)))) (gb9 rfl rfl rfl (gb_obl 9 rfl rfl (fun _ => rfl) gb_nil))
  replace hM := ite_f h_7 hM
  refine GS.exit rfl ?_
  obtain ⟨y_1, hM, hy⟩ := map_of hM
  rw [hr_1 _ hy.symm] at hM
  exact X.gc [some 0, some 1] (hj_1 (all3, l5) hM) rfl rfl rfl (gk_cons rfl ⟨9, rfl⟩ (gk_cons rfl (rn_ovl rfl) (ga rfl rfl))) (gb9 rfl rfl rfl (gb_obl 9 rfl rfl (fun _ => rfl) gb_nil))

set_option maxHeartbeats 4000000 in
theorem own_law03_Inside {l : api_Load} {by_ : (List Int)} {r : (List Int) × Bool} (hM : law03_Inside l by_ = some r) : OwnCt Try.prog 30 [(e_api_Load l), (V.sl (List.map (fun x => V.lit (.int .u16 x)) by_))] (fun z => (V.tup [(ovlz z 0 r.1), (V.b r.2)])) (fun z => (oblz z 1 V.i r.1)) := by
  refine own_of_gs CC_ok rfl ?_
  unfold law03_Inside at hM
  refine X.sq ?_
  refine X.opW rfl rfl rfl rfl ?_
  iterate 2 refine X.q rfl ?_
  refine X.nq ?_
  refine X.q rfl ?_
  refine X.nq ?_
  refine X.q rfl ?_
  refine GS.opsNil ?_
  refine GS.seq ?_
  refine X.sq ?_
  iterate 2 refine X.q rfl ?_
  refine X.opR rfl (X.lenF rfl rfl rfl) rfl ?_
  refine X.q rfl ?_
  refine GS.opsNil ?_
  refine X.join (τ := Int × (List Int)) (fun v => law03_Inside_j1 l v.1 v.2 = some r) (fun v => ⟨[(2, (V.ptr 0 0 0)), (6, (ovl 1 v.2)), (7, (V.i v.1))], [.rows 3 [(e_api_Load l)], obl 1 V.i v.2], 0, none, 109⟩) ?_ ?_
  · rintro ⟨all, l1⟩ hM
    replace hM : law03_Inside_j1 l all l1 = some r := hM
    unfold law03_Inside_j1 at hM
    refine GS.seq ?_
    refine X.sq ?_
    iterate 2 refine X.q rfl ?_
    refine X.opR rfl (X.lenF rfl rfl rfl) rfl ?_
    refine X.q rfl ?_
    refine GS.opsNil ?_
    refine X.join (τ := Int × (List Int)) (fun v => law03_Inside_j2 l v.1 v.2 = some r) (fun v => ⟨[(2, (V.ptr 0 0 0)), (6, (ovl 1 v.2)), (7, (V.i v.1))], [.rows 3 [(e_api_Load l)], obl 1 V.i v.2], 0, none, 109⟩) ?_ ?_
    · rintro ⟨all1, l2⟩ hM
      replace hM : law03_Inside_j2 l all1 l2 = some r := hM
      unfold law03_Inside_j2 at hM
      refine GS.seq ?_
      refine X.mid [(4, (ovl 1 l2)), (5, (V.b ((decide (l.All.Lo ≤ all1)) && (decide (all1 ≤ l.All.Hi)))))] ?_ ?_
      · intro hg
        refine X.split (decide (l.All.Lo ≤ all1)) (fun h_1 => ?_) (fun h_1 => ?_)
        · refine X.drawc (by kernel_rfl) rfl ?_
          iterate 7 refine X.cop rfl rfl rfl rfl ?_
          iterate 5 refine X.cop (X.on_t rfl rfl rfl h_1) rfl rfl rfl ?_
          refine X.cop rfl (X.pickand_t (y := decide (all1 ≤ l.All.Hi)) rfl h_1 rfl) rfl rfl ?_
          iterate 2 refine X.cop rfl rfl rfl rfl ?_
          refine X.cnil ?_
          exact X.norm _ hg rfl (sr rfl)
        refine X.drawc (by kernel_rfl) rfl ?_
        iterate 7 refine X.cop rfl rfl rfl rfl ?_
        iterate 5 refine X.coff (X.off_t rfl rfl rfl h_1) rfl rfl ?_
        refine X.cop rfl (X.pickand_f (y := decide (all1 ≤ l.All.Hi)) rfl h_1 rfl) rfl rfl ?_
        iterate 2 refine X.cop rfl rfl rfl rfl ?_
        refine X.cnil ?_
        exact X.norm _ hg rfl (sr rfl)
      have hE := Option.some.inj hM
      subst hE
      refine X.gc [some 1] (H' := [obl 1 V.i l2]) (K' := [(4, (ovl 0 l2)), (5, (V.b ((decide (l.All.Lo ≤ all1)) && (decide (all1 ≤ l.All.Hi)))))]) ?_ rfl rfl rfl (gk_cons rfl (rn_ovl rfl) (ga rfl rfl)) (gb_obl 9 rfl rfl (fun _ => rfl) gb_nil)
      exact GS.ret ⟨true, rfl, rfl⟩
    intro hj_2
    refine GS.block ?_
    refine X.gc [some 0, some 1] (X.loop (σ := (Int × Int × (List Int))) (fun v => ⟨[(2, (V.ptr 0 0 0)), (6, (ovl 1 v.2.2)), (7, (V.i v.1)), (52, (V.sl (List.map e_api_Span l.Holds))), (53, (V.i (l.Holds.length : Int))), (54, (V.i v.2.1))], [.rows 3 [(e_api_Load l)], obl 1 V.i v.2.2], 0, none, 109⟩) hM ?_ rfl) rfl rfl rfl (gk_cons rfl ⟨9, rfl⟩ (gk_cons rfl (rn_ovl rfl) (ga rfl rfl))) (gb9 rfl rfl rfl (gb_obl 9 rfl rfl (fun _ => rfl) gb_nil))
    rintro ⟨all2, x4, l3⟩ b_1 hM hc_3 hr_1
    rw [law03_Inside_b3] at hM
    refine X.sq ?_
    refine X.q rfl ?_
    refine GS.opsNil ?_
    refine GS.seq ?_
    refine X.cond rfl (fun h_2 => ?_) (fun h_2 => ?_)
    · replace hM := ite_t h_2 hM
      refine GS.skip ?_
      refine GS.seq ?_
      refine GS.block ?_
      refine GS.seq ?_
      obtain ⟨x, h_3, hM⟩ := bind_of hM
      refine GS.region ?_
      refine X.q rfl ?_
      refine X.opR rfl (X.indexF (f := e_api_Span) h_3 (fun _ => rfl) rfl rfl rfl rfl) rfl ?_
      refine X.opR rfl (X.loadF h_3 rfl rfl rfl) rfl ?_
      refine X.opW rfl rfl rfl rfl ?_
      refine X.q rfl ?_
      refine X.op0W rfl rfl rfl ?_
      refine GS.opsNil ?_
      refine GS.seq ?_
      obtain ⟨x1, h_4, hM⟩ := bind_of hM
      refine X.drawc (by kernel_rfl) rfl ?_
      iterate 6 refine X.cop rfl rfl rfl rfl ?_
      refine X.cop rfl (X.indexN h_4 rfl rfl rfl rfl rfl) rfl rfl ?_
      refine X.cop rfl (X.loadN h_4 rfl rfl rfl rfl) rfl rfl ?_
      iterate 4 refine X.cop rfl rfl rfl rfl ?_
      refine X.cop rfl (X.subE rfl rfl) rfl rfl ?_
      refine X.cop rfl (X.maxE rfl rfl) rfl rfl ?_
      refine X.cop rfl (X.addE rfl rfl) rfl rfl ?_
      iterate 4 refine X.cop rfl rfl rfl rfl ?_
      refine X.cop rfl (X.subE rfl rfl) rfl rfl ?_
      refine X.cop rfl (X.maxE rfl rfl) rfl rfl ?_
      refine X.cop rfl (X.subE rfl rfl) rfl rfl ?_
      refine X.cop rfl (X.minE rfl rfl) rfl rfl ?_
      refine X.cop rfl (X.maxE rfl rfl) rfl rfl ?_
      refine X.cop rfl rfl rfl rfl ?_
      refine X.cnil ?_
      refine X.norm [(2, (V.ptr 0 0 0)), (6, (ovl 1 l3)), (7, (V.i all2)), (11, (V.i x4)), (13, (V.i (max x.Lo (min x.Hi (w64 ((w64 (x1 + (max 0 (w64 (l.All.Lo - all2))))) - (max 0 (w64 (all2 - l.All.Hi))))))))), (52, (V.sl (List.map e_api_Span l.Holds))), (53, (V.i (l.Holds.length : Int))), (54, (V.i x4))] ?_ rfl (sr rfl)
      obtain ⟨x2, h_5, hM⟩ := bind_of hM
      obtain ⟨x3, h_6, hM⟩ := bind_of hM
      refine GS.region ?_
      iterate 5 refine X.q rfl ?_
      refine X.opR rfl (X.addE rfl rfl) rfl ?_
      iterate 2 refine X.q rfl ?_
      refine X.opR rfl (X.indexN h_5 rfl rfl rfl rfl rfl) rfl ?_
      refine X.opR rfl (X.loadN h_5 rfl rfl rfl rfl) rfl ?_
      refine X.opR rfl (X.subE rfl rfl) rfl ?_
      refine X.opR rfl (X.indexN h_6 rfl rfl rfl rfl rfl) rfl ?_
      refine X.op0W rfl (X.storeN (b := max x.Lo (min x.Hi (w64 ((w64 (x1 + (max 0 (w64 (l.All.Lo - all2))))) - (max 0 (w64 (all2 - l.All.Hi))))))) h_6 rfl rfl rfl rfl rfl rfl rfl) rfl ?_
      refine X.q rfl ?_
      refine GS.opsNil ?_
      refine GS.endB ?_
      refine GS.region ?_
      refine X.opR rfl (X.addE rfl rfl) rfl ?_
      refine X.q rfl ?_
      refine GS.opsNil ?_
      have hE := Option.some.inj hM
      exact X.gc [some 0, some 1] (hc_3 (w64 ((w64 (all2 + (max x.Lo (min x.Hi (w64 ((w64 (x1 + (max 0 (w64 (l.All.Lo - all2))))) - (max 0 (w64 (all2 - l.All.Hi))))))))) - x2), w64 (x4 + 1), (put l3 x4 (max x.Lo (min x.Hi (w64 ((w64 (x1 + (max 0 (w64 (l.All.Lo - all2))))) - (max 0 (w64 (all2 - l.All.Hi))))))))) hE.symm) rfl rfl rfl (gk_cons rfl ⟨9, rfl⟩ (gk_cons rfl (rv_eq X.ovl_put (rn_ovl rfl)) (ga rfl rfl))) (gb9 rfl rfl rfl (gb_obl 9 rfl rfl (fun _ => rfl) gb_nil))
    replace hM := ite_f h_2 hM
    refine GS.exit rfl ?_
    obtain ⟨y_1, hM, hy⟩ := map_of hM
    rw [hr_1 _ hy.symm] at hM
    exact X.gc [some 0, some 1] (hj_2 (all2, l3) hM) rfl rfl rfl (gk_cons rfl ⟨9, rfl⟩ (gk_cons rfl (rn_ovl rfl) (ga rfl rfl))) (gb9 rfl rfl rfl (gb_obl 9 rfl rfl (fun _ => rfl) gb_nil))
  intro hj_1
  refine GS.block ?_
  refine X.gc [some 0, none] (X.loop (σ := (Int × Int × (List Int))) (fun v => ⟨[(1, (V.sl (List.map (fun x => V.lit (.int .u16 x)) by_))), (2, (V.ptr 0 0 0)), (6, (ovl 1 v.2.2)), (7, (V.i v.1)), (15, (V.sl (List.map e_api_Span l.Holds))), (16, (V.i (l.Holds.length : Int))), (17, (V.i v.2.1))], [.rows 3 [(e_api_Load l)], obl 1 V.i v.2.2], 0, none, 109⟩) hM ?_ rfl) rfl rfl rfl (ga rfl rfl) (gb9 rfl rfl rfl (gb_pad' rfl gb_nil))
  rintro ⟨all3, x7, l5⟩ b_1 hM hc_4 hr_1
  rw [law03_Inside_b4] at hM
  refine X.sq ?_
  refine X.q rfl ?_
  refine GS.opsNil ?_
  refine GS.seq ?_
  refine X.cond rfl (fun h_7 => ?_) (fun h_7 => ?_)
  · replace hM := ite_t h_7 hM
    refine GS.skip ?_
    refine GS.seq ?_
    refine GS.block ?_
    refine GS.seq ?_
    obtain ⟨x5, h_8, hM⟩ := bind_of hM
    refine GS.region ?_
    refine X.q rfl ?_
    refine X.opR rfl (X.indexF (f := e_api_Span) h_8 (fun _ => rfl) rfl rfl rfl rfl) rfl ?_
    refine X.opR rfl (X.loadF h_8 rfl rfl rfl) rfl ?_
    refine X.opW rfl rfl rfl rfl ?_
    refine X.q rfl ?_
    refine X.op0W rfl rfl rfl ?_
    refine X.nq ?_
    iterate 3 refine X.q rfl ?_
    refine GS.opsNil ?_
    refine GS.seq ?_
    refine X.sq ?_
    iterate 2 refine X.q rfl ?_
    refine X.opR rfl (X.lenF rfl rfl rfl) rfl ?_
    refine X.q rfl ?_
    refine GS.opsNil ?_
    refine X.join (τ := Int) (fun v => law03_Inside_j5 all3 x7 l5 v = some b_1) (fun v => ⟨[(1, (V.sl (List.map (fun x => V.lit (.int .u16 x)) by_))), (2, (V.ptr 0 0 0)), (6, (ovl 1 l5)), (7, (V.i all3)), (10, (V.i v)), (15, (V.sl (List.map e_api_Span l.Holds))), (16, (V.i (l.Holds.length : Int))), (17, (V.i x7))], [.rows 3 [(e_api_Load l)], obl 1 V.i l5], 0, none, 109⟩) ?_ ?_
    · intro n hM
      replace hM : law03_Inside_j5 all3 x7 l5 n = some b_1 := hM
      unfold law03_Inside_j5 at hM
      obtain ⟨l4, h_9, hM⟩ := bind_of hM
      refine GS.region ?_
      iterate 2 refine X.q rfl ?_
      refine X.opW rfl rfl rfl rfl ?_
      refine X.appN (f := V.i) h_9 (fun _ => rfl) (by rfl) (by rfl) (by rfl) (by rfl) (by rfl) (by rfl) (by rfl) (by rfl) (by rfl) (by rfl) (by rfl) (by exact rfl) (by rfl) (by rfl) ?_
      iterate 2 refine X.q rfl ?_
      refine X.opR rfl (X.addE rfl rfl) rfl ?_
      iterate 2 refine X.q rfl ?_
      refine GS.opsNil ?_
      refine GS.endB ?_
      refine GS.region ?_
      refine X.opR rfl (X.addE rfl rfl) rfl ?_
      refine X.q rfl ?_
      refine GS.opsNil ?_
      have hE := Option.some.inj hM
      exact X.gc [some 0, some 3] (hc_4 (w64 (all3 + n), w64 (x7 + 1), l4) hE.symm) rfl rfl rfl (gk_cons rfl ⟨9, rfl⟩ (gk_cons rfl ⟨9, rfl⟩ (gk_cons rfl (rv_ne (app_ne h_9) rfl) (ga rfl rfl)))) (gb9 rfl rfl rfl (gb_obl' 9 (app_ne h_9) rfl rfl (fun _ => rfl) gb_nil))
    intro hj_5
    refine X.cond rfl (fun h_10 => ?_) (fun h_10 => ?_)
    · replace hM := ite_t h_10 hM
      obtain ⟨x6, h_11, hM⟩ := bind_of hM
      obtain ⟨q, h_12, hM⟩ := bind_of hM
      refine X.drawc (by kernel_rfl) rfl ?_
      iterate 4 refine X.cop rfl rfl rfl rfl ?_
      refine X.cop rfl (X.indexF (f := (fun x => V.lit (.int .u16 x))) h_11 (fun _ => rfl) rfl rfl rfl rfl) rfl rfl ?_
      refine X.cop rfl (X.loadF h_11 rfl rfl rfl) rfl rfl ?_
      refine X.cop rfl (X.convE rfl rfl rfl rfl) rfl rfl ?_
      iterate 4 refine X.cop rfl rfl rfl rfl ?_
      refine X.cop rfl (X.subE rfl rfl) rfl rfl ?_
      refine X.cop rfl (X.addE rfl rfl) rfl rfl ?_
      refine X.cop rfl (X.remE h_12 rfl rfl) rfl rfl ?_
      refine X.cop rfl (X.addE rfl rfl) rfl rfl ?_
      refine X.cop rfl rfl rfl rfl ?_
      refine X.cnil ?_
      refine X.norm [(1, (V.sl (List.map (fun x => V.lit (.int .u16 x)) by_))), (2, (V.ptr 0 0 0)), (6, (ovl 1 l5)), (7, (V.i all3)), (10, (V.i (w64 (x5.Lo + q)))), (15, (V.sl (List.map e_api_Span l.Holds))), (16, (V.i (l.Holds.length : Int))), (17, (V.i x7))] ?_ rfl (sr rfl)
      exact X.gc [some 0, some 1] (hj_5 (w64 (x5.Lo + q)) hM) rfl rfl rfl (gk_cons rfl ⟨9, rfl⟩ (gk_cons rfl ⟨9, rfl⟩ (gk_cons rfl (rn_ovl rfl) (ga rfl rfl)))) (gb9 rfl rfl rfl (gb_obl 9 rfl rfl (fun _ => rfl) gb_nil))
    replace hM := ite_f h_10 hM
    refine GS.skip ?_
    exact X.gc [some 0, some 1] (hj_5 x5.Lo hM) rfl rfl rfl (gk_cons rfl ⟨9, rfl⟩ (gk_cons rfl ⟨9, rfl⟩ (gk_cons rfl (rn_ovl rfl) (ga rfl rfl)))) (gb9 rfl rfl rfl (gb_obl 9 rfl rfl (fun _ => rfl) gb_nil))
  replace hM := ite_f h_7 hM
  refine GS.exit rfl ?_
  obtain ⟨y_1, hM, hy⟩ := map_of hM
  rw [hr_1 _ hy.symm] at hM
  exact X.gc [some 0, some 1] (hj_1 (all3, l5) hM) rfl rfl rfl (gk_cons rfl ⟨9, rfl⟩ (gk_cons rfl (rn_ovl rfl) (ga rfl rfl))) (gb9 rfl rfl rfl (gb_obl 9 rfl rfl (fun _ => rfl) gb_nil))

theorem ok_hull_fits {l : api_Load} {x : (List Int)} {r : Bool} (hM : hull_fits l x = some r) : Ct Try.prog 89 [(e_api_Load l), (V.sl (List.map V.i x))] (V.b r) := by
  refine ct_of_gs CC_ok rfl ?_
  unfold hull_fits at hM
  refine X.sq ?_
  refine X.opW rfl rfl rfl rfl ?_
  refine X.q rfl ?_
  refine GS.opsNil ?_
  refine GS.seq ?_
  refine X.sq ?_
  refine X.q rfl ?_
  refine X.opR rfl (X.lenF rfl rfl rfl) rfl ?_
  iterate 2 refine X.q rfl ?_
  refine X.opR rfl (X.lenF rfl rfl rfl) rfl ?_
  refine X.q rfl ?_
  refine GS.opsNil ?_
  refine X.cond rfl (fun h_1 => ?_) (fun h_1 => ?_)
  · replace hM := ite_t h_1 hM
    refine X.sq ?_
    refine X.q rfl ?_
    refine GS.opsNil ?_
    have hE := Option.some.inj hM
    subst hE
    exact GS.ret ⟨_, rfl, ⟨30, rfl⟩⟩
  replace hM := ite_f h_1 hM
  refine GS.skip ?_
  refine GS.seq ?_
  refine X.sq ?_
  refine X.q rfl ?_
  refine X.opR rfl (X.lenF rfl rfl rfl) rfl ?_
  refine X.q rfl ?_
  refine GS.opsNil ?_
  refine X.join (τ := Unit) (fun v => hull_fits_j1 l x = some r) (fun v => ⟨[(1, (V.sl (List.map V.i x))), (2, (V.ptr 0 0 0))], [.rows 3 [(e_api_Load l)]], 0, none, 45⟩) ?_ ?_
  · intro _ hM
    replace hM : hull_fits_j1 l x = some r := hM
    unfold hull_fits_j1 at hM
    refine GS.seq ?_
    obtain ⟨y, h_2, hM⟩ := bind_of hM
    refine X.drawc (by kernel_rfl) rfl ?_
    refine X.cop rfl rfl rfl rfl ?_
    refine X.ccall (ok_hull_sum h_2) rfl rfl rfl rfl (.cons (.shut (n := 9) rfl) .nil) ?_
    iterate 6 refine X.cop rfl rfl rfl rfl ?_
    refine X.ccall (ok_hull_within y l.All.Lo l.All.Hi) rfl rfl rfl rfl (.cons (.shut (n := 9) rfl) (.cons (.shut (n := 9) rfl) (.cons (.shut (n := 9) rfl) .nil))) ?_
    refine X.cop rfl rfl rfl rfl ?_
    refine X.cnil ?_
    refine X.norm [(4, (V.b (hull_within y l.All.Lo l.All.Hi)))] ?_ rfl (sr rfl)
    have hE := Option.some.inj hM
    subst hE
    exact GS.ret ⟨_, rfl, ⟨30, rfl⟩⟩
  intro hj_1
  refine GS.block ?_
  refine X.gc [some 0] (X.loop (σ := Int) (fun v => ⟨[(1, (V.sl (List.map V.i x))), (2, (V.ptr 0 0 0)), (13, (V.sl (List.map V.i x))), (14, (V.i (x.length : Int))), (15, (V.i v))], [.rows 3 [(e_api_Load l)]], 0, none, 45⟩) hM ?_ rfl) rfl rfl rfl (ga rfl rfl) (gb9 rfl rfl rfl gb_nil)
  intro x4 b_1 hM hc_2 hr_1
  rw [hull_fits_b2] at hM
  refine X.sq ?_
  refine X.q rfl ?_
  refine GS.opsNil ?_
  refine GS.seq ?_
  refine X.cond rfl (fun h_3 => ?_) (fun h_3 => ?_)
  · replace hM := ite_t h_3 hM
    refine GS.skip ?_
    refine GS.seq ?_
    refine GS.block ?_
    refine GS.seq ?_
    obtain ⟨x1, h_4, hM⟩ := bind_of hM
    refine GS.region ?_
    refine X.q rfl ?_
    refine X.opR rfl (X.indexF (f := V.i) h_4 (fun _ => rfl) rfl rfl rfl rfl) rfl ?_
    refine X.opR rfl (X.loadF h_4 rfl rfl rfl) rfl ?_
    iterate 2 refine X.q rfl ?_
    refine GS.opsNil ?_
    refine GS.seq ?_
    obtain ⟨x2, h_5, hM⟩ := bind_of hM
    obtain ⟨x3, h_6, hM⟩ := bind_of hM
    refine X.drawc (by kernel_rfl) rfl ?_
    iterate 4 refine X.cop rfl rfl rfl rfl ?_
    refine X.cop rfl (X.indexF (f := e_api_Span) h_5 (fun _ => rfl) rfl rfl rfl rfl) rfl rfl ?_
    refine X.cop rfl rfl rfl rfl ?_
    refine X.cop rfl (X.loadF h_5 rfl rfl rfl) rfl rfl ?_
    iterate 3 refine X.cop rfl rfl rfl rfl ?_
    refine X.cop rfl (X.indexF (f := e_api_Span) h_6 (fun _ => rfl) rfl rfl rfl rfl) rfl rfl ?_
    refine X.cop rfl rfl rfl rfl ?_
    refine X.cop rfl (X.loadF h_6 rfl rfl rfl) rfl rfl ?_
    refine X.ccall (ok_hull_within x1 x2.Lo x3.Hi) rfl rfl rfl rfl (.cons (.shut (n := 9) rfl) (.cons (.shut (n := 9) rfl) (.cons (.shut (n := 9) rfl) .nil))) ?_
    refine X.cop rfl rfl rfl rfl ?_
    refine X.cnil ?_
    refine X.norm [(1, (V.sl (List.map V.i x))), (2, (V.ptr 0 0 0)), (13, (V.sl (List.map V.i x))), (14, (V.i (x.length : Int))), (15, (V.i x4)), (34, (V.b (!(hull_within x1 x2.Lo x3.Hi))))] ?_ rfl (sr rfl)
    refine X.cond rfl (fun h_7 => ?_) (fun h_7 => ?_)
    · replace hM := ite_t h_7 hM
      refine X.sq ?_
      refine X.q rfl ?_
      refine GS.opsNil ?_
      have hE := Option.some.inj hM
      replace hE := hr_1 _ hE.symm
      subst hE
      exact GS.ret ⟨_, rfl, ⟨30, rfl⟩⟩
    replace hM := ite_f h_7 hM
    refine GS.skip ?_
    refine GS.endB ?_
    refine GS.region ?_
    refine X.opR rfl (X.addE rfl rfl) rfl ?_
    refine X.q rfl ?_
    refine GS.opsNil ?_
    have hE := Option.some.inj hM
    exact X.gc [some 0] (hc_2 (w64 (x4 + 1)) hE.symm) rfl rfl rfl (ga rfl rfl) (gb9 rfl rfl rfl gb_nil)
  replace hM := ite_f h_3 hM
  refine GS.exit rfl ?_
  obtain ⟨y_1, hM, hy⟩ := map_of hM
  rw [hr_1 _ hy.symm] at hM
  exact X.gc [some 0] (hj_1 () hM) rfl rfl rfl (ga rfl rfl) (gb9 rfl rfl rfl gb_nil)

theorem ok_hull_Fits {s : api_Ship} {l : api_Load} {x : (List Int)} {r : Bool} (hM : hull_Fits s l x = some r) : Ct Try.prog 27 [(e_api_Ship s), (e_api_Load l), (V.sl (List.map V.i x))] (V.b r) := by
  refine ct_of_gs CC_ok rfl ?_
  unfold hull_Fits at hM
  refine X.sq ?_
  iterate 2 refine X.opW rfl rfl rfl rfl ?_
  refine X.q rfl ?_
  refine GS.opsNil ?_
  refine GS.seq ?_
  obtain ⟨y, h_1, hM⟩ := bind_of hM
  obtain ⟨y1, h_2, hM⟩ := gb_of hM
  refine GS.region ?_
  refine X.mid [(6, (V.b ((decide (y = 0)) && y1)))] ?_ ?_
  · intro hg
    refine X.split (decide (y = 0)) (fun h_3 => ?_) (fun h_3 => ?_)
    · iterate 2 refine X.q rfl ?_
      refine X.call (ok_hull_CheckLoad h_1) rfl rfl rfl (.cons (.shut (n := 9) rfl) (.cons (.shut (n := 9) rfl) .nil)) ?_
      iterate 2 refine X.q rfl ?_
      iterate 2 refine X.opR (X.on_t rfl rfl rfl h_3) rfl rfl ?_
      refine X.call (ok_hull_fits (h_2 h_3)) (X.on_t rfl rfl rfl h_3) rfl rfl (.cons (.shut (n := 9) rfl) (.cons (.shut (n := 9) rfl) .nil)) ?_
      refine X.opR rfl (X.pickand_t (y := y1) rfl h_3 rfl) rfl ?_
      refine X.q rfl ?_
      refine GS.opsNil ?_
      exact X.norm _ hg rfl (sr rfl)
    iterate 2 refine X.q rfl ?_
    refine X.call (ok_hull_CheckLoad h_1) rfl rfl rfl (.cons (.shut (n := 9) rfl) (.cons (.shut (n := 9) rfl) .nil)) ?_
    iterate 2 refine X.q rfl ?_
    iterate 3 refine X.off (X.off_t rfl rfl rfl h_3) rfl ?_
    refine X.opR rfl (X.pickand_f (y := y1) rfl h_3 rfl) rfl ?_
    refine X.q rfl ?_
    refine GS.opsNil ?_
    exact X.norm _ hg rfl (sr rfl)
  have hE := Option.some.inj hM
  subst hE
  exact GS.ret ⟨_, rfl, ⟨30, rfl⟩⟩

set_option maxHeartbeats 4000000 in
theorem ok_law03_HullTaken {s : api_Ship} {l : api_Load} {by_ : (List Int)} {out : (List api_Span)} {some_ : (List Int)} {r : Bool} (hM : law03_HullTaken s l by_ out some_ = some r) : Ct Try.prog 6 [(e_api_Ship s), (e_api_Load l), (V.sl (List.map (fun x => V.lit (.int .u16 x)) by_)), (V.sl (List.map e_api_Span out)), (V.sl (List.map (fun x => V.lit (.int .u16 x)) some_))] (V.b r) := by
  refine ct_of_gs CC_ok rfl ?_
  unfold law03_HullTaken at hM
  refine X.sq ?_
  iterate 2 refine X.opW rfl rfl rfl rfl ?_
  refine X.q rfl ?_
  refine GS.opsNil ?_
  refine GS.seq ?_
  refine X.sq ?_
  refine X.mid [(2, (V.sl (List.map (fun x => V.lit (.int .u16 x)) by_))), (3, (V.sl (List.map e_api_Span out))), (4, (V.sl (List.map (fun x => V.lit (.int .u16 x)) some_))), (5, (V.ptr 0 0 0)), (6, (V.ptr 1 0 0)), (25, (V.b ((!(law03_short s l)) || (decide (20 < (out.length : Int))))))] ?_ ?_
  · intro hg
    refine X.split (!(law03_short s l)) (fun h_1 => ?_) (fun h_1 => ?_)
    · iterate 2 refine X.q rfl ?_
      refine X.call (ok_law03_short s l) rfl rfl rfl (.cons (.shut (n := 9) rfl) (.cons (.shut (n := 9) rfl) .nil)) ?_
      iterate 2 refine X.q rfl ?_
      iterate 3 refine X.off (X.off_f rfl rfl rfl h_1) rfl ?_
      refine X.opR rfl (X.pickor_t (y := decide (20 < (out.length : Int))) rfl h_1 rfl) rfl ?_
      refine GS.opsNil ?_
      exact X.norm _ hg rfl (sr rfl)
    iterate 2 refine X.q rfl ?_
    refine X.call (ok_law03_short s l) rfl rfl rfl (.cons (.shut (n := 9) rfl) (.cons (.shut (n := 9) rfl) .nil)) ?_
    iterate 2 refine X.q rfl ?_
    refine X.opR (X.on_f rfl rfl rfl h_1) rfl rfl ?_
    refine X.opR (X.on_f rfl rfl rfl h_1) (X.lenF rfl rfl rfl) rfl ?_
    refine X.opR (X.on_f rfl rfl rfl h_1) rfl rfl ?_
    refine X.opR rfl (X.pickor_f (y := decide (20 < (out.length : Int))) rfl h_1 rfl) rfl ?_
    refine GS.opsNil ?_
    exact X.norm _ hg rfl (sr rfl)
  refine X.cond rfl (fun h_2 => ?_) (fun h_2 => ?_)
  · replace hM := ite_t h_2 hM
    refine GS.seq ?_
    obtain ⟨y, h_3, hM⟩ := bind_of hM
    refine GS.region ?_
    refine X.call (ok_law03_sanity h_3) rfl rfl rfl .nil ?_
    refine X.q rfl ?_
    refine GS.opsNil ?_
    have hE := Option.some.inj hM
    subst hE
    exact GS.ret ⟨_, rfl, ⟨30, rfl⟩⟩
  replace hM := ite_f h_2 hM
  refine GS.skip ?_
  refine GS.seq ?_
  obtain ⟨y1, h_4, hM⟩ := bind_of hM
  refine GS.region ?_
  iterate 3 refine X.q rfl ?_
  refine X.call (ok_hull_Behind h_4) rfl rfl rfl (.cons (.shut (n := 9) rfl) (.cons (.shut (n := 9) rfl) (.cons (.shut (n := 9) rfl) .nil))) ?_
  iterate 3 refine X.q rfl ?_
  refine X.opW rfl rfl rfl rfl ?_
  refine X.op0W rfl rfl rfl ?_
  refine X.q rfl ?_
  refine GS.opsNil ?_
  refine GS.seq ?_
  refine X.sq ?_
  iterate 2 refine X.q rfl ?_
  refine GS.opsNil ?_
  refine X.cond rfl (fun h_5 => ?_) (fun h_5 => ?_)
  · replace hM := ite_t h_5 hM
    refine GS.seq ?_
    obtain ⟨y2, h_6, hM⟩ := bind_of hM
    refine GS.region ?_
    refine X.call (ok_law03_sanity h_6) rfl rfl rfl .nil ?_
    refine X.q rfl ?_
    refine GS.opsNil ?_
    have hE := Option.some.inj hM
    subst hE
    exact GS.ret ⟨_, rfl, ⟨30, rfl⟩⟩
  replace hM := ite_f h_5 hM
  refine GS.skip ?_
  refine GS.seq ?_
  obtain ⟨y3, h_7, hM⟩ := bind_of hM
  refine GS.region ?_
  iterate 2 refine X.q rfl ?_
  refine X.own (own_law03_Inside h_7) (fun z_1 => (V.tup [(ovlz z_1 3 y3.1), (V.b y3.2)])) rfl rfl rfl (.cons (.shut (n := 9) rfl) (.cons (.shut (n := 9) rfl) .nil)) rfl (fun _ => ⟨_, (X.rn_tup2 (X.rn_ovl rfl) rfl)⟩) (fun _ => ⟨_, X.rnB_obl 9 (fun _ => rfl)⟩) (fun z_1 => ?_)
  iterate 5 refine X.q rfl ?_
  refine GS.opsNil ?_
  refine GS.seq ?_
  refine X.sq ?_
  iterate 2 refine X.q rfl ?_
  refine GS.opsNil ?_
  refine X.cond rfl (fun h_8 => ?_) (fun h_8 => ?_)
  · replace hM := ite_t h_8 hM
    refine X.sq ?_
    refine X.q rfl ?_
    refine GS.opsNil ?_
    have hE := Option.some.inj hM
    subst hE
    exact GS.ret ⟨_, rfl, ⟨30, rfl⟩⟩
  replace hM := ite_f h_8 hM
  refine GS.skip ?_
  refine GS.seq ?_
  refine X.sq ?_
  refine X.q rfl ?_
  refine X.opR rfl (X.lenN (l := y3.1) rfl rfl rfl) rfl ?_
  refine X.q rfl ?_
  refine GS.opsNil ?_
  refine X.join (τ := (List Int)) (fun v => law03_HullTaken_j1 s y1 v = some r) (fun v => ⟨[(5, (V.ptr 0 0 0)), (11, (V.ptr 1 0 0)), (13, (ovlz z_1 2 v))], [.rows 11 [(e_api_Ship s)], .rows 3 [(e_api_Load y1.1)], oblz z_1 1 V.i v], 0, none, 105⟩) ?_ ?_
  · intro l1 hM
    replace hM : law03_HullTaken_j1 s y1 l1 = some r := hM
    unfold law03_HullTaken_j1 at hM
    refine GS.seq ?_
    obtain ⟨y4, h_9, hM⟩ := bind_of hM
    obtain ⟨y5, h_10, hM⟩ := gb_of hM
    refine GS.region ?_
    refine X.mid [(10, (V.b (y4 && y5)))] ?_ ?_
    · intro hg
      refine X.split (y4) (fun h_11 => ?_) (fun h_11 => ?_)
      · refine X.call (ok_law03_sanity h_9) rfl rfl rfl .nil ?_
        refine X.q rfl ?_
        iterate 3 refine X.opR (X.on_t rfl rfl rfl h_11) rfl rfl ?_
        refine X.callF (ok_hull_Fits (h_10 h_11)) (X.on_t rfl rfl rfl h_11) rfl rfl (m := 9) rfl (.cons (.shut (n := 9) rfl) (.cons (.shut (n := 9) rfl) (.cons (FR.arg (FR.ovl (f := V.i) (l := l1) 9 rfl rfl (fun _ => rfl))) .nil))) ?_
        refine X.opR rfl (X.pickand_t (y := y5) rfl h_11 rfl) rfl ?_
        refine X.q rfl ?_
        refine GS.opsNil ?_
        exact X.norm _ hg rfl (sr rfl)
      refine X.call (ok_law03_sanity h_9) rfl rfl rfl .nil ?_
      refine X.q rfl ?_
      iterate 4 refine X.off (X.off_t rfl rfl rfl h_11) rfl ?_
      refine X.opR rfl (X.pickand_f (y := y5) rfl h_11 rfl) rfl ?_
      refine X.q rfl ?_
      refine GS.opsNil ?_
      exact X.norm _ hg rfl (sr rfl)
    have hE := Option.some.inj hM
    subst hE
    exact GS.ret ⟨_, rfl, ⟨30, rfl⟩⟩
  intro hj_1
  refine GS.block ?_
  refine X.gc [some 0, some 2, some 3] (X.loop (σ := (Int × (List Int))) (fun v => ⟨[(3, (V.sl (List.map e_api_Span out))), (4, (V.sl (List.map (fun x => V.lit (.int .u16 x)) some_))), (5, (V.ptr 0 0 0)), (11, (V.ptr 1 0 0)), (13, (ovlz z_1 2 v.2)), (46, (V.i (y3.1.length : Int))), (47, (V.i v.1))], [.rows 11 [(e_api_Ship s)], .rows 3 [(e_api_Load y1.1)], oblz z_1 1 V.i v.2], 0, none, 105⟩) hM ?_ rfl) rfl rfl rfl (gk_cons rfl ⟨9, rfl⟩ (gk_cons rfl ⟨9, rfl⟩ (gk_cons rfl ⟨9, rfl⟩ (gk_cons rfl ⟨9, rfl⟩ (gk_cons rfl (rn_ovl rfl) (ga rfl rfl)))))) (gb9 rfl rfl rfl (gb9 rfl rfl rfl (gb_obl 9 rfl rfl (fun _ => rfl) gb_nil)))
  rintro ⟨x8, l2⟩ b_1 hM hc_2 hr_1
  rw [law03_HullTaken_b2] at hM
  refine X.sq ?_
  refine X.q rfl ?_
  refine GS.opsNil ?_
  refine GS.seq ?_
  refine X.cond rfl (fun h_12 => ?_) (fun h_12 => ?_)
  · replace hM := ite_t h_12 hM
    refine GS.skip ?_
    refine GS.seq ?_
    refine GS.block ?_
    refine X.sq ?_
    iterate 2 refine X.q rfl ?_
    refine GS.opsNil ?_
    refine GS.seq ?_
    obtain ⟨x, h_13, hM⟩ := bind_of hM
    refine GS.region ?_
    iterate 2 refine X.q rfl ?_
    refine X.opR rfl (X.indexF (f := e_api_Span) h_13 (fun _ => rfl) rfl rfl rfl rfl) rfl ?_
    refine X.q rfl ?_
    refine X.opR rfl (X.loadF h_13 rfl rfl rfl) rfl ?_
    refine X.q rfl ?_
    refine GS.opsNil ?_
    refine GS.seq ?_
    refine X.sq ?_
    iterate 2 refine X.q rfl ?_
    refine X.opR rfl (X.lenF rfl rfl rfl) rfl ?_
    refine X.q rfl ?_
    refine GS.opsNil ?_
    refine X.join (τ := Int) (fun v => law03_HullTaken_j3 x8 l2 v = some b_1) (fun v => ⟨[(3, (V.sl (List.map e_api_Span out))), (4, (V.sl (List.map (fun x => V.lit (.int .u16 x)) some_))), (5, (V.ptr 0 0 0)), (11, (V.ptr 1 0 0)), (13, (ovlz z_1 2 l2)), (15, (V.i x8)), (16, (V.i v)), (46, (V.i (y3.1.length : Int))), (47, (V.i x8))], [.rows 11 [(e_api_Ship s)], .rows 3 [(e_api_Load y1.1)], oblz z_1 1 V.i l2], 0, none, 105⟩) ?_ ?_
    · intro n hM
      replace hM : law03_HullTaken_j3 x8 l2 n = some b_1 := hM
      unfold law03_HullTaken_j3 at hM
      iterate 2 refine GS.seq ?_
      obtain ⟨x1, h_14, hM⟩ := bind_of hM
      refine GS.region ?_
      iterate 3 refine X.q rfl ?_
      refine X.opR rfl (X.indexN h_14 rfl rfl rfl rfl rfl) rfl ?_
      refine X.opR rfl (X.loadN h_14 rfl rfl rfl rfl) rfl ?_
      refine X.q rfl ?_
      refine GS.opsNil ?_
      refine X.cond rfl (fun h_15 => ?_) (fun h_15 => ?_)
      · replace hM := ite_t h_15 hM
        refine GS.seq ?_
        obtain ⟨y6, h_16, hM⟩ := bind_of hM
        refine GS.region ?_
        refine X.call (ok_law03_sanity h_16) rfl rfl rfl .nil ?_
        refine X.q rfl ?_
        refine GS.opsNil ?_
        have hE := Option.some.inj hM
        replace hE := hr_1 _ hE.symm
        subst hE
        exact GS.ret ⟨_, rfl, ⟨30, rfl⟩⟩
      replace hM := ite_f h_15 hM
      refine GS.skip ?_
      obtain ⟨x2, h_17, hM⟩ := bind_of hM
      obtain ⟨x3, h_18, hM⟩ := bind_of hM
      refine GS.region ?_
      iterate 2 refine X.q rfl ?_
      refine X.opR rfl (X.indexN h_17 rfl rfl rfl rfl rfl) rfl ?_
      refine X.opR rfl (X.loadN h_17 rfl rfl rfl rfl) rfl ?_
      refine X.q rfl ?_
      refine X.opR rfl (X.subE rfl rfl) rfl ?_
      refine X.opR rfl (X.indexN h_18 rfl rfl rfl rfl rfl) rfl ?_
      refine X.op0W rfl (X.storeN (b := w64 (x2 - n)) h_18 rfl rfl rfl rfl rfl rfl rfl) rfl ?_
      refine GS.opsNil ?_
      refine GS.endB ?_
      refine GS.region ?_
      refine X.opR rfl (X.addE rfl rfl) rfl ?_
      refine X.q rfl ?_
      refine GS.opsNil ?_
      have hE := Option.some.inj hM
      exact X.gc [some 0, some 1, some 2] (hc_2 (w64 (x8 + 1), (put l2 x8 (w64 (x2 - n)))) hE.symm) rfl rfl rfl (gk_cons rfl ⟨9, rfl⟩ (gk_cons rfl ⟨9, rfl⟩ (gk_cons rfl ⟨9, rfl⟩ (gk_cons rfl ⟨9, rfl⟩ (gk_cons rfl (rv_eq X.ovl_put (rn_ovl rfl)) (ga rfl rfl)))))) (gb9 rfl rfl rfl (gb9 rfl rfl rfl (gb_obl 9 rfl rfl (fun _ => rfl) gb_nil)))
    intro hj_3
    refine X.cond rfl (fun h_19 => ?_) (fun h_19 => ?_)
    · replace hM := ite_t h_19 hM
      obtain ⟨x4, h_20, hM⟩ := bind_of hM
      obtain ⟨x5, h_21, hM⟩ := bind_of hM
      obtain ⟨x6, h_22, hM⟩ := bind_of hM
      obtain ⟨x7, h_23, hM⟩ := bind_of hM
      obtain ⟨q, h_24, hM⟩ := bind_of hM
      refine X.drawc (by kernel_rfl) rfl ?_
      iterate 2 refine X.cop rfl rfl rfl rfl ?_
      refine X.cop rfl (X.indexF (f := e_api_Span) h_20 (fun _ => rfl) rfl rfl rfl rfl) rfl rfl ?_
      refine X.cop rfl rfl rfl rfl ?_
      refine X.cop rfl (X.loadF h_20 rfl rfl rfl) rfl rfl ?_
      iterate 2 refine X.cop rfl rfl rfl rfl ?_
      refine X.cop rfl (X.indexF (f := (fun x => V.lit (.int .u16 x))) h_21 (fun _ => rfl) rfl rfl rfl rfl) rfl rfl ?_
      refine X.cop rfl (X.loadF h_21 rfl rfl rfl) rfl rfl ?_
      refine X.cop rfl (X.convE rfl rfl rfl rfl) rfl rfl ?_
      iterate 2 refine X.cop rfl rfl rfl rfl ?_
      refine X.cop rfl (X.indexF (f := e_api_Span) h_22 (fun _ => rfl) rfl rfl rfl rfl) rfl rfl ?_
      refine X.cop rfl rfl rfl rfl ?_
      refine X.cop rfl (X.loadF h_22 rfl rfl rfl) rfl rfl ?_
      iterate 2 refine X.cop rfl rfl rfl rfl ?_
      refine X.cop rfl (X.indexF (f := e_api_Span) h_23 (fun _ => rfl) rfl rfl rfl rfl) rfl rfl ?_
      refine X.cop rfl rfl rfl rfl ?_
      refine X.cop rfl (X.loadF h_23 rfl rfl rfl) rfl rfl ?_
      refine X.cop rfl (X.subE rfl rfl) rfl rfl ?_
      refine X.cop rfl (X.addE rfl rfl) rfl rfl ?_
      refine X.cop rfl (X.remE h_24 rfl rfl) rfl rfl ?_
      refine X.cop rfl (X.addE rfl rfl) rfl rfl ?_
      refine X.cop rfl rfl rfl rfl ?_
      refine X.cnil ?_
      refine X.norm [(3, (V.sl (List.map e_api_Span out))), (4, (V.sl (List.map (fun x => V.lit (.int .u16 x)) some_))), (5, (V.ptr 0 0 0)), (11, (V.ptr 1 0 0)), (13, (ovlz z_1 2 l2)), (15, (V.i x8)), (16, (V.i (w64 (x4.Lo + q)))), (46, (V.i (y3.1.length : Int))), (47, (V.i x8))] ?_ rfl (sr rfl)
      exact X.gc [some 0, some 1, some 2] (hj_3 (w64 (x4.Lo + q)) hM) rfl rfl rfl (gk_cons rfl ⟨9, rfl⟩ (gk_cons rfl ⟨9, rfl⟩ (gk_cons rfl ⟨9, rfl⟩ (gk_cons rfl ⟨9, rfl⟩ (gk_cons rfl (rn_ovl rfl) (ga rfl rfl)))))) (gb9 rfl rfl rfl (gb9 rfl rfl rfl (gb_obl 9 rfl rfl (fun _ => rfl) gb_nil)))
    replace hM := ite_f h_19 hM
    refine GS.skip ?_
    exact X.gc [some 0, some 1, some 2] (hj_3 x.Lo hM) rfl rfl rfl (gk_cons rfl ⟨9, rfl⟩ (gk_cons rfl ⟨9, rfl⟩ (gk_cons rfl ⟨9, rfl⟩ (gk_cons rfl ⟨9, rfl⟩ (gk_cons rfl (rn_ovl rfl) (ga rfl rfl)))))) (gb9 rfl rfl rfl (gb9 rfl rfl rfl (gb_obl 9 rfl rfl (fun _ => rfl) gb_nil)))
  replace hM := ite_f h_12 hM
  refine GS.exit rfl ?_
  obtain ⟨y_1, hM, hy⟩ := map_of hM
  rw [hr_1 _ hy.symm] at hM
  exact X.gc [some 0, some 1, some 2] (hj_1 l2 hM) rfl rfl rfl (gk_cons rfl ⟨9, rfl⟩ (gk_cons rfl ⟨9, rfl⟩ (gk_cons rfl (rn_ovl rfl) gk_nil))) (gb9 rfl rfl rfl (gb9 rfl rfl rfl (gb_obl 9 rfl rfl (fun _ => rfl) gb_nil)))

end Go.Proofs.Ythfnbjoecocfaaa
