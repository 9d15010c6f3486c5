/- The program's functions compute the plain ones. Conditions: none. Printed by a program (wip/tools/xg.py). -/
import Derived.Test.YtkomoedegnckhaaP1
set_option linter.unusedVariables false
set_option linter.unusedSimpArgs false
namespace Go.Proofs.Ytkomoedegnckhaa
open Go Go.Am Go.Proofs Go.Mx
set_option maxHeartbeats 4000000 in
theorem ok_arbiter_Can {c : api_Court} {l : (List api_Letter)} {id : Int} {round : Int} {r : Int × Bool × Bool × Int} (hM : arbiter_Can c l id round = some r) : Ct Try.prog 20 [(e_api_Court c), (V.sl (List.map e_api_Letter l)), (V.i id), (V.i round)] (V.tup [(V.i r.1), (V.b r.2.1), (V.b r.2.2.1), (V.i r.2.2.2)]) := by
 refine ct_of_gs CC_ok rfl ?_
 unfold arbiter_Can at hM
 refine X.sq ?_
 iterate 3 refine X.opW rfl rfl rfl rfl ?_
 iterate 4 refine X.q rfl ?_
 refine GS.opsNil ?_
 iterate 2 refine GS.seq ?_
 obtain ⟨y, h_1, hM⟩ := bind_of hM
 refine GS.region (X.q rfl (X.q rfl ?_))
 refine X.call (ok_arbiter_read h_1) rfl rfl rfl (.cons (.shut (n := 9) rfl) (.cons (.shut (n := 9) rfl) .nil)) (X.q rfl (X.nq (X.q rfl (X.q rfl ?_))))
 refine GS.opsNil ?_
 refine X.cond rfl (fun h_2 => ?_) (fun h_2 => ?_)
 ·replace hM := ite_t h_2 hM
  refine X.sq ?_
  iterate 5 refine X.q rfl ?_
  refine GS.opsNil ?_
  cases hM
  exact GS.ret ⟨_, rfl, ⟨30, rfl⟩⟩
 replace hM := ite_f h_2 hM
 refine GS.skip (GS.seq (X.sq ?_))
 refine X.mid [(1, (V.sl (List.map e_api_Letter l))), (4, (V.ptr 0 0 0)), (6, (V.ptr 1 0 0)), (7, (V.ptr 2 0 0)), (33, (V.b ((!(arbiter_topic id)) || (!(arbiter_within round 1 1048576)))))] ?_ ?_
 ·intro hg
  refine X.split (!(arbiter_topic id)) (fun h_3 => ?_) (fun h_3 => ?_)
  ·refine X.q rfl ?_
   refine X.call (ok_arbiter_topic id) rfl rfl rfl (.cons (.shut (n := 9) rfl) .nil) (X.q rfl (X.q rfl ?_))
   iterate 3 refine X.off (X.off_f rfl rfl rfl h_3) rfl ?_
   refine X.opR rfl (X.pickor_t (y := !(arbiter_within round 1 1048576)) rfl h_3 rfl) rfl (GS.opsNil ?_)
   exact X.norm _ hg rfl (sr rfl)
  refine X.q rfl ?_
  refine X.call (ok_arbiter_topic id) rfl rfl rfl (.cons (.shut (n := 9) rfl) .nil) (X.q rfl (X.q rfl ?_))
  refine X.opR (X.on_f rfl rfl rfl h_3) rfl rfl ?_
  refine X.call (ok_arbiter_within round 1 1048576) (X.on_f rfl rfl rfl h_3) rfl rfl (.cons (.shut (n := 9) rfl) (.cons (.shut (n := 9) rfl) (.cons (.shut (n := 9) rfl) .nil))) ?_
  refine X.opR (X.on_f rfl rfl rfl h_3) rfl rfl ?_
  refine X.opR rfl (X.pickor_f (y := !(arbiter_within round 1 1048576)) rfl h_3 rfl) rfl (GS.opsNil ?_)
  exact X.norm _ hg rfl (sr rfl)
 refine X.cond rfl (fun h_4 => ?_) (fun h_4 => ?_)
 ·replace hM := ite_t h_4 hM
  refine X.sq ?_
  iterate 4 refine X.q rfl ?_
  refine GS.opsNil ?_
  cases hM
  exact GS.ret ⟨_, rfl, ⟨30, rfl⟩⟩
 replace hM := ite_f h_4 hM
 refine GS.skip (GS.seq ?_)
 obtain ⟨l1, h_5, hM⟩ := bind_of hM
 refine GS.region (X.q rfl ?_)
 refine clone_Letter (r := l1) (i := 4) h_5 rfl rfl rfl rfl rfl (fun z_1 => (X.q rfl ?_))
 refine X.joinO (τ := (List api_Letter)) (fun v => arbiter_Can_j1 c round v = some r) (fun v => ⟨[(4, (V.ptr 0 0 0)), (7, (V.ptr 1 0 0)), (37, (V.sl (List.map e_api_Letter v)))], [.rows 1 [(e_api_Court c)], .rows 1 [(V.i round)]], 0, none, 90⟩) ?_ ?_
 ·intro x hM
  replace hM : arbiter_Can_j1 c round x = some r := hM
  unfold arbiter_Can_j1 at hM
  refine X.opW rfl rfl rfl rfl ?_
  refine X.op0W rfl rfl rfl (X.nq ?_)
  refine X.opW (H' := [.rows 1 [(e_api_Court c)], .rows 1 [(V.i round)], .rows 1 [(V.sl (List.map e_api_Letter x))], .map (List.map (fun p : Int × Bool => V.i p.1) []) (List.map (fun p : Int × Bool => V.b p.2) [])]) rfl rfl rfl rfl (X.q rfl (GS.opsNil (GS.seq (X.sq (X.q rfl (X.q rfl (X.q rfl ?_)))))))
  refine GS.opsNil ?_
  refine X.join (τ := (List (Int × Bool))) (fun v => arbiter_Can_j2 c round x v = some r) (fun v => ⟨[(4, (V.ptr 0 0 0)), (7, (V.ptr 1 0 0)), (13, (V.ptr 2 0 0)), (14, (V.map 3))], [.rows 1 [(e_api_Court c)], .rows 1 [(V.i round)], .rows 1 [(V.sl (List.map e_api_Letter x))], .map (List.map (fun p : Int × Bool => V.i p.1) v) (List.map (fun p : Int × Bool => V.b p.2) v)], 0, none, 90⟩) ?_ ?_
  ·intro m hM
   replace hM : arbiter_Can_j2 c round x m = some r := hM
   unfold arbiter_Can_j2 at hM
   refine GS.seq ?_
   obtain ⟨y1, h_6, hM⟩ := bind_of hM
   refine GS.region (X.q rfl (X.q rfl ?_))
   refine X.callF (ok_slices_IndexFunc_api_Letter__arbiter_Can_3 h_6) rfl rfl rfl (m := 9) rfl (.cons (.shut (n := 9) rfl) (.cons (FR.arg ⟨30, rfl⟩) .nil)) ?_
   refine X.opW (H' := [.rows 1 [(e_api_Court c)], .rows 1 [(V.i round)], .rows 1 [(V.sl (List.map e_api_Letter x))], .map (List.map (fun p : Int × Bool => V.i p.1) m) (List.map (fun p : Int × Bool => V.b p.2) m), .rows 1 [(V.i 0)]]) rfl rfl rfl rfl ?_
   refine X.op0W (H' := [.rows 1 [(e_api_Court c)], .rows 1 [(V.i round)], .rows 1 [(V.sl (List.map e_api_Letter x))], .map (List.map (fun p : Int × Bool => V.i p.1) m) (List.map (fun p : Int × Bool => V.b p.2) m), .rows 1 [(V.i y1)]]) rfl rfl rfl (X.nq (X.q rfl (GS.opsNil ?_)))
   iterate 2 refine GS.seq ?_
   refine GS.freezeW (K' := [(4, (V.fptr [(e_api_Court c)] 0 0)), (7, (V.fptr [(V.i round)] 0 0)), (13, (V.fptr [(V.sl (List.map e_api_Letter x))] 0 0)), (14, (V.fmap (List.map (fun p : Int × Bool => V.i p.1) m) (List.map (fun p : Int × Bool => V.b p.2) m))), (16, (V.fptr [(V.i y1)] 0 0)), (17, (V.i 0))]) (X.fw_cons rfl ⟨30, rfl⟩ (X.fw_cons rfl ⟨30, rfl⟩ (X.fw_cons rfl ⟨30, rfl⟩ (X.fw_cons rfl (X.frMap (f := V.i) (g := V.b) (pa := fun p => p.1) (pb := fun p => p.2) (l := m) 9 rfl rfl (fun _ => rfl) (fun _ => rfl)) (X.fw_cons rfl ⟨30, rfl⟩ (X.fw_cons rfl ⟨30, rfl⟩ X.fw_nil)))))) (GS.region ?_)
   refine X.q rfl ?_
   refine X.opW (H' := [.iter (List.map (fun p : Int × Bool => V.i p.1) m) (List.map (fun p : Int × Bool => V.b p.2) m) (idxs 0 (List.length (List.map (fun p : Int × Bool => V.i p.1) m))) none]) rfl rfl rfl rfl (GS.opsNil ?_)
   refine X.join (τ := Int) (fun v => arbiter_Can_j3 c x y1 v = some r) (fun v => ⟨[(4, (V.fptr [(e_api_Court c)] 0 0)), (13, (V.fptr [(V.sl (List.map e_api_Letter x))] 0 0)), (16, (V.fptr [(V.i y1)] 0 0)), (17, (V.i v))], [], 0, none, 90⟩) ?_ ?_
   ·intro n hM
    replace hM : arbiter_Can_j3 c x y1 n = some r := hM
    unfold arbiter_Can_j3 at hM
    refine GS.seq (GS.block (X.sq (X.q rfl (X.q rfl (X.q rfl ?_)))))
    refine GS.opsNil ?_
    refine X.cond rfl (fun h_7 => ?_) (fun h_7 => ?_)
    ·replace hM := ite_t h_7 hM
     refine GS.seq ?_
     obtain ⟨y2, h_8, hM⟩ := bind_of hM
     refine GS.region (X.q rfl (X.q rfl ?_))
     refine X.call (ok_arbiter_Majority h_8) rfl rfl rfl (.cons (.shut (n := 9) rfl) .nil) ?_
     iterate 5 refine X.q rfl ?_
     refine GS.opsNil ?_
     cases hM
     exact GS.ret ⟨_, rfl, ⟨30, rfl⟩⟩
    replace hM := ite_f h_7 hM
    refine GS.seq ?_
    obtain ⟨y3, h_9, hM⟩ := bind_of hM
    refine GS.region (X.q rfl (X.q rfl ?_))
    refine X.call (ok_arbiter_Majority h_9) rfl rfl rfl (.cons (.shut (n := 9) rfl) .nil) (X.q rfl (X.q rfl ?_))
    refine GS.opsNil ?_
    refine X.cond rfl (fun h_10 => ?_) (fun h_10 => ?_)
    ·replace hM := ite_t h_10 hM
     refine GS.seq ?_
     obtain ⟨x1, h_11, hM⟩ := bind_of hM
     refine GS.region (X.q rfl (X.q rfl ?_))
     refine X.opR rfl (X.indexF (f := e_api_Letter) h_11 (fun _ => rfl) rfl rfl rfl rfl) rfl (X.q rfl ?_)
     refine X.opR rfl (X.loadF h_11 rfl rfl rfl) rfl ?_
     iterate 4 refine X.q rfl ?_
     refine GS.opsNil ?_
     cases hM
     exact GS.ret ⟨_, rfl, ⟨30, rfl⟩⟩
    replace hM := ite_f h_10 hM
    refine GS.skip ?_
    refine GS.endB (X.sq ?_)
    iterate 4 refine X.q rfl ?_
    refine GS.opsNil ?_
    cases hM
    exact GS.ret ⟨_, rfl, ⟨30, rfl⟩⟩
   intro hj_3
   refine GS.block ?_
   obtain ⟨vE_4, hF_4, hM⟩ := bind_of hM
   refine X.gc [some 0] (X.rangeM (ga := V.i) (gb := V.b) (f0 := arbiter_Can_b4 round x y1) (fun v left last => ⟨[(4, (V.fptr [(e_api_Court c)] 0 0)), (7, (V.fptr [(V.i round)] 0 0)), (13, (V.fptr [(V.sl (List.map e_api_Letter x))] 0 0)), (16, (V.fptr [(V.i y1)] 0 0)), (17, (V.i v)), (55, (V.ptr 0 0 0))], [.iter (List.map (fun p : Int × Bool => V.i p.1) m) (List.map (fun p : Int × Bool => V.b p.2) m) left last], 0, none, 90⟩) hF_4 (fold_arbiter_Can_b4 round x y1) ?_ ?_ rfl) rfl rfl rfl (ga rfl rfl) (X.gb_iter rfl rfl gb_nil)
   ·intro n2 left last hne_4 hs_4
    refine X.sq ?_
    refine X.next rfl rfl rfl rfl rfl (fun e => absurd e hne_4) (fun j_4 kv_4 vv_4 hj_4 hk_4 hv_4 => ?_)
    obtain ⟨⟨k, v⟩, w_4, rfl, rfl, hM, hc_4⟩ := hs_4 j_4 kv_4 vv_4 hj_4 hk_4 hv_4
    unfold arbiter_Can_b4 at hM
    refine X.q rfl (GS.opsNil (GS.seq ?_))
    refine GS.condT rfl (GS.skip ?_)
    refine X.join (τ := Int) (fun v => arbiter_Can_j5 v = some w_4) (fun v => ⟨[(4, (V.fptr [(e_api_Court c)] 0 0)), (7, (V.fptr [(V.i round)] 0 0)), (13, (V.fptr [(V.sl (List.map e_api_Letter x))] 0 0)), (16, (V.fptr [(V.i y1)] 0 0)), (17, (V.i v)), (55, (V.ptr 0 0 0))], [.iter (List.map (fun p : Int × Bool => V.i p.1) m) (List.map (fun p : Int × Bool => V.b p.2) m) (List.filter (fun i => decide (i ≠ j_4)) left) (some j_4)], 0, none, 90⟩) ?_ ?_
    ·intro n1 hM
     replace hM : arbiter_Can_j5 n1 = some w_4 := hM
     unfold arbiter_Can_j5 at hM
     have hE := Option.some.inj hM
     subst hE
     exact X.gc [some 0] hc_4 rfl rfl rfl (ga rfl rfl) (X.gb_iter rfl rfl gb_nil)
    intro hj_5
    refine GS.block (X.sq ?_)
    refine X.entry rfl rfl rfl hk_4 hv_4 rfl (X.q rfl (X.q rfl ?_))
    refine X.opW rfl rfl rfl rfl ?_
    refine X.op0W rfl rfl rfl (X.q rfl (GS.opsNil (GS.seq ?_)))
    obtain ⟨y4, h_12, hM⟩ := gb_of hM
    refine GS.region ?_
    refine X.mid [(4, (V.fptr [(e_api_Court c)] 0 0)), (7, (V.fptr [(V.i round)] 0 0)), (13, (V.fptr [(V.sl (List.map e_api_Letter x))] 0 0)), (16, (V.fptr [(V.i y1)] 0 0)), (17, (V.i n2)), (55, (V.ptr 0 0 0)), (70, (V.b (v || ((decide (0 ≤ y1)) && y4))))] ?_ ?_
    ·intro hg
     refine X.split (v) (fun h_13 => ?_) (fun h_13 => ?_)
     ·iterate 2 refine X.q rfl ?_
      iterate 3 refine X.off (X.off_f rfl rfl rfl h_13) rfl ?_
      iterate 3 refine X.off rfl rfl ?_
      refine X.off (X.off_f rfl rfl rfl h_13) rfl ?_
      refine X.opR rfl (X.pickor_t (y := ((decide (0 ≤ y1)) && y4)) rfl h_13 rfl) rfl (GS.opsNil ?_)
      exact X.norm _ hg rfl (sr rfl)
     refine X.split (decide (0 ≤ y1)) (fun h_14 => ?_) (fun h_14 => ?_)
     ·iterate 2 refine X.q rfl ?_
      iterate 3 refine X.opR (X.on_f rfl rfl rfl h_13) rfl rfl ?_
      iterate 2 refine X.opR (X.on_t rfl rfl rfl h_14) rfl rfl ?_
      refine X.callF (ok_slices_ContainsFunc_api_Letter__arbiter_Can_4 (h_12 (X.and_tt (X.nt h_13) h_14))) (X.on_t rfl rfl rfl h_14) rfl rfl (m := 9) rfl (.cons (.shut (n := 9) rfl) (.cons (FR.arg ⟨30, rfl⟩) .nil)) ?_
      refine X.opR (X.on_f rfl rfl rfl h_13) (X.pickand_t (y := y4) rfl h_14 rfl) rfl ?_
      refine X.opR rfl (X.pickor_f (y := ((decide (0 ≤ y1)) && y4)) rfl h_13 rfl) rfl (GS.opsNil ?_)
      exact X.norm _ hg rfl (sr rfl)
     refine X.q rfl (X.q rfl ?_)
     iterate 3 refine X.opR (X.on_f rfl rfl rfl h_13) rfl rfl ?_
     iterate 3 refine X.off (X.off_t rfl rfl rfl h_14) rfl ?_
     refine X.opR (X.on_f rfl rfl rfl h_13) (X.pickand_f (y := y4) rfl h_14 rfl) rfl ?_
     refine X.opR rfl (X.pickor_f (y := ((decide (0 ≤ y1)) && y4)) rfl h_13 rfl) rfl (GS.opsNil ?_)
     exact X.norm _ hg rfl (sr rfl)
    refine X.cond rfl (fun h_15 => ?_) (fun h_15 => ?_)
    ·replace hM := ite_t h_15 hM
     refine GS.region (X.q rfl ?_)
     refine X.opR rfl (X.addE rfl rfl) rfl (X.q rfl (GS.opsNil ?_))
     refine GS.endB ?_
     exact X.gc [some 0] (hj_5 (w64 (n2 + 1)) hM) rfl rfl rfl (ga rfl rfl) (X.gb_iter rfl rfl gb_nil)
    replace hM := ite_f h_15 hM
    refine GS.skip ?_
    refine GS.endB ?_
    exact X.gc [some 0] (hj_5 n2 hM) rfl rfl rfl (ga rfl rfl) (X.gb_iter rfl rfl gb_nil)
   intro n2 last hrel_4
   replace hrel_4 := hrel_4.symm
   subst hrel_4
   replace hM : arbiter_Can_j6 c x y1 n2 = some r := hM
   unfold arbiter_Can_j6 at hM
   refine X.sq ?_
   refine X.next rfl rfl rfl rfl rfl (fun _ => ?_) (fun j_ kv_ vv_ hj_ => absurd hj_ List.not_mem_nil)
   refine X.q rfl (GS.opsNil (GS.seq ?_))
   refine GS.condF rfl ?_
   refine GS.exit rfl ?_
   exact X.gc [] (hj_3 n2 hM) rfl rfl rfl (ga rfl rfl) (gb_nil)
  intro hj_2
  refine GS.block ?_
  refine X.gc [some 0, some 1, some 2, some 3] (X.loop (σ := (Int × (List (Int × Bool)))) (fun v => ⟨[(4, (V.ptr 0 0 0)), (7, (V.ptr 1 0 0)), (13, (V.ptr 2 0 0)), (14, (V.map 3)), (40, (V.i c.Arbiters)), (41, (V.i v.1))], [.rows 1 [(e_api_Court c)], .rows 1 [(V.i round)], .rows 1 [(V.sl (List.map e_api_Letter x))], .map (List.map (fun p : Int × Bool => V.i p.1) v.2) (List.map (fun p : Int × Bool => V.b p.2) v.2)], 0, none, 90⟩) hM ?_ rfl) rfl rfl rfl (ga rfl rfl) (gb9 rfl rfl rfl (gb9 rfl rfl rfl (gb9 rfl rfl rfl (X.gb_mapK 9 rfl rfl (fun _ => rfl) (fun _ => rfl) gb_nil))))
  rintro ⟨x2, m1⟩ b_1 hM hc_7 hr_1
  rw [arbiter_Can_b7] at hM
  refine X.sq (X.q rfl (GS.opsNil (GS.seq ?_)))
  refine X.cond rfl (fun h_16 => ?_) (fun h_16 => ?_)
  ·replace hM := ite_t h_16 hM
   refine GS.skip (GS.seq (GS.block (X.sq (X.q rfl ?_))))
   refine X.opW (H' := [.rows 1 [(e_api_Court c)], .rows 1 [(V.i round)], .rows 1 [(V.sl (List.map e_api_Letter x))], .map (List.map (fun p : Int × Bool => V.i p.1) m1) (List.map (fun p : Int × Bool => V.b p.2) m1), .rows 1 [(V.i 0)]]) rfl rfl rfl rfl ?_
   refine X.op0W (H' := [.rows 1 [(e_api_Court c)], .rows 1 [(V.i round)], .rows 1 [(V.sl (List.map e_api_Letter x))], .map (List.map (fun p : Int × Bool => V.i p.1) m1) (List.map (fun p : Int × Bool => V.b p.2) m1), .rows 1 [(V.i x2)]]) rfl rfl rfl (GS.opsNil ?_)
   obtain ⟨y5, h_17, hM⟩ := bind_of hM
   refine X.draw (by kernel_rfl) ?_
   iterate 4 refine X.dop rfl rfl rfl rfl (by kernel_rfl) rfl rfl ?_
   refine X.dcallF (ok_slices_ContainsFunc_api_Letter__arbiter_Can_2 h_17) rfl rfl rfl (by kernel_rfl) rfl (m := 9) rfl (.cons (.shut (n := 9) rfl) (.cons (FR.arg ⟨30, rfl⟩) .nil)) ?_
   refine X.dop rfl rfl rfl rfl (by kernel_rfl) rfl rfl ?_
   refine X.dop0 rfl (X.putW (f := V.i) (g := V.b) (pos := posI) (k := x2) (v := !y5) (l := m1) X.keyEq_i (X.posI_ok _) rfl rfl rfl rfl rfl rfl rfl) rfl rfl (by kernel_rfl) rfl ?_
   refine X.dnil ?_
   refine X.norm [(4, (V.ptr 0 0 0)), (7, (V.ptr 1 0 0)), (13, (V.ptr 2 0 0)), (14, (V.map 3)), (40, (V.i c.Arbiters)), (41, (V.i x2))] ?_ rfl (sr rfl)
   refine GS.endB (GS.region ?_)
   refine X.opR rfl (X.addE rfl rfl) rfl (X.q rfl (GS.opsNil ?_))
   have hE := Option.some.inj hM
   exact X.gc [some 0, some 1, some 2, some 3] (hc_7 (w64 (x2 + 1), (putM posI m1 x2 (!y5))) hE.symm) rfl rfl rfl (ga rfl rfl) (gb9 rfl rfl rfl (gb9 rfl rfl rfl (gb9 rfl rfl rfl (X.gb_mapK 9 rfl rfl (fun _ => rfl) (fun _ => rfl) gb_nil))))
  replace hM := ite_f h_16 hM
  refine GS.exit rfl ?_
  obtain ⟨y_1, hM, hy⟩ := map_of hM
  rw [hr_1 _ hy.symm] at hM
  exact X.gc [some 0, some 1, some 2, some 3] (hj_2 m1 hM) rfl rfl rfl (ga rfl rfl) (gb9 rfl rfl rfl (gb9 rfl rfl rfl (gb9 rfl rfl rfl (X.gb_mapK 9 rfl rfl (fun _ => rfl) (fun _ => rfl) gb_nil))))
 intro hj_1
 refine X.inl rfl rfl rfl rfl (X.sq (X.q rfl (GS.opsNil (GS.seq ?_))))
 obtain ⟨y6, h_18, hM⟩ := bind_of hM
 refine GS.region (X.q rfl (X.q rfl ?_))
 refine X.callF (ok_slices_IndexFunc_api_Letter__arbiter_Can_1 h_18) rfl rfl rfl (m := 9) rfl (.cons (FR.arg (FR.ovl (f := e_api_Letter) (l := l1) 9 rfl rfl (fun _ => rfl))) (.cons (FR.arg ⟨30, rfl⟩) .nil)) (X.q rfl (GS.opsNil (GS.seq (X.sq (X.q rfl (X.q rfl ?_))))))
 refine GS.opsNil ?_
 refine X.cond rfl (fun h_19 => ?_) (fun h_19 => ?_)
 ·replace hM := ite_t h_19 hM
  refine X.sq (X.q rfl (X.q rfl ?_))
  refine GS.opsNil ?_
  refine GS.ret ⟨_, rfl, ?_⟩
  refine X.norm (H' := [.rows 1 [(e_api_Court c)], .rows 1 [(V.i id)], .rows 1 [(V.i round)], .dead, oblz z_1 8 e_api_Letter l1]) [(4, (V.ptr 0 0 0)), (7, (V.ptr 2 0 0)), (37, (ovlz z_1 4 l1))] ?_ rfl (sr rfl)
  refine X.freezeAt (z := z_1) (f := e_api_Letter) (l := l1) (es := 8) 37 rfl rfl rfl rfl (fun _ => rfl) ?_
  exact X.gc [some 0, some 2] (hj_1 l1 hM) rfl rfl rfl (ga rfl rfl) (gb9 rfl rfl rfl (gb9 rfl rfl rfl gb_nil))
 replace hM := ite_f h_19 hM
 refine GS.skip (GS.seq (X.sq (X.q rfl ?_)))
 refine X.opR rfl (X.addE rfl rfl) rfl (X.q rfl (GS.opsNil ?_))
 refine X.join (τ := Int × (List api_Letter)) (fun v => arbiter_Can_j8 c round v.1 v.2 = some r) (fun v => ⟨[(0, (ovlz z_1 4 v.2)), (5, (V.i v.1))], [.rows 1 [(e_api_Court c)], .dead, .rows 1 [(V.i round)], .dead, oblz z_1 8 e_api_Letter v.2], 0, none, 42⟩) ?_ ?_
 ·rintro ⟨i, l2⟩ hM
  replace hM : arbiter_Can_j8 c round i l2 = some r := hM
  unfold arbiter_Can_j8 at hM
  refine GS.seq ?_
  obtain ⟨l3, h_20, hM⟩ := bind_of hM
  obtain ⟨l4, h_21, hM⟩ := bind_of hM
  refine GS.region (X.q rfl (X.q rfl ?_))
  refine X.opR rfl (X.sliceN (z := z_1) (f := e_api_Letter) (l := l2) h_20 rfl rfl rfl rfl rfl rfl (X.boundA_int rfl) rfl) rfl ?_
  refine X.clearU (f := e_api_Letter) (l := l2) (l' := l4) (H' := [.rows 1 [(e_api_Court c)], .dead, .rows 1 [(V.i round)], .dead, oblz z_1 8 e_api_Letter l4]) 0 h_21 h_20 rfl rfl rfl rfl rfl rfl rfl rfl rfl rfl rfl (GS.opsNil (GS.seq ?_))
  obtain ⟨l5, h_22, hM⟩ := bind_of hM
  refine GS.region (X.q rfl (X.q rfl ?_))
  refine X.opR rfl (X.sliceN (z := z_1) (f := e_api_Letter) (l := l4) h_22 rfl rfl rfl rfl rfl rfl rfl (X.boundA_int rfl)) rfl (X.q rfl (GS.opsNil ?_))
  refine GS.ret ⟨_, rfl, ?_⟩
  refine X.norm (H' := [.rows 1 [(e_api_Court c)], .dead, .rows 1 [(V.i round)], .dead, oblz z_1 8 e_api_Letter l4]) [(4, (V.ptr 0 0 0)), (7, (V.ptr 2 0 0)), (37, (ovs z_1 4 l4 l5 0))] ?_ rfl (sr rfl)
  refine X.freezeSub (z := z_1) (f := e_api_Letter) (l := l4) (r := l5) 37 h_22 rfl rfl rfl rfl (fun _ => rfl) ?_
  exact X.gc [some 0, some 2] (hj_1 l5 hM) rfl rfl rfl (ga rfl rfl) (gb9 rfl rfl rfl (gb9 rfl rfl rfl gb_nil))
 intro hj_8
 refine GS.block ?_
 refine X.gc [] (X.loop (σ := (Int × Int × (List api_Letter))) (fun v => ⟨[(0, (ovlz z_1 4 v.2.2)), (1, (V.fn 63 [(V.ptr 1 0 0)])), (5, (V.i v.1)), (6, (V.i v.2.1))], [.rows 1 [(e_api_Court c)], .rows 1 [(V.i id)], .rows 1 [(V.i round)], .dead, oblz z_1 8 e_api_Letter v.2.2], 0, none, 42⟩) hM ?_ rfl) rfl rfl rfl (gk_cons rfl (rn_ovl rfl) (ga rfl rfl)) (gb9 rfl rfl rfl (gb9 rfl rfl rfl (gb9 rfl rfl rfl (gb_pad (gb_obl 9 rfl rfl (fun _ => rfl) gb_nil)))))
 rintro ⟨i2, j, l7⟩ b_1 hM hc_9 hr_1
 rw [arbiter_Can_b9] at hM
 refine GS.seq (X.sq (X.q rfl (X.q rfl ?_)))
 refine X.opR rfl (X.lenN (l := l7) rfl rfl rfl) rfl (X.q rfl (GS.opsNil ?_))
 refine X.cond rfl (fun h_23 => ?_) (fun h_23 => ?_)
 ·replace hM := ite_t h_23 hM
  refine GS.skip (GS.seq ?_)
  refine X.join (τ := Int × (List api_Letter)) (fun v => arbiter_Can_j10 j v.1 v.2 = some b_1) (fun v => ⟨[(0, (ovlz z_1 4 v.2)), (1, (V.fn 63 [(V.ptr 1 0 0)])), (5, (V.i v.1)), (6, (V.i j))], [.rows 1 [(e_api_Court c)], .rows 1 [(V.i id)], .rows 1 [(V.i round)], .dead, oblz z_1 8 e_api_Letter v.2], 0, none, 42⟩) ?_ ?_
  ·rintro ⟨i1, l6⟩ hM
   replace hM : arbiter_Can_j10 j i1 l6 = some b_1 := hM
   unfold arbiter_Can_j10 at hM
   refine GS.region (X.q rfl ?_)
   refine X.opR rfl (X.addE rfl rfl) rfl (X.q rfl (GS.opsNil ?_))
   have hE := Option.some.inj hM
   exact X.gc [] (hc_9 (i1, w64 (j + 1), l6) hE.symm) rfl rfl rfl (gk_cons rfl (rn_ovl rfl) (ga rfl rfl)) (gb9 rfl rfl rfl (gb9 rfl rfl rfl (gb9 rfl rfl rfl (gb_pad (gb_obl 9 rfl rfl (fun _ => rfl) gb_nil)))))
  intro hj_10
  refine GS.block (GS.seq ?_)
  obtain ⟨x3, h_24, hM⟩ := bind_of hM
  refine GS.region (X.q rfl (X.q rfl ?_))
  refine X.opR rfl (X.indexN h_24 rfl rfl rfl rfl rfl) rfl ?_
  refine X.opR rfl (X.loadN h_24 rfl rfl rfl rfl) rfl ?_
  refine X.opW (H' := [.rows 1 [(e_api_Court c)], .rows 1 [(V.i id)], .rows 1 [(V.i round)], .dead, oblz z_1 8 e_api_Letter l7, .rows 8 [(V.agg [(V.i 0), (V.i 0), (V.i 0), (V.i 0), (V.i 0), (V.i 0), (V.i 0), (V.i 0)])]]) rfl rfl rfl rfl ?_
  refine X.op0W (H' := [.rows 1 [(e_api_Court c)], .rows 1 [(V.i id)], .rows 1 [(V.i round)], .dead, oblz z_1 8 e_api_Letter l7, .rows 8 [(e_api_Letter x3)]]) rfl rfl rfl (X.nq (X.q rfl (X.q rfl ?_)))
  refine X.callF (ok_arbiter_Can_1 x3 id) rfl rfl rfl (m := 9) rfl (.cons (.shut (n := 9) rfl) (.cons (FR.arg ⟨30, rfl⟩) .nil)) (X.q rfl (GS.opsNil ?_))
  refine X.cond rfl (fun h_25 => ?_) (fun h_25 => ?_)
  ·replace hM := ite_t h_25 hM
   refine GS.seq ?_
   obtain ⟨x4, h_26, hM⟩ := bind_of hM
   refine GS.region (X.q rfl (X.q rfl (X.q rfl ?_)))
   refine X.opR rfl (X.indexN h_26 rfl rfl rfl rfl rfl) rfl ?_
   refine X.op0W (H' := [.rows 1 [(e_api_Court c)], .rows 1 [(V.i id)], .rows 1 [(V.i round)], .dead, oblz z_1 8 e_api_Letter (put l7 i2 x3), .rows 8 [(e_api_Letter x3)]]) rfl (X.storeN (b := x3) h_26 rfl rfl rfl rfl rfl rfl rfl) rfl (X.mq (X.q rfl ?_))
   refine X.opR rfl (X.addE rfl rfl) rfl (X.q rfl (GS.opsNil ?_))
   refine GS.endB ?_
   exact X.gc [] (hj_10 (w64 (i2 + 1), (put l7 i2 x3)) hM) rfl rfl rfl (gk_cons rfl (rv_eq X.ovl_put (rn_ovl rfl)) (ga rfl rfl)) (gb9 rfl rfl rfl (gb9 rfl rfl rfl (gb9 rfl rfl rfl (gb_pad (gb_obl 9 rfl rfl (fun _ => rfl) gb_nil)))))
  replace hM := ite_f h_25 hM
  refine GS.skip ?_
  refine GS.endB ?_
  exact X.gc [] (hj_10 (i2, l7) hM) rfl rfl rfl (gk_cons rfl (rn_ovl rfl) (ga rfl rfl)) (gb9 rfl rfl rfl (gb9 rfl rfl rfl (gb9 rfl rfl rfl (gb_pad (gb_obl 9 rfl rfl (fun _ => rfl) gb_nil)))))
 replace hM := ite_f h_23 hM
 refine GS.exit rfl ?_
 obtain ⟨y_1, hM, hy⟩ := map_of hM
 rw [hr_1 _ hy.symm] at hM
 exact X.gc [] (hj_8 (i2, l7) hM) rfl rfl rfl (gk_cons rfl (rn_ovl rfl) (ga rfl rfl)) (gb9 rfl rfl rfl (gb_pad (gb9 rfl rfl rfl (gb_pad (gb_obl 9 rfl rfl (fun _ => rfl) gb_nil)))))
theorem ok_arbiter_shows (x : api_Letter) : Ct Try.prog 74 [(e_api_Letter x)] (e_api_Ruling (arbiter_shows x)) := by
 refine ct_of_gs CC_ok rfl ?_
 generalize hM : arbiter_shows x = r
 unfold arbiter_shows at hM
 refine X.sq ?_
 iterate 2 refine X.opW rfl rfl rfl rfl ?_
 refine GS.opsNil (GS.seq (X.sq (X.q rfl (X.q rfl (X.q rfl ?_)))))
 refine GS.opsNil ?_
 refine X.cond rfl (fun h_1 => ?_) (fun h_1 => ?_)
 ·replace hM := ite_t h_1 hM
  refine X.sq (X.q rfl ?_)
  refine X.op0W rfl rfl rfl (GS.opsNil ?_)
  subst hM
  exact GS.ret ⟨_, rfl, ⟨30, rfl⟩⟩
 replace hM := ite_f h_1 hM
 refine GS.skip (X.sq ?_)
 iterate 7 refine X.q rfl ?_
 refine X.op0W rfl rfl rfl (GS.opsNil ?_)
 subst hM
 exact GS.ret ⟨_, rfl, ⟨30, rfl⟩⟩
theorem eq_api_Ruling (a b : api_Ruling) : eqA CC.ty 35 (e_api_Ruling a) (e_api_Ruling b) = some (decide (a = b)) := by
 refine (X.eqa rfl rfl (X.eqp rfl rfl rfl (X.eqp rfl rfl rfl (X.eqp rfl rfl rfl X.eqn')))).trans ?_
 congr 1
 rw [Bool.eq_iff_iff]
 simp only [Bool.and_eq_true, decide_eq_true_eq, beq_iff_eq, and_true]
 constructor
 ·intro h
  obtain ⟨a1, a2, a3⟩ := a
  obtain ⟨b4, b5, b6⟩ := b
  simp at h
  simp [h]
 ·rintro rfl
  simp
set_option maxHeartbeats 4000000 in
theorem ok_arbiter_CheckRuling {c : api_Court} {votes : (List api_Letter)} {r : api_Ruling × Int} (hM : arbiter_CheckRuling c votes = some r) : Ct Try.prog 34 [(e_api_Court c), (V.sl (List.map e_api_Letter votes))] (V.tup [(e_api_Ruling r.1), (V.i r.2)]) := by
 refine ct_of_gs CC_ok rfl ?_
 unfold arbiter_CheckRuling at hM
 refine X.sq ?_
 iterate 2 refine X.opW rfl rfl rfl rfl ?_
 refine X.q rfl (GS.opsNil ?_)
 iterate 2 refine GS.seq ?_
 obtain ⟨y, h_1, hM⟩ := bind_of hM
 refine GS.region (X.q rfl (X.q rfl ?_))
 refine X.call (ok_arbiter_read h_1) rfl rfl rfl (.cons (.shut (n := 9) rfl) (.cons (.shut (n := 9) rfl) .nil)) (X.q rfl (X.nq (X.q rfl (X.q rfl ?_))))
 refine GS.opsNil ?_
 refine X.cond rfl (fun h_2 => ?_) (fun h_2 => ?_)
 ·replace hM := ite_t h_2 hM
  refine X.sq (X.q rfl (X.q rfl ?_))
  refine X.op0W rfl rfl rfl (X.q rfl (GS.opsNil ?_))
  cases hM
  exact GS.ret ⟨_, rfl, ⟨30, rfl⟩⟩
 replace hM := ite_f h_2 hM
 refine GS.skip (X.sq ?_)
 refine X.opW rfl rfl rfl rfl (X.q rfl (GS.opsNil (GS.seq (X.sq (X.q rfl ?_)))))
 refine X.opR rfl (X.lenF rfl rfl rfl) rfl (X.q rfl (GS.opsNil ?_))
 refine X.join (τ := Unit) (fun v => arbiter_CheckRuling_j1 c votes = some r) (fun v => ⟨[(1, (V.sl (List.map e_api_Letter votes))), (2, (V.ptr 0 0 0)), (4, (V.ptr 1 0 0))], [.rows 1 [(e_api_Court c)], .rows 3 [(V.agg [(V.i 0), (V.i 0), (V.i 0)])]], 0, none, 57⟩) ?_ ?_
 ·intro _ hM
  replace hM : arbiter_CheckRuling_j1 c votes = some r := hM
  unfold arbiter_CheckRuling_j1 at hM
  iterate 2 refine GS.seq ?_
  obtain ⟨y1, h_3, hM⟩ := bind_of hM
  refine GS.region (X.q rfl ?_)
  refine X.opR rfl (X.lenF rfl rfl rfl) rfl (X.q rfl ?_)
  refine X.call (ok_arbiter_Majority h_3) rfl rfl rfl (.cons (.shut (n := 9) rfl) .nil) (X.q rfl (GS.opsNil ?_))
  refine X.cond rfl (fun h_4 => ?_) (fun h_4 => ?_)
  ·replace hM := ite_t h_4 hM
   refine X.sq (X.q rfl ?_)
   refine X.op0W rfl rfl rfl (X.q rfl (GS.opsNil ?_))
   cases hM
   exact GS.ret ⟨_, rfl, ⟨30, rfl⟩⟩
  replace hM := ite_f h_4 hM
  refine GS.skip (GS.seq ?_)
  obtain ⟨x, h_5, hM⟩ := bind_of hM
  refine GS.region (X.q rfl ?_)
  refine X.opR rfl (X.indexF (f := e_api_Letter) h_5 (fun _ => rfl) rfl rfl rfl rfl) rfl ?_
  refine X.opR rfl (X.loadF h_5 rfl rfl rfl) rfl ?_
  refine X.call (ok_arbiter_shows x) rfl rfl rfl (.cons (.shut (n := 9) rfl) .nil) ?_
  refine X.op0W rfl rfl rfl (X.q rfl (GS.opsNil ?_))
  cases hM
  exact GS.ret ⟨_, rfl, ⟨30, rfl⟩⟩
 intro hj_1
 refine GS.block ?_
 refine X.gc [some 0, some 1, some 2] (X.loop (σ := (Int × (List (Int × Bool)))) (fun v => ⟨[(1, (V.sl (List.map e_api_Letter votes))), (2, (V.ptr 0 0 0)), (4, (V.ptr 1 0 0)), (7, (V.map 2)), (18, (V.sl (List.map e_api_Letter votes))), (19, (V.i (votes.length : Int))), (20, (V.i v.1))], [.rows 1 [(e_api_Court c)], .rows 3 [(V.agg [(V.i 0), (V.i 0), (V.i 0)])], .map (List.map (fun p : Int × Bool => V.i p.1) v.2) (List.map (fun p : Int × Bool => V.b p.2) v.2)], 0, none, 57⟩) hM ?_ rfl) rfl rfl rfl (ga rfl rfl) (gb9 rfl rfl rfl (gb9 rfl rfl rfl (X.gb_mapK 9 rfl rfl (fun _ => rfl) (fun _ => rfl) gb_nil)))
 rintro ⟨x3, m⟩ b_1 hM hc_2 hr_1
 rw [arbiter_CheckRuling_b2] at hM
 refine X.sq (X.q rfl (GS.opsNil (GS.seq ?_)))
 refine X.cond rfl (fun h_6 => ?_) (fun h_6 => ?_)
 ·replace hM := ite_t h_6 hM
  refine GS.skip (GS.seq (GS.block (GS.seq ?_)))
  obtain ⟨x1, h_7, hM⟩ := bind_of hM
  refine GS.region ?_
  refine X.opR rfl (X.indexF (f := e_api_Letter) h_7 (fun _ => rfl) rfl rfl rfl rfl) rfl ?_
  refine X.opR rfl (X.loadF h_7 rfl rfl rfl) rfl ?_
  refine X.opW (H' := [.rows 1 [(e_api_Court c)], .rows 3 [(V.agg [(V.i 0), (V.i 0), (V.i 0)])], .map (List.map (fun p : Int × Bool => V.i p.1) m) (List.map (fun p : Int × Bool => V.b p.2) m), .rows 8 [(V.agg [(V.i 0), (V.i 0), (V.i 0), (V.i 0), (V.i 0), (V.i 0), (V.i 0), (V.i 0)])]]) rfl rfl rfl rfl ?_
  refine X.op0W (H' := [.rows 1 [(e_api_Court c)], .rows 3 [(V.agg [(V.i 0), (V.i 0), (V.i 0)])], .map (List.map (fun p : Int × Bool => V.i p.1) m) (List.map (fun p : Int × Bool => V.b p.2) m), .rows 8 [(e_api_Letter x1)]]) rfl rfl rfl (GS.opsNil ?_)
  iterate 2 refine GS.seq ?_
  obtain ⟨x2, h_8, hM⟩ := gb_of hM
  refine X.mid [(1, (V.sl (List.map e_api_Letter votes))), (2, (V.ptr 0 0 0)), (4, (V.ptr 1 0 0)), (7, (V.map 2)), (9, (V.ptr 3 0 0)), (18, (V.sl (List.map e_api_Letter votes))), (19, (V.i (votes.length : Int))), (20, (V.i x3)), (41, (V.b (((!decide (x1.Kind = 4)) || (!decide ((arbiter_shows x1) = (arbiter_shows x2)))) || ((lookM x1.From m).getD false))))] ?_ ?_
  ·intro hg
   refine X.split (!decide (x1.Kind = 4)) (fun h_9 => ?_) (fun h_9 => ?_)
   ·refine X.drawc (by kernel_rfl) rfl ?_
    iterate 4 refine X.cop rfl rfl rfl rfl ?_
    iterate 7 refine X.coff (X.off_f rfl rfl rfl h_9) rfl rfl ?_
    refine X.cop rfl (X.pickor_t (y := !decide ((arbiter_shows x1) = (arbiter_shows x2))) rfl h_9 rfl) rfl rfl ?_
    refine X.cop rfl rfl rfl rfl ?_
    iterate 4 refine X.coff (X.off_f rfl rfl rfl (X.or_tt h_9)) rfl rfl ?_
    refine X.cop rfl (X.pickor_t (y := ((lookM x1.From m).getD false)) rfl (X.or_tt h_9) rfl) rfl rfl ?_
    refine X.cnil ?_
    exact X.norm _ hg rfl (sr rfl)
   refine X.split (((!decide (x1.Kind = 4)) || (!decide ((arbiter_shows x1) = (arbiter_shows x2))))) (fun h_10 => ?_) (fun h_10 => ?_)
   ·refine X.drawc (by kernel_rfl) rfl ?_
    iterate 4 refine X.cop rfl rfl rfl rfl ?_
    refine X.cop (X.on_f rfl rfl rfl h_9) rfl rfl rfl ?_
    refine X.ccall (ok_arbiter_shows x1) (X.on_f rfl rfl rfl h_9) rfl rfl rfl (.cons (.shut (n := 9) rfl) .nil) ?_
    refine X.cop (X.on_f rfl rfl rfl h_9) rfl rfl rfl ?_
    refine X.cop (X.on_f rfl rfl rfl h_9) (X.indexF (f := e_api_Letter) (h_8 (X.nt h_9)) (fun _ => rfl) rfl rfl rfl rfl) rfl rfl ?_
    refine X.cop (X.on_f rfl rfl rfl h_9) (X.loadF (h_8 (X.nt h_9)) rfl rfl rfl) rfl rfl ?_
    refine X.ccall (ok_arbiter_shows x2) (X.on_f rfl rfl rfl h_9) rfl rfl rfl (.cons (.shut (n := 9) rfl) .nil) ?_
    refine X.cop (X.on_f rfl rfl rfl h_9) (X.neqE (eq_api_Ruling (arbiter_shows x1) (arbiter_shows x2)) rfl rfl) rfl rfl ?_
    refine X.cop rfl (X.pickor_f (y := !decide ((arbiter_shows x1) = (arbiter_shows x2))) rfl h_9 rfl) rfl rfl ?_
    refine X.cop rfl rfl rfl rfl ?_
    iterate 4 refine X.coff (X.off_f rfl rfl rfl h_10) rfl rfl ?_
    refine X.cop rfl (X.pickor_t (y := ((lookM x1.From m).getD false)) rfl h_10 rfl) rfl rfl ?_
    refine X.cnil ?_
    exact X.norm _ hg rfl (sr rfl)
   refine X.drawc (by kernel_rfl) rfl ?_
   iterate 4 refine X.cop rfl rfl rfl rfl ?_
   refine X.cop (X.on_f rfl rfl rfl h_9) rfl rfl rfl ?_
   refine X.ccall (ok_arbiter_shows x1) (X.on_f rfl rfl rfl h_9) rfl rfl rfl (.cons (.shut (n := 9) rfl) .nil) ?_
   refine X.cop (X.on_f rfl rfl rfl h_9) rfl rfl rfl ?_
   refine X.cop (X.on_f rfl rfl rfl h_9) (X.indexF (f := e_api_Letter) (h_8 (X.nt h_9)) (fun _ => rfl) rfl rfl rfl rfl) rfl rfl ?_
   refine X.cop (X.on_f rfl rfl rfl h_9) (X.loadF (h_8 (X.nt h_9)) rfl rfl rfl) rfl rfl ?_
   refine X.ccall (ok_arbiter_shows x2) (X.on_f rfl rfl rfl h_9) rfl rfl rfl (.cons (.shut (n := 9) rfl) .nil) ?_
   refine X.cop (X.on_f rfl rfl rfl h_9) (X.neqE (eq_api_Ruling (arbiter_shows x1) (arbiter_shows x2)) rfl rfl) rfl rfl ?_
   refine X.cop rfl (X.pickor_f (y := !decide ((arbiter_shows x1) = (arbiter_shows x2))) rfl h_9 rfl) rfl rfl ?_
   refine X.cop rfl rfl rfl rfl ?_
   iterate 3 refine X.cop (X.on_f rfl rfl rfl h_10) rfl rfl rfl ?_
   refine X.cop (X.on_f rfl rfl rfl h_10) (X.lookW (f := V.i) (g := V.b) (k := x1.From) (l := m) (z := false) (ok := false) X.keyEq_i rfl rfl rfl rfl rfl rfl) rfl rfl ?_
   refine X.cop rfl (X.pickor_f (y := ((lookM x1.From m).getD false)) rfl h_10 rfl) rfl rfl ?_
   refine X.cnil ?_
   exact X.norm _ hg rfl (sr rfl)
  refine X.cond rfl (fun h_11 => ?_) (fun h_11 => ?_)
  ·replace hM := ite_t h_11 hM
   refine X.sq (X.q rfl ?_)
   refine X.op0W (H' := [.rows 1 [(e_api_Court c)], .rows 3 [(V.agg [(V.i 0), (V.i 0), (V.i 0)])], .map (List.map (fun p : Int × Bool => V.i p.1) m) (List.map (fun p : Int × Bool => V.b p.2) m), .rows 8 [(e_api_Letter x1)]]) rfl rfl rfl (X.q rfl (GS.opsNil ?_))
   have hE := Option.some.inj hM
   replace hE := hr_1 _ hE.symm
   subst hE
   exact GS.ret ⟨_, rfl, ⟨30, rfl⟩⟩
  replace hM := ite_f h_11 hM
  refine GS.skip (GS.region (X.q rfl (X.q rfl (X.q rfl ?_))))
  refine X.op0W (H' := [.rows 1 [(e_api_Court c)], .rows 3 [(V.agg [(V.i 0), (V.i 0), (V.i 0)])], .map (List.map (fun p : Int × Bool => V.i p.1) (putM posI m x1.From true)) (List.map (fun p : Int × Bool => V.b p.2) (putM posI m x1.From true)), .rows 8 [(e_api_Letter x1)]]) rfl (X.putW (f := V.i) (g := V.b) (pos := posI) (k := x1.From) (v := true) (l := m) X.keyEq_i (X.posI_ok _) rfl rfl rfl rfl rfl rfl rfl) rfl (GS.opsNil ?_)
  refine GS.endB (GS.region ?_)
  refine X.opR rfl (X.addE rfl rfl) rfl (X.q rfl (GS.opsNil ?_))
  have hE := Option.some.inj hM
  exact X.gc [some 0, some 1, some 2] (hc_2 (w64 (x3 + 1), (putM posI m x1.From true)) hE.symm) rfl rfl rfl (ga rfl rfl) (gb9 rfl rfl rfl (gb9 rfl rfl rfl (X.gb_mapK 9 rfl rfl (fun _ => rfl) (fun _ => rfl) gb_nil)))
 replace hM := ite_f h_6 hM
 refine GS.exit rfl ?_
 obtain ⟨y_1, hM, hy⟩ := map_of hM
 rw [hr_1 _ hy.symm] at hM
 exact X.gc [some 0, some 1] (hj_1 () hM) rfl rfl rfl (ga rfl rfl) (gb9 rfl rfl rfl (gb9 rfl rfl rfl gb_nil))
theorem ok_arbiter_next {c : api_Court} {arbiter : Int} {round : Int} {r : Int} (hM : arbiter_next c arbiter round = some r) : Ct Try.prog 71 [(e_api_Court c), (V.i arbiter), (V.i round)] (V.i r) := by
 refine ct_of_gs CC_ok rfl ?_
 unfold arbiter_next at hM
 refine X.sq ?_
 refine X.opW rfl rfl rfl rfl (X.q rfl (X.nq (X.q rfl ?_)))
 refine X.opR rfl (X.addE rfl rfl) rfl (X.q rfl (GS.opsNil (GS.seq ?_)))
 refine X.join (τ := Int) (fun v => arbiter_next_j1 v = some r) (fun v => ⟨[(7, (V.i v))], [], 0, none, 20⟩) ?_ ?_
 ·intro r_ hM
  replace hM : arbiter_next_j1 r_ = some r := hM
  unfold arbiter_next_j1 at hM
  refine X.sq (X.q rfl (X.q rfl ?_))
  refine GS.opsNil ?_
  cases hM
  exact GS.ret ⟨_, rfl, ⟨30, rfl⟩⟩
 intro hj_1
 refine GS.block ?_
 refine X.gc [some 0] (X.loop (σ := Int) (fun v => ⟨[(1, (V.i arbiter)), (3, (V.ptr 0 0 0)), (7, (V.i v))], [.rows 1 [(e_api_Court c)]], 0, none, 20⟩) hM ?_ rfl) rfl rfl rfl (ga rfl rfl) (gb9 rfl rfl rfl gb_nil)
 intro r_1 b_1 hM hc_2 hr_1
 rw [arbiter_next_b2] at hM
 iterate 2 refine GS.seq ?_
 obtain ⟨q, h_1, hM⟩ := bind_of hM
 refine GS.region (X.q rfl ?_)
 refine X.opR rfl (X.subE rfl rfl) rfl (X.q rfl (X.q rfl ?_))
 refine X.opR rfl (X.remE h_1 rfl rfl) rfl (X.q rfl (X.q rfl ?_))
 refine GS.opsNil ?_
 refine X.cond rfl (fun h_2 => ?_) (fun h_2 => ?_)
 ·replace hM := ite_t h_2 hM
  refine GS.skip (GS.block (GS.region (X.q rfl ?_)))
  refine X.opR rfl (X.addE rfl rfl) rfl (X.q rfl (GS.opsNil ?_))
  refine GS.endB ?_
  have hE := Option.some.inj hM
  exact X.gc [some 0] (hc_2 (w64 (r_1 + 1)) hE.symm) rfl rfl rfl (ga rfl rfl) (gb9 rfl rfl rfl gb_nil)
 replace hM := ite_f h_2 hM
 refine GS.exit rfl ?_
 obtain ⟨y_1, hM, hy⟩ := map_of hM
 rw [hr_1 _ hy.symm] at hM
 exact X.gc [] (hj_1 r_1 hM) rfl rfl rfl (ga rfl rfl) (gb_nil)
theorem ok_arbiter_Next {c : api_Court} {arbiter : Int} {round : Int} {r : Int × Int} (hM : arbiter_Next c arbiter round = some r) : Ct Try.prog 22 [(e_api_Court c), (V.i arbiter), (V.i round)] (V.tup [(V.i r.1), (V.i r.2)]) := by
 refine ct_of_gs CC_ok rfl ?_
 unfold arbiter_Next at hM
 refine X.sq ?_
 refine X.opW rfl rfl rfl rfl (X.q rfl (X.q rfl ?_))
 refine GS.opsNil (GS.seq (X.sq (X.q rfl ?_)))
 refine X.call (ok_arbiter_Check c) rfl rfl rfl (.cons (.shut (n := 9) rfl) .nil) (X.q rfl (X.nq (X.q rfl (X.q rfl ?_))))
 refine GS.opsNil ?_
 refine X.cond rfl (fun h_1 => ?_) (fun h_1 => ?_)
 ·replace hM := ite_t h_1 hM
  refine X.sq (X.q rfl (X.q rfl (X.q rfl ?_)))
  refine GS.opsNil ?_
  cases hM
  exact GS.ret ⟨_, rfl, ⟨30, rfl⟩⟩
 replace hM := ite_f h_1 hM
 refine GS.skip (GS.seq (X.sq ?_))
 refine X.mid [(1, (V.i arbiter)), (2, (V.i round)), (3, (V.ptr 0 0 0)), (23, (V.b ((!(arbiter_judge c arbiter)) || (!(arbiter_within round 0 1048576)))))] ?_ ?_
 ·intro hg
  refine X.split (!(arbiter_judge c arbiter)) (fun h_2 => ?_) (fun h_2 => ?_)
  ·iterate 2 refine X.q rfl ?_
   refine X.call (ok_arbiter_judge c arbiter) rfl rfl rfl (.cons (.shut (n := 9) rfl) (.cons (.shut (n := 9) rfl) .nil)) (X.q rfl (X.q rfl ?_))
   iterate 3 refine X.off (X.off_f rfl rfl rfl h_2) rfl ?_
   refine X.opR rfl (X.pickor_t (y := !(arbiter_within round 0 1048576)) rfl h_2 rfl) rfl (GS.opsNil ?_)
   exact X.norm _ hg rfl (sr rfl)
  refine X.q rfl (X.q rfl ?_)
  refine X.call (ok_arbiter_judge c arbiter) rfl rfl rfl (.cons (.shut (n := 9) rfl) (.cons (.shut (n := 9) rfl) .nil)) (X.q rfl (X.q rfl ?_))
  refine X.opR (X.on_f rfl rfl rfl h_2) rfl rfl ?_
  refine X.call (ok_arbiter_within round 0 1048576) (X.on_f rfl rfl rfl h_2) rfl rfl (.cons (.shut (n := 9) rfl) (.cons (.shut (n := 9) rfl) (.cons (.shut (n := 9) rfl) .nil))) ?_
  refine X.opR (X.on_f rfl rfl rfl h_2) rfl rfl ?_
  refine X.opR rfl (X.pickor_f (y := !(arbiter_within round 0 1048576)) rfl h_2 rfl) rfl (GS.opsNil ?_)
  exact X.norm _ hg rfl (sr rfl)
 refine X.cond rfl (fun h_3 => ?_) (fun h_3 => ?_)
 ·replace hM := ite_t h_3 hM
  refine X.sq (X.q rfl (X.q rfl ?_))
  refine GS.opsNil ?_
  cases hM
  exact GS.ret ⟨_, rfl, ⟨30, rfl⟩⟩
 replace hM := ite_f h_3 hM
 refine GS.skip (GS.seq ?_)
 obtain ⟨y, h_4, hM⟩ := bind_of hM
 refine GS.region (X.q rfl (X.q rfl (X.q rfl ?_)))
 refine X.call (ok_arbiter_next h_4) rfl rfl rfl (.cons (.shut (n := 9) rfl) (.cons (.shut (n := 9) rfl) (.cons (.shut (n := 9) rfl) .nil))) (X.q rfl (GS.opsNil (GS.seq (X.sq (X.q rfl (X.q rfl ?_))))))
 refine GS.opsNil ?_
 refine X.cond rfl (fun h_5 => ?_) (fun h_5 => ?_)
 ·replace hM := ite_t h_5 hM
  refine X.sq (X.q rfl (X.q rfl ?_))
  refine GS.opsNil ?_
  cases hM
  exact GS.ret ⟨_, rfl, ⟨30, rfl⟩⟩
 replace hM := ite_f h_5 hM
 refine GS.skip (X.sq (X.q rfl (X.q rfl (X.q rfl ?_))))
 refine GS.opsNil ?_
 cases hM
 exact GS.ret ⟨_, rfl, ⟨30, rfl⟩⟩
set_option maxHeartbeats 4000000 in
theorem ok_law09_sanity {r : Bool} (hM : law09_sanity = some r) : Ct Try.prog 14 [] (V.b r) := by
 refine ct_of_gs CC_ok rfl ?_
 unfold law09_sanity at hM
 refine X.sq (X.q rfl (X.nq (X.q rfl ?_)))
 refine X.opW rfl rfl rfl rfl ?_
 refine X.op0W rfl rfl rfl (GS.opsNil (GS.seq ?_))
 replace hM := bind_of hM
 obtain ⟨y, h_1, hM⟩ := hM
 replace hM := bind_of hM
 obtain ⟨y1, h_2, hM⟩ := hM
 refine X.drawc (by kernel_rfl) rfl ?_
 refine X.cop rfl rfl rfl rfl ?_
 refine X.ccall (ok_law09_three h_1) rfl rfl rfl rfl .nil ?_
 refine X.ccall (ok_arbiter_Lawful h_2) rfl rfl rfl rfl (.cons (.shut (n := 9) rfl) (.cons (.shut (n := 9) rfl) .nil)) ?_
 iterate 7 refine X.cop rfl rfl rfl rfl ?_
 refine X.cnil ?_
 refine X.norm [(1, (V.ptr 0 0 0)), (2, (V.i y1.1)), (3, (V.b y1.2.1)), (4, (V.i y1.2.2))] ?_ rfl (sr rfl)
 refine GS.seq ?_
 replace hM := bind_of hM
 obtain ⟨y2, h_3, hM⟩ := hM
 replace hM := bind_of hM
 obtain ⟨y3, h_4, hM⟩ := hM
 refine X.drawc (by kernel_rfl) rfl ?_
 refine X.cop rfl rfl rfl rfl ?_
 refine X.ccall (ok_law09_three h_3) rfl rfl rfl rfl .nil ?_
 refine X.ccall (ok_arbiter_Rulings h_4) rfl rfl rfl rfl (.cons (.shut (n := 9) rfl) (.cons (.shut (n := 9) rfl) .nil)) ?_
 iterate 5 refine X.cop rfl rfl rfl rfl ?_
 refine X.cnil ?_
 refine X.norm [(1, (V.ptr 0 0 0)), (2, (V.i y1.1)), (3, (V.b y1.2.1)), (4, (V.i y1.2.2)), (5, (V.sl (List.map e_api_Ruling y3.1))), (6, (V.i y3.2))] ?_ rfl (sr rfl)
 refine GS.seq ?_
 replace hM := bind_of hM
 obtain ⟨y4, h_5, hM⟩ := hM
 refine GS.region (X.q rfl (X.q rfl (X.q rfl ?_)))
 refine GS.bldF rfl rfl rfl rfl ?_
 refine X.call (ok_arbiter_Pick h_5) rfl rfl rfl (.cons (.shut (n := 9) rfl) (.cons (.shut (n := 9) rfl) .nil)) ?_
 iterate 7 refine X.q rfl ?_
 refine GS.opsNil (GS.seq ?_)
 replace hM := bind_of hM
 obtain ⟨y5, h_6, hM⟩ := hM
 replace hM := bind_of hM
 obtain ⟨l, h_7, hM⟩ := hM
 refine GS.region ?_
 refine X.own (own_law09_three h_6) (fun z_1 => (ovlz z_1 1 y5)) rfl rfl rfl .nil rfl (fun _ => ⟨_, (X.rn_ovl rfl)⟩) (fun _ => ⟨_, X.rnB_obl 9 (fun _ => rfl)⟩) (fun z_1 => ?_)
 iterate 4 refine X.q rfl ?_
 refine X.opW rfl rfl rfl rfl ?_
 refine X.appN (f := e_api_Letter) h_7 (fun _ => rfl) (by rfl) (by rfl) (by rfl) (by rfl) (by rfl) (by rfl) (by rfl) (by rfl) (by rfl) (by rfl) (by rfl) (by exact rfl) (by rfl) (by rfl) (X.q rfl (GS.opsNil (GS.seq ?_)))
 replace hM := bind_of hM
 obtain ⟨y6, h_8, hM⟩ := hM
 refine GS.region (X.q rfl (X.q rfl ?_))
 refine X.callF (ok_arbiter_Lawful h_8) rfl rfl rfl (m := 9) rfl (.cons (.shut (n := 9) rfl) (.cons (FR.arg (FR.osl (f := e_api_Letter) (l := l) 9 rfl rfl (fun _ => rfl))) .nil)) ?_
 iterate 7 refine X.q rfl ?_
 refine GS.opsNil (GS.seq ?_)
 replace hM := bind_of hM
 obtain ⟨y7, h_9, hM⟩ := hM
 refine GS.region ?_
 refine X.call (ok_law09_three h_9) rfl rfl rfl .nil (X.q rfl (GS.opsNil (GS.seq ?_)))
 replace hM := bind_of hM
 obtain ⟨l1, h_10, hM⟩ := hM
 replace hM := bind_of hM
 obtain ⟨y8, h_11, hM⟩ := hM
 refine X.drawc (by kernel_rfl) rfl ?_
 iterate 2 refine X.cop rfl rfl rfl rfl ?_
 refine X.cop rfl (X.sliceF3 (f := e_api_Letter) h_10 (fun _ => rfl) rfl rfl rfl rfl rfl rfl (X.boundA_int rfl) (X.boundA_int rfl)) rfl rfl ?_
 refine X.ccall (ok_arbiter_Can h_11) rfl rfl rfl rfl (.cons (.shut (n := 9) rfl) (.cons (.shut (n := 9) rfl) (.cons (.shut (n := 9) rfl) (.cons (.shut (n := 9) rfl) .nil)))) ?_
 iterate 9 refine X.cop rfl rfl rfl rfl ?_
 refine X.cnil ?_
 refine X.norm [(1, (V.ptr 0 0 0)), (2, (V.i y1.1)), (3, (V.b y1.2.1)), (4, (V.i y1.2.2)), (5, (V.sl (List.map e_api_Ruling y3.1))), (6, (V.i y3.2)), (7, (V.i y4.1)), (8, (V.b y4.2.1)), (9, (V.i y4.2.2)), (11, (V.i y6.1)), (12, (V.b y6.2.1)), (13, (V.i y6.2.2)), (14, (V.sl (List.map e_api_Letter y7))), (15, (V.i y8.1)), (16, (V.b y8.2.1)), (17, (V.b y8.2.2.1)), (18, (V.i y8.2.2.2))] ?_ rfl (sr rfl)
 refine GS.seq ?_
 replace hM := bind_of hM
 obtain ⟨l2, h_12, hM⟩ := hM
 replace hM := bind_of hM
 obtain ⟨y9, h_13, hM⟩ := hM
 refine X.draw (by kernel_rfl) ?_
 iterate 2 refine X.dop rfl rfl rfl rfl (by kernel_rfl) rfl rfl ?_
 refine X.dop rfl (X.sliceF3 (f := e_api_Letter) h_12 (fun _ => rfl) rfl rfl rfl rfl rfl (X.boundA_int rfl) (X.boundA_int rfl) (X.boundA_int rfl)) rfl rfl (by kernel_rfl) rfl rfl ?_
 refine X.dcall (ok_arbiter_CheckRuling h_13) rfl rfl rfl (by kernel_rfl) rfl (.cons (.shut (n := 9) rfl) (.cons (.shut (n := 9) rfl) .nil)) ?_
 iterate 4 refine X.dop rfl rfl rfl rfl (by kernel_rfl) rfl rfl ?_
 refine X.dop0 rfl rfl rfl rfl (by kernel_rfl) rfl ?_
 refine X.dop rfl rfl rfl rfl (by kernel_rfl) rfl rfl ?_
 refine X.dnil ?_
 refine X.norm [(1, (V.ptr 0 0 0)), (2, (V.i y1.1)), (3, (V.b y1.2.1)), (4, (V.i y1.2.2)), (5, (V.sl (List.map e_api_Ruling y3.1))), (6, (V.i y3.2)), (7, (V.i y4.1)), (8, (V.b y4.2.1)), (9, (V.i y4.2.2)), (11, (V.i y6.1)), (12, (V.b y6.2.1)), (13, (V.i y6.2.2)), (15, (V.i y8.1)), (16, (V.b y8.2.1)), (17, (V.b y8.2.2.1)), (18, (V.i y8.2.2.2)), (19, (V.ptr 4 0 0)), (20, (V.i y9.2))] ?_ rfl (sr rfl)
 refine GS.seq ?_
 replace hM := bind_of hM
 obtain ⟨y10, h_14, hM⟩ := hM
 refine GS.region (X.q rfl ?_)
 refine X.call (ok_arbiter_Next h_14) rfl rfl rfl (.cons (.shut (n := 9) rfl) (.cons (.shut (n := 9) rfl) (.cons (.shut (n := 9) rfl) .nil))) ?_
 iterate 5 refine X.q rfl ?_
 refine GS.opsNil ?_
 iterate 2 refine GS.seq ?_
 replace hM := gb_of hM
 obtain ⟨x, h_15, hM⟩ := hM
 refine GS.region ?_
 refine X.mid [(1, (V.ptr 0 0 0)), (5, (V.sl (List.map e_api_Ruling y3.1))), (11, (V.i y6.1)), (12, (V.b y6.2.1)), (13, (V.i y6.2.2)), (15, (V.i y8.1)), (16, (V.b y8.2.1)), (17, (V.b y8.2.2.1)), (18, (V.i y8.2.2.2)), (19, (V.ptr 4 0 0)), (20, (V.i y9.2)), (21, (V.i y10.1)), (22, (V.i y10.2)), (119, (V.b (((((((((!decide (y1.2.2 = 0)) || (!y1.2.1)) || (!decide (y1.1 = (-1)))) || (!decide (y3.2 = 0))) || (!decide ((y3.1.length : Int) = 1))) || (!decide (x = (⟨4, 1, 7⟩ : api_Ruling)))) || (!decide (y4.2.2 = 0))) || (!y4.2.1)) || (!decide (y4.1 = 7)))))] ?_ ?_
 ·intro hg
  refine X.split (!decide (y1.2.2 = 0)) (fun h_16 => ?_) (fun h_16 => ?_)
  ·iterate 3 refine X.q rfl ?_
   iterate 2 refine X.off (X.off_f rfl rfl rfl h_16) rfl ?_
   refine X.opR rfl (X.pickor_t (y := !y1.2.1) rfl h_16 rfl) rfl (X.q rfl ?_)
   iterate 2 refine X.off (X.off_f rfl rfl rfl (X.or_tt h_16)) rfl ?_
   refine X.opR rfl (X.pickor_t (y := !decide (y1.1 = (-1))) rfl (X.or_tt h_16) rfl) rfl (X.q rfl ?_)
   iterate 2 refine X.off (X.off_f rfl rfl rfl (X.or_tt (X.or_tt h_16))) rfl ?_
   refine X.opR rfl (X.pickor_t (y := !decide (y3.2 = 0)) rfl (X.or_tt (X.or_tt h_16)) rfl) rfl (X.q rfl ?_)
   iterate 3 refine X.off (X.off_f rfl rfl rfl (X.or_tt (X.or_tt (X.or_tt h_16)))) rfl ?_
   refine X.opR rfl (X.pickor_t (y := !decide ((y3.1.length : Int) = 1)) rfl (X.or_tt (X.or_tt (X.or_tt h_16))) rfl) rfl (X.q rfl ?_)
   iterate 5 refine X.off (X.off_f rfl rfl rfl (X.or_tt (X.or_tt (X.or_tt (X.or_tt h_16))))) rfl ?_
   refine X.opR rfl (X.pickor_t (y := !decide (x = (⟨4, 1, 7⟩ : api_Ruling))) rfl (X.or_tt (X.or_tt (X.or_tt (X.or_tt h_16)))) rfl) rfl (X.q rfl ?_)
   iterate 2 refine X.off (X.off_f rfl rfl rfl (X.or_tt (X.or_tt (X.or_tt (X.or_tt (X.or_tt h_16)))))) rfl ?_
   refine X.opR rfl (X.pickor_t (y := !decide (y4.2.2 = 0)) rfl (X.or_tt (X.or_tt (X.or_tt (X.or_tt (X.or_tt h_16))))) rfl) rfl (X.q rfl ?_)
   iterate 2 refine X.off (X.off_f rfl rfl rfl (X.or_tt (X.or_tt (X.or_tt (X.or_tt (X.or_tt (X.or_tt h_16))))))) rfl ?_
   refine X.opR rfl (X.pickor_t (y := !y4.2.1) rfl (X.or_tt (X.or_tt (X.or_tt (X.or_tt (X.or_tt (X.or_tt h_16)))))) rfl) rfl (X.q rfl ?_)
   iterate 2 refine X.off (X.off_f rfl rfl rfl (X.or_tt (X.or_tt (X.or_tt (X.or_tt (X.or_tt (X.or_tt (X.or_tt h_16)))))))) rfl ?_
   refine X.opR rfl (X.pickor_t (y := !decide (y4.1 = 7)) rfl (X.or_tt (X.or_tt (X.or_tt (X.or_tt (X.or_tt (X.or_tt (X.or_tt h_16))))))) rfl) rfl (GS.opsNil ?_)
   exact X.norm _ hg rfl (sr rfl)
  refine X.split (((!decide (y1.2.2 = 0)) || (!y1.2.1))) (fun h_17 => ?_) (fun h_17 => ?_)
  ·iterate 3 refine X.q rfl ?_
   iterate 2 refine X.opR (X.on_f rfl rfl rfl h_16) rfl rfl ?_
   refine X.opR rfl (X.pickor_f (y := !y1.2.1) rfl h_16 rfl) rfl (X.q rfl ?_)
   iterate 2 refine X.off (X.off_f rfl rfl rfl h_17) rfl ?_
   refine X.opR rfl (X.pickor_t (y := !decide (y1.1 = (-1))) rfl h_17 rfl) rfl (X.q rfl ?_)
   iterate 2 refine X.off (X.off_f rfl rfl rfl (X.or_tt h_17)) rfl ?_
   refine X.opR rfl (X.pickor_t (y := !decide (y3.2 = 0)) rfl (X.or_tt h_17) rfl) rfl (X.q rfl ?_)
   iterate 3 refine X.off (X.off_f rfl rfl rfl (X.or_tt (X.or_tt h_17))) rfl ?_
   refine X.opR rfl (X.pickor_t (y := !decide ((y3.1.length : Int) = 1)) rfl (X.or_tt (X.or_tt h_17)) rfl) rfl (X.q rfl ?_)
   iterate 5 refine X.off (X.off_f rfl rfl rfl (X.or_tt (X.or_tt (X.or_tt h_17)))) rfl ?_
   refine X.opR rfl (X.pickor_t (y := !decide (x = (⟨4, 1, 7⟩ : api_Ruling))) rfl (X.or_tt (X.or_tt (X.or_tt h_17))) rfl) rfl (X.q rfl ?_)
   iterate 2 refine X.off (X.off_f rfl rfl rfl (X.or_tt (X.or_tt (X.or_tt (X.or_tt h_17))))) rfl ?_
   refine X.opR rfl (X.pickor_t (y := !decide (y4.2.2 = 0)) rfl (X.or_tt (X.or_tt (X.or_tt (X.or_tt h_17)))) rfl) rfl (X.q rfl ?_)
   iterate 2 refine X.off (X.off_f rfl rfl rfl (X.or_tt (X.or_tt (X.or_tt (X.or_tt (X.or_tt h_17)))))) rfl ?_
   refine X.opR rfl (X.pickor_t (y := !y4.2.1) rfl (X.or_tt (X.or_tt (X.or_tt (X.or_tt (X.or_tt h_17))))) rfl) rfl (X.q rfl ?_)
   iterate 2 refine X.off (X.off_f rfl rfl rfl (X.or_tt (X.or_tt (X.or_tt (X.or_tt (X.or_tt (X.or_tt h_17))))))) rfl ?_
   refine X.opR rfl (X.pickor_t (y := !decide (y4.1 = 7)) rfl (X.or_tt (X.or_tt (X.or_tt (X.or_tt (X.or_tt (X.or_tt h_17)))))) rfl) rfl (GS.opsNil ?_)
   exact X.norm _ hg rfl (sr rfl)
  refine X.split ((((!decide (y1.2.2 = 0)) || (!y1.2.1)) || (!decide (y1.1 = (-1))))) (fun h_18 => ?_) (fun h_18 => ?_)
  ·iterate 3 refine X.q rfl ?_
   iterate 2 refine X.opR (X.on_f rfl rfl rfl h_16) rfl rfl ?_
   refine X.opR rfl (X.pickor_f (y := !y1.2.1) rfl h_16 rfl) rfl (X.q rfl ?_)
   iterate 2 refine X.opR (X.on_f rfl rfl rfl h_17) rfl rfl ?_
   refine X.opR rfl (X.pickor_f (y := !decide (y1.1 = (-1))) rfl h_17 rfl) rfl (X.q rfl ?_)
   iterate 2 refine X.off (X.off_f rfl rfl rfl h_18) rfl ?_
   refine X.opR rfl (X.pickor_t (y := !decide (y3.2 = 0)) rfl h_18 rfl) rfl (X.q rfl ?_)
   iterate 3 refine X.off (X.off_f rfl rfl rfl (X.or_tt h_18)) rfl ?_
   refine X.opR rfl (X.pickor_t (y := !decide ((y3.1.length : Int) = 1)) rfl (X.or_tt h_18) rfl) rfl (X.q rfl ?_)
   iterate 5 refine X.off (X.off_f rfl rfl rfl (X.or_tt (X.or_tt h_18))) rfl ?_
   refine X.opR rfl (X.pickor_t (y := !decide (x = (⟨4, 1, 7⟩ : api_Ruling))) rfl (X.or_tt (X.or_tt h_18)) rfl) rfl (X.q rfl ?_)
   iterate 2 refine X.off (X.off_f rfl rfl rfl (X.or_tt (X.or_tt (X.or_tt h_18)))) rfl ?_
   refine X.opR rfl (X.pickor_t (y := !decide (y4.2.2 = 0)) rfl (X.or_tt (X.or_tt (X.or_tt h_18))) rfl) rfl (X.q rfl ?_)
   iterate 2 refine X.off (X.off_f rfl rfl rfl (X.or_tt (X.or_tt (X.or_tt (X.or_tt h_18))))) rfl ?_
   refine X.opR rfl (X.pickor_t (y := !y4.2.1) rfl (X.or_tt (X.or_tt (X.or_tt (X.or_tt h_18)))) rfl) rfl (X.q rfl ?_)
   iterate 2 refine X.off (X.off_f rfl rfl rfl (X.or_tt (X.or_tt (X.or_tt (X.or_tt (X.or_tt h_18)))))) rfl ?_
   refine X.opR rfl (X.pickor_t (y := !decide (y4.1 = 7)) rfl (X.or_tt (X.or_tt (X.or_tt (X.or_tt (X.or_tt h_18))))) rfl) rfl (GS.opsNil ?_)
   exact X.norm _ hg rfl (sr rfl)
  refine X.split (((((!decide (y1.2.2 = 0)) || (!y1.2.1)) || (!decide (y1.1 = (-1)))) || (!decide (y3.2 = 0)))) (fun h_19 => ?_) (fun h_19 => ?_)
  ·iterate 3 refine X.q rfl ?_
   iterate 2 refine X.opR (X.on_f rfl rfl rfl h_16) rfl rfl ?_
   refine X.opR rfl (X.pickor_f (y := !y1.2.1) rfl h_16 rfl) rfl (X.q rfl ?_)
   iterate 2 refine X.opR (X.on_f rfl rfl rfl h_17) rfl rfl ?_
   refine X.opR rfl (X.pickor_f (y := !decide (y1.1 = (-1))) rfl h_17 rfl) rfl (X.q rfl ?_)
   iterate 2 refine X.opR (X.on_f rfl rfl rfl h_18) rfl rfl ?_
   refine X.opR rfl (X.pickor_f (y := !decide (y3.2 = 0)) rfl h_18 rfl) rfl (X.q rfl ?_)
   iterate 3 refine X.off (X.off_f rfl rfl rfl h_19) rfl ?_
   refine X.opR rfl (X.pickor_t (y := !decide ((y3.1.length : Int) = 1)) rfl h_19 rfl) rfl (X.q rfl ?_)
   iterate 5 refine X.off (X.off_f rfl rfl rfl (X.or_tt h_19)) rfl ?_
   refine X.opR rfl (X.pickor_t (y := !decide (x = (⟨4, 1, 7⟩ : api_Ruling))) rfl (X.or_tt h_19) rfl) rfl (X.q rfl ?_)
   iterate 2 refine X.off (X.off_f rfl rfl rfl (X.or_tt (X.or_tt h_19))) rfl ?_
   refine X.opR rfl (X.pickor_t (y := !decide (y4.2.2 = 0)) rfl (X.or_tt (X.or_tt h_19)) rfl) rfl (X.q rfl ?_)
   iterate 2 refine X.off (X.off_f rfl rfl rfl (X.or_tt (X.or_tt (X.or_tt h_19)))) rfl ?_
   refine X.opR rfl (X.pickor_t (y := !y4.2.1) rfl (X.or_tt (X.or_tt (X.or_tt h_19))) rfl) rfl (X.q rfl ?_)
   iterate 2 refine X.off (X.off_f rfl rfl rfl (X.or_tt (X.or_tt (X.or_tt (X.or_tt h_19))))) rfl ?_
   refine X.opR rfl (X.pickor_t (y := !decide (y4.1 = 7)) rfl (X.or_tt (X.or_tt (X.or_tt (X.or_tt h_19)))) rfl) rfl (GS.opsNil ?_)
   exact X.norm _ hg rfl (sr rfl)
  refine X.split ((((((!decide (y1.2.2 = 0)) || (!y1.2.1)) || (!decide (y1.1 = (-1)))) || (!decide (y3.2 = 0))) || (!decide ((y3.1.length : Int) = 1)))) (fun h_20 => ?_) (fun h_20 => ?_)
  ·iterate 3 refine X.q rfl ?_
   iterate 2 refine X.opR (X.on_f rfl rfl rfl h_16) rfl rfl ?_
   refine X.opR rfl (X.pickor_f (y := !y1.2.1) rfl h_16 rfl) rfl (X.q rfl ?_)
   iterate 2 refine X.opR (X.on_f rfl rfl rfl h_17) rfl rfl ?_
   refine X.opR rfl (X.pickor_f (y := !decide (y1.1 = (-1))) rfl h_17 rfl) rfl (X.q rfl ?_)
   iterate 2 refine X.opR (X.on_f rfl rfl rfl h_18) rfl rfl ?_
   refine X.opR rfl (X.pickor_f (y := !decide (y3.2 = 0)) rfl h_18 rfl) rfl (X.q rfl ?_)
   refine X.opR (X.on_f rfl rfl rfl h_19) rfl rfl ?_
   refine X.opR (X.on_f rfl rfl rfl h_19) (X.lenF rfl rfl rfl) rfl ?_
   refine X.opR (X.on_f rfl rfl rfl h_19) rfl rfl ?_
   refine X.opR rfl (X.pickor_f (y := !decide ((y3.1.length : Int) = 1)) rfl h_19 rfl) rfl (X.q rfl ?_)
   iterate 5 refine X.off (X.off_f rfl rfl rfl h_20) rfl ?_
   refine X.opR rfl (X.pickor_t (y := !decide (x = (⟨4, 1, 7⟩ : api_Ruling))) rfl h_20 rfl) rfl (X.q rfl ?_)
   iterate 2 refine X.off (X.off_f rfl rfl rfl (X.or_tt h_20)) rfl ?_
   refine X.opR rfl (X.pickor_t (y := !decide (y4.2.2 = 0)) rfl (X.or_tt h_20) rfl) rfl (X.q rfl ?_)
   iterate 2 refine X.off (X.off_f rfl rfl rfl (X.or_tt (X.or_tt h_20))) rfl ?_
   refine X.opR rfl (X.pickor_t (y := !y4.2.1) rfl (X.or_tt (X.or_tt h_20)) rfl) rfl (X.q rfl ?_)
   iterate 2 refine X.off (X.off_f rfl rfl rfl (X.or_tt (X.or_tt (X.or_tt h_20)))) rfl ?_
   refine X.opR rfl (X.pickor_t (y := !decide (y4.1 = 7)) rfl (X.or_tt (X.or_tt (X.or_tt h_20))) rfl) rfl (GS.opsNil ?_)
   exact X.norm _ hg rfl (sr rfl)
  refine X.split (((((((!decide (y1.2.2 = 0)) || (!y1.2.1)) || (!decide (y1.1 = (-1)))) || (!decide (y3.2 = 0))) || (!decide ((y3.1.length : Int) = 1))) || (!decide (x = (⟨4, 1, 7⟩ : api_Ruling))))) (fun h_21 => ?_) (fun h_21 => ?_)
  ·iterate 3 refine X.q rfl ?_
   iterate 2 refine X.opR (X.on_f rfl rfl rfl h_16) rfl rfl ?_
   refine X.opR rfl (X.pickor_f (y := !y1.2.1) rfl h_16 rfl) rfl (X.q rfl ?_)
   iterate 2 refine X.opR (X.on_f rfl rfl rfl h_17) rfl rfl ?_
   refine X.opR rfl (X.pickor_f (y := !decide (y1.1 = (-1))) rfl h_17 rfl) rfl (X.q rfl ?_)
   iterate 2 refine X.opR (X.on_f rfl rfl rfl h_18) rfl rfl ?_
   refine X.opR rfl (X.pickor_f (y := !decide (y3.2 = 0)) rfl h_18 rfl) rfl (X.q rfl ?_)
   refine X.opR (X.on_f rfl rfl rfl h_19) rfl rfl ?_
   refine X.opR (X.on_f rfl rfl rfl h_19) (X.lenF rfl rfl rfl) rfl ?_
   refine X.opR (X.on_f rfl rfl rfl h_19) rfl rfl ?_
   refine X.opR rfl (X.pickor_f (y := !decide ((y3.1.length : Int) = 1)) rfl h_19 rfl) rfl (X.q rfl ?_)
   refine X.opR (X.on_f rfl rfl rfl h_20) rfl rfl ?_
   refine X.opR (X.on_f rfl rfl rfl h_20) (X.indexF (f := e_api_Ruling) (h_15 (X.nt h_20)) (fun _ => rfl) rfl rfl rfl rfl) rfl ?_
   refine X.opR (X.on_f rfl rfl rfl h_20) (X.loadF (h_15 (X.nt h_20)) rfl rfl rfl) rfl ?_
   refine X.opR (X.on_f rfl rfl rfl h_20) rfl rfl ?_
   refine X.opR (X.on_f rfl rfl rfl h_20) (X.neqE (eq_api_Ruling x (⟨4, 1, 7⟩ : api_Ruling)) rfl rfl) rfl ?_
   refine X.opR rfl (X.pickor_f (y := !decide (x = (⟨4, 1, 7⟩ : api_Ruling))) rfl h_20 rfl) rfl (X.q rfl ?_)
   iterate 2 refine X.off (X.off_f rfl rfl rfl h_21) rfl ?_
   refine X.opR rfl (X.pickor_t (y := !decide (y4.2.2 = 0)) rfl h_21 rfl) rfl (X.q rfl ?_)
   iterate 2 refine X.off (X.off_f rfl rfl rfl (X.or_tt h_21)) rfl ?_
   refine X.opR rfl (X.pickor_t (y := !y4.2.1) rfl (X.or_tt h_21) rfl) rfl (X.q rfl ?_)
   iterate 2 refine X.off (X.off_f rfl rfl rfl (X.or_tt (X.or_tt h_21))) rfl ?_
   refine X.opR rfl (X.pickor_t (y := !decide (y4.1 = 7)) rfl (X.or_tt (X.or_tt h_21)) rfl) rfl (GS.opsNil ?_)
   exact X.norm _ hg rfl (sr rfl)
  refine X.split ((((((((!decide (y1.2.2 = 0)) || (!y1.2.1)) || (!decide (y1.1 = (-1)))) || (!decide (y3.2 = 0))) || (!decide ((y3.1.length : Int) = 1))) || (!decide (x = (⟨4, 1, 7⟩ : api_Ruling)))) || (!decide (y4.2.2 = 0)))) (fun h_22 => ?_) (fun h_22 => ?_)
  ·iterate 3 refine X.q rfl ?_
   iterate 2 refine X.opR (X.on_f rfl rfl rfl h_16) rfl rfl ?_
   refine X.opR rfl (X.pickor_f (y := !y1.2.1) rfl h_16 rfl) rfl (X.q rfl ?_)
   iterate 2 refine X.opR (X.on_f rfl rfl rfl h_17) rfl rfl ?_
   refine X.opR rfl (X.pickor_f (y := !decide (y1.1 = (-1))) rfl h_17 rfl) rfl (X.q rfl ?_)
   iterate 2 refine X.opR (X.on_f rfl rfl rfl h_18) rfl rfl ?_
   refine X.opR rfl (X.pickor_f (y := !decide (y3.2 = 0)) rfl h_18 rfl) rfl (X.q rfl ?_)
   refine X.opR (X.on_f rfl rfl rfl h_19) rfl rfl ?_
   refine X.opR (X.on_f rfl rfl rfl h_19) (X.lenF rfl rfl rfl) rfl ?_
   refine X.opR (X.on_f rfl rfl rfl h_19) rfl rfl ?_
   refine X.opR rfl (X.pickor_f (y := !decide ((y3.1.length : Int) = 1)) rfl h_19 rfl) rfl (X.q rfl ?_)
   refine X.opR (X.on_f rfl rfl rfl h_20) rfl rfl ?_
   refine X.opR (X.on_f rfl rfl rfl h_20) (X.indexF (f := e_api_Ruling) (h_15 (X.nt h_20)) (fun _ => rfl) rfl rfl rfl rfl) rfl ?_
   refine X.opR (X.on_f rfl rfl rfl h_20) (X.loadF (h_15 (X.nt h_20)) rfl rfl rfl) rfl ?_
   refine X.opR (X.on_f rfl rfl rfl h_20) rfl rfl ?_
   refine X.opR (X.on_f rfl rfl rfl h_20) (X.neqE (eq_api_Ruling x (⟨4, 1, 7⟩ : api_Ruling)) rfl rfl) rfl ?_
   refine X.opR rfl (X.pickor_f (y := !decide (x = (⟨4, 1, 7⟩ : api_Ruling))) rfl h_20 rfl) rfl (X.q rfl ?_)
   iterate 2 refine X.opR (X.on_f rfl rfl rfl h_21) rfl rfl ?_
   refine X.opR rfl (X.pickor_f (y := !decide (y4.2.2 = 0)) rfl h_21 rfl) rfl (X.q rfl ?_)
   iterate 2 refine X.off (X.off_f rfl rfl rfl h_22) rfl ?_
   refine X.opR rfl (X.pickor_t (y := !y4.2.1) rfl h_22 rfl) rfl (X.q rfl ?_)
   iterate 2 refine X.off (X.off_f rfl rfl rfl (X.or_tt h_22)) rfl ?_
   refine X.opR rfl (X.pickor_t (y := !decide (y4.1 = 7)) rfl (X.or_tt h_22) rfl) rfl (GS.opsNil ?_)
   exact X.norm _ hg rfl (sr rfl)
  refine X.split (((((((((!decide (y1.2.2 = 0)) || (!y1.2.1)) || (!decide (y1.1 = (-1)))) || (!decide (y3.2 = 0))) || (!decide ((y3.1.length : Int) = 1))) || (!decide (x = (⟨4, 1, 7⟩ : api_Ruling)))) || (!decide (y4.2.2 = 0))) || (!y4.2.1))) (fun h_23 => ?_) (fun h_23 => ?_)
  ·iterate 3 refine X.q rfl ?_
   iterate 2 refine X.opR (X.on_f rfl rfl rfl h_16) rfl rfl ?_
   refine X.opR rfl (X.pickor_f (y := !y1.2.1) rfl h_16 rfl) rfl (X.q rfl ?_)
   iterate 2 refine X.opR (X.on_f rfl rfl rfl h_17) rfl rfl ?_
   refine X.opR rfl (X.pickor_f (y := !decide (y1.1 = (-1))) rfl h_17 rfl) rfl (X.q rfl ?_)
   iterate 2 refine X.opR (X.on_f rfl rfl rfl h_18) rfl rfl ?_
   refine X.opR rfl (X.pickor_f (y := !decide (y3.2 = 0)) rfl h_18 rfl) rfl (X.q rfl ?_)
   refine X.opR (X.on_f rfl rfl rfl h_19) rfl rfl ?_
   refine X.opR (X.on_f rfl rfl rfl h_19) (X.lenF rfl rfl rfl) rfl ?_
   refine X.opR (X.on_f rfl rfl rfl h_19) rfl rfl ?_
   refine X.opR rfl (X.pickor_f (y := !decide ((y3.1.length : Int) = 1)) rfl h_19 rfl) rfl (X.q rfl ?_)
   refine X.opR (X.on_f rfl rfl rfl h_20) rfl rfl ?_
   refine X.opR (X.on_f rfl rfl rfl h_20) (X.indexF (f := e_api_Ruling) (h_15 (X.nt h_20)) (fun _ => rfl) rfl rfl rfl rfl) rfl ?_
   refine X.opR (X.on_f rfl rfl rfl h_20) (X.loadF (h_15 (X.nt h_20)) rfl rfl rfl) rfl ?_
   refine X.opR (X.on_f rfl rfl rfl h_20) rfl rfl ?_
   refine X.opR (X.on_f rfl rfl rfl h_20) (X.neqE (eq_api_Ruling x (⟨4, 1, 7⟩ : api_Ruling)) rfl rfl) rfl ?_
   refine X.opR rfl (X.pickor_f (y := !decide (x = (⟨4, 1, 7⟩ : api_Ruling))) rfl h_20 rfl) rfl (X.q rfl ?_)
   iterate 2 refine X.opR (X.on_f rfl rfl rfl h_21) rfl rfl ?_
   refine X.opR rfl (X.pickor_f (y := !decide (y4.2.2 = 0)) rfl h_21 rfl) rfl (X.q rfl ?_)
   iterate 2 refine X.opR (X.on_f rfl rfl rfl h_22) rfl rfl ?_
   refine X.opR rfl (X.pickor_f (y := !y4.2.1) rfl h_22 rfl) rfl (X.q rfl ?_)
   iterate 2 refine X.off (X.off_f rfl rfl rfl h_23) rfl ?_
   refine X.opR rfl (X.pickor_t (y := !decide (y4.1 = 7)) rfl h_23 rfl) rfl (GS.opsNil ?_)
   exact X.norm _ hg rfl (sr rfl)
  iterate 3 refine X.q rfl ?_
  iterate 2 refine X.opR (X.on_f rfl rfl rfl h_16) rfl rfl ?_
  refine X.opR rfl (X.pickor_f (y := !y1.2.1) rfl h_16 rfl) rfl (X.q rfl ?_)
  iterate 2 refine X.opR (X.on_f rfl rfl rfl h_17) rfl rfl ?_
  refine X.opR rfl (X.pickor_f (y := !decide (y1.1 = (-1))) rfl h_17 rfl) rfl (X.q rfl ?_)
  iterate 2 refine X.opR (X.on_f rfl rfl rfl h_18) rfl rfl ?_
  refine X.opR rfl (X.pickor_f (y := !decide (y3.2 = 0)) rfl h_18 rfl) rfl (X.q rfl ?_)
  refine X.opR (X.on_f rfl rfl rfl h_19) rfl rfl ?_
  refine X.opR (X.on_f rfl rfl rfl h_19) (X.lenF rfl rfl rfl) rfl ?_
  refine X.opR (X.on_f rfl rfl rfl h_19) rfl rfl ?_
  refine X.opR rfl (X.pickor_f (y := !decide ((y3.1.length : Int) = 1)) rfl h_19 rfl) rfl (X.q rfl ?_)
  refine X.opR (X.on_f rfl rfl rfl h_20) rfl rfl ?_
  refine X.opR (X.on_f rfl rfl rfl h_20) (X.indexF (f := e_api_Ruling) (h_15 (X.nt h_20)) (fun _ => rfl) rfl rfl rfl rfl) rfl ?_
  refine X.opR (X.on_f rfl rfl rfl h_20) (X.loadF (h_15 (X.nt h_20)) rfl rfl rfl) rfl ?_
  refine X.opR (X.on_f rfl rfl rfl h_20) rfl rfl ?_
  refine X.opR (X.on_f rfl rfl rfl h_20) (X.neqE (eq_api_Ruling x (⟨4, 1, 7⟩ : api_Ruling)) rfl rfl) rfl ?_
  refine X.opR rfl (X.pickor_f (y := !decide (x = (⟨4, 1, 7⟩ : api_Ruling))) rfl h_20 rfl) rfl (X.q rfl ?_)
  iterate 2 refine X.opR (X.on_f rfl rfl rfl h_21) rfl rfl ?_
  refine X.opR rfl (X.pickor_f (y := !decide (y4.2.2 = 0)) rfl h_21 rfl) rfl (X.q rfl ?_)
  iterate 2 refine X.opR (X.on_f rfl rfl rfl h_22) rfl rfl ?_
  refine X.opR rfl (X.pickor_f (y := !y4.2.1) rfl h_22 rfl) rfl (X.q rfl ?_)
  iterate 2 refine X.opR (X.on_f rfl rfl rfl h_23) rfl rfl ?_
  refine X.opR rfl (X.pickor_f (y := !decide (y4.1 = 7)) rfl h_23 rfl) rfl (GS.opsNil ?_)
  exact X.norm _ hg rfl (sr rfl)
 refine X.cond rfl (fun h_24 => ?_) (fun h_24 => ?_)
 ·replace hM := ite_t h_24 hM
  refine X.sq (X.q rfl (GS.opsNil ?_))
  cases hM
  exact GS.ret ⟨_, rfl, ⟨30, rfl⟩⟩
 replace hM := ite_f h_24 hM
 refine GS.skip (GS.seq ?_)
 replace hM := gb_of hM
 obtain ⟨x1, h_25, hM⟩ := hM
 replace hM := gb_of hM
 obtain ⟨y11, h_26, hM⟩ := hM
 refine X.mid [(0, (V.b ((((((((((((decide (y6.2.2 = 0)) && (!y6.2.1)) && (decide (y6.1 = 9))) && (decide (y8.2.2.2 = 0))) && y8.2.1) && (!y8.2.2.1)) && (decide (y8.1 = 7))) && (decide (y9.2 = 0))) && (decide (y9.1 = x1))) && (decide (y10.2 = 0))) && (decide (y10.1 = 5))) && (decide (y11 = 2)))))] ?_ ?_
 ·intro hg
  refine X.split (decide (y6.2.2 = 0)) (fun h_27 => ?_) (fun h_27 => ?_)
  ·refine X.split (((decide (y6.2.2 = 0)) && (!y6.2.1))) (fun h_28 => ?_) (fun h_28 => ?_)
   ·refine X.split ((((decide (y6.2.2 = 0)) && (!y6.2.1)) && (decide (y6.1 = 9)))) (fun h_29 => ?_) (fun h_29 => ?_)
    ·refine X.split (((((decide (y6.2.2 = 0)) && (!y6.2.1)) && (decide (y6.1 = 9))) && (decide (y8.2.2.2 = 0)))) (fun h_30 => ?_) (fun h_30 => ?_)
     ·refine X.split ((((((decide (y6.2.2 = 0)) && (!y6.2.1)) && (decide (y6.1 = 9))) && (decide (y8.2.2.2 = 0))) && y8.2.1)) (fun h_31 => ?_) (fun h_31 => ?_)
      ·refine X.split (((((((decide (y6.2.2 = 0)) && (!y6.2.1)) && (decide (y6.1 = 9))) && (decide (y8.2.2.2 = 0))) && y8.2.1) && (!y8.2.2.1))) (fun h_32 => ?_) (fun h_32 => ?_)
       ·refine X.split ((((((((decide (y6.2.2 = 0)) && (!y6.2.1)) && (decide (y6.1 = 9))) && (decide (y8.2.2.2 = 0))) && y8.2.1) && (!y8.2.2.1)) && (decide (y8.1 = 7)))) (fun h_33 => ?_) (fun h_33 => ?_)
        ·refine X.split (((((((((decide (y6.2.2 = 0)) && (!y6.2.1)) && (decide (y6.1 = 9))) && (decide (y8.2.2.2 = 0))) && y8.2.1) && (!y8.2.2.1)) && (decide (y8.1 = 7))) && (decide (y9.2 = 0)))) (fun h_34 => ?_) (fun h_34 => ?_)
         ·refine X.split ((((((((((decide (y6.2.2 = 0)) && (!y6.2.1)) && (decide (y6.1 = 9))) && (decide (y8.2.2.2 = 0))) && y8.2.1) && (!y8.2.2.1)) && (decide (y8.1 = 7))) && (decide (y9.2 = 0))) && (decide (y9.1 = x1)))) (fun h_35 => ?_) (fun h_35 => ?_)
          ·refine X.split (((((((((((decide (y6.2.2 = 0)) && (!y6.2.1)) && (decide (y6.1 = 9))) && (decide (y8.2.2.2 = 0))) && y8.2.1) && (!y8.2.2.1)) && (decide (y8.1 = 7))) && (decide (y9.2 = 0))) && (decide (y9.1 = x1))) && (decide (y10.2 = 0)))) (fun h_36 => ?_) (fun h_36 => ?_)
           ·refine X.split ((((((((((((decide (y6.2.2 = 0)) && (!y6.2.1)) && (decide (y6.1 = 9))) && (decide (y8.2.2.2 = 0))) && y8.2.1) && (!y8.2.2.1)) && (decide (y8.1 = 7))) && (decide (y9.2 = 0))) && (decide (y9.1 = x1))) && (decide (y10.2 = 0))) && (decide (y10.1 = 5)))) (fun h_37 => ?_) (fun h_37 => ?_)
            ·refine X.drawc (by kernel_rfl) rfl ?_
             iterate 3 refine X.cop rfl rfl rfl rfl ?_
             iterate 2 refine X.cop (X.on_t rfl rfl rfl h_27) rfl rfl rfl ?_
             refine X.cop rfl (X.pickand_t (y := !y6.2.1) rfl h_27 rfl) rfl rfl ?_
             refine X.cop rfl rfl rfl rfl ?_
             iterate 2 refine X.cop (X.on_t rfl rfl rfl h_28) rfl rfl rfl ?_
             refine X.cop rfl (X.pickand_t (y := decide (y6.1 = 9)) rfl h_28 rfl) rfl rfl ?_
             refine X.cop rfl rfl rfl rfl ?_
             iterate 2 refine X.cop (X.on_t rfl rfl rfl h_29) rfl rfl rfl ?_
             refine X.cop rfl (X.pickand_t (y := decide (y8.2.2.2 = 0)) rfl h_29 rfl) rfl rfl ?_
             refine X.cop rfl rfl rfl rfl ?_
             refine X.cop (X.on_t rfl rfl rfl h_30) rfl rfl rfl ?_
             refine X.cop rfl (X.pickand_t (y := y8.2.1) rfl h_30 rfl) rfl rfl ?_
             refine X.cop rfl rfl rfl rfl ?_
             iterate 2 refine X.cop (X.on_t rfl rfl rfl h_31) rfl rfl rfl ?_
             refine X.cop rfl (X.pickand_t (y := !y8.2.2.1) rfl h_31 rfl) rfl rfl ?_
             refine X.cop rfl rfl rfl rfl ?_
             iterate 2 refine X.cop (X.on_t rfl rfl rfl h_32) rfl rfl rfl ?_
             refine X.cop rfl (X.pickand_t (y := decide (y8.1 = 7)) rfl h_32 rfl) rfl rfl ?_
             refine X.cop rfl rfl rfl rfl ?_
             iterate 2 refine X.cop (X.on_t rfl rfl rfl h_33) rfl rfl rfl ?_
             refine X.cop rfl (X.pickand_t (y := decide (y9.2 = 0)) rfl h_33 rfl) rfl rfl ?_
             refine X.cop rfl rfl rfl rfl ?_
             iterate 2 refine X.cop (X.on_t rfl rfl rfl h_34) rfl rfl rfl ?_
             refine X.cop (X.on_t rfl rfl rfl h_34) (X.indexF (f := e_api_Ruling) (h_25 h_34) (fun _ => rfl) rfl rfl rfl rfl) rfl rfl ?_
             refine X.cop (X.on_t rfl rfl rfl h_34) (X.loadF (h_25 h_34) rfl rfl rfl) rfl rfl ?_
             refine X.cop (X.on_t rfl rfl rfl h_34) (X.eqlE (eq_api_Ruling y9.1 x1) rfl rfl) rfl rfl ?_
             refine X.cop rfl (X.pickand_t (y := decide (y9.1 = x1)) rfl h_34 rfl) rfl rfl ?_
             refine X.cop rfl rfl rfl rfl ?_
             iterate 2 refine X.cop (X.on_t rfl rfl rfl h_35) rfl rfl rfl ?_
             refine X.cop rfl (X.pickand_t (y := decide (y10.2 = 0)) rfl h_35 rfl) rfl rfl ?_
             refine X.cop rfl rfl rfl rfl ?_
             iterate 2 refine X.cop (X.on_t rfl rfl rfl h_36) rfl rfl rfl ?_
             refine X.cop rfl (X.pickand_t (y := decide (y10.1 = 5)) rfl h_36 rfl) rfl rfl ?_
             refine X.cop rfl rfl rfl rfl ?_
             refine X.cop (X.on_t rfl rfl rfl h_37) rfl rfl rfl ?_
             refine X.ccall (ok_arbiter_Majority (h_26 h_37)) (X.on_t rfl rfl rfl h_37) rfl rfl rfl (.cons (.shut (n := 9) rfl) .nil) ?_
             refine X.cop (X.on_t rfl rfl rfl h_37) rfl rfl rfl ?_
             refine X.cop rfl (X.pickand_t (y := decide (y11 = 2)) rfl h_37 rfl) rfl rfl ?_
             refine X.cop rfl rfl rfl rfl ?_
             refine X.cnil ?_
             exact X.norm _ hg rfl (sr rfl)
            refine X.drawc (by kernel_rfl) rfl ?_
            iterate 3 refine X.cop rfl rfl rfl rfl ?_
            iterate 2 refine X.cop (X.on_t rfl rfl rfl h_27) rfl rfl rfl ?_
            refine X.cop rfl (X.pickand_t (y := !y6.2.1) rfl h_27 rfl) rfl rfl ?_
            refine X.cop rfl rfl rfl rfl ?_
            iterate 2 refine X.cop (X.on_t rfl rfl rfl h_28) rfl rfl rfl ?_
            refine X.cop rfl (X.pickand_t (y := decide (y6.1 = 9)) rfl h_28 rfl) rfl rfl ?_
            refine X.cop rfl rfl rfl rfl ?_
            iterate 2 refine X.cop (X.on_t rfl rfl rfl h_29) rfl rfl rfl ?_
            refine X.cop rfl (X.pickand_t (y := decide (y8.2.2.2 = 0)) rfl h_29 rfl) rfl rfl ?_
            refine X.cop rfl rfl rfl rfl ?_
            refine X.cop (X.on_t rfl rfl rfl h_30) rfl rfl rfl ?_
            refine X.cop rfl (X.pickand_t (y := y8.2.1) rfl h_30 rfl) rfl rfl ?_
            refine X.cop rfl rfl rfl rfl ?_
            iterate 2 refine X.cop (X.on_t rfl rfl rfl h_31) rfl rfl rfl ?_
            refine X.cop rfl (X.pickand_t (y := !y8.2.2.1) rfl h_31 rfl) rfl rfl ?_
            refine X.cop rfl rfl rfl rfl ?_
            iterate 2 refine X.cop (X.on_t rfl rfl rfl h_32) rfl rfl rfl ?_
            refine X.cop rfl (X.pickand_t (y := decide (y8.1 = 7)) rfl h_32 rfl) rfl rfl ?_
            refine X.cop rfl rfl rfl rfl ?_
            iterate 2 refine X.cop (X.on_t rfl rfl rfl h_33) rfl rfl rfl ?_
            refine X.cop rfl (X.pickand_t (y := decide (y9.2 = 0)) rfl h_33 rfl) rfl rfl ?_
            refine X.cop rfl rfl rfl rfl ?_
            iterate 2 refine X.cop (X.on_t rfl rfl rfl h_34) rfl rfl rfl ?_
            refine X.cop (X.on_t rfl rfl rfl h_34) (X.indexF (f := e_api_Ruling) (h_25 h_34) (fun _ => rfl) rfl rfl rfl rfl) rfl rfl ?_
            refine X.cop (X.on_t rfl rfl rfl h_34) (X.loadF (h_25 h_34) rfl rfl rfl) rfl rfl ?_
            refine X.cop (X.on_t rfl rfl rfl h_34) (X.eqlE (eq_api_Ruling y9.1 x1) rfl rfl) rfl rfl ?_
            refine X.cop rfl (X.pickand_t (y := decide (y9.1 = x1)) rfl h_34 rfl) rfl rfl ?_
            refine X.cop rfl rfl rfl rfl ?_
            iterate 2 refine X.cop (X.on_t rfl rfl rfl h_35) rfl rfl rfl ?_
            refine X.cop rfl (X.pickand_t (y := decide (y10.2 = 0)) rfl h_35 rfl) rfl rfl ?_
            refine X.cop rfl rfl rfl rfl ?_
            iterate 2 refine X.cop (X.on_t rfl rfl rfl h_36) rfl rfl rfl ?_
            refine X.cop rfl (X.pickand_t (y := decide (y10.1 = 5)) rfl h_36 rfl) rfl rfl ?_
            refine X.cop rfl rfl rfl rfl ?_
            iterate 3 refine X.coff (X.off_t rfl rfl rfl h_37) rfl rfl ?_
            refine X.cop rfl (X.pickand_f (y := decide (y11 = 2)) rfl h_37 rfl) rfl rfl ?_
            refine X.cop rfl rfl rfl rfl ?_
            refine X.cnil ?_
            exact X.norm _ hg rfl (sr rfl)
           refine X.drawc (by kernel_rfl) rfl ?_
           iterate 3 refine X.cop rfl rfl rfl rfl ?_
           iterate 2 refine X.cop (X.on_t rfl rfl rfl h_27) rfl rfl rfl ?_
           refine X.cop rfl (X.pickand_t (y := !y6.2.1) rfl h_27 rfl) rfl rfl ?_
           refine X.cop rfl rfl rfl rfl ?_
           iterate 2 refine X.cop (X.on_t rfl rfl rfl h_28) rfl rfl rfl ?_
           refine X.cop rfl (X.pickand_t (y := decide (y6.1 = 9)) rfl h_28 rfl) rfl rfl ?_
           refine X.cop rfl rfl rfl rfl ?_
           iterate 2 refine X.cop (X.on_t rfl rfl rfl h_29) rfl rfl rfl ?_
           refine X.cop rfl (X.pickand_t (y := decide (y8.2.2.2 = 0)) rfl h_29 rfl) rfl rfl ?_
           refine X.cop rfl rfl rfl rfl ?_
           refine X.cop (X.on_t rfl rfl rfl h_30) rfl rfl rfl ?_
           refine X.cop rfl (X.pickand_t (y := y8.2.1) rfl h_30 rfl) rfl rfl ?_
           refine X.cop rfl rfl rfl rfl ?_
           iterate 2 refine X.cop (X.on_t rfl rfl rfl h_31) rfl rfl rfl ?_
           refine X.cop rfl (X.pickand_t (y := !y8.2.2.1) rfl h_31 rfl) rfl rfl ?_
           refine X.cop rfl rfl rfl rfl ?_
           iterate 2 refine X.cop (X.on_t rfl rfl rfl h_32) rfl rfl rfl ?_
           refine X.cop rfl (X.pickand_t (y := decide (y8.1 = 7)) rfl h_32 rfl) rfl rfl ?_
           refine X.cop rfl rfl rfl rfl ?_
           iterate 2 refine X.cop (X.on_t rfl rfl rfl h_33) rfl rfl rfl ?_
           refine X.cop rfl (X.pickand_t (y := decide (y9.2 = 0)) rfl h_33 rfl) rfl rfl ?_
           refine X.cop rfl rfl rfl rfl ?_
           iterate 2 refine X.cop (X.on_t rfl rfl rfl h_34) rfl rfl rfl ?_
           refine X.cop (X.on_t rfl rfl rfl h_34) (X.indexF (f := e_api_Ruling) (h_25 h_34) (fun _ => rfl) rfl rfl rfl rfl) rfl rfl ?_
           refine X.cop (X.on_t rfl rfl rfl h_34) (X.loadF (h_25 h_34) rfl rfl rfl) rfl rfl ?_
           refine X.cop (X.on_t rfl rfl rfl h_34) (X.eqlE (eq_api_Ruling y9.1 x1) rfl rfl) rfl rfl ?_
           refine X.cop rfl (X.pickand_t (y := decide (y9.1 = x1)) rfl h_34 rfl) rfl rfl ?_
           refine X.cop rfl rfl rfl rfl ?_
           iterate 2 refine X.cop (X.on_t rfl rfl rfl h_35) rfl rfl rfl ?_
           refine X.cop rfl (X.pickand_t (y := decide (y10.2 = 0)) rfl h_35 rfl) rfl rfl ?_
           refine X.cop rfl rfl rfl rfl ?_
           iterate 2 refine X.coff (X.off_t rfl rfl rfl h_36) rfl rfl ?_
           refine X.cop rfl (X.pickand_f (y := decide (y10.1 = 5)) rfl h_36 rfl) rfl rfl ?_
           refine X.cop rfl rfl rfl rfl ?_
           iterate 3 refine X.coff (X.off_t rfl rfl rfl (X.and_ff h_36)) rfl rfl ?_
           refine X.cop rfl (X.pickand_f (y := decide (y11 = 2)) rfl (X.and_ff h_36) rfl) rfl rfl ?_
           refine X.cop rfl rfl rfl rfl ?_
           refine X.cnil ?_
           exact X.norm _ hg rfl (sr rfl)
          refine X.drawc (by kernel_rfl) rfl ?_
          iterate 3 refine X.cop rfl rfl rfl rfl ?_
          iterate 2 refine X.cop (X.on_t rfl rfl rfl h_27) rfl rfl rfl ?_
          refine X.cop rfl (X.pickand_t (y := !y6.2.1) rfl h_27 rfl) rfl rfl ?_
          refine X.cop rfl rfl rfl rfl ?_
          iterate 2 refine X.cop (X.on_t rfl rfl rfl h_28) rfl rfl rfl ?_
          refine X.cop rfl (X.pickand_t (y := decide (y6.1 = 9)) rfl h_28 rfl) rfl rfl ?_
          refine X.cop rfl rfl rfl rfl ?_
          iterate 2 refine X.cop (X.on_t rfl rfl rfl h_29) rfl rfl rfl ?_
          refine X.cop rfl (X.pickand_t (y := decide (y8.2.2.2 = 0)) rfl h_29 rfl) rfl rfl ?_
          refine X.cop rfl rfl rfl rfl ?_
          refine X.cop (X.on_t rfl rfl rfl h_30) rfl rfl rfl ?_
          refine X.cop rfl (X.pickand_t (y := y8.2.1) rfl h_30 rfl) rfl rfl ?_
          refine X.cop rfl rfl rfl rfl ?_
          iterate 2 refine X.cop (X.on_t rfl rfl rfl h_31) rfl rfl rfl ?_
          refine X.cop rfl (X.pickand_t (y := !y8.2.2.1) rfl h_31 rfl) rfl rfl ?_
          refine X.cop rfl rfl rfl rfl ?_
          iterate 2 refine X.cop (X.on_t rfl rfl rfl h_32) rfl rfl rfl ?_
          refine X.cop rfl (X.pickand_t (y := decide (y8.1 = 7)) rfl h_32 rfl) rfl rfl ?_
          refine X.cop rfl rfl rfl rfl ?_
          iterate 2 refine X.cop (X.on_t rfl rfl rfl h_33) rfl rfl rfl ?_
          refine X.cop rfl (X.pickand_t (y := decide (y9.2 = 0)) rfl h_33 rfl) rfl rfl ?_
          refine X.cop rfl rfl rfl rfl ?_
          iterate 2 refine X.cop (X.on_t rfl rfl rfl h_34) rfl rfl rfl ?_
          refine X.cop (X.on_t rfl rfl rfl h_34) (X.indexF (f := e_api_Ruling) (h_25 h_34) (fun _ => rfl) rfl rfl rfl rfl) rfl rfl ?_
          refine X.cop (X.on_t rfl rfl rfl h_34) (X.loadF (h_25 h_34) rfl rfl rfl) rfl rfl ?_
          refine X.cop (X.on_t rfl rfl rfl h_34) (X.eqlE (eq_api_Ruling y9.1 x1) rfl rfl) rfl rfl ?_
          refine X.cop rfl (X.pickand_t (y := decide (y9.1 = x1)) rfl h_34 rfl) rfl rfl ?_
          refine X.cop rfl rfl rfl rfl ?_
          iterate 2 refine X.coff (X.off_t rfl rfl rfl h_35) rfl rfl ?_
          refine X.cop rfl (X.pickand_f (y := decide (y10.2 = 0)) rfl h_35 rfl) rfl rfl ?_
          refine X.cop rfl rfl rfl rfl ?_
          iterate 2 refine X.coff (X.off_t rfl rfl rfl (X.and_ff h_35)) rfl rfl ?_
          refine X.cop rfl (X.pickand_f (y := decide (y10.1 = 5)) rfl (X.and_ff h_35) rfl) rfl rfl ?_
          refine X.cop rfl rfl rfl rfl ?_
          iterate 3 refine X.coff (X.off_t rfl rfl rfl (X.and_ff (X.and_ff h_35))) rfl rfl ?_
          refine X.cop rfl (X.pickand_f (y := decide (y11 = 2)) rfl (X.and_ff (X.and_ff h_35)) rfl) rfl rfl ?_
          refine X.cop rfl rfl rfl rfl ?_
          refine X.cnil ?_
          exact X.norm _ hg rfl (sr rfl)
         refine X.drawc (by kernel_rfl) rfl ?_
         iterate 3 refine X.cop rfl rfl rfl rfl ?_
         iterate 2 refine X.cop (X.on_t rfl rfl rfl h_27) rfl rfl rfl ?_
         refine X.cop rfl (X.pickand_t (y := !y6.2.1) rfl h_27 rfl) rfl rfl ?_
         refine X.cop rfl rfl rfl rfl ?_
         iterate 2 refine X.cop (X.on_t rfl rfl rfl h_28) rfl rfl rfl ?_
         refine X.cop rfl (X.pickand_t (y := decide (y6.1 = 9)) rfl h_28 rfl) rfl rfl ?_
         refine X.cop rfl rfl rfl rfl ?_
         iterate 2 refine X.cop (X.on_t rfl rfl rfl h_29) rfl rfl rfl ?_
         refine X.cop rfl (X.pickand_t (y := decide (y8.2.2.2 = 0)) rfl h_29 rfl) rfl rfl ?_
         refine X.cop rfl rfl rfl rfl ?_
         refine X.cop (X.on_t rfl rfl rfl h_30) rfl rfl rfl ?_
         refine X.cop rfl (X.pickand_t (y := y8.2.1) rfl h_30 rfl) rfl rfl ?_
         refine X.cop rfl rfl rfl rfl ?_
         iterate 2 refine X.cop (X.on_t rfl rfl rfl h_31) rfl rfl rfl ?_
         refine X.cop rfl (X.pickand_t (y := !y8.2.2.1) rfl h_31 rfl) rfl rfl ?_
         refine X.cop rfl rfl rfl rfl ?_
         iterate 2 refine X.cop (X.on_t rfl rfl rfl h_32) rfl rfl rfl ?_
         refine X.cop rfl (X.pickand_t (y := decide (y8.1 = 7)) rfl h_32 rfl) rfl rfl ?_
         refine X.cop rfl rfl rfl rfl ?_
         iterate 2 refine X.cop (X.on_t rfl rfl rfl h_33) rfl rfl rfl ?_
         refine X.cop rfl (X.pickand_t (y := decide (y9.2 = 0)) rfl h_33 rfl) rfl rfl ?_
         refine X.cop rfl rfl rfl rfl ?_
         iterate 5 refine X.coff (X.off_t rfl rfl rfl h_34) rfl rfl ?_
         refine X.cop rfl (X.pickand_f (y := decide (y9.1 = x1)) rfl h_34 rfl) rfl rfl ?_
         refine X.cop rfl rfl rfl rfl ?_
         iterate 2 refine X.coff (X.off_t rfl rfl rfl (X.and_ff h_34)) rfl rfl ?_
         refine X.cop rfl (X.pickand_f (y := decide (y10.2 = 0)) rfl (X.and_ff h_34) rfl) rfl rfl ?_
         refine X.cop rfl rfl rfl rfl ?_
         iterate 2 refine X.coff (X.off_t rfl rfl rfl (X.and_ff (X.and_ff h_34))) rfl rfl ?_
         refine X.cop rfl (X.pickand_f (y := decide (y10.1 = 5)) rfl (X.and_ff (X.and_ff h_34)) rfl) rfl rfl ?_
         refine X.cop rfl rfl rfl rfl ?_
         iterate 3 refine X.coff (X.off_t rfl rfl rfl (X.and_ff (X.and_ff (X.and_ff h_34)))) rfl rfl ?_
         refine X.cop rfl (X.pickand_f (y := decide (y11 = 2)) rfl (X.and_ff (X.and_ff (X.and_ff h_34))) rfl) rfl rfl ?_
         refine X.cop rfl rfl rfl rfl ?_
         refine X.cnil ?_
         exact X.norm _ hg rfl (sr rfl)
        refine X.drawc (by kernel_rfl) rfl ?_
        iterate 3 refine X.cop rfl rfl rfl rfl ?_
        iterate 2 refine X.cop (X.on_t rfl rfl rfl h_27) rfl rfl rfl ?_
        refine X.cop rfl (X.pickand_t (y := !y6.2.1) rfl h_27 rfl) rfl rfl ?_
        refine X.cop rfl rfl rfl rfl ?_
        iterate 2 refine X.cop (X.on_t rfl rfl rfl h_28) rfl rfl rfl ?_
        refine X.cop rfl (X.pickand_t (y := decide (y6.1 = 9)) rfl h_28 rfl) rfl rfl ?_
        refine X.cop rfl rfl rfl rfl ?_
        iterate 2 refine X.cop (X.on_t rfl rfl rfl h_29) rfl rfl rfl ?_
        refine X.cop rfl (X.pickand_t (y := decide (y8.2.2.2 = 0)) rfl h_29 rfl) rfl rfl ?_
        refine X.cop rfl rfl rfl rfl ?_
        refine X.cop (X.on_t rfl rfl rfl h_30) rfl rfl rfl ?_
        refine X.cop rfl (X.pickand_t (y := y8.2.1) rfl h_30 rfl) rfl rfl ?_
        refine X.cop rfl rfl rfl rfl ?_
        iterate 2 refine X.cop (X.on_t rfl rfl rfl h_31) rfl rfl rfl ?_
        refine X.cop rfl (X.pickand_t (y := !y8.2.2.1) rfl h_31 rfl) rfl rfl ?_
        refine X.cop rfl rfl rfl rfl ?_
        iterate 2 refine X.cop (X.on_t rfl rfl rfl h_32) rfl rfl rfl ?_
        refine X.cop rfl (X.pickand_t (y := decide (y8.1 = 7)) rfl h_32 rfl) rfl rfl ?_
        refine X.cop rfl rfl rfl rfl ?_
        iterate 2 refine X.coff (X.off_t rfl rfl rfl h_33) rfl rfl ?_
        refine X.cop rfl (X.pickand_f (y := decide (y9.2 = 0)) rfl h_33 rfl) rfl rfl ?_
        refine X.cop rfl rfl rfl rfl ?_
        iterate 5 refine X.coff (X.off_t rfl rfl rfl (X.and_ff h_33)) rfl rfl ?_
        refine X.cop rfl (X.pickand_f (y := decide (y9.1 = x1)) rfl (X.and_ff h_33) rfl) rfl rfl ?_
        refine X.cop rfl rfl rfl rfl ?_
        iterate 2 refine X.coff (X.off_t rfl rfl rfl (X.and_ff (X.and_ff h_33))) rfl rfl ?_
        refine X.cop rfl (X.pickand_f (y := decide (y10.2 = 0)) rfl (X.and_ff (X.and_ff h_33)) rfl) rfl rfl ?_
        refine X.cop rfl rfl rfl rfl ?_
        iterate 2 refine X.coff (X.off_t rfl rfl rfl (X.and_ff (X.and_ff (X.and_ff h_33)))) rfl rfl ?_
        refine X.cop rfl (X.pickand_f (y := decide (y10.1 = 5)) rfl (X.and_ff (X.and_ff (X.and_ff h_33))) rfl) rfl rfl ?_
        refine X.cop rfl rfl rfl rfl ?_
        iterate 3 refine X.coff (X.off_t rfl rfl rfl (X.and_ff (X.and_ff (X.and_ff (X.and_ff h_33))))) rfl rfl ?_
        refine X.cop rfl (X.pickand_f (y := decide (y11 = 2)) rfl (X.and_ff (X.and_ff (X.and_ff (X.and_ff h_33)))) rfl) rfl rfl ?_
        refine X.cop rfl rfl rfl rfl ?_
        refine X.cnil ?_
        exact X.norm _ hg rfl (sr rfl)
       refine X.drawc (by kernel_rfl) rfl ?_
       iterate 3 refine X.cop rfl rfl rfl rfl ?_
       iterate 2 refine X.cop (X.on_t rfl rfl rfl h_27) rfl rfl rfl ?_
       refine X.cop rfl (X.pickand_t (y := !y6.2.1) rfl h_27 rfl) rfl rfl ?_
       refine X.cop rfl rfl rfl rfl ?_
       iterate 2 refine X.cop (X.on_t rfl rfl rfl h_28) rfl rfl rfl ?_
       refine X.cop rfl (X.pickand_t (y := decide (y6.1 = 9)) rfl h_28 rfl) rfl rfl ?_
       refine X.cop rfl rfl rfl rfl ?_
       iterate 2 refine X.cop (X.on_t rfl rfl rfl h_29) rfl rfl rfl ?_
       refine X.cop rfl (X.pickand_t (y := decide (y8.2.2.2 = 0)) rfl h_29 rfl) rfl rfl ?_
       refine X.cop rfl rfl rfl rfl ?_
       refine X.cop (X.on_t rfl rfl rfl h_30) rfl rfl rfl ?_
       refine X.cop rfl (X.pickand_t (y := y8.2.1) rfl h_30 rfl) rfl rfl ?_
       refine X.cop rfl rfl rfl rfl ?_
       iterate 2 refine X.cop (X.on_t rfl rfl rfl h_31) rfl rfl rfl ?_
       refine X.cop rfl (X.pickand_t (y := !y8.2.2.1) rfl h_31 rfl) rfl rfl ?_
       refine X.cop rfl rfl rfl rfl ?_
       iterate 2 refine X.coff (X.off_t rfl rfl rfl h_32) rfl rfl ?_
       refine X.cop rfl (X.pickand_f (y := decide (y8.1 = 7)) rfl h_32 rfl) rfl rfl ?_
       refine X.cop rfl rfl rfl rfl ?_
       iterate 2 refine X.coff (X.off_t rfl rfl rfl (X.and_ff h_32)) rfl rfl ?_
       refine X.cop rfl (X.pickand_f (y := decide (y9.2 = 0)) rfl (X.and_ff h_32) rfl) rfl rfl ?_
       refine X.cop rfl rfl rfl rfl ?_
       iterate 5 refine X.coff (X.off_t rfl rfl rfl (X.and_ff (X.and_ff h_32))) rfl rfl ?_
       refine X.cop rfl (X.pickand_f (y := decide (y9.1 = x1)) rfl (X.and_ff (X.and_ff h_32)) rfl) rfl rfl ?_
       refine X.cop rfl rfl rfl rfl ?_
       iterate 2 refine X.coff (X.off_t rfl rfl rfl (X.and_ff (X.and_ff (X.and_ff h_32)))) rfl rfl ?_
       refine X.cop rfl (X.pickand_f (y := decide (y10.2 = 0)) rfl (X.and_ff (X.and_ff (X.and_ff h_32))) rfl) rfl rfl ?_
       refine X.cop rfl rfl rfl rfl ?_
       iterate 2 refine X.coff (X.off_t rfl rfl rfl (X.and_ff (X.and_ff (X.and_ff (X.and_ff h_32))))) rfl rfl ?_
       refine X.cop rfl (X.pickand_f (y := decide (y10.1 = 5)) rfl (X.and_ff (X.and_ff (X.and_ff (X.and_ff h_32)))) rfl) rfl rfl ?_
       refine X.cop rfl rfl rfl rfl ?_
       iterate 3 refine X.coff (X.off_t rfl rfl rfl (X.and_ff (X.and_ff (X.and_ff (X.and_ff (X.and_ff h_32)))))) rfl rfl ?_
       refine X.cop rfl (X.pickand_f (y := decide (y11 = 2)) rfl (X.and_ff (X.and_ff (X.and_ff (X.and_ff (X.and_ff h_32))))) rfl) rfl rfl ?_
       refine X.cop rfl rfl rfl rfl ?_
       refine X.cnil ?_
       exact X.norm _ hg rfl (sr rfl)
      refine X.drawc (by kernel_rfl) rfl ?_
      iterate 3 refine X.cop rfl rfl rfl rfl ?_
      iterate 2 refine X.cop (X.on_t rfl rfl rfl h_27) rfl rfl rfl ?_
      refine X.cop rfl (X.pickand_t (y := !y6.2.1) rfl h_27 rfl) rfl rfl ?_
      refine X.cop rfl rfl rfl rfl ?_
      iterate 2 refine X.cop (X.on_t rfl rfl rfl h_28) rfl rfl rfl ?_
      refine X.cop rfl (X.pickand_t (y := decide (y6.1 = 9)) rfl h_28 rfl) rfl rfl ?_
      refine X.cop rfl rfl rfl rfl ?_
      iterate 2 refine X.cop (X.on_t rfl rfl rfl h_29) rfl rfl rfl ?_
      refine X.cop rfl (X.pickand_t (y := decide (y8.2.2.2 = 0)) rfl h_29 rfl) rfl rfl ?_
      refine X.cop rfl rfl rfl rfl ?_
      refine X.cop (X.on_t rfl rfl rfl h_30) rfl rfl rfl ?_
      refine X.cop rfl (X.pickand_t (y := y8.2.1) rfl h_30 rfl) rfl rfl ?_
      refine X.cop rfl rfl rfl rfl ?_
      iterate 2 refine X.coff (X.off_t rfl rfl rfl h_31) rfl rfl ?_
      refine X.cop rfl (X.pickand_f (y := !y8.2.2.1) rfl h_31 rfl) rfl rfl ?_
      refine X.cop rfl rfl rfl rfl ?_
      iterate 2 refine X.coff (X.off_t rfl rfl rfl (X.and_ff h_31)) rfl rfl ?_
      refine X.cop rfl (X.pickand_f (y := decide (y8.1 = 7)) rfl (X.and_ff h_31) rfl) rfl rfl ?_
      refine X.cop rfl rfl rfl rfl ?_
      iterate 2 refine X.coff (X.off_t rfl rfl rfl (X.and_ff (X.and_ff h_31))) rfl rfl ?_
      refine X.cop rfl (X.pickand_f (y := decide (y9.2 = 0)) rfl (X.and_ff (X.and_ff h_31)) rfl) rfl rfl ?_
      refine X.cop rfl rfl rfl rfl ?_
      iterate 5 refine X.coff (X.off_t rfl rfl rfl (X.and_ff (X.and_ff (X.and_ff h_31)))) rfl rfl ?_
      refine X.cop rfl (X.pickand_f (y := decide (y9.1 = x1)) rfl (X.and_ff (X.and_ff (X.and_ff h_31))) rfl) rfl rfl ?_
      refine X.cop rfl rfl rfl rfl ?_
      iterate 2 refine X.coff (X.off_t rfl rfl rfl (X.and_ff (X.and_ff (X.and_ff (X.and_ff h_31))))) rfl rfl ?_
      refine X.cop rfl (X.pickand_f (y := decide (y10.2 = 0)) rfl (X.and_ff (X.and_ff (X.and_ff (X.and_ff h_31)))) rfl) rfl rfl ?_
      refine X.cop rfl rfl rfl rfl ?_
      iterate 2 refine X.coff (X.off_t rfl rfl rfl (X.and_ff (X.and_ff (X.and_ff (X.and_ff (X.and_ff h_31)))))) rfl rfl ?_
      refine X.cop rfl (X.pickand_f (y := decide (y10.1 = 5)) rfl (X.and_ff (X.and_ff (X.and_ff (X.and_ff (X.and_ff h_31))))) rfl) rfl rfl ?_
      refine X.cop rfl rfl rfl rfl ?_
      iterate 3 refine X.coff (X.off_t rfl rfl rfl (X.and_ff (X.and_ff (X.and_ff (X.and_ff (X.and_ff (X.and_ff h_31))))))) rfl rfl ?_
      refine X.cop rfl (X.pickand_f (y := decide (y11 = 2)) rfl (X.and_ff (X.and_ff (X.and_ff (X.and_ff (X.and_ff (X.and_ff h_31)))))) rfl) rfl rfl ?_
      refine X.cop rfl rfl rfl rfl ?_
      refine X.cnil ?_
      exact X.norm _ hg rfl (sr rfl)
     refine X.drawc (by kernel_rfl) rfl ?_
     iterate 3 refine X.cop rfl rfl rfl rfl ?_
     iterate 2 refine X.cop (X.on_t rfl rfl rfl h_27) rfl rfl rfl ?_
     refine X.cop rfl (X.pickand_t (y := !y6.2.1) rfl h_27 rfl) rfl rfl ?_
     refine X.cop rfl rfl rfl rfl ?_
     iterate 2 refine X.cop (X.on_t rfl rfl rfl h_28) rfl rfl rfl ?_
     refine X.cop rfl (X.pickand_t (y := decide (y6.1 = 9)) rfl h_28 rfl) rfl rfl ?_
     refine X.cop rfl rfl rfl rfl ?_
     iterate 2 refine X.cop (X.on_t rfl rfl rfl h_29) rfl rfl rfl ?_
     refine X.cop rfl (X.pickand_t (y := decide (y8.2.2.2 = 0)) rfl h_29 rfl) rfl rfl ?_
     refine X.cop rfl rfl rfl rfl ?_
     refine X.coff (X.off_t rfl rfl rfl h_30) rfl rfl ?_
     refine X.cop rfl (X.pickand_f (y := y8.2.1) rfl h_30 rfl) rfl rfl ?_
     refine X.cop rfl rfl rfl rfl ?_
     iterate 2 refine X.coff (X.off_t rfl rfl rfl (X.and_ff h_30)) rfl rfl ?_
     refine X.cop rfl (X.pickand_f (y := !y8.2.2.1) rfl (X.and_ff h_30) rfl) rfl rfl ?_
     refine X.cop rfl rfl rfl rfl ?_
     iterate 2 refine X.coff (X.off_t rfl rfl rfl (X.and_ff (X.and_ff h_30))) rfl rfl ?_
     refine X.cop rfl (X.pickand_f (y := decide (y8.1 = 7)) rfl (X.and_ff (X.and_ff h_30)) rfl) rfl rfl ?_
     refine X.cop rfl rfl rfl rfl ?_
     iterate 2 refine X.coff (X.off_t rfl rfl rfl (X.and_ff (X.and_ff (X.and_ff h_30)))) rfl rfl ?_
     refine X.cop rfl (X.pickand_f (y := decide (y9.2 = 0)) rfl (X.and_ff (X.and_ff (X.and_ff h_30))) rfl) rfl rfl ?_
     refine X.cop rfl rfl rfl rfl ?_
     iterate 5 refine X.coff (X.off_t rfl rfl rfl (X.and_ff (X.and_ff (X.and_ff (X.and_ff h_30))))) rfl rfl ?_
     refine X.cop rfl (X.pickand_f (y := decide (y9.1 = x1)) rfl (X.and_ff (X.and_ff (X.and_ff (X.and_ff h_30)))) rfl) rfl rfl ?_
     refine X.cop rfl rfl rfl rfl ?_
     iterate 2 refine X.coff (X.off_t rfl rfl rfl (X.and_ff (X.and_ff (X.and_ff (X.and_ff (X.and_ff h_30)))))) rfl rfl ?_
     refine X.cop rfl (X.pickand_f (y := decide (y10.2 = 0)) rfl (X.and_ff (X.and_ff (X.and_ff (X.and_ff (X.and_ff h_30))))) rfl) rfl rfl ?_
     refine X.cop rfl rfl rfl rfl ?_
     iterate 2 refine X.coff (X.off_t rfl rfl rfl (X.and_ff (X.and_ff (X.and_ff (X.and_ff (X.and_ff (X.and_ff h_30))))))) rfl rfl ?_
     refine X.cop rfl (X.pickand_f (y := decide (y10.1 = 5)) rfl (X.and_ff (X.and_ff (X.and_ff (X.and_ff (X.and_ff (X.and_ff h_30)))))) rfl) rfl rfl ?_
     refine X.cop rfl rfl rfl rfl ?_
     iterate 3 refine X.coff (X.off_t rfl rfl rfl (X.and_ff (X.and_ff (X.and_ff (X.and_ff (X.and_ff (X.and_ff (X.and_ff h_30)))))))) rfl rfl ?_
     refine X.cop rfl (X.pickand_f (y := decide (y11 = 2)) rfl (X.and_ff (X.and_ff (X.and_ff (X.and_ff (X.and_ff (X.and_ff (X.and_ff h_30))))))) rfl) rfl rfl ?_
     refine X.cop rfl rfl rfl rfl ?_
     refine X.cnil ?_
     exact X.norm _ hg rfl (sr rfl)
    refine X.drawc (by kernel_rfl) rfl ?_
    iterate 3 refine X.cop rfl rfl rfl rfl ?_
    iterate 2 refine X.cop (X.on_t rfl rfl rfl h_27) rfl rfl rfl ?_
    refine X.cop rfl (X.pickand_t (y := !y6.2.1) rfl h_27 rfl) rfl rfl ?_
    refine X.cop rfl rfl rfl rfl ?_
    iterate 2 refine X.cop (X.on_t rfl rfl rfl h_28) rfl rfl rfl ?_
    refine X.cop rfl (X.pickand_t (y := decide (y6.1 = 9)) rfl h_28 rfl) rfl rfl ?_
    refine X.cop rfl rfl rfl rfl ?_
    iterate 2 refine X.coff (X.off_t rfl rfl rfl h_29) rfl rfl ?_
    refine X.cop rfl (X.pickand_f (y := decide (y8.2.2.2 = 0)) rfl h_29 rfl) rfl rfl ?_
    refine X.cop rfl rfl rfl rfl ?_
    refine X.coff (X.off_t rfl rfl rfl (X.and_ff h_29)) rfl rfl ?_
    refine X.cop rfl (X.pickand_f (y := y8.2.1) rfl (X.and_ff h_29) rfl) rfl rfl ?_
    refine X.cop rfl rfl rfl rfl ?_
    iterate 2 refine X.coff (X.off_t rfl rfl rfl (X.and_ff (X.and_ff h_29))) rfl rfl ?_
    refine X.cop rfl (X.pickand_f (y := !y8.2.2.1) rfl (X.and_ff (X.and_ff h_29)) rfl) rfl rfl ?_
    refine X.cop rfl rfl rfl rfl ?_
    iterate 2 refine X.coff (X.off_t rfl rfl rfl (X.and_ff (X.and_ff (X.and_ff h_29)))) rfl rfl ?_
    refine X.cop rfl (X.pickand_f (y := decide (y8.1 = 7)) rfl (X.and_ff (X.and_ff (X.and_ff h_29))) rfl) rfl rfl ?_
    refine X.cop rfl rfl rfl rfl ?_
    iterate 2 refine X.coff (X.off_t rfl rfl rfl (X.and_ff (X.and_ff (X.and_ff (X.and_ff h_29))))) rfl rfl ?_
    refine X.cop rfl (X.pickand_f (y := decide (y9.2 = 0)) rfl (X.and_ff (X.and_ff (X.and_ff (X.and_ff h_29)))) rfl) rfl rfl ?_
    refine X.cop rfl rfl rfl rfl ?_
    iterate 5 refine X.coff (X.off_t rfl rfl rfl (X.and_ff (X.and_ff (X.and_ff (X.and_ff (X.and_ff h_29)))))) rfl rfl ?_
    refine X.cop rfl (X.pickand_f (y := decide (y9.1 = x1)) rfl (X.and_ff (X.and_ff (X.and_ff (X.and_ff (X.and_ff h_29))))) rfl) rfl rfl ?_
    refine X.cop rfl rfl rfl rfl ?_
    iterate 2 refine X.coff (X.off_t rfl rfl rfl (X.and_ff (X.and_ff (X.and_ff (X.and_ff (X.and_ff (X.and_ff h_29))))))) rfl rfl ?_
    refine X.cop rfl (X.pickand_f (y := decide (y10.2 = 0)) rfl (X.and_ff (X.and_ff (X.and_ff (X.and_ff (X.and_ff (X.and_ff h_29)))))) rfl) rfl rfl ?_
    refine X.cop rfl rfl rfl rfl ?_
    iterate 2 refine X.coff (X.off_t rfl rfl rfl (X.and_ff (X.and_ff (X.and_ff (X.and_ff (X.and_ff (X.and_ff (X.and_ff h_29)))))))) rfl rfl ?_
    refine X.cop rfl (X.pickand_f (y := decide (y10.1 = 5)) rfl (X.and_ff (X.and_ff (X.and_ff (X.and_ff (X.and_ff (X.and_ff (X.and_ff h_29))))))) rfl) rfl rfl ?_
    refine X.cop rfl rfl rfl rfl ?_
    iterate 3 refine X.coff (X.off_t rfl rfl rfl (X.and_ff (X.and_ff (X.and_ff (X.and_ff (X.and_ff (X.and_ff (X.and_ff (X.and_ff h_29))))))))) rfl rfl ?_
    refine X.cop rfl (X.pickand_f (y := decide (y11 = 2)) rfl (X.and_ff (X.and_ff (X.and_ff (X.and_ff (X.and_ff (X.and_ff (X.and_ff (X.and_ff h_29)))))))) rfl) rfl rfl ?_
    refine X.cop rfl rfl rfl rfl ?_
    refine X.cnil ?_
    exact X.norm _ hg rfl (sr rfl)
   refine X.drawc (by kernel_rfl) rfl ?_
   iterate 3 refine X.cop rfl rfl rfl rfl ?_
   iterate 2 refine X.cop (X.on_t rfl rfl rfl h_27) rfl rfl rfl ?_
   refine X.cop rfl (X.pickand_t (y := !y6.2.1) rfl h_27 rfl) rfl rfl ?_
   refine X.cop rfl rfl rfl rfl ?_
   iterate 2 refine X.coff (X.off_t rfl rfl rfl h_28) rfl rfl ?_
   refine X.cop rfl (X.pickand_f (y := decide (y6.1 = 9)) rfl h_28 rfl) rfl rfl ?_
   refine X.cop rfl rfl rfl rfl ?_
   iterate 2 refine X.coff (X.off_t rfl rfl rfl (X.and_ff h_28)) rfl rfl ?_
   refine X.cop rfl (X.pickand_f (y := decide (y8.2.2.2 = 0)) rfl (X.and_ff h_28) rfl) rfl rfl ?_
   refine X.cop rfl rfl rfl rfl ?_
   refine X.coff (X.off_t rfl rfl rfl (X.and_ff (X.and_ff h_28))) rfl rfl ?_
   refine X.cop rfl (X.pickand_f (y := y8.2.1) rfl (X.and_ff (X.and_ff h_28)) rfl) rfl rfl ?_
   refine X.cop rfl rfl rfl rfl ?_
   iterate 2 refine X.coff (X.off_t rfl rfl rfl (X.and_ff (X.and_ff (X.and_ff h_28)))) rfl rfl ?_
   refine X.cop rfl (X.pickand_f (y := !y8.2.2.1) rfl (X.and_ff (X.and_ff (X.and_ff h_28))) rfl) rfl rfl ?_
   refine X.cop rfl rfl rfl rfl ?_
   iterate 2 refine X.coff (X.off_t rfl rfl rfl (X.and_ff (X.and_ff (X.and_ff (X.and_ff h_28))))) rfl rfl ?_
   refine X.cop rfl (X.pickand_f (y := decide (y8.1 = 7)) rfl (X.and_ff (X.and_ff (X.and_ff (X.and_ff h_28)))) rfl) rfl rfl ?_
   refine X.cop rfl rfl rfl rfl ?_
   iterate 2 refine X.coff (X.off_t rfl rfl rfl (X.and_ff (X.and_ff (X.and_ff (X.and_ff (X.and_ff h_28)))))) rfl rfl ?_
   refine X.cop rfl (X.pickand_f (y := decide (y9.2 = 0)) rfl (X.and_ff (X.and_ff (X.and_ff (X.and_ff (X.and_ff h_28))))) rfl) rfl rfl ?_
   refine X.cop rfl rfl rfl rfl ?_
   iterate 5 refine X.coff (X.off_t rfl rfl rfl (X.and_ff (X.and_ff (X.and_ff (X.and_ff (X.and_ff (X.and_ff h_28))))))) rfl rfl ?_
   refine X.cop rfl (X.pickand_f (y := decide (y9.1 = x1)) rfl (X.and_ff (X.and_ff (X.and_ff (X.and_ff (X.and_ff (X.and_ff h_28)))))) rfl) rfl rfl ?_
   refine X.cop rfl rfl rfl rfl ?_
   iterate 2 refine X.coff (X.off_t rfl rfl rfl (X.and_ff (X.and_ff (X.and_ff (X.and_ff (X.and_ff (X.and_ff (X.and_ff h_28)))))))) rfl rfl ?_
   refine X.cop rfl (X.pickand_f (y := decide (y10.2 = 0)) rfl (X.and_ff (X.and_ff (X.and_ff (X.and_ff (X.and_ff (X.and_ff (X.and_ff h_28))))))) rfl) rfl rfl ?_
   refine X.cop rfl rfl rfl rfl ?_
   iterate 2 refine X.coff (X.off_t rfl rfl rfl (X.and_ff (X.and_ff (X.and_ff (X.and_ff (X.and_ff (X.and_ff (X.and_ff (X.and_ff h_28))))))))) rfl rfl ?_
   refine X.cop rfl (X.pickand_f (y := decide (y10.1 = 5)) rfl (X.and_ff (X.and_ff (X.and_ff (X.and_ff (X.and_ff (X.and_ff (X.and_ff (X.and_ff h_28)))))))) rfl) rfl rfl ?_
   refine X.cop rfl rfl rfl rfl ?_
   iterate 3 refine X.coff (X.off_t rfl rfl rfl (X.and_ff (X.and_ff (X.and_ff (X.and_ff (X.and_ff (X.and_ff (X.and_ff (X.and_ff (X.and_ff h_28)))))))))) rfl rfl ?_
   refine X.cop rfl (X.pickand_f (y := decide (y11 = 2)) rfl (X.and_ff (X.and_ff (X.and_ff (X.and_ff (X.and_ff (X.and_ff (X.and_ff (X.and_ff (X.and_ff h_28))))))))) rfl) rfl rfl ?_
   refine X.cop rfl rfl rfl rfl ?_
   refine X.cnil ?_
   exact X.norm _ hg rfl (sr rfl)
  refine X.drawc (by kernel_rfl) rfl ?_
  iterate 3 refine X.cop rfl rfl rfl rfl ?_
  iterate 2 refine X.coff (X.off_t rfl rfl rfl h_27) rfl rfl ?_
  refine X.cop rfl (X.pickand_f (y := !y6.2.1) rfl h_27 rfl) rfl rfl ?_
  refine X.cop rfl rfl rfl rfl ?_
  iterate 2 refine X.coff (X.off_t rfl rfl rfl (X.and_ff h_27)) rfl rfl ?_
  refine X.cop rfl (X.pickand_f (y := decide (y6.1 = 9)) rfl (X.and_ff h_27) rfl) rfl rfl ?_
  refine X.cop rfl rfl rfl rfl ?_
  iterate 2 refine X.coff (X.off_t rfl rfl rfl (X.and_ff (X.and_ff h_27))) rfl rfl ?_
  refine X.cop rfl (X.pickand_f (y := decide (y8.2.2.2 = 0)) rfl (X.and_ff (X.and_ff h_27)) rfl) rfl rfl ?_
  refine X.cop rfl rfl rfl rfl ?_
  refine X.coff (X.off_t rfl rfl rfl (X.and_ff (X.and_ff (X.and_ff h_27)))) rfl rfl ?_
  refine X.cop rfl (X.pickand_f (y := y8.2.1) rfl (X.and_ff (X.and_ff (X.and_ff h_27))) rfl) rfl rfl ?_
  refine X.cop rfl rfl rfl rfl ?_
  iterate 2 refine X.coff (X.off_t rfl rfl rfl (X.and_ff (X.and_ff (X.and_ff (X.and_ff h_27))))) rfl rfl ?_
  refine X.cop rfl (X.pickand_f (y := !y8.2.2.1) rfl (X.and_ff (X.and_ff (X.and_ff (X.and_ff h_27)))) rfl) rfl rfl ?_
  refine X.cop rfl rfl rfl rfl ?_
  iterate 2 refine X.coff (X.off_t rfl rfl rfl (X.and_ff (X.and_ff (X.and_ff (X.and_ff (X.and_ff h_27)))))) rfl rfl ?_
  refine X.cop rfl (X.pickand_f (y := decide (y8.1 = 7)) rfl (X.and_ff (X.and_ff (X.and_ff (X.and_ff (X.and_ff h_27))))) rfl) rfl rfl ?_
  refine X.cop rfl rfl rfl rfl ?_
  iterate 2 refine X.coff (X.off_t rfl rfl rfl (X.and_ff (X.and_ff (X.and_ff (X.and_ff (X.and_ff (X.and_ff h_27))))))) rfl rfl ?_
  refine X.cop rfl (X.pickand_f (y := decide (y9.2 = 0)) rfl (X.and_ff (X.and_ff (X.and_ff (X.and_ff (X.and_ff (X.and_ff h_27)))))) rfl) rfl rfl ?_
  refine X.cop rfl rfl rfl rfl ?_
  iterate 5 refine X.coff (X.off_t rfl rfl rfl (X.and_ff (X.and_ff (X.and_ff (X.and_ff (X.and_ff (X.and_ff (X.and_ff h_27)))))))) rfl rfl ?_
  refine X.cop rfl (X.pickand_f (y := decide (y9.1 = x1)) rfl (X.and_ff (X.and_ff (X.and_ff (X.and_ff (X.and_ff (X.and_ff (X.and_ff h_27))))))) rfl) rfl rfl ?_
  refine X.cop rfl rfl rfl rfl ?_
  iterate 2 refine X.coff (X.off_t rfl rfl rfl (X.and_ff (X.and_ff (X.and_ff (X.and_ff (X.and_ff (X.and_ff (X.and_ff (X.and_ff h_27))))))))) rfl rfl ?_
  refine X.cop rfl (X.pickand_f (y := decide (y10.2 = 0)) rfl (X.and_ff (X.and_ff (X.and_ff (X.and_ff (X.and_ff (X.and_ff (X.and_ff (X.and_ff h_27)))))))) rfl) rfl rfl ?_
  refine X.cop rfl rfl rfl rfl ?_
  iterate 2 refine X.coff (X.off_t rfl rfl rfl (X.and_ff (X.and_ff (X.and_ff (X.and_ff (X.and_ff (X.and_ff (X.and_ff (X.and_ff (X.and_ff h_27)))))))))) rfl rfl ?_
  refine X.cop rfl (X.pickand_f (y := decide (y10.1 = 5)) rfl (X.and_ff (X.and_ff (X.and_ff (X.and_ff (X.and_ff (X.and_ff (X.and_ff (X.and_ff (X.and_ff h_27))))))))) rfl) rfl rfl ?_
  refine X.cop rfl rfl rfl rfl ?_
  iterate 3 refine X.coff (X.off_t rfl rfl rfl (X.and_ff (X.and_ff (X.and_ff (X.and_ff (X.and_ff (X.and_ff (X.and_ff (X.and_ff (X.and_ff (X.and_ff h_27))))))))))) rfl rfl ?_
  refine X.cop rfl (X.pickand_f (y := decide (y11 = 2)) rfl (X.and_ff (X.and_ff (X.and_ff (X.and_ff (X.and_ff (X.and_ff (X.and_ff (X.and_ff (X.and_ff (X.and_ff h_27)))))))))) rfl) rfl rfl ?_
  refine X.cop rfl rfl rfl rfl ?_
  refine X.cnil ?_
  exact X.norm _ hg rfl (sr rfl)
 cases hM
 exact GS.ret ⟨_, rfl, ⟨30, rfl⟩⟩
theorem ok_ref09_SameRulings {a : (List api_Ruling)} {b : (List api_Ruling)} {r : Bool} (hM : ref09_SameRulings a b = some r) : Ct Try.prog 21 [(V.sl (List.map e_api_Ruling a)), (V.sl (List.map e_api_Ruling b))] (V.b r) := by
 refine ct_of_gs CC_ok rfl ?_
 unfold ref09_SameRulings at hM
 refine X.sq (X.q rfl (GS.opsNil (GS.seq (X.sq (X.q rfl ?_)))))
 refine X.opR rfl (X.lenF rfl rfl rfl) rfl (X.q rfl ?_)
 refine X.opR rfl (X.lenF rfl rfl rfl) rfl (X.q rfl (GS.opsNil ?_))
 refine X.cond rfl (fun h_1 => ?_) (fun h_1 => ?_)
 ·replace hM := ite_t h_1 hM
  refine X.sq (X.q rfl (GS.opsNil ?_))
  cases hM
  exact GS.ret ⟨_, rfl, ⟨30, rfl⟩⟩
 replace hM := ite_f h_1 hM
 refine GS.skip (GS.seq (X.sq (X.q rfl (GS.opsNil ?_))))
 refine X.join (τ := Unit) (fun v => ref09_SameRulings_j1 = some r) (fun v => ⟨[], [], 0, none, 26⟩) ?_ ?_
 ·intro _ hM
  replace hM : ref09_SameRulings_j1 = some r := hM
  unfold ref09_SameRulings_j1 at hM
  refine X.sq (X.q rfl (GS.opsNil ?_))
  cases hM
  exact GS.ret ⟨_, rfl, ⟨30, rfl⟩⟩
 intro hj_1
 refine GS.block ?_
 refine X.gc [] (X.loop (σ := Int) (fun v => ⟨[(0, (V.sl (List.map e_api_Ruling a))), (1, (V.sl (List.map e_api_Ruling b))), (5, (V.i v))], [], 0, none, 26⟩) hM ?_ rfl) rfl rfl rfl (ga rfl rfl) (gb_nil)
 intro i b_1 hM hc_2 hr_1
 rw [ref09_SameRulings_b2] at hM
 refine GS.seq (X.sq (X.q rfl (X.q rfl ?_)))
 refine X.opR rfl (X.lenF rfl rfl rfl) rfl (X.q rfl (GS.opsNil ?_))
 refine X.cond rfl (fun h_2 => ?_) (fun h_2 => ?_)
 ·replace hM := ite_t h_2 hM
  refine GS.skip (GS.seq (GS.block (GS.seq ?_)))
  obtain ⟨x, h_3, hM⟩ := bind_of hM
  obtain ⟨x1, h_4, hM⟩ := bind_of hM
  refine X.drawc (by kernel_rfl) rfl ?_
  iterate 2 refine X.cop rfl rfl rfl rfl ?_
  refine X.cop rfl (X.indexF (f := e_api_Ruling) h_3 (fun _ => rfl) rfl rfl rfl rfl) rfl rfl ?_
  refine X.cop rfl (X.loadF h_3 rfl rfl rfl) rfl rfl ?_
  iterate 2 refine X.cop rfl rfl rfl rfl ?_
  refine X.cop rfl (X.indexF (f := e_api_Ruling) h_4 (fun _ => rfl) rfl rfl rfl rfl) rfl rfl ?_
  refine X.cop rfl (X.loadF h_4 rfl rfl rfl) rfl rfl ?_
  refine X.cop rfl (X.neqE (eq_api_Ruling x x1) rfl rfl) rfl rfl ?_
  refine X.cnil ?_
  refine X.norm [(0, (V.sl (List.map e_api_Ruling a))), (1, (V.sl (List.map e_api_Ruling b))), (5, (V.i i)), (25, (V.b (!decide (x = x1))))] ?_ rfl (sr rfl)
  refine X.cond rfl (fun h_5 => ?_) (fun h_5 => ?_)
  ·replace hM := ite_t h_5 hM
   refine X.sq (X.q rfl (GS.opsNil ?_))
   have hE := Option.some.inj hM
   replace hE := hr_1 _ hE.symm
   subst hE
   exact GS.ret ⟨_, rfl, ⟨30, rfl⟩⟩
  replace hM := ite_f h_5 hM
  refine GS.skip ?_
  refine GS.endB (GS.region (X.q rfl ?_))
  refine X.opR rfl (X.addE rfl rfl) rfl (X.q rfl (GS.opsNil ?_))
  have hE := Option.some.inj hM
  exact X.gc [] (hc_2 (w64 (i + 1)) hE.symm) rfl rfl rfl (ga rfl rfl) (gb_nil)
 replace hM := ite_f h_2 hM
 refine GS.exit rfl ?_
 obtain ⟨y_1, hM, hy⟩ := map_of hM
 rw [hr_1 _ hy.symm] at hM
 exact X.gc [] (hj_1 () hM) rfl rfl rfl (gk_nil) (gb_nil)
set_option maxHeartbeats 4000000 in
theorem ok_law09_ArbiterRepeats {c : api_Court} {l : (List api_Letter)} {some_ : Int} {which : Int} {to : Int} {id : Int} {round : Int} {r : Bool} (hM : law09_ArbiterRepeats c l some_ which to id round = some r) : Ct Try.prog 7 [(e_api_Court c), (V.sl (List.map e_api_Letter l)), (V.lit (.int .u8 some_)), (V.lit (.int .u8 which)), (V.lit (.int .u8 to)), (V.i id), (V.i round)] (V.b r) := by
 refine ct_of_gs CC_ok rfl ?_
 unfold law09_ArbiterRepeats at hM
 refine X.sq ?_
 refine X.opW rfl rfl rfl rfl (X.q rfl (GS.opsNil (GS.seq (X.sq ?_))))
 refine X.mid [(1, (V.sl (List.map e_api_Letter l))), (2, (V.lit (.int .u8 some_))), (3, (V.lit (.int .u8 which))), (4, (V.lit (.int .u8 to))), (5, (V.i id)), (6, (V.i round)), (7, (V.ptr 0 0 0)), (46, (V.b ((decide (40 < (l.length : Int))) || (decide ((l.length : Int) = 0)))))] ?_ ?_
 ·intro hg
  refine X.split (decide (40 < (l.length : Int))) (fun h_1 => ?_) (fun h_1 => ?_)
  ·refine X.q rfl ?_
   refine X.opR rfl (X.lenF rfl rfl rfl) rfl (X.q rfl (X.q rfl ?_))
   iterate 3 refine X.off (X.off_f rfl rfl rfl h_1) rfl ?_
   refine X.opR rfl (X.pickor_t (y := decide ((l.length : Int) = 0)) rfl h_1 rfl) rfl (GS.opsNil ?_)
   exact X.norm _ hg rfl (sr rfl)
  refine X.q rfl ?_
  refine X.opR rfl (X.lenF rfl rfl rfl) rfl (X.q rfl (X.q rfl ?_))
  refine X.opR (X.on_f rfl rfl rfl h_1) rfl rfl ?_
  refine X.opR (X.on_f rfl rfl rfl h_1) (X.lenF rfl rfl rfl) rfl ?_
  refine X.opR (X.on_f rfl rfl rfl h_1) rfl rfl ?_
  refine X.opR rfl (X.pickor_f (y := decide ((l.length : Int) = 0)) rfl h_1 rfl) rfl (GS.opsNil ?_)
  exact X.norm _ hg rfl (sr rfl)
 refine X.cond rfl (fun h_2 => ?_) (fun h_2 => ?_)
 ·replace hM := ite_t h_2 hM
  refine GS.seq ?_
  obtain ⟨y, h_3, hM⟩ := bind_of hM
  refine GS.region ?_
  refine X.call (ok_law09_sanity h_3) rfl rfl rfl .nil (X.q rfl (GS.opsNil ?_))
  cases hM
  exact GS.ret ⟨_, rfl, ⟨30, rfl⟩⟩
 replace hM := ite_f h_2 hM
 refine GS.skip (GS.seq ?_)
 obtain ⟨y1, h_4, hM⟩ := bind_of hM
 refine GS.region (X.q rfl (X.q rfl ?_))
 refine X.call (ok_arbiter_Lawful h_4) rfl rfl rfl (.cons (.shut (n := 9) rfl) (.cons (.shut (n := 9) rfl) .nil)) ?_
 iterate 7 refine X.q rfl ?_
 refine GS.opsNil (GS.seq (X.sq ?_))
 refine X.mid [(1, (V.sl (List.map e_api_Letter l))), (2, (V.lit (.int .u8 some_))), (3, (V.lit (.int .u8 which))), (4, (V.lit (.int .u8 to))), (5, (V.i id)), (6, (V.i round)), (7, (V.ptr 0 0 0)), (60, (V.b ((!decide (y1.2.2 = 0)) || (!y1.2.1))))] ?_ ?_
 ·intro hg
  refine X.split (!decide (y1.2.2 = 0)) (fun h_5 => ?_) (fun h_5 => ?_)
  ·iterate 3 refine X.q rfl ?_
   iterate 2 refine X.off (X.off_f rfl rfl rfl h_5) rfl ?_
   refine X.opR rfl (X.pickor_t (y := !y1.2.1) rfl h_5 rfl) rfl (GS.opsNil ?_)
   exact X.norm _ hg rfl (sr rfl)
  iterate 3 refine X.q rfl ?_
  iterate 2 refine X.opR (X.on_f rfl rfl rfl h_5) rfl rfl ?_
  refine X.opR rfl (X.pickor_f (y := !y1.2.1) rfl h_5 rfl) rfl (GS.opsNil ?_)
  exact X.norm _ hg rfl (sr rfl)
 refine X.cond rfl (fun h_6 => ?_) (fun h_6 => ?_)
 ·replace hM := ite_t h_6 hM
  refine GS.seq ?_
  obtain ⟨y2, h_7, hM⟩ := bind_of hM
  refine GS.region ?_
  refine X.call (ok_law09_sanity h_7) rfl rfl rfl .nil (X.q rfl (GS.opsNil ?_))
  cases hM
  exact GS.ret ⟨_, rfl, ⟨30, rfl⟩⟩
 replace hM := ite_f h_6 hM
 refine GS.skip (GS.seq ?_)
 obtain ⟨q, h_8, hM⟩ := bind_of hM
 refine GS.region (X.q rfl ?_)
 refine X.opR rfl (X.convE rfl rfl rfl rfl) rfl (X.q rfl ?_)
 refine X.opR rfl (X.lenF rfl rfl rfl) rfl ?_
 refine X.opR rfl (X.addE rfl rfl) rfl ?_
 refine X.opR rfl (X.remE h_8 rfl rfl) rfl (X.q rfl (GS.opsNil ?_))
 iterate 2 refine GS.seq ?_
 obtain ⟨l1, h_9, hM⟩ := bind_of hM
 obtain ⟨l2, h_10, hM⟩ := bind_of hM
 obtain ⟨y3, h_11, hM⟩ := bind_of hM
 refine X.draw (by kernel_rfl) ?_
 iterate 4 refine X.dop rfl rfl rfl rfl (by kernel_rfl) rfl rfl ?_
 refine X.dop rfl (X.sliceF (f := e_api_Letter) h_9 (fun _ => rfl) rfl rfl rfl rfl rfl rfl (X.boundA_int rfl)) rfl rfl (by kernel_rfl) rfl rfl ?_
 refine X.dop rfl (X.appO (f := e_api_Letter) h_10 (fun _ => rfl) rfl rfl rfl rfl rfl rfl rfl rfl rfl rfl) rfl rfl (by kernel_rfl) rfl rfl ?_
 refine X.dcallF (ok_arbiter_Lawful h_11) rfl rfl rfl (by kernel_rfl) rfl (m := 9) rfl (.cons (.shut (n := 9) rfl) (.cons (FR.arg (FR.osl (f := e_api_Letter) (l := l2) 9 rfl rfl (fun _ => rfl))) .nil)) ?_
 iterate 7 refine X.dop rfl rfl rfl rfl (by kernel_rfl) rfl rfl ?_
 refine X.dnil ?_
 refine X.norm [(1, (V.sl (List.map e_api_Letter l))), (3, (V.lit (.int .u8 which))), (4, (V.lit (.int .u8 to))), (5, (V.i id)), (6, (V.i round)), (7, (V.ptr 0 0 0)), (20, (V.b y3.2.1)), (21, (V.i y3.2.2))] ?_ rfl (sr rfl)
 refine X.sq ?_
 refine X.mid [(1, (V.sl (List.map e_api_Letter l))), (3, (V.lit (.int .u8 which))), (4, (V.lit (.int .u8 to))), (5, (V.i id)), (6, (V.i round)), (7, (V.ptr 0 0 0)), (84, (V.b ((!decide (y3.2.2 = 0)) || (!y3.2.1))))] ?_ ?_
 ·intro hg
  refine X.split (!decide (y3.2.2 = 0)) (fun h_12 => ?_) (fun h_12 => ?_)
  ·iterate 3 refine X.q rfl ?_
   iterate 2 refine X.off (X.off_f rfl rfl rfl h_12) rfl ?_
   refine X.opR rfl (X.pickor_t (y := !y3.2.1) rfl h_12 rfl) rfl (GS.opsNil ?_)
   exact X.norm _ hg rfl (sr rfl)
  iterate 3 refine X.q rfl ?_
  iterate 2 refine X.opR (X.on_f rfl rfl rfl h_12) rfl rfl ?_
  refine X.opR rfl (X.pickor_f (y := !y3.2.1) rfl h_12 rfl) rfl (GS.opsNil ?_)
  exact X.norm _ hg rfl (sr rfl)
 refine X.cond rfl (fun h_13 => ?_) (fun h_13 => ?_)
 ·replace hM := ite_t h_13 hM
  refine X.sq (X.q rfl (GS.opsNil ?_))
  cases hM
  exact GS.ret ⟨_, rfl, ⟨30, rfl⟩⟩
 replace hM := ite_f h_13 hM
 refine GS.skip (GS.seq ?_)
 obtain ⟨q1, h_14, hM⟩ := bind_of hM
 obtain ⟨x, h_15, hM⟩ := bind_of hM
 refine GS.region (X.q rfl (X.q rfl ?_))
 refine X.opR rfl (X.convE rfl rfl rfl rfl) rfl (X.q rfl ?_)
 refine X.opR rfl (X.lenF rfl rfl rfl) rfl ?_
 refine X.opR rfl (X.remE h_14 rfl rfl) rfl ?_
 refine X.opR rfl (X.indexF (f := e_api_Letter) h_15 (fun _ => rfl) rfl rfl rfl rfl) rfl ?_
 refine X.opR rfl (X.loadF h_15 rfl rfl rfl) rfl ?_
 refine X.opW (H' := [.rows 1 [(e_api_Court c)], .dead, .rows 8 (List.map e_api_Letter l2), .rows 8 [(V.agg [(V.i 0), (V.i 0), (V.i 0), (V.i 0), (V.i 0), (V.i 0), (V.i 0), (V.i 0)])]]) rfl rfl rfl rfl ?_
 refine X.op0W (H' := [.rows 1 [(e_api_Court c)], .dead, .rows 8 (List.map e_api_Letter l2), .rows 8 [(e_api_Letter x)]]) rfl rfl rfl (GS.opsNil (GS.seq (X.sq (X.q rfl (X.q rfl (X.q rfl ?_))))))
 refine GS.opsNil ?_
 refine X.join (τ := Int) (fun v => law09_ArbiterRepeats_j1 c l id round x v = some r) (fun v => ⟨[(1, (V.sl (List.map e_api_Letter l))), (5, (V.i id)), (6, (V.i round)), (7, (V.ptr 0 0 0)), (22, (V.ptr 1 0 0))], [.rows 1 [(e_api_Court c)], .rows 8 [(V.agg [(V.i x.ID), (V.i x.Case), (V.i x.Kind), (V.i x.Round), (V.i x.From), (V.i v), (V.i x.Voted), (V.i x.Finding)])]], 0, none, 185⟩) ?_ ?_
 ·intro To hM
  replace hM : law09_ArbiterRepeats_j1 c l id round x To = some r := hM
  unfold law09_ArbiterRepeats_j1 at hM
  refine GS.seq ?_
  obtain ⟨l3, h_16, hM⟩ := bind_of hM
  obtain ⟨l4, h_17, hM⟩ := bind_of hM
  refine X.draw (by kernel_rfl) ?_
  iterate 2 refine X.dop rfl rfl rfl rfl (by kernel_rfl) rfl rfl ?_
  refine X.dop rfl (X.appO (f := e_api_Letter) h_16 (fun _ => rfl) rfl rfl rfl rfl rfl rfl rfl rfl rfl rfl) rfl rfl (by kernel_rfl) rfl rfl ?_
  iterate 2 refine X.dop rfl rfl rfl rfl (by kernel_rfl) rfl rfl ?_
  refine X.dop rfl (X.appO (f := e_api_Letter) h_17 (fun _ => rfl) rfl rfl rfl rfl rfl rfl rfl rfl rfl rfl) rfl rfl (by kernel_rfl) rfl rfl ?_
  refine X.dop rfl rfl rfl rfl (by kernel_rfl) rfl rfl ?_
  refine X.dnil ?_
  refine X.norm [(1, (V.sl (List.map e_api_Letter l))), (5, (V.i id)), (6, (V.i round)), (7, (V.ptr 0 0 0)), (23, (V.osl 5 0 (List.length l4)))] ?_ rfl (sr rfl)
  refine GS.seq ?_
  obtain ⟨y4, h_18, hM⟩ := bind_of hM
  refine GS.region (X.q rfl (X.q rfl ?_))
  refine X.callF (ok_arbiter_Lawful h_18) rfl rfl rfl (m := 9) rfl (.cons (.shut (n := 9) rfl) (.cons (FR.arg (FR.osl (f := e_api_Letter) (l := l4) 9 rfl rfl (fun _ => rfl))) .nil)) ?_
  iterate 7 refine X.q rfl ?_
  refine GS.opsNil (GS.seq ?_)
  obtain ⟨y5, h_19, hM⟩ := bind_of hM
  refine GS.region (X.q rfl (X.q rfl ?_))
  refine X.call (ok_arbiter_Rulings h_19) rfl rfl rfl (.cons (.shut (n := 9) rfl) (.cons (.shut (n := 9) rfl) .nil)) ?_
  iterate 5 refine X.q rfl ?_
  refine GS.opsNil (GS.seq ?_)
  refine X.freezeAt (z := false) (f := e_api_Letter) (l := l4) (es := 8) 23 rfl rfl rfl rfl (fun _ => rfl) ?_
  obtain ⟨y6, h_20, hM⟩ := bind_of hM
  refine GS.region (X.q rfl (X.q rfl ?_))
  refine X.call (ok_arbiter_Rulings h_20) rfl rfl rfl (.cons (.shut (n := 9) rfl) (.cons (.shut (n := 9) rfl) .nil)) ?_
  iterate 5 refine X.q rfl ?_
  refine GS.opsNil (GS.seq ?_)
  obtain ⟨y7, h_21, hM⟩ := bind_of hM
  refine GS.region ?_
  iterate 4 refine X.q rfl ?_
  refine X.call (ok_arbiter_Can h_21) rfl rfl rfl (.cons (.shut (n := 9) rfl) (.cons (.shut (n := 9) rfl) (.cons (.shut (n := 9) rfl) (.cons (.shut (n := 9) rfl) .nil)))) ?_
  iterate 9 refine X.q rfl ?_
  refine GS.opsNil (GS.seq ?_)
  obtain ⟨y8, h_22, hM⟩ := bind_of hM
  refine GS.region ?_
  iterate 4 refine X.q rfl ?_
  refine X.call (ok_arbiter_Can h_22) rfl rfl rfl (.cons (.shut (n := 9) rfl) (.cons (.shut (n := 9) rfl) (.cons (.shut (n := 9) rfl) (.cons (.shut (n := 9) rfl) .nil)))) ?_
  iterate 9 refine X.q rfl ?_
  refine GS.opsNil (GS.seq ?_)
  obtain ⟨y9, h_23, hM⟩ := bind_of hM
  obtain ⟨y10, h_24, hM⟩ := gb_of hM
  refine GS.region ?_
  refine X.mid [(14, (V.b ((((((((y9 && (decide (y4.2.2 = 0))) && y4.2.1) && (decide (y5.2 = y6.2))) && y10) && (decide (y7.1 = y8.1))) && (y7.2.1 == y8.2.1)) && (y7.2.2.1 == y8.2.2.1)) && (decide (y7.2.2.2 = y8.2.2.2)))))] ?_ ?_
  ·intro hg
   refine X.split (y9) (fun h_25 => ?_) (fun h_25 => ?_)
   ·refine X.split ((y9 && (decide (y4.2.2 = 0)))) (fun h_26 => ?_) (fun h_26 => ?_)
    ·refine X.split (((y9 && (decide (y4.2.2 = 0))) && y4.2.1)) (fun h_27 => ?_) (fun h_27 => ?_)
     ·refine X.split ((((y9 && (decide (y4.2.2 = 0))) && y4.2.1) && (decide (y5.2 = y6.2)))) (fun h_28 => ?_) (fun h_28 => ?_)
      ·refine X.split (((((y9 && (decide (y4.2.2 = 0))) && y4.2.1) && (decide (y5.2 = y6.2))) && y10)) (fun h_29 => ?_) (fun h_29 => ?_)
       ·refine X.split ((((((y9 && (decide (y4.2.2 = 0))) && y4.2.1) && (decide (y5.2 = y6.2))) && y10) && (decide (y7.1 = y8.1)))) (fun h_30 => ?_) (fun h_30 => ?_)
        ·refine X.split (((((((y9 && (decide (y4.2.2 = 0))) && y4.2.1) && (decide (y5.2 = y6.2))) && y10) && (decide (y7.1 = y8.1))) && (y7.2.1 == y8.2.1))) (fun h_31 => ?_) (fun h_31 => ?_)
         ·refine X.split ((((((((y9 && (decide (y4.2.2 = 0))) && y4.2.1) && (decide (y5.2 = y6.2))) && y10) && (decide (y7.1 = y8.1))) && (y7.2.1 == y8.2.1)) && (y7.2.2.1 == y8.2.2.1))) (fun h_32 => ?_) (fun h_32 => ?_)
          ·refine X.call (ok_law09_sanity h_23) rfl rfl rfl .nil (X.q rfl ?_)
           iterate 2 refine X.opR (X.on_t rfl rfl rfl h_25) rfl rfl ?_
           refine X.opR rfl (X.pickand_t (y := decide (y4.2.2 = 0)) rfl h_25 rfl) rfl (X.q rfl ?_)
           refine X.opR (X.on_t rfl rfl rfl h_26) rfl rfl ?_
           refine X.opR rfl (X.pickand_t (y := y4.2.1) rfl h_26 rfl) rfl (X.q rfl ?_)
           iterate 3 refine X.opR (X.on_t rfl rfl rfl h_27) rfl rfl ?_
           refine X.opR rfl (X.pickand_t (y := decide (y5.2 = y6.2)) rfl h_27 rfl) rfl (X.q rfl ?_)
           iterate 2 refine X.opR (X.on_t rfl rfl rfl h_28) rfl rfl ?_
           refine X.call (ok_ref09_SameRulings (h_24 h_28)) (X.on_t rfl rfl rfl h_28) rfl rfl (.cons (.shut (n := 9) rfl) (.cons (.shut (n := 9) rfl) .nil)) ?_
           refine X.opR rfl (X.pickand_t (y := y10) rfl h_28 rfl) rfl (X.q rfl ?_)
           iterate 3 refine X.opR (X.on_t rfl rfl rfl h_29) rfl rfl ?_
           refine X.opR rfl (X.pickand_t (y := decide (y7.1 = y8.1)) rfl h_29 rfl) rfl (X.q rfl ?_)
           iterate 3 refine X.opR (X.on_t rfl rfl rfl h_30) rfl rfl ?_
           refine X.opR rfl (X.pickand_t (y := (y7.2.1 == y8.2.1)) rfl h_30 rfl) rfl (X.q rfl ?_)
           iterate 3 refine X.opR (X.on_t rfl rfl rfl h_31) rfl rfl ?_
           refine X.opR rfl (X.pickand_t (y := (y7.2.2.1 == y8.2.2.1)) rfl h_31 rfl) rfl (X.q rfl ?_)
           iterate 3 refine X.opR (X.on_t rfl rfl rfl h_32) rfl rfl ?_
           refine X.opR rfl (X.pickand_t (y := decide (y7.2.2.2 = y8.2.2.2)) rfl h_32 rfl) rfl (X.q rfl (GS.opsNil ?_))
           exact X.norm _ hg rfl (sr rfl)
          refine X.call (ok_law09_sanity h_23) rfl rfl rfl .nil (X.q rfl ?_)
          iterate 2 refine X.opR (X.on_t rfl rfl rfl h_25) rfl rfl ?_
          refine X.opR rfl (X.pickand_t (y := decide (y4.2.2 = 0)) rfl h_25 rfl) rfl (X.q rfl ?_)
          refine X.opR (X.on_t rfl rfl rfl h_26) rfl rfl ?_
          refine X.opR rfl (X.pickand_t (y := y4.2.1) rfl h_26 rfl) rfl (X.q rfl ?_)
          iterate 3 refine X.opR (X.on_t rfl rfl rfl h_27) rfl rfl ?_
          refine X.opR rfl (X.pickand_t (y := decide (y5.2 = y6.2)) rfl h_27 rfl) rfl (X.q rfl ?_)
          iterate 2 refine X.opR (X.on_t rfl rfl rfl h_28) rfl rfl ?_
          refine X.call (ok_ref09_SameRulings (h_24 h_28)) (X.on_t rfl rfl rfl h_28) rfl rfl (.cons (.shut (n := 9) rfl) (.cons (.shut (n := 9) rfl) .nil)) ?_
          refine X.opR rfl (X.pickand_t (y := y10) rfl h_28 rfl) rfl (X.q rfl ?_)
          iterate 3 refine X.opR (X.on_t rfl rfl rfl h_29) rfl rfl ?_
          refine X.opR rfl (X.pickand_t (y := decide (y7.1 = y8.1)) rfl h_29 rfl) rfl (X.q rfl ?_)
          iterate 3 refine X.opR (X.on_t rfl rfl rfl h_30) rfl rfl ?_
          refine X.opR rfl (X.pickand_t (y := (y7.2.1 == y8.2.1)) rfl h_30 rfl) rfl (X.q rfl ?_)
          iterate 3 refine X.opR (X.on_t rfl rfl rfl h_31) rfl rfl ?_
          refine X.opR rfl (X.pickand_t (y := (y7.2.2.1 == y8.2.2.1)) rfl h_31 rfl) rfl (X.q rfl ?_)
          iterate 3 refine X.off (X.off_t rfl rfl rfl h_32) rfl ?_
          refine X.opR rfl (X.pickand_f (y := decide (y7.2.2.2 = y8.2.2.2)) rfl h_32 rfl) rfl (X.q rfl (GS.opsNil ?_))
          exact X.norm _ hg rfl (sr rfl)
         refine X.call (ok_law09_sanity h_23) rfl rfl rfl .nil (X.q rfl ?_)
         iterate 2 refine X.opR (X.on_t rfl rfl rfl h_25) rfl rfl ?_
         refine X.opR rfl (X.pickand_t (y := decide (y4.2.2 = 0)) rfl h_25 rfl) rfl (X.q rfl ?_)
         refine X.opR (X.on_t rfl rfl rfl h_26) rfl rfl ?_
         refine X.opR rfl (X.pickand_t (y := y4.2.1) rfl h_26 rfl) rfl (X.q rfl ?_)
         iterate 3 refine X.opR (X.on_t rfl rfl rfl h_27) rfl rfl ?_
         refine X.opR rfl (X.pickand_t (y := decide (y5.2 = y6.2)) rfl h_27 rfl) rfl (X.q rfl ?_)
         iterate 2 refine X.opR (X.on_t rfl rfl rfl h_28) rfl rfl ?_
         refine X.call (ok_ref09_SameRulings (h_24 h_28)) (X.on_t rfl rfl rfl h_28) rfl rfl (.cons (.shut (n := 9) rfl) (.cons (.shut (n := 9) rfl) .nil)) ?_
         refine X.opR rfl (X.pickand_t (y := y10) rfl h_28 rfl) rfl (X.q rfl ?_)
         iterate 3 refine X.opR (X.on_t rfl rfl rfl h_29) rfl rfl ?_
         refine X.opR rfl (X.pickand_t (y := decide (y7.1 = y8.1)) rfl h_29 rfl) rfl (X.q rfl ?_)
         iterate 3 refine X.opR (X.on_t rfl rfl rfl h_30) rfl rfl ?_
         refine X.opR rfl (X.pickand_t (y := (y7.2.1 == y8.2.1)) rfl h_30 rfl) rfl (X.q rfl ?_)
         iterate 3 refine X.off (X.off_t rfl rfl rfl h_31) rfl ?_
         refine X.opR rfl (X.pickand_f (y := (y7.2.2.1 == y8.2.2.1)) rfl h_31 rfl) rfl (X.q rfl ?_)
         iterate 3 refine X.off (X.off_t rfl rfl rfl (X.and_ff h_31)) rfl ?_
         refine X.opR rfl (X.pickand_f (y := decide (y7.2.2.2 = y8.2.2.2)) rfl (X.and_ff h_31) rfl) rfl (X.q rfl (GS.opsNil ?_))
         exact X.norm _ hg rfl (sr rfl)
        refine X.call (ok_law09_sanity h_23) rfl rfl rfl .nil (X.q rfl ?_)
        iterate 2 refine X.opR (X.on_t rfl rfl rfl h_25) rfl rfl ?_
        refine X.opR rfl (X.pickand_t (y := decide (y4.2.2 = 0)) rfl h_25 rfl) rfl (X.q rfl ?_)
        refine X.opR (X.on_t rfl rfl rfl h_26) rfl rfl ?_
        refine X.opR rfl (X.pickand_t (y := y4.2.1) rfl h_26 rfl) rfl (X.q rfl ?_)
        iterate 3 refine X.opR (X.on_t rfl rfl rfl h_27) rfl rfl ?_
        refine X.opR rfl (X.pickand_t (y := decide (y5.2 = y6.2)) rfl h_27 rfl) rfl (X.q rfl ?_)
        iterate 2 refine X.opR (X.on_t rfl rfl rfl h_28) rfl rfl ?_
        refine X.call (ok_ref09_SameRulings (h_24 h_28)) (X.on_t rfl rfl rfl h_28) rfl rfl (.cons (.shut (n := 9) rfl) (.cons (.shut (n := 9) rfl) .nil)) ?_
        refine X.opR rfl (X.pickand_t (y := y10) rfl h_28 rfl) rfl (X.q rfl ?_)
        iterate 3 refine X.opR (X.on_t rfl rfl rfl h_29) rfl rfl ?_
        refine X.opR rfl (X.pickand_t (y := decide (y7.1 = y8.1)) rfl h_29 rfl) rfl (X.q rfl ?_)
        iterate 3 refine X.off (X.off_t rfl rfl rfl h_30) rfl ?_
        refine X.opR rfl (X.pickand_f (y := (y7.2.1 == y8.2.1)) rfl h_30 rfl) rfl (X.q rfl ?_)
        iterate 3 refine X.off (X.off_t rfl rfl rfl (X.and_ff h_30)) rfl ?_
        refine X.opR rfl (X.pickand_f (y := (y7.2.2.1 == y8.2.2.1)) rfl (X.and_ff h_30) rfl) rfl (X.q rfl ?_)
        iterate 3 refine X.off (X.off_t rfl rfl rfl (X.and_ff (X.and_ff h_30))) rfl ?_
        refine X.opR rfl (X.pickand_f (y := decide (y7.2.2.2 = y8.2.2.2)) rfl (X.and_ff (X.and_ff h_30)) rfl) rfl (X.q rfl (GS.opsNil ?_))
        exact X.norm _ hg rfl (sr rfl)
       refine X.call (ok_law09_sanity h_23) rfl rfl rfl .nil (X.q rfl ?_)
       iterate 2 refine X.opR (X.on_t rfl rfl rfl h_25) rfl rfl ?_
       refine X.opR rfl (X.pickand_t (y := decide (y4.2.2 = 0)) rfl h_25 rfl) rfl (X.q rfl ?_)
       refine X.opR (X.on_t rfl rfl rfl h_26) rfl rfl ?_
       refine X.opR rfl (X.pickand_t (y := y4.2.1) rfl h_26 rfl) rfl (X.q rfl ?_)
       iterate 3 refine X.opR (X.on_t rfl rfl rfl h_27) rfl rfl ?_
       refine X.opR rfl (X.pickand_t (y := decide (y5.2 = y6.2)) rfl h_27 rfl) rfl (X.q rfl ?_)
       iterate 2 refine X.opR (X.on_t rfl rfl rfl h_28) rfl rfl ?_
       refine X.call (ok_ref09_SameRulings (h_24 h_28)) (X.on_t rfl rfl rfl h_28) rfl rfl (.cons (.shut (n := 9) rfl) (.cons (.shut (n := 9) rfl) .nil)) ?_
       refine X.opR rfl (X.pickand_t (y := y10) rfl h_28 rfl) rfl (X.q rfl ?_)
       iterate 3 refine X.off (X.off_t rfl rfl rfl h_29) rfl ?_
       refine X.opR rfl (X.pickand_f (y := decide (y7.1 = y8.1)) rfl h_29 rfl) rfl (X.q rfl ?_)
       iterate 3 refine X.off (X.off_t rfl rfl rfl (X.and_ff h_29)) rfl ?_
       refine X.opR rfl (X.pickand_f (y := (y7.2.1 == y8.2.1)) rfl (X.and_ff h_29) rfl) rfl (X.q rfl ?_)
       iterate 3 refine X.off (X.off_t rfl rfl rfl (X.and_ff (X.and_ff h_29))) rfl ?_
       refine X.opR rfl (X.pickand_f (y := (y7.2.2.1 == y8.2.2.1)) rfl (X.and_ff (X.and_ff h_29)) rfl) rfl (X.q rfl ?_)
       iterate 3 refine X.off (X.off_t rfl rfl rfl (X.and_ff (X.and_ff (X.and_ff h_29)))) rfl ?_
       refine X.opR rfl (X.pickand_f (y := decide (y7.2.2.2 = y8.2.2.2)) rfl (X.and_ff (X.and_ff (X.and_ff h_29))) rfl) rfl (X.q rfl (GS.opsNil ?_))
       exact X.norm _ hg rfl (sr rfl)
      refine X.call (ok_law09_sanity h_23) rfl rfl rfl .nil (X.q rfl ?_)
      iterate 2 refine X.opR (X.on_t rfl rfl rfl h_25) rfl rfl ?_
      refine X.opR rfl (X.pickand_t (y := decide (y4.2.2 = 0)) rfl h_25 rfl) rfl (X.q rfl ?_)
      refine X.opR (X.on_t rfl rfl rfl h_26) rfl rfl ?_
      refine X.opR rfl (X.pickand_t (y := y4.2.1) rfl h_26 rfl) rfl (X.q rfl ?_)
      iterate 3 refine X.opR (X.on_t rfl rfl rfl h_27) rfl rfl ?_
      refine X.opR rfl (X.pickand_t (y := decide (y5.2 = y6.2)) rfl h_27 rfl) rfl (X.q rfl ?_)
      iterate 3 refine X.off (X.off_t rfl rfl rfl h_28) rfl ?_
      refine X.opR rfl (X.pickand_f (y := y10) rfl h_28 rfl) rfl (X.q rfl ?_)
      iterate 3 refine X.off (X.off_t rfl rfl rfl (X.and_ff h_28)) rfl ?_
      refine X.opR rfl (X.pickand_f (y := decide (y7.1 = y8.1)) rfl (X.and_ff h_28) rfl) rfl (X.q rfl ?_)
      iterate 3 refine X.off (X.off_t rfl rfl rfl (X.and_ff (X.and_ff h_28))) rfl ?_
      refine X.opR rfl (X.pickand_f (y := (y7.2.1 == y8.2.1)) rfl (X.and_ff (X.and_ff h_28)) rfl) rfl (X.q rfl ?_)
      iterate 3 refine X.off (X.off_t rfl rfl rfl (X.and_ff (X.and_ff (X.and_ff h_28)))) rfl ?_
      refine X.opR rfl (X.pickand_f (y := (y7.2.2.1 == y8.2.2.1)) rfl (X.and_ff (X.and_ff (X.and_ff h_28))) rfl) rfl (X.q rfl ?_)
      iterate 3 refine X.off (X.off_t rfl rfl rfl (X.and_ff (X.and_ff (X.and_ff (X.and_ff h_28))))) rfl ?_
      refine X.opR rfl (X.pickand_f (y := decide (y7.2.2.2 = y8.2.2.2)) rfl (X.and_ff (X.and_ff (X.and_ff (X.and_ff h_28)))) rfl) rfl (X.q rfl (GS.opsNil ?_))
      exact X.norm _ hg rfl (sr rfl)
     refine X.call (ok_law09_sanity h_23) rfl rfl rfl .nil (X.q rfl ?_)
     iterate 2 refine X.opR (X.on_t rfl rfl rfl h_25) rfl rfl ?_
     refine X.opR rfl (X.pickand_t (y := decide (y4.2.2 = 0)) rfl h_25 rfl) rfl (X.q rfl ?_)
     refine X.opR (X.on_t rfl rfl rfl h_26) rfl rfl ?_
     refine X.opR rfl (X.pickand_t (y := y4.2.1) rfl h_26 rfl) rfl (X.q rfl ?_)
     iterate 3 refine X.off (X.off_t rfl rfl rfl h_27) rfl ?_
     refine X.opR rfl (X.pickand_f (y := decide (y5.2 = y6.2)) rfl h_27 rfl) rfl (X.q rfl ?_)
     iterate 3 refine X.off (X.off_t rfl rfl rfl (X.and_ff h_27)) rfl ?_
     refine X.opR rfl (X.pickand_f (y := y10) rfl (X.and_ff h_27) rfl) rfl (X.q rfl ?_)
     iterate 3 refine X.off (X.off_t rfl rfl rfl (X.and_ff (X.and_ff h_27))) rfl ?_
     refine X.opR rfl (X.pickand_f (y := decide (y7.1 = y8.1)) rfl (X.and_ff (X.and_ff h_27)) rfl) rfl (X.q rfl ?_)
     iterate 3 refine X.off (X.off_t rfl rfl rfl (X.and_ff (X.and_ff (X.and_ff h_27)))) rfl ?_
     refine X.opR rfl (X.pickand_f (y := (y7.2.1 == y8.2.1)) rfl (X.and_ff (X.and_ff (X.and_ff h_27))) rfl) rfl (X.q rfl ?_)
     iterate 3 refine X.off (X.off_t rfl rfl rfl (X.and_ff (X.and_ff (X.and_ff (X.and_ff h_27))))) rfl ?_
     refine X.opR rfl (X.pickand_f (y := (y7.2.2.1 == y8.2.2.1)) rfl (X.and_ff (X.and_ff (X.and_ff (X.and_ff h_27)))) rfl) rfl (X.q rfl ?_)
     iterate 3 refine X.off (X.off_t rfl rfl rfl (X.and_ff (X.and_ff (X.and_ff (X.and_ff (X.and_ff h_27)))))) rfl ?_
     refine X.opR rfl (X.pickand_f (y := decide (y7.2.2.2 = y8.2.2.2)) rfl (X.and_ff (X.and_ff (X.and_ff (X.and_ff (X.and_ff h_27))))) rfl) rfl (X.q rfl (GS.opsNil ?_))
     exact X.norm _ hg rfl (sr rfl)
    refine X.call (ok_law09_sanity h_23) rfl rfl rfl .nil (X.q rfl ?_)
    iterate 2 refine X.opR (X.on_t rfl rfl rfl h_25) rfl rfl ?_
    refine X.opR rfl (X.pickand_t (y := decide (y4.2.2 = 0)) rfl h_25 rfl) rfl (X.q rfl ?_)
    refine X.off (X.off_t rfl rfl rfl h_26) rfl ?_
    refine X.opR rfl (X.pickand_f (y := y4.2.1) rfl h_26 rfl) rfl (X.q rfl ?_)
    iterate 3 refine X.off (X.off_t rfl rfl rfl (X.and_ff h_26)) rfl ?_
    refine X.opR rfl (X.pickand_f (y := decide (y5.2 = y6.2)) rfl (X.and_ff h_26) rfl) rfl (X.q rfl ?_)
    iterate 3 refine X.off (X.off_t rfl rfl rfl (X.and_ff (X.and_ff h_26))) rfl ?_
    refine X.opR rfl (X.pickand_f (y := y10) rfl (X.and_ff (X.and_ff h_26)) rfl) rfl (X.q rfl ?_)
    iterate 3 refine X.off (X.off_t rfl rfl rfl (X.and_ff (X.and_ff (X.and_ff h_26)))) rfl ?_
    refine X.opR rfl (X.pickand_f (y := decide (y7.1 = y8.1)) rfl (X.and_ff (X.and_ff (X.and_ff h_26))) rfl) rfl (X.q rfl ?_)
    iterate 3 refine X.off (X.off_t rfl rfl rfl (X.and_ff (X.and_ff (X.and_ff (X.and_ff h_26))))) rfl ?_
    refine X.opR rfl (X.pickand_f (y := (y7.2.1 == y8.2.1)) rfl (X.and_ff (X.and_ff (X.and_ff (X.and_ff h_26)))) rfl) rfl (X.q rfl ?_)
    iterate 3 refine X.off (X.off_t rfl rfl rfl (X.and_ff (X.and_ff (X.and_ff (X.and_ff (X.and_ff h_26)))))) rfl ?_
    refine X.opR rfl (X.pickand_f (y := (y7.2.2.1 == y8.2.2.1)) rfl (X.and_ff (X.and_ff (X.and_ff (X.and_ff (X.and_ff h_26))))) rfl) rfl (X.q rfl ?_)
    iterate 3 refine X.off (X.off_t rfl rfl rfl (X.and_ff (X.and_ff (X.and_ff (X.and_ff (X.and_ff (X.and_ff h_26))))))) rfl ?_
    refine X.opR rfl (X.pickand_f (y := decide (y7.2.2.2 = y8.2.2.2)) rfl (X.and_ff (X.and_ff (X.and_ff (X.and_ff (X.and_ff (X.and_ff h_26)))))) rfl) rfl (X.q rfl (GS.opsNil ?_))
    exact X.norm _ hg rfl (sr rfl)
   refine X.call (ok_law09_sanity h_23) rfl rfl rfl .nil (X.q rfl ?_)
   iterate 2 refine X.off (X.off_t rfl rfl rfl h_25) rfl ?_
   refine X.opR rfl (X.pickand_f (y := decide (y4.2.2 = 0)) rfl h_25 rfl) rfl (X.q rfl ?_)
   refine X.off (X.off_t rfl rfl rfl (X.and_ff h_25)) rfl ?_
   refine X.opR rfl (X.pickand_f (y := y4.2.1) rfl (X.and_ff h_25) rfl) rfl (X.q rfl ?_)
   iterate 3 refine X.off (X.off_t rfl rfl rfl (X.and_ff (X.and_ff h_25))) rfl ?_
   refine X.opR rfl (X.pickand_f (y := decide (y5.2 = y6.2)) rfl (X.and_ff (X.and_ff h_25)) rfl) rfl (X.q rfl ?_)
   iterate 3 refine X.off (X.off_t rfl rfl rfl (X.and_ff (X.and_ff (X.and_ff h_25)))) rfl ?_
   refine X.opR rfl (X.pickand_f (y := y10) rfl (X.and_ff (X.and_ff (X.and_ff h_25))) rfl) rfl (X.q rfl ?_)
   iterate 3 refine X.off (X.off_t rfl rfl rfl (X.and_ff (X.and_ff (X.and_ff (X.and_ff h_25))))) rfl ?_
   refine X.opR rfl (X.pickand_f (y := decide (y7.1 = y8.1)) rfl (X.and_ff (X.and_ff (X.and_ff (X.and_ff h_25)))) rfl) rfl (X.q rfl ?_)
   iterate 3 refine X.off (X.off_t rfl rfl rfl (X.and_ff (X.and_ff (X.and_ff (X.and_ff (X.and_ff h_25)))))) rfl ?_
   refine X.opR rfl (X.pickand_f (y := (y7.2.1 == y8.2.1)) rfl (X.and_ff (X.and_ff (X.and_ff (X.and_ff (X.and_ff h_25))))) rfl) rfl (X.q rfl ?_)
   iterate 3 refine X.off (X.off_t rfl rfl rfl (X.and_ff (X.and_ff (X.and_ff (X.and_ff (X.and_ff (X.and_ff h_25))))))) rfl ?_
   refine X.opR rfl (X.pickand_f (y := (y7.2.2.1 == y8.2.2.1)) rfl (X.and_ff (X.and_ff (X.and_ff (X.and_ff (X.and_ff (X.and_ff h_25)))))) rfl) rfl (X.q rfl ?_)
   iterate 3 refine X.off (X.off_t rfl rfl rfl (X.and_ff (X.and_ff (X.and_ff (X.and_ff (X.and_ff (X.and_ff (X.and_ff h_25)))))))) rfl ?_
   refine X.opR rfl (X.pickand_f (y := decide (y7.2.2.2 = y8.2.2.2)) rfl (X.and_ff (X.and_ff (X.and_ff (X.and_ff (X.and_ff (X.and_ff (X.and_ff h_25))))))) rfl) rfl (X.q rfl (GS.opsNil ?_))
   exact X.norm _ hg rfl (sr rfl)
  cases hM
  exact GS.ret ⟨_, rfl, ⟨30, rfl⟩⟩
 intro hj_1
 refine X.cond rfl (fun h_33 => ?_) (fun h_33 => ?_)
 ·replace hM := ite_t h_33 hM
  obtain ⟨q2, h_34, hM⟩ := bind_of hM
  refine GS.region (X.q rfl ?_)
  refine X.opR rfl (X.convE rfl rfl rfl rfl) rfl (X.q rfl (X.q rfl ?_))
  refine X.opR rfl (X.remE h_34 rfl rfl) rfl (X.q rfl ?_)
  refine X.op0W (H' := [.rows 1 [(e_api_Court c)], .dead, .rows 8 (List.map e_api_Letter l2), .rows 8 [(V.agg [(V.i x.ID), (V.i x.Case), (V.i x.Kind), (V.i x.Round), (V.i x.From), (V.i q2), (V.i x.Voted), (V.i x.Finding)])]]) rfl rfl rfl (GS.opsNil ?_)
  exact X.gc [some 0, some 3] (hj_1 q2 hM) rfl rfl rfl (ga rfl rfl) (gb9 rfl rfl rfl (gb9 rfl rfl rfl gb_nil))
 replace hM := ite_f h_33 hM
 refine GS.skip ?_
 exact X.gc [some 0, some 3] (hj_1 x.To hM) rfl rfl rfl (ga rfl rfl) (gb9 rfl rfl rfl (gb9 rfl rfl rfl gb_nil))
end Go.Proofs.Ytkomoedegnckhaa
