/- The program's functions compute the plain ones. Conditions: none. Printed by a program (wip/tools/xg.py). -/
import Derived.Test.YtnkngglimidldaaGreatP2
set_option linter.unusedVariables false
set_option linter.unusedSimpArgs false
namespace Go.Proofs.YtnkngglimidldaaGreat
open Go Go.Am Go.Proofs Go.Mx
set_option maxHeartbeats 4000000 in
theorem qa {h : zK} {l : (List zM)} {old : (List zO)} {r : (List zO) × Int} (hM : jt h l old = some r) : Ct Tryz.prog 32 [(zG h), (V.sl (List.map zF l)), (V.sl (List.map zR old))] (V.tup [(V.sl (List.map zR r.1)), (V.i r.2)]) := by
 refine ze ZK rfl ?_
 unfold jt at hM
 refine X.sq ?_
 refine X.opW rfl rfl rfl rfl (X.q rfl (X.q rfl ?_))
 refine GS.zA ?_
 iterate 2 refine GS.seq ?_
 obtain ⟨y, h_1, hM⟩ := zH hM
 refine GS.region (X.q rfl (X.q rfl ?_))
 refine X.call (ja h_1) rfl rfl rfl (.cons (.shut (n := 9) rfl) (.cons (.shut (n := 9) rfl) .nil)) (X.q rfl (X.nq (X.q rfl (X.q rfl ?_))))
 refine GS.zA ?_
 refine X.cond rfl (fun h_2 => ?_) (fun h_2 => ?_)
 ·replace hM := zZ h_2 hM
  refine X.sq (X.q rfl (X.q rfl (X.q rfl ?_)))
  refine GS.zA ?_
  cases hM
  exact GS.ret ⟨_, rfl, ⟨30, rfl⟩⟩
 replace hM := za h_2 hM
 refine GS.skip (GS.seq (X.sq (X.q rfl ?_)))
 refine X.opR rfl (X.lenF rfl rfl rfl) rfl (X.q rfl (GS.zA ?_))
 refine X.cond rfl (fun h_3 => ?_) (fun h_3 => ?_)
 ·replace hM := zZ h_3 hM
  refine X.sq (X.q rfl (X.q rfl ?_))
  refine GS.zA ?_
  cases hM
  exact GS.ret ⟨_, rfl, ⟨30, rfl⟩⟩
 replace hM := za h_3 hM
 refine GS.skip (X.sq (X.q rfl (X.q rfl ?_)))
 refine X.joinO (τ := (List zE) × (List (List (zE × zD))) × (List Int)) (fun v => yl l old v.1 v.2.1 v.2.2 = some r) (fun v => ⟨[(1, (V.sl (List.map zF l))), (2, (V.sl (List.map zR old))), (25, (V.ptr 0 0 0))], [.rows 4 [(V.agg [(V.sl (List.map zF l)), (ovl 1 v.1), (ovl 2 v.2.1), (ovl 3 v.2.2)])], obl 2 zC v.1, obl 1 (fun l => V.fmap (List.map (fun p => zC p.1) l) (List.map (fun p => zI p.2) l)) v.2.1, obl 1 V.i v.2.2], 0, none, 57⟩) ?_ ?_
 ·rintro ⟨l1, l2, l3⟩ hM
  replace hM : yl l old l1 l2 l3 = some r := hM
  unfold yl at hM
  refine X.q rfl (GS.zA (GS.seq (X.sq (X.q rfl ?_))))
  refine X.opR rfl (X.lenF rfl rfl rfl) rfl (X.q rfl (GS.zA ?_))
  refine X.join (τ := (List Int)) (fun v => yk l l1 l2 v = some r) (fun v => ⟨[(9, (V.ptr 0 0 0))], [.rows 4 [(V.agg [(V.sl (List.map zF l)), (ovl 1 l1), (ovl 2 l2), (ovl 3 v)])], obl 2 zC l1, obl 1 (fun l => V.fmap (List.map (fun p => zC p.1) l) (List.map (fun p => zI p.2) l)) l2, obl 1 V.i v], 0, none, 57⟩) ?_ ?_
  ·intro l4 hM
   replace hM : yk l l1 l2 l4 = some r := hM
   unfold yk at hM
   refine GS.seq ?_
   refine GS.freezeW (K' := [(9, (V.fptr [(zS (⟨l, l1, l2, l4⟩ : zJ))] 0 0))]) (X.fw_cons rfl (FR.ptr rfl rfl (FR.agg (.cons ⟨30, rfl⟩ (.cons (FR.ovl (f := zC) (l := l1) 9 rfl rfl (fun _ => rfl)) (.cons (FR.ovl (f := (fun l => V.fmap (List.map (fun p => zC p.1) l) (List.map (fun p => zI p.2) l))) (l := l2) 9 rfl rfl (fun _ => rfl)) (.cons (FR.ovl (f := V.i) (l := l4) 9 rfl rfl (fun _ => rfl)) .nil)))))) X.fw_nil) ?_
   obtain ⟨y2, h_5, hM⟩ := zH hM
   refine GS.region (X.q rfl ?_)
   refine X.call (qi h_5) rfl rfl rfl (.cons (.shut (n := 9) rfl) .nil) (X.q rfl (X.q rfl ?_))
   refine GS.zA ?_
   cases hM
   exact GS.ret ⟨_, rfl, ⟨30, rfl⟩⟩
  intro hj_2
  refine GS.block ?_
  refine X.gc [some 0, some 1, some 2, some 3] (X.loop (σ := (Int × (List Int))) (fun v => ⟨[(2, (V.sl (List.map zR old))), (9, (V.ptr 0 0 0)), (26, (V.sl (List.map zF l))), (27, (V.i (l.length : Int))), (28, (V.i v.1))], [.rows 4 [(V.agg [(V.sl (List.map zF l)), (ovl 1 l1), (ovl 2 l2), (ovl 3 v.2)])], obl 2 zC l1, obl 1 (fun l => V.fmap (List.map (fun p => zC p.1) l) (List.map (fun p => zI p.2) l)) l2, obl 1 V.i v.2], 0, none, 57⟩) hM ?_ rfl) rfl rfl rfl (ga rfl rfl) (Zs rfl rfl (jV (.cons ⟨9, rfl⟩ (.cons (zi rfl) (.cons (zi rfl) (.cons (zi rfl) .nil))))) (zk 9 rfl rfl (fun _ => rfl) (zk 9 rfl rfl (fun _ => rfl) (zk 9 rfl rfl (fun _ => rfl) zL))))
  rintro ⟨x2, l6⟩ b_1 hM hc_3 hr_1
  rw [yn] at hM
  refine X.sq (X.q rfl (GS.zA (GS.seq ?_)))
  refine X.cond rfl (fun h_6 => ?_) (fun h_6 => ?_)
  ·replace hM := zZ h_6 hM
   refine GS.skip (GS.seq ?_)
   refine X.join (τ := (List Int)) (fun v => Jd x2 v = some b_1) (fun v => ⟨[(2, (V.sl (List.map zR old))), (9, (V.ptr 0 0 0)), (26, (V.sl (List.map zF l))), (27, (V.i (l.length : Int))), (28, (V.i x2))], [.rows 4 [(V.agg [(V.sl (List.map zF l)), (ovl 1 l1), (ovl 2 l2), (ovl 3 v)])], obl 2 zC l1, obl 1 (fun l => V.fmap (List.map (fun p => zC p.1) l) (List.map (fun p => zI p.2) l)) l2, obl 1 V.i v], 0, none, 57⟩) ?_ ?_
   ·intro l5 hM
    replace hM : Jd x2 l5 = some b_1 := hM
    unfold Jd at hM
    refine GS.region ?_
    refine X.opR rfl (X.addE rfl rfl) rfl (X.q rfl (GS.zA ?_))
    have hE := Option.some.inj hM
    exact X.gc [some 0, some 1, some 2, some 3] (hc_3 (w64 (x2 + 1), l5) hE.symm) rfl rfl rfl (ga rfl rfl) (Zs rfl rfl (jV (.cons ⟨9, rfl⟩ (.cons (zi rfl) (.cons (zi rfl) (.cons (zi rfl) .nil))))) (zk 9 rfl rfl (fun _ => rfl) (zk 9 rfl rfl (fun _ => rfl) (zk 9 rfl rfl (fun _ => rfl) zL))))
   intro hj_4
   refine GS.block (GS.seq ?_)
   obtain ⟨x, h_7, hM⟩ := zH hM
   refine GS.region (X.q rfl ?_)
   refine X.opR rfl (X.ZC (f := zF) h_7 (fun _ => rfl) rfl rfl rfl rfl) rfl ?_
   refine X.opR rfl (X.ZS h_7 rfl rfl rfl) rfl ?_
   refine X.opW (H' := [.rows 4 [(V.agg [(V.sl (List.map zF l)), (ovl 1 l1), (ovl 2 l2), (ovl 3 l6)])], obl 2 zC l1, obl 1 (fun l => V.fmap (List.map (fun p => zC p.1) l) (List.map (fun p => zI p.2) l)) l2, obl 1 V.i l6, .rows 5 [(V.agg [(V.i 0), (V.i 0), (V.i 0), (V.i 0), (V.i 0)])]]) rfl rfl rfl rfl (X.q rfl ?_)
   refine X.op0W (H' := [.rows 4 [(V.agg [(V.sl (List.map zF l)), (ovl 1 l1), (ovl 2 l2), (ovl 3 l6)])], obl 2 zC l1, obl 1 (fun l => V.fmap (List.map (fun p => zC p.1) l) (List.map (fun p => zI p.2) l)) l2, obl 1 V.i l6, .rows 5 [(zF x)]]) rfl rfl rfl (GS.zA (GS.seq ?_))
   obtain ⟨y3, h_8, hM⟩ := zH hM
   refine GS.region (X.q rfl (X.q rfl (X.q rfl ?_)))
   refine X.call (zAg h_8) rfl rfl rfl (.cons (.shut (n := 9) rfl) (.cons (.shut (n := 9) rfl) .nil)) (X.q rfl (X.q rfl (X.q rfl ?_)))
   refine X.opW (H' := [.rows 4 [(V.agg [(V.sl (List.map zF l)), (ovl 1 l1), (ovl 2 l2), (ovl 3 l6)])], obl 2 zC l1, obl 1 (fun l => V.fmap (List.map (fun p => zC p.1) l) (List.map (fun p => zI p.2) l)) l2, obl 1 V.i l6, .rows 5 [(zF x)], .rows 5 [(V.agg [(V.i 0), (V.i 0), (V.i 0), (V.i 0), (V.i 0)])]]) rfl rfl rfl rfl ?_
   refine X.op0W (H' := [.rows 4 [(V.agg [(V.sl (List.map zF l)), (ovl 1 l1), (ovl 2 l2), (ovl 3 l6)])], obl 2 zC l1, obl 1 (fun l => V.fmap (List.map (fun p => zC p.1) l) (List.map (fun p => zI p.2) l)) l2, obl 1 V.i l6, .rows 5 [(zF x)], .rows 5 [(zR y3.1)]]) rfl rfl rfl (X.q rfl (X.nq (X.q rfl (GS.zA ?_))))
   refine X.cond rfl (fun h_9 => ?_) (fun h_9 => ?_)
   ·replace hM := zZ h_9 hM
    obtain ⟨y4, h_10, hM⟩ := zH hM
    obtain ⟨x1, h_11, hM⟩ := zH hM
    refine X.draw (by kernel_rfl) ?_
    iterate 11 refine X.dop rfl rfl rfl rfl (by kernel_rfl) rfl rfl ?_
    refine X.dcallF (zAf h_10) rfl rfl rfl (by kernel_rfl) rfl (m := 9) rfl (.cons (FR.arg (FR.ovl (f := zC) (l := l1) 9 rfl rfl (fun _ => rfl))) (.cons (.shut (n := 9) rfl) .nil)) ?_
    refine X.dop rfl (X.zBL h_11 rfl rfl rfl rfl rfl) rfl rfl (by kernel_rfl) rfl rfl ?_
    refine X.dop0 rfl (X.zAc (b := y4) h_11 rfl rfl rfl rfl rfl rfl rfl) rfl rfl (X.zKI (by kernel_rfl)) rfl ?_
    refine X.dnil ?_
    refine X.norm [(2, (V.sl (List.map zR old))), (9, (V.ptr 0 0 0)), (26, (V.sl (List.map zF l))), (27, (V.i (l.length : Int))), (28, (V.i x2))] ?_ rfl (sr rfl)
    refine GS.endB ?_
    exact X.gc [some 0, some 1, some 2, some 3] (hj_4 (put l6 x2 y4) hM) rfl rfl rfl (ga rfl rfl) (Zs rfl rfl (jV (.cons ⟨9, rfl⟩ (.cons (zi rfl) (.cons (zi rfl) (.cons (Yq X.zDU (zi rfl)) .nil))))) (zk 9 rfl rfl (fun _ => rfl) (zk 9 rfl rfl (fun _ => rfl) (zk 9 rfl rfl (fun _ => rfl) zL))))
   replace hM := za h_9 hM
   refine GS.skip ?_
   refine GS.endB ?_
   exact X.gc [some 0, some 1, some 2, some 3] (hj_4 l6 hM) rfl rfl rfl (ga rfl rfl) (Zs rfl rfl (jV (.cons ⟨9, rfl⟩ (.cons (zi rfl) (.cons (zi rfl) (.cons (zi rfl) .nil))))) (zk 9 rfl rfl (fun _ => rfl) (zk 9 rfl rfl (fun _ => rfl) (zk 9 rfl rfl (fun _ => rfl) zL))))
  replace hM := za h_6 hM
  refine GS.exit rfl ?_
  obtain ⟨y_1, hM, hy⟩ := ZN hM
  rw [hr_1 _ hy.symm] at hM
  exact X.gc [some 0, some 1, some 2, some 3] (hj_2 l6 hM) rfl rfl rfl (ga rfl rfl) (Zs rfl rfl (jV (.cons ⟨9, rfl⟩ (.cons (zi rfl) (.cons (zi rfl) (.cons (zi rfl) .nil))))) (zk 9 rfl rfl (fun _ => rfl) (zk 9 rfl rfl (fun _ => rfl) (zk 9 rfl rfl (fun _ => rfl) zL))))
 intro hj_1
 refine X.inl rfl rfl rfl rfl (X.sq ?_)
 refine X.opW rfl rfl rfl rfl (X.q rfl (X.nq (X.q rfl (X.q rfl ?_))))
 refine X.opW rfl rfl rfl rfl ?_
 refine X.opW (H' := [.rows 6 [(zG h)], .rows 6 [(zG h)], .rows 4 [(V.agg [(V.sl (List.map zF l)), V.nil, V.nil, V.nil])], .rows 1 [(V.lit (.pointer none))]]) rfl rfl rfl rfl ?_
 refine X.op0W (H' := [.rows 6 [(zG h)], .rows 6 [(zG h)], .rows 4 [(V.agg [(V.sl (List.map zF l)), V.nil, V.nil, V.nil])], .rows 1 [(V.ptr 2 0 0)]]) rfl rfl rfl (GS.zA (GS.seq (X.sq (X.q rfl ?_))))
 refine X.call (zAJ h) rfl rfl rfl (.cons (.shut (n := 9) rfl) .nil) (GS.zA (GS.block ?_))
 refine X.gc [some 1, some 3, some 2] (H' := [.dead, .rows 6 [(zG h)], .rows 1 [(V.ptr 3 0 0)], .rows 4 [(V.agg [(V.sl (List.map zF l)), V.nil, V.nil, V.nil])]]) (K' := [(1, (V.sl (List.map zF l))), (2, (V.ptr 1 0 0)), (5, (V.ptr 2 0 0)), (15, (V.fn 120 [(V.fptr [(zG (zV h))] 0 0)]))]) ?_ rfl rfl rfl (ga rfl rfl) (zAm (gb9 rfl rfl rfl (gb9 rfl rfl rfl (gb9 rfl rfl rfl zL))))
 refine X.range rfl rfl (jb ⟨9, rfl⟩ (jb ⟨9, rfl⟩ (jb ⟨9, rfl⟩ (jb ⟨9, rfl⟩ zDd)))) rfl ?_
 intro R_12 hrn_12 hrK_12 hrp_12 hra_12 hrb_12 hlow_12
 refine X.sq (X.q rfl (X.q rfl ?_))
 refine X.opR rfl (X.lenF rfl rfl rfl) rfl (X.q rfl (GS.zA (GS.block ?_)))
 refine X.gc [none] (X.loop (σ := (Int × (List zE))) (fun v => ⟨[(0, (V.yld 4)), (1, (V.fptr [(zG (zV h))] 0 0)), (8, (V.i (((zV h).Tides).length : Int))), (9, (V.i v.1))], [.dead, .rows 6 [(zG h)], .rows 1 [(V.ptr 3 0 0)], .rows 4 [(V.agg [(V.sl (List.map zF l)), (ovl 5 v.2), V.nil, V.nil])], lr R_12 .ready none, obl 2 zC v.2], 0, none, 29⟩) hM ?_ rfl) rfl rfl rfl (ga rfl rfl) (zAm (gb9 rfl rfl rfl (gb9 rfl rfl rfl (gb9 rfl rfl rfl (jW hlow_12 rfl rfl rfl (gb_pad' rfl zL))))))
 rintro ⟨x7, l16⟩ b_1 hM hc_5 hr_1
 rw [QF] at hM
 refine X.sq (X.q rfl (GS.zA (GS.seq ?_)))
 refine X.cond rfl (fun h_13 => ?_) (fun h_13 => ?_)
 ·replace hM := zZ h_13 hM
  refine GS.skip (GS.seq (GS.block (X.sq (X.q rfl (X.q rfl ?_)))))
  refine X.nq (X.q rfl (X.q rfl ?_))
  refine X.opR rfl (X.lenF rfl rfl rfl) rfl (X.q rfl (GS.zA ?_))
  refine X.join (τ := (List zE)) (fun v => yj x7 v = some b_1) (fun v => ⟨[(0, (V.yld 4)), (1, (V.fptr [(zG (zV h))] 0 0)), (8, (V.i (((zV h).Tides).length : Int))), (9, (V.i x7))], [.dead, .rows 6 [(zG h)], .rows 1 [(V.ptr 3 0 0)], .rows 4 [(V.agg [(V.sl (List.map zF l)), (ovl 5 v), V.nil, V.nil])], lr R_12 .ready none, obl 2 zC v], 0, none, 29⟩) ?_ ?_
  ·intro l7 hM
   replace hM : yj x7 l7 = some b_1 := hM
   unfold yj at hM
   refine GS.endB (GS.region ?_)
   refine X.opR rfl (X.addE rfl rfl) rfl (X.q rfl (GS.zA ?_))
   have hE := Option.some.inj hM
   exact X.gc [some 5] (hc_5 (w64 (x7 + 1), l7) hE.symm) rfl rfl rfl (ga rfl rfl) (zAm (gb9 rfl rfl rfl (gb9 rfl rfl rfl (Zs rfl rfl (jV (.cons ⟨9, rfl⟩ (.cons (zi rfl) (.cons ⟨9, rfl⟩ (.cons ⟨9, rfl⟩ .nil))))) (jW hlow_12 rfl rfl rfl (zk 9 rfl rfl (fun _ => rfl) zL))))))
  intro hj_6
  refine GS.block ?_
  refine X.gc [some 5] (X.loop (σ := (Int × (List zE))) (fun v => ⟨[(0, (V.yld 4)), (1, (V.fptr [(zG (zV h))] 0 0)), (3, (V.i x7)), (8, (V.i (((zV h).Tides).length : Int))), (9, (V.i x7)), (13, (V.sl (List.map zT ((zV h).Berths)))), (14, (V.i (((zV h).Berths).length : Int))), (15, (V.i v.1))], [.dead, .rows 6 [(zG h)], .rows 1 [(V.ptr 3 0 0)], .rows 4 [(V.agg [(V.sl (List.map zF l)), (ovl 5 v.2), V.nil, V.nil])], lr R_12 .ready none, obl 2 zC v.2], 0, none, 29⟩) hM ?_ rfl) rfl rfl rfl (ga rfl rfl) (zAm (gb9 rfl rfl rfl (gb9 rfl rfl rfl (Zs rfl rfl (jV (.cons ⟨9, rfl⟩ (.cons (zi rfl) (.cons ⟨9, rfl⟩ (.cons ⟨9, rfl⟩ .nil))))) (jW hlow_12 rfl rfl rfl (zk 9 rfl rfl (fun _ => rfl) zL))))))
  rintro ⟨x4, l9⟩ b_2 hM hc_7 hr_2
  rw [ym] at hM
  refine X.sq (X.q rfl (GS.zA (GS.seq ?_)))
  refine X.cond rfl (fun h_14 => ?_) (fun h_14 => ?_)
  ·replace hM := zZ h_14 hM
   refine GS.skip (GS.seq (GS.block (GS.seq ?_)))
   obtain ⟨x3, h_15, hM⟩ := zH hM
   refine GS.region ?_
   refine X.opR rfl (X.ZC (f := zT) h_15 (fun _ => rfl) rfl rfl rfl rfl) rfl ?_
   refine X.opR rfl (X.ZS h_15 rfl rfl rfl) rfl ?_
   refine X.opW (H' := [.dead, .rows 6 [(zG h)], .rows 1 [(V.ptr 3 0 0)], .rows 4 [(V.agg [(V.sl (List.map zF l)), (ovl 5 l9), V.nil, V.nil])], lr R_12 .ready none, obl 2 zC l9, .rows 2 [(V.agg [(V.i 0), (V.i 0)])]]) rfl rfl rfl rfl ?_
   refine X.op0W (H' := [.dead, .rows 6 [(zG h)], .rows 1 [(V.ptr 3 0 0)], .rows 4 [(V.agg [(V.sl (List.map zF l)), (ovl 5 l9), V.nil, V.nil])], lr R_12 .ready none, obl 2 zC l9, .rows 2 [(zT x3)]]) rfl rfl rfl (X.nq ?_)
   iterate 6 refine X.q rfl ?_
   refine X.yld hrn_12 hrK_12 hrp_12 hra_12 hrb_12 rfl rfl rfl rfl rfl rfl (GS.region ?_)
   refine X.opW (H' := [.dead, .rows 6 [(zG h)], .rows 1 [(V.ptr 3 0 0)], .rows 4 [(V.agg [(V.sl (List.map zF l)), (ovl 5 l9), V.nil, V.nil])], lr R_12 .ready none, obl 2 zC l9, .rows 2 [(zT x3)], .rows 2 [(V.agg [(V.i 0), (V.i 0)])]]) rfl rfl rfl rfl ?_
   refine X.op0W (H' := [.dead, .rows 6 [(zG h)], .rows 1 [(V.ptr 3 0 0)], .rows 4 [(V.agg [(V.sl (List.map zF l)), (ovl 5 l9), V.nil, V.nil])], lr R_12 .ready none, obl 2 zC l9, .rows 2 [(zT x3)], .rows 2 [(V.agg [(V.i x7), (V.i x3.ID)])]]) rfl rfl rfl (GS.zA ?_)
   refine GS.nil (X.begin' rfl rfl ?_ rfl)
   refine GS.block ?_
   obtain ⟨l8, h_16, hM⟩ := zH hM
   refine X.draw (by kernel_rfl) ?_
   iterate 7 refine X.dop rfl rfl rfl rfl (by kernel_rfl) rfl rfl ?_
   refine X.zHO (f := zC) h_16 (fun _ => rfl) (by rfl) (by rfl) (by rfl) (by rfl) (by rfl) (by rfl) (by rfl) (by rfl) (by rfl) (by rfl) (by rfl) (by exact rfl) (by rfl) (by rfl) (by kernel_rfl) (by rfl) (by rfl) ?_
   iterate 2 refine X.dop rfl rfl rfl rfl (by kernel_rfl) rfl rfl ?_
   refine X.dop0 rfl rfl rfl rfl (by kernel_rfl) rfl ?_
   refine X.dnil ?_
   refine X.norm [] ?_ rfl W.zHc
   refine GS.endB ?_
   refine GS.nil ⟨_, rfl, ?_⟩
   refine X.norm (H' := [.dead, .rows 6 [(zG h)], .rows 1 [(V.ptr 3 0 0)], .rows 4 [(V.agg [(V.sl (List.map zF l)), (V.osl 9 0 (List.length l8)), V.nil, V.nil])], lr R_12 .ready none, .dead, .rows 2 [(zT x3)], .rows 2 [(V.agg [(V.i x7), (V.i x3.ID)])], .rows 2 (List.map zC ([(⟨x7, x3.ID⟩ : zE)])), .rows 2 (List.map zC l8)]) [(0, (V.yld 4)), (1, (V.fptr [(zG (zV h))] 0 0)), (3, (V.i x7)), (8, (V.i (((zV h).Tides).length : Int))), (9, (V.i x7)), (13, (V.sl (List.map zT ((zV h).Berths)))), (14, (V.i (((zV h).Berths).length : Int))), (15, (V.i x4)), (25, (V.b true))] ?_ rfl (sr rfl)
   refine X.q rfl (GS.zA ?_)
   refine GS.ql rfl (GS.skip ?_)
   refine GS.endB (GS.region ?_)
   refine X.opR rfl (X.addE rfl rfl) rfl (X.q rfl (GS.zA ?_))
   have hE := Option.some.inj hM
   exact X.gc [some 9] (hc_7 (w64 (x4 + 1), l8) hE.symm) rfl rfl rfl (ga rfl rfl) (zAm (gb9 rfl rfl rfl (gb9 rfl rfl rfl (Zs rfl rfl (jV (.cons ⟨9, rfl⟩ (.cons (qh (jH h_16) rfl) (.cons ⟨9, rfl⟩ (.cons ⟨9, rfl⟩ .nil))))) (jW hlow_12 rfl rfl rfl (gb_obl' 9 (jH h_16) rfl rfl (fun _ => rfl) zL))))))
  replace hM := za h_14 hM
  refine GS.exit rfl ?_
  obtain ⟨y_2, hM, hy⟩ := ZN hM
  rw [hr_2 _ hy.symm] at hM
  exact X.gc [some 5] (hj_6 l9 hM) rfl rfl rfl (ga rfl rfl) (zAm (gb9 rfl rfl rfl (gb9 rfl rfl rfl (Zs rfl rfl (jV (.cons ⟨9, rfl⟩ (.cons (zi rfl) (.cons ⟨9, rfl⟩ (.cons ⟨9, rfl⟩ .nil))))) (jW hlow_12 rfl rfl rfl (zk 9 rfl rfl (fun _ => rfl) zL))))))
 replace hM := za h_13 hM
 refine GS.exit rfl ?_
 refine GS.nil ⟨_, _, rfl, rfl, ?_⟩
 refine X.norm (H' := [.dead, .rows 6 [(zG h)], .rows 1 [(V.ptr 3 0 0)], .rows 4 [(V.agg [(V.sl (List.map zF l)), (ovl 5 l16), V.nil, V.nil])], .dead, obl 2 zC l16]) [(1, (V.sl (List.map zF l))), (2, (V.ptr 1 0 0)), (5, (V.ptr 2 0 0)), (15, (V.fn 120 [(V.fptr [(zG (zV h))] 0 0)]))] ?_ rfl (sr rfl)
 refine GS.endB (GS.seq (X.sq (X.q rfl ?_)))
 refine X.opR rfl (X.lenF rfl rfl rfl) rfl (X.q rfl (GS.zA ?_))
 refine X.join (τ := (List (List (zE × zD))) × (List Int)) (fun v => yi l old l16 v.1 v.2 = some b_1) (fun v => ⟨[(5, (V.ptr 1 0 0))], [.dead, .rows 1 [(V.ptr 2 0 0)], .rows 4 [(V.agg [(V.sl (List.map zF l)), (ovl 3 l16), (ovl 4 v.1), (ovl 5 v.2)])], obl 2 zC l16, obl 1 (fun l => V.fmap (List.map (fun p => zC p.1) l) (List.map (fun p => zI p.2) l)) v.1, obl 1 V.i v.2], 0, none, 61⟩) ?_ ?_
 ·rintro ⟨l10, l11⟩ hM
  replace hM : yi l old l16 l10 l11 = some b_1 := hM
  unfold yi at hM
  refine X.sq (X.q rfl (X.q rfl ?_))
  refine GS.zA ?_
  refine GS.ret ⟨_, rfl, ?_⟩
  refine X.norm (H' := [.dead, .rows 1 [(V.ptr 2 0 0)], .rows 4 [(V.agg [(V.sl (List.map zF l)), (ovl 3 l16), (ovl 4 l10), (ovl 5 l11)])], obl 2 zC l16, obl 1 (fun l => V.fmap (List.map (fun p => zC p.1) l) (List.map (fun p => zI p.2) l)) l10, obl 1 V.i l11]) [(1, (V.sl (List.map zF l))), (2, (V.sl (List.map zR old))), (25, (V.ptr 2 0 0))] ?_ rfl (sr rfl)
  obtain ⟨y_1, hM, hy⟩ := ZN hM
  rw [hr_1 _ hy.symm] at hM
  exact X.gc [some 2, some 3, some 4, some 5] (hj_1 (l16, l10, l11) hM) rfl rfl rfl (ga rfl rfl) (Zs rfl rfl (jV (.cons ⟨9, rfl⟩ (.cons (zi rfl) (.cons (zi rfl) (.cons (zi rfl) .nil))))) (zk 9 rfl rfl (fun _ => rfl) (zk 9 rfl rfl (fun _ => rfl) (zk 9 rfl rfl (fun _ => rfl) zL))))
 intro hj_8
 refine GS.block ?_
 refine X.gc [some 1, some 2, some 3, some 5, none, none] (X.loop (σ := (Int × (List (List (zE × zD))) × (List Int))) (fun v => ⟨[(2, (V.ptr 1 0 0)), (5, (V.ptr 2 0 0)), (28, (V.sl (List.map zF l))), (29, (V.i (l.length : Int))), (30, (V.i v.1))], [.dead, .rows 6 [(zG h)], .rows 1 [(V.ptr 3 0 0)], .rows 4 [(V.agg [(V.sl (List.map zF l)), (ovl 4 l16), (ovl 5 v.2.1), (ovl 6 v.2.2)])], obl 2 zC l16, obl 1 (fun l => V.fmap (List.map (fun p => zC p.1) l) (List.map (fun p => zI p.2) l)) v.2.1, obl 1 V.i v.2.2], 0, none, 61⟩) hM ?_ rfl) rfl rfl rfl (ga rfl rfl) (zAm (gb9 rfl rfl rfl (gb9 rfl rfl rfl (Zs rfl rfl (jV (.cons ⟨9, rfl⟩ (.cons (zi rfl) (.cons ⟨9, rfl⟩ (.cons ⟨9, rfl⟩ .nil))))) (zk 9 rfl rfl (fun _ => rfl) (gb_pad' rfl (gb_pad' rfl zL)))))))
 rintro ⟨x6, l14, l15⟩ b_2 hM hc_9 hr_2
 rw [QE] at hM
 refine X.sq (X.q rfl (GS.zA (GS.seq ?_)))
 refine X.cond rfl (fun h_17 => ?_) (fun h_17 => ?_)
 ·replace hM := zZ h_17 hM
  refine GS.skip (GS.seq (GS.block (GS.seq ?_)))
  obtain ⟨x5, h_18, hM⟩ := zH hM
  refine GS.region ?_
  refine X.opR rfl (X.ZC (f := zF) h_18 (fun _ => rfl) rfl rfl rfl rfl) rfl ?_
  refine X.opR rfl (X.ZS h_18 rfl rfl rfl) rfl ?_
  refine X.opW (H' := [.dead, .rows 6 [(zG h)], .rows 1 [(V.ptr 3 0 0)], .rows 4 [(V.agg [(V.sl (List.map zF l)), (ovl 4 l16), (ovl 5 l14), (ovl 6 l15)])], obl 2 zC l16, obl 1 (fun l => V.fmap (List.map (fun p => zC p.1) l) (List.map (fun p => zI p.2) l)) l14, obl 1 V.i l15, .rows 5 [(V.agg [(V.i 0), (V.i 0), (V.i 0), (V.i 0), (V.i 0)])]]) rfl rfl rfl rfl ?_
  refine X.op0W (H' := [.dead, .rows 6 [(zG h)], .rows 1 [(V.ptr 3 0 0)], .rows 4 [(V.agg [(V.sl (List.map zF l)), (ovl 4 l16), (ovl 5 l14), (ovl 6 l15)])], obl 2 zC l16, obl 1 (fun l => V.fmap (List.map (fun p => zC p.1) l) (List.map (fun p => zI p.2) l)) l14, obl 1 V.i l15, .rows 5 [(zF x5)]]) rfl rfl rfl (GS.zA (GS.seq ?_))
  obtain ⟨y5, h_19, hM⟩ := zH hM
  refine GS.region (X.q rfl (X.q rfl ?_))
  refine X.call (zBw h_19) rfl rfl rfl (.cons (.shut (n := 9) rfl) (.cons (.shut (n := 9) rfl) .nil)) ?_
  iterate 5 refine X.q rfl ?_
  refine GS.zA ?_
  obtain ⟨l12, h_20, hM⟩ := zH hM
  obtain ⟨l13, h_21, hM⟩ := zH hM
  refine X.draw (by kernel_rfl) ?_
  iterate 8 refine X.dop rfl rfl rfl rfl (by kernel_rfl) rfl rfl ?_
  refine X.zHO (f := (fun l => V.fmap (List.map (fun p => zC p.1) l) (List.map (fun p => zI p.2) l))) h_20 (fun _ => rfl) (by rfl) (by rfl) (by rfl) (by rfl) (by rfl) (by rfl) (by rfl) (by rfl) (by rfl) (by rfl) (by rfl) (by exact rfl) (by rfl) (by rfl) (by kernel_rfl) (by rfl) (by rfl) ?_
  iterate 5 refine X.dop rfl rfl rfl rfl (by kernel_rfl) rfl rfl ?_
  refine X.zHO (f := V.i) h_21 (fun _ => rfl) (by rfl) (by rfl) (by rfl) (by rfl) (by rfl) (by rfl) (by rfl) (by rfl) (by rfl) (by rfl) (by rfl) (by exact rfl) (by rfl) (by rfl) (by kernel_rfl) (by rfl) (by rfl) ?_
  iterate 2 refine X.dop rfl rfl rfl rfl (by kernel_rfl) rfl rfl ?_
  refine X.dop0 rfl rfl rfl rfl (by kernel_rfl) rfl ?_
  iterate 2 refine X.dop rfl rfl rfl rfl (by kernel_rfl) rfl rfl ?_
  refine X.dop0 rfl rfl rfl rfl (by kernel_rfl) rfl ?_
  refine X.dnil ?_
  refine X.norm [(2, (V.ptr 1 0 0)), (5, (V.ptr 2 0 0)), (28, (V.sl (List.map zF l))), (29, (V.i (l.length : Int))), (30, (V.i x6))] ?_ rfl (sr rfl)
  refine GS.endB (GS.region ?_)
  refine X.opR rfl (X.addE rfl rfl) rfl (X.q rfl (GS.zA ?_))
  have hE := Option.some.inj hM
  exact X.gc [some 1, some 2, some 3, some 4, some 9, some 11] (hc_9 (w64 (x6 + 1), l12, l13) hE.symm) rfl rfl rfl (ga rfl rfl) (zAm (gb9 rfl rfl rfl (gb9 rfl rfl rfl (Zs rfl rfl (jV (.cons ⟨9, rfl⟩ (.cons (zi rfl) (.cons (qh (jH h_20) rfl) (.cons (qh (jH h_21) rfl) .nil))))) (zk 9 rfl rfl (fun _ => rfl) (gb_obl' 9 (jH h_20) rfl rfl (fun _ => rfl) (gb_obl' 9 (jH h_21) rfl rfl (fun _ => rfl) zL)))))))
 replace hM := za h_17 hM
 refine GS.exit rfl ?_
 obtain ⟨y_2, hM, hy⟩ := ZN hM
 rw [hr_2 _ hy.symm] at hM
 exact X.gc [some 2, some 3, some 4, some 5, some 6] (hj_8 (l14, l15) hM) rfl rfl rfl (ga rfl rfl) (zAm (gb9 rfl rfl rfl (Zs rfl rfl (jV (.cons ⟨9, rfl⟩ (.cons (zi rfl) (.cons (zi rfl) (.cons (zi rfl) .nil))))) (zk 9 rfl rfl (fun _ => rfl) (zk 9 rfl rfl (fun _ => rfl) (zk 9 rfl rfl (fun _ => rfl) zL))))))
theorem zCe {b : zJ} {r : Int} (hM : JJ b = some r) : Ct Tryz.prog 73 [(V.fptr [(zS b)] 0 0)] (V.i r) := by
 refine ze ZK rfl ?_
 unfold JJ at hM
 refine X.sq (X.q rfl (GS.zA (GS.seq ?_)))
 obtain ⟨y, h_1, hM⟩ := zH hM
 refine GS.region (X.q rfl ?_)
 refine X.call (Jw h_1) rfl rfl rfl (.cons (.shut (n := 9) rfl) (.cons (.nil (n := 9) rfl) .nil)) ?_
 iterate 5 refine X.q rfl ?_
 refine X.nq (X.q rfl (GS.zA (GS.seq (X.sq (X.q rfl ?_)))))
 refine X.opR rfl (X.lenF rfl rfl rfl) rfl (X.q rfl (GS.zA ?_))
 refine X.join (τ := Int) (fun v => JB v = some r) (fun v => ⟨[(5, (V.i v))], [], 0, none, 30⟩) ?_ ?_
 ·intro n hM
  replace hM : JB n = some r := hM
  unfold JB at hM
  refine X.sq (X.q rfl (X.q rfl ?_))
  refine GS.zA ?_
  cases hM
  exact GS.ret ⟨_, rfl, ⟨30, rfl⟩⟩
 intro hj_1
 refine GS.block ?_
 refine X.gc [] (X.loop (σ := (Int × Int)) (fun v => ⟨[(0, (V.fptr [(zS b)] 0 0)), (5, (V.i v.1)), (13, (V.sl (List.map V.i y.1))), (14, (V.i (y.1.length : Int))), (15, (V.i v.2))], [], 0, none, 30⟩) hM ?_ rfl) rfl rfl rfl (ga rfl rfl) (zL)
 rintro ⟨n2, x1⟩ b_1 hM hc_2 hr_1
 rw [Jz] at hM
 refine X.sq (X.q rfl (GS.zA (GS.seq ?_)))
 refine X.cond rfl (fun h_2 => ?_) (fun h_2 => ?_)
 ·replace hM := zZ h_2 hM
  refine GS.skip (GS.seq ?_)
  refine X.join (τ := Int) (fun v => jB x1 v = some b_1) (fun v => ⟨[(0, (V.fptr [(zS b)] 0 0)), (5, (V.i v)), (13, (V.sl (List.map V.i y.1))), (14, (V.i (y.1.length : Int))), (15, (V.i x1))], [], 0, none, 30⟩) ?_ ?_
  ·intro n1 hM
   replace hM : jB x1 n1 = some b_1 := hM
   unfold jB at hM
   refine GS.region ?_
   refine X.opR rfl (X.addE rfl rfl) rfl (X.q rfl (GS.zA ?_))
   have hE := Option.some.inj hM
   exact X.gc [] (hc_2 (n1, w64 (x1 + 1)) hE.symm) rfl rfl rfl (ga rfl rfl) (zL)
  intro hj_3
  refine GS.block (GS.seq ?_)
  obtain ⟨x, h_3, hM⟩ := zH hM
  refine GS.region ?_
  refine X.opR rfl (X.ZC (f := V.i) h_3 (fun _ => rfl) rfl rfl rfl rfl) rfl ?_
  refine X.opR rfl (X.ZS h_3 rfl rfl rfl) rfl (X.q rfl (X.nq ?_))
  iterate 5 refine X.q rfl ?_
  refine X.opR rfl (X.lenF rfl rfl rfl) rfl (X.q rfl (GS.zA ?_))
  refine X.cond rfl (fun h_4 => ?_) (fun h_4 => ?_)
  ·replace hM := zZ h_4 hM
   refine GS.region (X.q rfl ?_)
   refine X.opR rfl (X.addE rfl rfl) rfl (X.q rfl (GS.zA ?_))
   refine GS.endB ?_
   exact X.gc [] (hj_3 (w64 (n2 + 1)) hM) rfl rfl rfl (ga rfl rfl) (zL)
  replace hM := za h_4 hM
  refine GS.skip ?_
  refine GS.endB ?_
  exact X.gc [] (hj_3 n2 hM) rfl rfl rfl (ga rfl rfl) (zL)
 replace hM := za h_2 hM
 refine GS.exit rfl ?_
 obtain ⟨y_1, hM, hy⟩ := ZN hM
 rw [hr_1 _ hy.symm] at hM
 exact X.gc [] (hj_1 n2 hM) rfl rfl rfl (ga rfl rfl) (zL)
theorem zGg {h : zK} {l : (List zM)} {r : Int × Int} (hM : QM h l = some r) : Ct Tryz.prog 34 [(zG h), (V.sl (List.map zF l))] (V.tup [(V.i r.1), (V.i r.2)]) := by
 refine ze ZK rfl ?_
 unfold QM at hM
 refine X.sq ?_
 refine X.opW rfl rfl rfl rfl (X.q rfl (X.q rfl ?_))
 refine GS.zA ?_
 iterate 2 refine GS.seq ?_
 obtain ⟨y, h_1, hM⟩ := zH hM
 refine GS.region (X.q rfl (X.q rfl ?_))
 refine X.call (ja h_1) rfl rfl rfl (.cons (.shut (n := 9) rfl) (.cons (.shut (n := 9) rfl) .nil)) (X.q rfl (X.nq (X.q rfl (X.q rfl ?_))))
 refine GS.zA ?_
 refine X.cond rfl (fun h_2 => ?_) (fun h_2 => ?_)
 ·replace hM := zZ h_2 hM
  refine X.sq (X.q rfl (X.q rfl (X.q rfl ?_)))
  refine GS.zA ?_
  cases hM
  exact GS.ret ⟨_, rfl, ⟨30, rfl⟩⟩
 replace hM := za h_2 hM
 refine GS.skip (GS.seq ?_)
 obtain ⟨y1, h_3, hM⟩ := zH hM
 obtain ⟨y2, h_4, hM⟩ := zH hM
 refine GS.region (X.q rfl (X.q rfl ?_))
 refine X.call (qE h_3) rfl rfl rfl (.cons (.shut (n := 9) rfl) (.cons (.shut (n := 9) rfl) .nil)) ?_
 refine X.call (zCe h_4) rfl rfl rfl (.cons (.shut (n := 9) rfl) .nil) (X.q rfl (X.q rfl ?_))
 refine GS.zA ?_
 cases hM
 exact GS.ret ⟨_, rfl, ⟨30, rfl⟩⟩
set_option maxHeartbeats 4000000 in
theorem jh {h : zK} {l : (List zM)} {p : (List zO)} {r : Int} (hM : yg h l p = some r) : Ct Tryz.prog 35 [(zG h), (V.sl (List.map zF l)), (V.sl (List.map zR p))] (V.i r) := by
 refine ze ZK rfl ?_
 unfold yg at hM
 refine X.sq ?_
 refine X.opW rfl rfl rfl rfl (X.q rfl (GS.zA ?_))
 iterate 2 refine GS.seq ?_
 obtain ⟨y, h_1, hM⟩ := zH hM
 refine GS.region (X.q rfl (X.q rfl ?_))
 refine X.call (ja h_1) rfl rfl rfl (.cons (.shut (n := 9) rfl) (.cons (.shut (n := 9) rfl) .nil)) (X.q rfl (X.nq (X.q rfl (X.q rfl ?_))))
 refine GS.zA ?_
 refine X.cond rfl (fun h_2 => ?_) (fun h_2 => ?_)
 ·replace hM := zZ h_2 hM
  refine X.sq (X.q rfl (X.q rfl ?_))
  refine GS.zA ?_
  cases hM
  exact GS.ret ⟨_, rfl, ⟨30, rfl⟩⟩
 replace hM := za h_2 hM
 refine GS.skip (X.sq (X.q rfl (X.nq ?_)))
 refine X.opW rfl rfl rfl rfl (X.q rfl (GS.zA (GS.seq (X.sq (X.q rfl ?_)))))
 refine X.opR rfl (X.lenF rfl rfl rfl) rfl (X.q rfl (GS.zA ?_))
 refine X.join (τ := Unit) (fun v => JW = some r) (fun v => ⟨[], [], 0, none, 79⟩) ?_ ?_
 ·intro _ hM
  replace hM : JW = some r := hM
  unfold JW at hM
  refine X.sq (X.q rfl (GS.zA ?_))
  cases hM
  exact GS.ret ⟨_, rfl, ⟨30, rfl⟩⟩
 intro hj_1
 refine GS.block ?_
 refine X.gc [some 0, some 1] (X.loop (σ := (Int × Int × (List (zE × Bool)))) (fun v => ⟨[(1, (V.sl (List.map zF l))), (3, (V.ptr 0 0 0)), (8, (V.i v.1)), (9, (V.map 1)), (24, (V.sl (List.map zR p))), (25, (V.i (p.length : Int))), (26, (V.i v.2.1))], [.rows 6 [(zG h)], .map (List.map (fun p : zE × Bool => zC p.1) v.2.2) (List.map (fun p : zE × Bool => V.b p.2) v.2.2)], 0, none, 79⟩) hM ?_ rfl) rfl rfl rfl (ga rfl rfl) (gb9 rfl rfl rfl (X.ZQ 9 rfl rfl (fun _ => rfl) (fun _ => rfl) zL))
 rintro ⟨last, x2, m⟩ b_1 hM hc_2 hr_1
 rw [JX] at hM
 refine X.sq (X.q rfl (GS.zA (GS.seq ?_)))
 refine X.cond rfl (fun h_3 => ?_) (fun h_3 => ?_)
 ·replace hM := zZ h_3 hM
  refine GS.skip (GS.seq (GS.block (GS.seq ?_)))
  obtain ⟨x, h_4, hM⟩ := zH hM
  refine GS.region ?_
  refine X.opR rfl (X.ZC (f := zR) h_4 (fun _ => rfl) rfl rfl rfl rfl) rfl ?_
  refine X.opR rfl (X.ZS h_4 rfl rfl rfl) rfl ?_
  refine X.opW rfl rfl rfl rfl ?_
  refine X.op0W rfl rfl rfl (GS.zA (GS.seq ?_))
  obtain ⟨y1, h_5, hM⟩ := zH hM
  refine GS.region (X.q rfl (X.q rfl (X.q rfl ?_)))
  refine X.call (Zn h_5) rfl rfl rfl (.cons (.shut (n := 9) rfl) (.cons (.shut (n := 9) rfl) (.cons (.shut (n := 9) rfl) .nil))) (X.q rfl (GS.zA (GS.seq ?_)))
  obtain ⟨y2, h_6, hM⟩ := zH hM
  refine GS.region (X.q rfl (X.q rfl (X.q rfl ?_)))
  refine X.call (zAh h_6) rfl rfl rfl (.cons (.shut (n := 9) rfl) (.cons (.shut (n := 9) rfl) .nil)) (X.q rfl (X.q rfl (X.q rfl ?_)))
  refine X.opW (H' := [.rows 6 [(zG h)], .map (List.map (fun p : zE × Bool => zC p.1) m) (List.map (fun p : zE × Bool => V.b p.2) m), .rows 5 [(zR x)], .rows 2 [(V.agg [(V.i 0), (V.i 0)])]]) rfl rfl rfl rfl ?_
  refine X.op0W (H' := [.rows 6 [(zG h)], .map (List.map (fun p : zE × Bool => zC p.1) m) (List.map (fun p : zE × Bool => V.b p.2) m), .rows 5 [(zR x)], .rows 2 [(zT y2.1)]]) rfl rfl rfl (X.q rfl (GS.zA (GS.seq (X.sq ?_))))
  refine X.mid [(1, (V.sl (List.map zF l))), (3, (V.ptr 0 0 0)), (9, (V.map 1)), (11, (V.ptr 2 0 0)), (12, (V.i y1)), (13, (V.ptr 3 0 0)), (24, (V.sl (List.map zR p))), (25, (V.i (p.length : Int))), (26, (V.i x2)), (53, (V.b (((decide (y1 ≤ last)) || (!y2.2)) || ((ZA x.Slot m).getD false))))] ?_ ?_
  ·intro hg
   refine X.split (decide (y1 ≤ last)) (fun h_7 => ?_) (fun h_7 => ?_)
   ·iterate 4 refine X.q rfl ?_
    iterate 2 refine X.off (X.ZL rfl rfl rfl h_7) rfl ?_
    refine X.opR rfl (X.zd (y := !y2.2) rfl h_7 rfl) rfl (X.q rfl ?_)
    iterate 4 refine X.off (X.ZL rfl rfl rfl (X.zU h_7)) rfl ?_
    refine X.opR rfl (X.zd (y := ((ZA x.Slot m).getD false)) rfl (X.zU h_7) rfl) rfl (GS.zA ?_)
    exact X.norm _ hg rfl (sr rfl)
   refine X.split (((decide (y1 ≤ last)) || (!y2.2))) (fun h_8 => ?_) (fun h_8 => ?_)
   ·iterate 4 refine X.q rfl ?_
    iterate 2 refine X.opR (X.on_f rfl rfl rfl h_7) rfl rfl ?_
    refine X.opR rfl (X.zb (y := !y2.2) rfl h_7 rfl) rfl (X.q rfl ?_)
    iterate 4 refine X.off (X.ZL rfl rfl rfl h_8) rfl ?_
    refine X.opR rfl (X.zd (y := ((ZA x.Slot m).getD false)) rfl h_8 rfl) rfl (GS.zA ?_)
    exact X.norm _ hg rfl (sr rfl)
   iterate 4 refine X.q rfl ?_
   iterate 2 refine X.opR (X.on_f rfl rfl rfl h_7) rfl rfl ?_
   refine X.opR rfl (X.zb (y := !y2.2) rfl h_7 rfl) rfl (X.q rfl ?_)
   iterate 3 refine X.opR (X.on_f rfl rfl rfl h_8) rfl rfl ?_
   refine X.opR (X.on_f rfl rfl rfl h_8) (X.zKH (f := zC) (g := V.b) (k := x.Slot) (l := m) (z := false) (ok := false) Ji rfl rfl rfl rfl rfl rfl) rfl ?_
   refine X.opR rfl (X.zb (y := ((ZA x.Slot m).getD false)) rfl h_8 rfl) rfl (GS.zA ?_)
   exact X.norm _ hg rfl (sr rfl)
  refine X.cond rfl (fun h_9 => ?_) (fun h_9 => ?_)
  ·replace hM := zZ h_9 hM
   refine X.sq (X.q rfl (GS.zA ?_))
   have hE := Option.some.inj hM
   replace hE := hr_1 _ hE.symm
   subst hE
   exact GS.ret ⟨_, rfl, ⟨30, rfl⟩⟩
  replace hM := za h_9 hM
  refine GS.skip ?_
  iterate 2 refine GS.seq ?_
  obtain ⟨x1, h_10, hM⟩ := zH hM
  obtain ⟨y3, h_11, hM⟩ := zH hM
  refine X.draw (by kernel_rfl) ?_
  iterate 3 refine X.dop rfl rfl rfl rfl (by kernel_rfl) rfl rfl ?_
  refine X.dop rfl (X.ZC (f := zF) h_10 (fun _ => rfl) rfl rfl rfl rfl) rfl rfl (by kernel_rfl) rfl rfl ?_
  refine X.dop rfl (X.ZS h_10 rfl rfl rfl) rfl rfl (by kernel_rfl) rfl rfl ?_
  iterate 3 refine X.dop rfl rfl rfl rfl (by kernel_rfl) rfl rfl ?_
  refine X.dcall (qD h_11) rfl rfl rfl (by kernel_rfl) rfl (.cons (.shut (n := 9) rfl) (.cons (.shut (n := 9) rfl) (.cons (.shut (n := 9) rfl) (.cons (.shut (n := 9) rfl) .nil)))) ?_
  iterate 4 refine X.dop rfl rfl rfl rfl (by kernel_rfl) rfl rfl ?_
  refine X.dop0 rfl rfl rfl rfl (by kernel_rfl) rfl ?_
  refine X.dop rfl rfl rfl rfl (by kernel_rfl) rfl rfl ?_
  refine X.dnil ?_
  refine X.norm [(1, (V.sl (List.map zF l))), (3, (V.ptr 0 0 0)), (9, (V.map 1)), (11, (V.ptr 2 0 0)), (12, (V.i y1)), (15, (V.ptr 4 0 0)), (16, (V.b y3.2)), (24, (V.sl (List.map zR p))), (25, (V.i (p.length : Int))), (26, (V.i x2))] ?_ rfl (sr rfl)
  refine X.sq ?_
  refine X.mid [(1, (V.sl (List.map zF l))), (3, (V.ptr 0 0 0)), (9, (V.map 1)), (11, (V.ptr 2 0 0)), (12, (V.i y1)), (24, (V.sl (List.map zR p))), (25, (V.i (p.length : Int))), (26, (V.i x2)), (73, (V.b ((!y3.2) || (!decide (y3.1 = x.Span)))))] ?_ ?_
  ·intro hg
   refine X.split (!y3.2) (fun h_12 => ?_) (fun h_12 => ?_)
   ·iterate 3 refine X.q rfl ?_
    iterate 4 refine X.off (X.ZL rfl rfl rfl h_12) rfl ?_
    refine X.opR rfl (X.zd (y := !decide (y3.1 = x.Span)) rfl h_12 rfl) rfl (GS.zA ?_)
    exact X.norm _ hg rfl (sr rfl)
   iterate 3 refine X.q rfl ?_
   iterate 3 refine X.opR (X.on_f rfl rfl rfl h_12) rfl rfl ?_
   refine X.opR (X.on_f rfl rfl rfl h_12) (X.neqE (zCG y3.1 x.Span) rfl rfl) rfl ?_
   refine X.opR rfl (X.zb (y := !decide (y3.1 = x.Span)) rfl h_12 rfl) rfl (GS.zA ?_)
   exact X.norm _ hg rfl (sr rfl)
  refine X.cond rfl (fun h_13 => ?_) (fun h_13 => ?_)
  ·replace hM := zZ h_13 hM
   refine X.sq (X.q rfl (GS.zA ?_))
   have hE := Option.some.inj hM
   replace hE := hr_1 _ hE.symm
   subst hE
   exact GS.ret ⟨_, rfl, ⟨30, rfl⟩⟩
  replace hM := za h_13 hM
  refine GS.skip (X.sq (X.q rfl (X.q rfl ?_)))
  refine X.mq (X.q rfl (X.q rfl (X.q rfl ?_)))
  refine X.op0W (H' := [.rows 6 [(zG h)], .map (List.map (fun p : zE × Bool => zC p.1) (putM posE m x.Slot true)) (List.map (fun p : zE × Bool => V.b p.2) (putM posE m x.Slot true)), .rows 5 [(zR x)], .rows 2 [(zT y2.1)], .rows 2 [(zI y3.1)]]) rfl (X.putW (f := zC) (g := V.b) (pos := posE) (k := x.Slot) (v := true) (l := m) Ji (fun l => (X.zHD _ _).trans (List.length_map ..)) rfl rfl rfl rfl rfl rfl rfl) rfl (GS.zA ?_)
  refine GS.endB (GS.region ?_)
  refine X.opR rfl (X.addE rfl rfl) rfl (X.q rfl (GS.zA ?_))
  have hE := Option.some.inj hM
  exact X.gc [some 0, some 1] (hc_2 (y1, w64 (x2 + 1), (putM posE m x.Slot true)) hE.symm) rfl rfl rfl (ga rfl rfl) (gb9 rfl rfl rfl (X.ZQ 9 rfl rfl (fun _ => rfl) (fun _ => rfl) zL))
 replace hM := za h_3 hM
 refine GS.exit rfl ?_
 obtain ⟨y_1, hM, hy⟩ := ZN hM
 rw [hr_1 _ hy.symm] at hM
 exact X.gc [] (hj_1 () hM) rfl rfl rfl (Jq) (zL)
theorem QI {a : (List zO)} {b : (List zO)} {r : Bool} (hM : Ja a b = some r) : Ct Tryz.prog 36 [(V.sl (List.map zR a)), (V.sl (List.map zR b))] (V.b r) := by
 refine ze ZK rfl ?_
 unfold Ja at hM
 refine X.sq (X.q rfl (GS.zA (GS.seq (X.sq (X.q rfl ?_)))))
 refine X.opR rfl (X.lenF rfl rfl rfl) rfl (X.q rfl ?_)
 refine X.opR rfl (X.lenF rfl rfl rfl) rfl (X.q rfl (GS.zA ?_))
 refine X.cond rfl (fun h_1 => ?_) (fun h_1 => ?_)
 ·replace hM := zZ h_1 hM
  refine X.sq (X.q rfl (GS.zA ?_))
  cases hM
  exact GS.ret ⟨_, rfl, ⟨30, rfl⟩⟩
 replace hM := za h_1 hM
 refine GS.skip (GS.seq (X.sq (X.q rfl (GS.zA ?_))))
 refine X.join (τ := Unit) (fun v => yL = some r) (fun v => ⟨[], [], 0, none, 26⟩) ?_ ?_
 ·intro _ hM
  replace hM : yL = some r := hM
  unfold yL at hM
  refine X.sq (X.q rfl (GS.zA ?_))
  cases hM
  exact GS.ret ⟨_, rfl, ⟨30, rfl⟩⟩
 intro hj_1
 refine GS.block ?_
 refine X.gc [] (X.loop (σ := Int) (fun v => ⟨[(0, (V.sl (List.map zR a))), (1, (V.sl (List.map zR b))), (5, (V.i v))], [], 0, none, 26⟩) hM ?_ rfl) rfl rfl rfl (ga rfl rfl) (zL)
 intro i b_1 hM hc_2 hr_1
 rw [yM] at hM
 refine GS.seq (X.sq (X.q rfl (X.q rfl ?_)))
 refine X.opR rfl (X.lenF rfl rfl rfl) rfl (X.q rfl (GS.zA ?_))
 refine X.cond rfl (fun h_2 => ?_) (fun h_2 => ?_)
 ·replace hM := zZ h_2 hM
  refine GS.skip (GS.seq (GS.block (GS.seq ?_)))
  obtain ⟨x, h_3, hM⟩ := zH hM
  obtain ⟨x1, h_4, hM⟩ := zH hM
  refine X.drawc (by kernel_rfl) rfl ?_
  iterate 2 refine X.cop rfl rfl rfl rfl ?_
  refine X.cop rfl (X.ZC (f := zR) h_3 (fun _ => rfl) rfl rfl rfl rfl) rfl rfl ?_
  refine X.cop rfl (X.ZS h_3 rfl rfl rfl) rfl rfl ?_
  iterate 2 refine X.cop rfl rfl rfl rfl ?_
  refine X.cop rfl (X.ZC (f := zR) h_4 (fun _ => rfl) rfl rfl rfl rfl) rfl rfl ?_
  refine X.cop rfl (X.ZS h_4 rfl rfl rfl) rfl rfl ?_
  refine X.cop rfl (X.neqE (QU x x1) rfl rfl) rfl rfl ?_
  refine X.cnil ?_
  refine X.norm [(0, (V.sl (List.map zR a))), (1, (V.sl (List.map zR b))), (5, (V.i i)), (25, (V.b (!decide (x = x1))))] ?_ rfl (sr rfl)
  refine X.cond rfl (fun h_5 => ?_) (fun h_5 => ?_)
  ·replace hM := zZ h_5 hM
   refine X.sq (X.q rfl (GS.zA ?_))
   have hE := Option.some.inj hM
   replace hE := hr_1 _ hE.symm
   subst hE
   exact GS.ret ⟨_, rfl, ⟨30, rfl⟩⟩
  replace hM := za h_5 hM
  refine GS.skip ?_
  refine GS.endB (GS.region (X.q rfl ?_))
  refine X.opR rfl (X.addE rfl rfl) rfl (X.q rfl (GS.zA ?_))
  have hE := Option.some.inj hM
  exact X.gc [] (hc_2 (w64 (i + 1)) hE.symm) rfl rfl rfl (ga rfl rfl) (zL)
 replace hM := za h_2 hM
 refine GS.exit rfl ?_
 obtain ⟨y_1, hM, hy⟩ := ZN hM
 rw [hr_1 _ hy.symm] at hM
 exact X.gc [] (hj_1 () hM) rfl rfl rfl (Jq) (zL)
set_option maxHeartbeats 4000000 in
theorem zEM {old : (List zO)} {now : (List zO)} {r : (List Int)} (hM : Y8 old now = some r) : Ct Tryz.prog 80 [(V.sl (List.map zR old)), (V.sl (List.map zR now))] (V.sl (List.map V.i r)) := by
 refine ze ZK rfl ?_
 unfold Y8 at hM
 refine X.sq (X.q rfl (X.nq (X.q rfl (GS.zA (GS.seq (X.sq (X.q rfl ?_)))))))
 refine X.opR rfl (X.lenF rfl rfl rfl) rfl (X.q rfl (GS.zA ?_))
 refine X.join (τ := (List Int)) (fun v => JP v = some r) (fun v => ⟨[(5, (ovl 0 v))], [obl 1 V.i v], 0, none, 51⟩) ?_ ?_
 ·intro l hM
  replace hM : JP l = some r := hM
  unfold JP at hM
  refine GS.seq ?_
  obtain ⟨l1, h_1, hM⟩ := zH hM
  refine GS.region (X.q rfl ?_)
  refine X.norm [(5, (ovl 0 l)), (47, (ovl 0 l))] ?_ rfl (sr rfl)
  refine X.zFD (z := true) h_1 zLI zIP (fun _ _ _ h => h) (K' := [(5, (ovl 0 l1)), (47, (ovl 0 l1))]) (H' := [obl 1 V.i l1]) rfl rfl rfl rfl rfl rfl ?_ ?_ ?_
  ·first | rfl | rw [X.zAz (qO h_1)] | simp only [ovl, X.zAz (qO h_1)] | simp only [qO h_1]
  ·first | rfl | (simp only [hput]; rfl) | (simp only [ovl, obl]; rw [X.zAz (qO h_1)] <;> rfl)
  refine X.nq (X.q rfl ?_)
  refine X.joinO (τ := (List Int)) (fun v => jo v = some r) (fun v => ⟨[(50, (V.sl (List.map V.i v)))], [], 0, none, 51⟩) ?_ ?_
  ·intro x hM
   replace hM : jo x = some r := hM
   unfold jo at hM
   refine X.q rfl (GS.zA ?_)
   cases hM
   exact GS.ret ⟨_, rfl, ⟨30, rfl⟩⟩
  intro hj_2
  refine X.inl rfl rfl rfl rfl (X.sq (X.q rfl (GS.zA (GS.seq (X.sq (X.q rfl ?_))))))
  refine X.opR rfl (X.lenN (l := l1) rfl rfl rfl) rfl (X.q rfl (GS.zA ?_))
  refine X.cond rfl (fun h_2 => ?_) (fun h_2 => ?_)
  ·replace hM := zZ h_2 hM
   refine X.sq (X.q rfl (X.q rfl ?_))
   refine GS.zA ?_
   refine GS.ret ⟨_, rfl, ?_⟩
   refine X.norm (H' := [obl 1 V.i l1]) [(50, (ovl 0 l1))] ?_ rfl (sr rfl)
   refine X.zCB (z := true) (f := V.i) (l := l1) (es := 1) 50 rfl rfl rfl rfl (fun _ => rfl) ?_
   exact X.gc [] (hj_2 l1 hM) rfl rfl rfl (ga rfl rfl) (zL)
  replace hM := za h_2 hM
  refine GS.skip (GS.seq (X.sq (X.q rfl (GS.zA ?_))))
  refine X.join (τ := Unit) (fun v => Yl l1 = some r) (fun v => ⟨[(0, (ovl 0 l1))], [obl 1 V.i l1], 0, none, 61⟩) ?_ ?_
  ·intro _ hM
   replace hM : Yl l1 = some r := hM
   unfold Yl at hM
   refine X.sq (X.q rfl (X.q rfl ?_))
   refine GS.zA ?_
   refine GS.ret ⟨_, rfl, ?_⟩
   refine X.norm (H' := [obl 1 V.i l1]) [(50, (ovl 0 l1))] ?_ rfl (sr rfl)
   refine X.zCB (z := true) (f := V.i) (l := l1) (es := 1) 50 rfl rfl rfl rfl (fun _ => rfl) ?_
   exact X.gc [] (hj_2 l1 hM) rfl rfl rfl (ga rfl rfl) (zL)
  intro hj_3
  refine GS.block ?_
  refine X.gc [] (X.loop (σ := Int) (fun v => ⟨[(0, (ovl 0 l1)), (3, (V.i v))], [obl 1 V.i l1], 0, none, 61⟩) hM ?_ rfl) rfl rfl rfl (zN rfl (zi rfl) (ga rfl rfl)) (zk 9 rfl rfl (fun _ => rfl) zL)
  intro k3 b_1 hM hc_4 hr_1
  rw [Yo] at hM
  refine GS.seq (X.sq (X.q rfl (X.q rfl ?_)))
  refine X.opR rfl (X.lenN (l := l1) rfl rfl rfl) rfl (X.q rfl (GS.zA ?_))
  refine X.cond rfl (fun h_3 => ?_) (fun h_3 => ?_)
  ·replace hM := zZ h_3 hM
   refine GS.skip (GS.seq (GS.block (GS.seq ?_)))
   obtain ⟨x1, h_4, hM⟩ := zH hM
   obtain ⟨x2, h_5, hM⟩ := zH hM
   refine X.drawc (by kernel_rfl) rfl ?_
   iterate 2 refine X.cop rfl rfl rfl rfl ?_
   refine X.cop rfl (X.zBL h_4 rfl rfl rfl rfl rfl) rfl rfl ?_
   refine X.cop rfl (X.zF2 h_4 rfl rfl rfl rfl) rfl rfl ?_
   iterate 2 refine X.cop rfl rfl rfl rfl ?_
   refine X.cop rfl (X.subE rfl rfl) rfl rfl ?_
   refine X.cop rfl (X.zBL h_5 rfl rfl rfl rfl rfl) rfl rfl ?_
   refine X.cop rfl (X.zF2 h_5 rfl rfl rfl rfl) rfl rfl ?_
   refine X.cop rfl rfl rfl rfl ?_
   refine X.cnil ?_
   refine X.norm [(0, (ovl 0 l1)), (3, (V.i k3)), (25, (V.b (decide (x1 = x2))))] ?_ rfl (sr rfl)
   refine X.cond rfl (fun h_6 => ?_) (fun h_6 => ?_)
   ·replace hM := zZ h_6 hM
    refine GS.seq ?_
    obtain ⟨a, h_7, hM⟩ := zH hM
    refine GS.region (X.q rfl (X.q rfl ?_))
    refine X.opR rfl (X.sliceQN (f := V.i) (l := l1) h_7 rfl rfl rfl rfl rfl rfl (X.zBS rfl)) rfl (X.q rfl (GS.zA (GS.seq (X.sq (X.q rfl (GS.zA ?_))))))
    refine X.join (τ := Int × (List Int)) (fun v => yC v.1 v.2 = some b_1) (fun v => ⟨[(0, (ovl 0 v.2)), (3, (V.i v.1))], [obl 1 V.i v.2], 0, none, 61⟩) ?_ ?_
    ·rintro ⟨k, l2⟩ hM
     replace hM : yC k l2 = some b_1 := hM
     unfold yC at hM
     refine GS.seq ?_
     obtain ⟨l3, h_8, hM⟩ := zH hM
     obtain ⟨l4, h_9, hM⟩ := zH hM
     refine GS.region (X.q rfl (X.q rfl ?_))
     refine X.opR rfl (X.zLL (z := true) (f := V.i) (l := l2) h_8 rfl rfl rfl rfl rfl rfl (X.zBS rfl) rfl) rfl ?_
     refine X.clearU (f := V.i) (l := l2) (l' := l4) (H' := [obl 1 V.i l4]) 0 h_9 h_8 rfl rfl rfl rfl rfl rfl rfl rfl rfl rfl rfl (GS.zA (GS.seq ?_))
     obtain ⟨l5, h_10, hM⟩ := zH hM
     refine GS.region (X.q rfl (X.q rfl ?_))
     refine X.opR rfl (X.zLL (z := true) (f := V.i) (l := l4) h_10 rfl rfl rfl rfl rfl rfl rfl (X.zBS rfl)) rfl (X.q rfl (GS.zA ?_))
     refine GS.ret ⟨_, rfl, ?_⟩
     refine X.norm (H' := [obl 1 V.i l4]) [(50, (ovs true 0 l4 l5 0))] ?_ rfl (sr rfl)
     refine X.zKz (z := true) (f := V.i) (l := l4) (r := l5) 50 h_10 rfl rfl rfl rfl (fun _ => rfl) ?_
     obtain ⟨y_1, hM, hy⟩ := ZN hM
     rw [hr_1 _ hy.symm] at hM
     exact X.gc [] (hj_2 l5 hM) rfl rfl rfl (ga rfl rfl) (zL)
    intro hj_5
    refine GS.block ?_
    refine X.gc [] (X.loop (σ := (Int × Int × (List Int))) (fun v => ⟨[(0, (ovl 0 v.2.2)), (3, (V.i v.1)), (4, (oqv 0 v.2.2 a)), (5, (V.i v.2.1))], [obl 1 V.i v.2.2], 0, none, 61⟩) hM ?_ rfl) rfl rfl rfl (zN rfl (zi rfl) (ga rfl rfl)) (zk 9 rfl rfl (fun _ => rfl) zL)
    rintro ⟨k2, k21, l7⟩ b_2 hM hc_6 hr_2
    rw [Yn] at hM
    refine GS.seq (X.sq (X.q rfl (X.q rfl ?_)))
    refine X.opR rfl (X.lenQ rfl rfl rfl) rfl (X.q rfl (GS.zA ?_))
    refine X.cond rfl (fun h_11 => ?_) (fun h_11 => ?_)
    ·replace hM := zZ h_11 hM
     refine GS.skip (GS.seq ?_)
     refine X.join (τ := Int × (List Int)) (fun v => JN k21 v.1 v.2 = some b_2) (fun v => ⟨[(0, (ovl 0 v.2)), (3, (V.i v.1)), (4, (oqv 0 v.2 a)), (5, (V.i k21))], [obl 1 V.i v.2], 0, none, 61⟩) ?_ ?_
     ·rintro ⟨k1, l6⟩ hM
      replace hM : JN k21 k1 l6 = some b_2 := hM
      unfold JN at hM
      refine GS.region (X.q rfl ?_)
      refine X.opR rfl (X.addE rfl rfl) rfl (X.q rfl (GS.zA ?_))
      have hE := Option.some.inj hM
      exact X.gc [] (hc_6 (k1, w64 (k21 + 1), l6) hE.symm) rfl rfl rfl (zN rfl (zi rfl) (ga rfl rfl)) (zk 9 rfl rfl (fun _ => rfl) zL)
     intro hj_7
     refine GS.block (GS.seq ?_)
     obtain ⟨x3, h_12, hM⟩ := zH hM
     obtain ⟨x4, h_13, hM⟩ := zH hM
     refine X.drawc (by kernel_rfl) rfl ?_
     iterate 2 refine X.cop rfl rfl rfl rfl ?_
     refine X.cop rfl (X.zH0 (f := V.i) h_12 rfl rfl rfl rfl rfl) rfl rfl ?_
     refine X.cop rfl (X.zF2 (X.zHy h_12) rfl rfl rfl rfl) rfl rfl ?_
     iterate 2 refine X.cop rfl rfl rfl rfl ?_
     refine X.cop rfl (X.subE rfl rfl) rfl rfl ?_
     refine X.cop rfl (X.zH0 (f := V.i) h_13 rfl rfl rfl rfl rfl) rfl rfl ?_
     refine X.cop rfl (X.zF2 (X.zHy h_13) rfl rfl rfl rfl) rfl rfl ?_
     refine X.cop rfl rfl rfl rfl ?_
     refine X.cnil ?_
     refine X.norm [(0, (ovl 0 l7)), (3, (V.i k2)), (4, (oqv 0 l7 a)), (5, (V.i k21)), (44, (V.b (!decide (x3 = x4))))] ?_ rfl (sr rfl)
     refine X.cond rfl (fun h_14 => ?_) (fun h_14 => ?_)
     ·replace hM := zZ h_14 hM
      refine GS.seq ?_
      obtain ⟨x5, h_15, hM⟩ := zH hM
      obtain ⟨x6, h_16, hM⟩ := zH hM
      refine GS.region ?_
      iterate 4 refine X.q rfl ?_
      refine X.opR rfl (X.zH0 (f := V.i) h_15 rfl rfl rfl rfl rfl) rfl ?_
      refine X.opR rfl (X.zF2 (X.zHy h_15) rfl rfl rfl rfl) rfl ?_
      refine X.opR rfl (X.zBL h_16 rfl rfl rfl rfl rfl) rfl ?_
      refine X.op0W rfl (X.zAc (b := x5) h_16 rfl rfl rfl rfl rfl rfl rfl) rfl (X.mq (X.q rfl ?_))
      refine X.opR rfl (X.addE rfl rfl) rfl (X.q rfl (GS.zA ?_))
      refine GS.endB ?_
      exact X.gc [] (hj_7 (w64 (k2 + 1), (put l7 k2 x5)) hM) rfl rfl rfl (zN rfl (Yq X.zDU (zi rfl)) (zN rfl ⟨9, rfl⟩ (zN rfl (Yq X.oqv_put ⟨9, rfl⟩) (ga rfl rfl)))) (zk 9 rfl rfl (fun _ => rfl) zL)
     replace hM := za h_14 hM
     refine GS.skip ?_
     refine GS.endB ?_
     exact X.gc [] (hj_7 (k2, l7) hM) rfl rfl rfl (zN rfl (zi rfl) (ga rfl rfl)) (zk 9 rfl rfl (fun _ => rfl) zL)
    replace hM := za h_11 hM
    refine GS.exit rfl ?_
    obtain ⟨y_2, hM, hy⟩ := ZN hM
    rw [hr_2 _ hy.symm] at hM
    exact X.gc [] (hj_5 (k2, l7) hM) rfl rfl rfl (zN rfl (zi rfl) (ga rfl rfl)) (zk 9 rfl rfl (fun _ => rfl) zL)
   replace hM := za h_6 hM
   refine GS.skip ?_
   refine GS.endB (GS.region (X.q rfl ?_))
   refine X.opR rfl (X.addE rfl rfl) rfl (X.q rfl (GS.zA ?_))
   have hE := Option.some.inj hM
   exact X.gc [] (hc_4 (w64 (k3 + 1)) hE.symm) rfl rfl rfl (zN rfl (zi rfl) (ga rfl rfl)) (zk 9 rfl rfl (fun _ => rfl) zL)
  replace hM := za h_3 hM
  refine GS.exit rfl ?_
  obtain ⟨y_1, hM, hy⟩ := ZN hM
  rw [hr_1 _ hy.symm] at hM
  exact X.gc [] (hj_3 () hM) rfl rfl rfl (zN rfl (zi rfl) Jq) (zk 9 rfl rfl (fun _ => rfl) zL)
 intro hj_1
 refine GS.block ?_
 refine X.gc [none] (X.loop (σ := (Int × (List Int))) (fun v => ⟨[(0, (V.sl (List.map zR old))), (1, (V.sl (List.map zR now))), (5, (ovl 0 v.2)), (12, (V.sl (List.map zR old))), (13, (V.i (old.length : Int))), (14, (V.i v.1))], [obl 1 V.i v.2], 0, none, 51⟩) hM ?_ rfl) rfl rfl rfl (ga rfl rfl) (gb_pad' rfl zL)
 rintro ⟨x8, l10⟩ b_1 hM hc_8 hr_1
 rw [Ym] at hM
 refine X.sq (X.q rfl (GS.zA (GS.seq ?_)))
 refine X.cond rfl (fun h_17 => ?_) (fun h_17 => ?_)
 ·replace hM := zZ h_17 hM
  refine GS.skip (GS.seq ?_)
  refine X.join (τ := (List Int)) (fun v => JM x8 v = some b_1) (fun v => ⟨[(0, (V.sl (List.map zR old))), (1, (V.sl (List.map zR now))), (5, (ovl 0 v)), (12, (V.sl (List.map zR old))), (13, (V.i (old.length : Int))), (14, (V.i x8))], [obl 1 V.i v], 0, none, 51⟩) ?_ ?_
  ·intro l8 hM
   replace hM : JM x8 l8 = some b_1 := hM
   unfold JM at hM
   refine GS.region ?_
   refine X.opR rfl (X.addE rfl rfl) rfl (X.q rfl (GS.zA ?_))
   have hE := Option.some.inj hM
   exact X.gc [some 0] (hc_8 (w64 (x8 + 1), l8) hE.symm) rfl rfl rfl (zN rfl ⟨9, rfl⟩ (zN rfl ⟨9, rfl⟩ (zN rfl (zi rfl) (ga rfl rfl)))) (zk 9 rfl rfl (fun _ => rfl) zL)
  intro hj_9
  refine GS.block (GS.seq ?_)
  obtain ⟨x7, h_18, hM⟩ := zH hM
  refine GS.region ?_
  refine X.opR rfl (X.ZC (f := zR) h_18 (fun _ => rfl) rfl rfl rfl rfl) rfl ?_
  refine X.opR rfl (X.ZS h_18 rfl rfl rfl) rfl ?_
  refine X.opW rfl rfl rfl rfl ?_
  refine X.op0W rfl rfl rfl (GS.zA (GS.seq ?_))
  obtain ⟨y, h_19, hM⟩ := zH hM
  refine GS.region (X.q rfl (X.q rfl (X.q rfl ?_)))
  refine X.call (zAg h_19) rfl rfl rfl (.cons (.shut (n := 9) rfl) (.cons (.shut (n := 9) rfl) .nil)) (X.q rfl (X.q rfl (X.q rfl ?_)))
  refine X.opW rfl rfl rfl rfl ?_
  refine X.op0W rfl rfl rfl (X.q rfl (GS.zA (GS.seq ?_)))
  obtain ⟨y1, h_20, hM⟩ := zH hM
  refine GS.region (X.q rfl (X.q rfl (X.q rfl ?_)))
  refine X.call (zAg h_20) rfl rfl rfl (.cons (.shut (n := 9) rfl) (.cons (.shut (n := 9) rfl) .nil)) (X.q rfl (X.q rfl (X.q rfl ?_)))
  refine X.opW (H' := [obl 1 V.i l10, .rows 5 [(zR x7)], .rows 5 [(zR y.1)], .rows 5 [(V.agg [(V.i 0), (V.i 0), (V.i 0), (V.i 0), (V.i 0)])]]) rfl rfl rfl rfl ?_
  refine X.op0W (H' := [obl 1 V.i l10, .rows 5 [(zR x7)], .rows 5 [(zR y.1)], .rows 5 [(zR y1.1)]]) rfl rfl rfl (X.q rfl (X.nq ?_))
  refine X.mid [(0, (V.sl (List.map zR old))), (1, (V.sl (List.map zR now))), (5, (ovl 0 l10)), (7, (V.ptr 1 0 0)), (12, (V.sl (List.map zR old))), (13, (V.i (old.length : Int))), (14, (V.i x8)), (40, (V.b ((!y1.2) || (!decide (y.1.Slot = y1.1.Slot)))))] ?_ ?_
  ·intro hg
   refine X.split (!y1.2) (fun h_21 => ?_) (fun h_21 => ?_)
   ·iterate 3 refine X.q rfl ?_
    iterate 5 refine X.off (X.ZL rfl rfl rfl h_21) rfl ?_
    refine X.opR rfl (X.zd (y := !decide (y.1.Slot = y1.1.Slot)) rfl h_21 rfl) rfl (GS.zA ?_)
    exact X.norm _ hg rfl (sr rfl)
   iterate 3 refine X.q rfl ?_
   iterate 4 refine X.opR (X.on_f rfl rfl rfl h_21) rfl rfl ?_
   refine X.opR (X.on_f rfl rfl rfl h_21) (X.neqE (zCH y.1.Slot y1.1.Slot) rfl rfl) rfl ?_
   refine X.opR rfl (X.zb (y := !decide (y.1.Slot = y1.1.Slot)) rfl h_21 rfl) rfl (GS.zA ?_)
   exact X.norm _ hg rfl (sr rfl)
  refine X.cond rfl (fun h_22 => ?_) (fun h_22 => ?_)
  ·replace hM := zZ h_22 hM
   obtain ⟨l9, h_23, hM⟩ := zH hM
   refine GS.region (X.q rfl (X.q rfl (X.q rfl ?_)))
   refine X.opW (H' := [obl 1 V.i l10, .rows 5 [(zR x7)], .rows 5 [(zR y.1)], .rows 5 [(zR y1.1)], .rows 1 (List.map V.i ([x7.Call]))]) rfl rfl rfl rfl ?_
   refine X.appN (f := V.i) h_23 (fun _ => rfl) (by rfl) (by rfl) (by rfl) (by rfl) (by rfl) (by rfl) (by rfl) (by rfl) (by rfl) (by rfl) (by rfl) (by exact rfl) (by rfl) (by rfl) (X.q rfl (GS.zA ?_))
   refine GS.endB ?_
   exact X.gc [some 5] (hj_9 l9 hM) rfl rfl rfl (zN rfl ⟨9, rfl⟩ (zN rfl ⟨9, rfl⟩ (zN rfl (qh (jH h_23) rfl) (ga rfl rfl)))) (gb_obl' 9 (jH h_23) rfl rfl (fun _ => rfl) zL)
  replace hM := za h_22 hM
  refine GS.skip ?_
  refine GS.endB ?_
  exact X.gc [some 0] (hj_9 l10 hM) rfl rfl rfl (zN rfl ⟨9, rfl⟩ (zN rfl ⟨9, rfl⟩ (zN rfl (zi rfl) (ga rfl rfl)))) (zk 9 rfl rfl (fun _ => rfl) zL)
 replace hM := za h_17 hM
 refine GS.exit rfl ?_
 obtain ⟨y_1, hM, hy⟩ := ZN hM
 rw [hr_1 _ hy.symm] at hM
 exact X.gc [some 0] (hj_1 l10 hM) rfl rfl rfl (zN rfl (zi rfl) Jq) (zk 9 rfl rfl (fun _ => rfl) zL)
theorem zA0 {l : (List zM)} {old : (List zO)} {now : (List zO)} {r : Int} (hM : Jp l old now = some r) : Ct Tryz.prog 37 [(V.sl (List.map zF l)), (V.sl (List.map zR old)), (V.sl (List.map zR now))] (V.i r) := by
 refine ze ZK rfl ?_
 unfold Jp at hM
 refine X.sq (X.q rfl (X.nq (X.q rfl (GS.zA ?_))))
 iterate 2 refine GS.seq ?_
 obtain ⟨y, h_1, hM⟩ := zH hM
 refine GS.region (X.q rfl (X.q rfl ?_))
 refine X.call (zEM h_1) rfl rfl rfl (.cons (.shut (n := 9) rfl) (.cons (.shut (n := 9) rfl) .nil)) ?_
 refine X.opR rfl (X.lenF rfl rfl rfl) rfl (X.q rfl (GS.zA ?_))
 refine X.join (τ := Int) (fun v => Yf v = some r) (fun v => ⟨[(7, (V.i v))], [], 0, none, 35⟩) ?_ ?_
 ·intro n hM
  replace hM : Yf n = some r := hM
  unfold Yf at hM
  refine X.sq (X.q rfl (X.q rfl ?_))
  refine GS.zA ?_
  cases hM
  exact GS.ret ⟨_, rfl, ⟨30, rfl⟩⟩
 intro hj_1
 refine GS.block ?_
 refine X.gc [] (X.loop (σ := (Int × Int)) (fun v => ⟨[(0, (V.sl (List.map zF l))), (7, (V.i v.1)), (14, (V.sl (List.map V.i y))), (15, (V.i (y.length : Int))), (16, (V.i v.2))], [], 0, none, 35⟩) hM ?_ rfl) rfl rfl rfl (ga rfl rfl) (zL)
 rintro ⟨n4, x3⟩ b_1 hM hc_2 hr_1
 rw [Yg] at hM
 refine X.sq (X.q rfl (GS.zA (GS.seq ?_)))
 refine X.cond rfl (fun h_2 => ?_) (fun h_2 => ?_)
 ·replace hM := zZ h_2 hM
  refine GS.skip (GS.seq (GS.block (GS.seq ?_)))
  obtain ⟨x, h_3, hM⟩ := zH hM
  refine GS.region ?_
  refine X.opR rfl (X.ZC (f := V.i) h_3 (fun _ => rfl) rfl rfl rfl rfl) rfl ?_
  refine X.opR rfl (X.ZS h_3 rfl rfl rfl) rfl (X.q rfl (X.nq (X.q rfl ?_)))
  refine X.opR rfl (X.lenF rfl rfl rfl) rfl (X.q rfl (GS.zA ?_))
  refine X.join (τ := Int) (fun v => Ye x3 v = some b_1) (fun v => ⟨[(0, (V.sl (List.map zF l))), (7, (V.i v)), (14, (V.sl (List.map V.i y))), (15, (V.i (y.length : Int))), (16, (V.i x3))], [], 0, none, 35⟩) ?_ ?_
  ·intro n1 hM
   replace hM : Ye x3 n1 = some b_1 := hM
   unfold Ye at hM
   refine GS.endB (GS.region ?_)
   refine X.opR rfl (X.addE rfl rfl) rfl (X.q rfl (GS.zA ?_))
   have hE := Option.some.inj hM
   exact X.gc [] (hc_2 (n1, w64 (x3 + 1)) hE.symm) rfl rfl rfl (ga rfl rfl) (zL)
  intro hj_3
  refine GS.block ?_
  refine X.gc [] (X.loop (σ := (Int × Int)) (fun v => ⟨[(0, (V.sl (List.map zF l))), (7, (V.i v.1)), (9, (V.i x)), (14, (V.sl (List.map V.i y))), (15, (V.i (y.length : Int))), (16, (V.i x3)), (20, (V.sl (List.map zF l))), (21, (V.i (l.length : Int))), (22, (V.i v.2))], [], 0, none, 35⟩) hM ?_ rfl) rfl rfl rfl (ga rfl rfl) (zL)
  rintro ⟨n3, x2⟩ b_2 hM hc_4 hr_2
  rw [J6] at hM
  refine X.sq (X.q rfl (GS.zA (GS.seq ?_)))
  refine X.cond rfl (fun h_4 => ?_) (fun h_4 => ?_)
  ·replace hM := zZ h_4 hM
   refine GS.skip (GS.seq ?_)
   refine X.join (τ := Int) (fun v => JI x2 v = some b_2) (fun v => ⟨[(0, (V.sl (List.map zF l))), (7, (V.i v)), (9, (V.i x)), (14, (V.sl (List.map V.i y))), (15, (V.i (y.length : Int))), (16, (V.i x3)), (20, (V.sl (List.map zF l))), (21, (V.i (l.length : Int))), (22, (V.i x2))], [], 0, none, 35⟩) ?_ ?_
   ·intro n2 hM
    replace hM : JI x2 n2 = some b_2 := hM
    unfold JI at hM
    refine GS.region ?_
    refine X.opR rfl (X.addE rfl rfl) rfl (X.q rfl (GS.zA ?_))
    have hE := Option.some.inj hM
    exact X.gc [] (hc_4 (n2, w64 (x2 + 1)) hE.symm) rfl rfl rfl (ga rfl rfl) (zL)
   intro hj_5
   refine GS.block (GS.seq ?_)
   obtain ⟨x1, h_5, hM⟩ := zH hM
   refine GS.region ?_
   refine X.opR rfl (X.ZC (f := zF) h_5 (fun _ => rfl) rfl rfl rfl rfl) rfl ?_
   refine X.opR rfl (X.ZS h_5 rfl rfl rfl) rfl ?_
   refine X.opW rfl rfl rfl rfl ?_
   refine X.op0W rfl rfl rfl (X.nq ?_)
   iterate 4 refine X.q rfl ?_
   refine GS.zA ?_
   refine X.cond rfl (fun h_6 => ?_) (fun h_6 => ?_)
   ·replace hM := zZ h_6 hM
    refine GS.region (X.q rfl ?_)
    refine X.opR rfl (X.addE rfl rfl) rfl (X.q rfl (GS.zA ?_))
    refine GS.endB ?_
    exact X.gc [] (hj_5 (w64 (n3 + 1)) hM) rfl rfl rfl (ga rfl rfl) (zL)
   replace hM := za h_6 hM
   refine GS.skip ?_
   refine GS.endB ?_
   exact X.gc [] (hj_5 n3 hM) rfl rfl rfl (ga rfl rfl) (zL)
  replace hM := za h_4 hM
  refine GS.exit rfl ?_
  obtain ⟨y_2, hM, hy⟩ := ZN hM
  rw [hr_2 _ hy.symm] at hM
  exact X.gc [] (hj_3 n3 hM) rfl rfl rfl (ga rfl rfl) (zL)
 replace hM := za h_2 hM
 refine GS.exit rfl ?_
 obtain ⟨y_1, hM, hy⟩ := ZN hM
 rw [hr_1 _ hy.symm] at hM
 exact X.gc [] (hj_1 n4 hM) rfl rfl rfl (ga rfl rfl) (zL)
set_option maxHeartbeats 4000000 in
theorem zCd {h : zK} {l : (List zM)} {old : (List zO)} {r : Bool} (hM : J7 h l old = some r) : Ct Tryz.prog 6 [(zG h), (V.sl (List.map zF l)), (V.sl (List.map zR old))] (V.b r) := by
 refine ze ZK rfl ?_
 unfold J7 at hM
 refine X.sq ?_
 refine X.opW rfl rfl rfl rfl (X.q rfl (GS.zA ?_))
 iterate 2 refine GS.seq ?_
 obtain ⟨y, h_1, hM⟩ := zH hM
 refine GS.region ?_
 refine X.mid [(1, (V.sl (List.map zF l))), (2, (V.sl (List.map zR old))), (3, (V.ptr 0 0 0)), (29, (V.b (((!y) || (decide (5 < (l.length : Int)))) || (decide (10 < (old.length : Int))))))] ?_ ?_
 ·intro hg
  refine X.split (!y) (fun h_2 => ?_) (fun h_2 => ?_)
  ·refine X.q rfl ?_
   refine X.call (zAH h_1) rfl rfl rfl (.cons (.shut (n := 9) rfl) .nil) (X.q rfl (X.q rfl ?_))
   iterate 3 refine X.off (X.ZL rfl rfl rfl h_2) rfl ?_
   refine X.opR rfl (X.zd (y := decide (5 < (l.length : Int))) rfl h_2 rfl) rfl (X.q rfl ?_)
   iterate 3 refine X.off (X.ZL rfl rfl rfl (X.zU h_2)) rfl ?_
   refine X.opR rfl (X.zd (y := decide (10 < (old.length : Int))) rfl (X.zU h_2) rfl) rfl (GS.zA ?_)
   exact X.norm _ hg rfl (sr rfl)
  refine X.split (((!y) || (decide (5 < (l.length : Int))))) (fun h_3 => ?_) (fun h_3 => ?_)
  ·refine X.q rfl ?_
   refine X.call (zAH h_1) rfl rfl rfl (.cons (.shut (n := 9) rfl) .nil) (X.q rfl (X.q rfl ?_))
   refine X.opR (X.on_f rfl rfl rfl h_2) rfl rfl ?_
   refine X.opR (X.on_f rfl rfl rfl h_2) (X.lenF rfl rfl rfl) rfl ?_
   refine X.opR (X.on_f rfl rfl rfl h_2) rfl rfl ?_
   refine X.opR rfl (X.zb (y := decide (5 < (l.length : Int))) rfl h_2 rfl) rfl (X.q rfl ?_)
   iterate 3 refine X.off (X.ZL rfl rfl rfl h_3) rfl ?_
   refine X.opR rfl (X.zd (y := decide (10 < (old.length : Int))) rfl h_3 rfl) rfl (GS.zA ?_)
   exact X.norm _ hg rfl (sr rfl)
  refine X.q rfl ?_
  refine X.call (zAH h_1) rfl rfl rfl (.cons (.shut (n := 9) rfl) .nil) (X.q rfl (X.q rfl ?_))
  refine X.opR (X.on_f rfl rfl rfl h_2) rfl rfl ?_
  refine X.opR (X.on_f rfl rfl rfl h_2) (X.lenF rfl rfl rfl) rfl ?_
  refine X.opR (X.on_f rfl rfl rfl h_2) rfl rfl ?_
  refine X.opR rfl (X.zb (y := decide (5 < (l.length : Int))) rfl h_2 rfl) rfl (X.q rfl ?_)
  refine X.opR (X.on_f rfl rfl rfl h_3) rfl rfl ?_
  refine X.opR (X.on_f rfl rfl rfl h_3) (X.lenF rfl rfl rfl) rfl ?_
  refine X.opR (X.on_f rfl rfl rfl h_3) rfl rfl ?_
  refine X.opR rfl (X.zb (y := decide (10 < (old.length : Int))) rfl h_3 rfl) rfl (GS.zA ?_)
  exact X.norm _ hg rfl (sr rfl)
 refine X.cond rfl (fun h_4 => ?_) (fun h_4 => ?_)
 ·replace hM := zZ h_4 hM
  refine GS.seq ?_
  obtain ⟨y1, h_5, hM⟩ := zH hM
  refine GS.region ?_
  refine X.call (QC h_5) rfl rfl rfl .nil (X.q rfl (GS.zA ?_))
  cases hM
  exact GS.ret ⟨_, rfl, ⟨30, rfl⟩⟩
 replace hM := za h_4 hM
 refine GS.skip (GS.seq ?_)
 obtain ⟨y2, h_6, hM⟩ := zH hM
 refine GS.region (X.q rfl (X.q rfl (X.q rfl ?_)))
 refine X.call (qa h_6) rfl rfl rfl (.cons (.shut (n := 9) rfl) (.cons (.shut (n := 9) rfl) (.cons (.shut (n := 9) rfl) .nil))) ?_
 iterate 5 refine X.q rfl ?_
 refine GS.zA (GS.seq ?_)
 obtain ⟨y3, h_7, hM⟩ := zH hM
 refine GS.region (X.q rfl (X.q rfl ?_))
 refine X.call (zCi h_7) rfl rfl rfl (.cons (.shut (n := 9) rfl) (.cons (.shut (n := 9) rfl) .nil)) ?_
 iterate 5 refine X.q rfl ?_
 refine GS.zA (GS.seq ?_)
 obtain ⟨y4, h_8, hM⟩ := zH hM
 refine GS.region (X.q rfl (X.q rfl ?_))
 refine X.call (zGg h_8) rfl rfl rfl (.cons (.shut (n := 9) rfl) (.cons (.shut (n := 9) rfl) .nil)) ?_
 iterate 5 refine X.q rfl ?_
 refine GS.zA (GS.seq (X.sq ?_))
 refine X.mid [(1, (V.sl (List.map zF l))), (2, (V.sl (List.map zR old))), (3, (V.ptr 0 0 0)), (7, (V.sl (List.map zR y2.1))), (8, (V.i y2.2)), (9, (V.sl (List.map zR y3.1))), (11, (V.i y4.1)), (57, (V.b ((!decide (y2.2 = y3.2)) || (!decide (y3.2 = y4.2)))))] ?_ ?_
 ·intro hg
  refine X.split (!decide (y2.2 = y3.2)) (fun h_9 => ?_) (fun h_9 => ?_)
  ·iterate 4 refine X.q rfl ?_
   iterate 3 refine X.off (X.ZL rfl rfl rfl h_9) rfl ?_
   refine X.opR rfl (X.zd (y := !decide (y3.2 = y4.2)) rfl h_9 rfl) rfl (GS.zA ?_)
   exact X.norm _ hg rfl (sr rfl)
  iterate 4 refine X.q rfl ?_
  iterate 3 refine X.opR (X.on_f rfl rfl rfl h_9) rfl rfl ?_
  refine X.opR rfl (X.zb (y := !decide (y3.2 = y4.2)) rfl h_9 rfl) rfl (GS.zA ?_)
  exact X.norm _ hg rfl (sr rfl)
 refine X.cond rfl (fun h_10 => ?_) (fun h_10 => ?_)
 ·replace hM := zZ h_10 hM
  refine X.sq (X.q rfl (GS.zA ?_))
  cases hM
  exact GS.ret ⟨_, rfl, ⟨30, rfl⟩⟩
 replace hM := za h_10 hM
 refine GS.skip (GS.seq (X.sq (X.q rfl (X.q rfl ?_))))
 refine GS.zA ?_
 refine X.cond rfl (fun h_11 => ?_) (fun h_11 => ?_)
 ·replace hM := zZ h_11 hM
  refine GS.seq ?_
  obtain ⟨y5, h_12, hM⟩ := zH hM
  refine GS.region ?_
  refine X.call (QC h_12) rfl rfl rfl .nil (X.q rfl (GS.zA ?_))
  cases hM
  exact GS.ret ⟨_, rfl, ⟨30, rfl⟩⟩
 replace hM := za h_11 hM
 refine GS.skip (GS.seq ?_)
 obtain ⟨y6, h_13, hM⟩ := zH hM
 refine GS.region (X.q rfl (X.q rfl (X.q rfl ?_)))
 refine X.call (qa h_13) rfl rfl rfl (.cons (.shut (n := 9) rfl) (.cons (.shut (n := 9) rfl) (.cons (.shut (n := 9) rfl) .nil))) ?_
 iterate 5 refine X.q rfl ?_
 refine GS.zA (GS.seq ?_)
 obtain ⟨y7, h_14, hM⟩ := zH hM
 refine GS.region (X.q rfl (X.q rfl (X.q rfl ?_)))
 refine X.call (qa h_14) rfl rfl rfl (.cons (.shut (n := 9) rfl) (.cons (.shut (n := 9) rfl) (.cons (.shut (n := 9) rfl) .nil))) ?_
 iterate 5 refine X.q rfl ?_
 refine GS.zA ?_
 iterate 2 refine GS.seq ?_
 obtain ⟨y8, h_15, hM⟩ := zH hM
 obtain ⟨y9, h_16, hM⟩ := zCA hM
 obtain ⟨y10, h_17, hM⟩ := zCA hM
 refine GS.region ?_
 refine X.mid [(1, (V.sl (List.map zF l))), (2, (V.sl (List.map zR old))), (7, (V.sl (List.map zR y2.1))), (9, (V.sl (List.map zR y3.1))), (105, (V.b ((((((!decide (y8 = 0)) || (!decide ((y2.1.length : Int) = y4.1))) || (!decide (y6.2 = 0))) || (!decide (y7.2 = 0))) || (!y9)) || (!y10))))] ?_ ?_
 ·intro hg
  refine X.split (!decide (y8 = 0)) (fun h_18 => ?_) (fun h_18 => ?_)
  ·iterate 3 refine X.q rfl ?_
   refine X.call (jh h_15) rfl rfl rfl (.cons (.shut (n := 9) rfl) (.cons (.shut (n := 9) rfl) (.cons (.shut (n := 9) rfl) .nil))) (X.q rfl (X.q rfl ?_))
   iterate 4 refine X.off (X.ZL rfl rfl rfl h_18) rfl ?_
   refine X.opR rfl (X.zd (y := !decide ((y2.1.length : Int) = y4.1)) rfl h_18 rfl) rfl (X.q rfl ?_)
   iterate 2 refine X.off (X.ZL rfl rfl rfl (X.zU h_18)) rfl ?_
   refine X.opR rfl (X.zd (y := !decide (y6.2 = 0)) rfl (X.zU h_18) rfl) rfl (X.q rfl ?_)
   iterate 2 refine X.off (X.ZL rfl rfl rfl (X.zU (X.zU h_18))) rfl ?_
   refine X.opR rfl (X.zd (y := !decide (y7.2 = 0)) rfl (X.zU (X.zU h_18)) rfl) rfl (X.q rfl ?_)
   iterate 4 refine X.off (X.ZL rfl rfl rfl (X.zU (X.zU (X.zU h_18)))) rfl ?_
   refine X.opR rfl (X.zd (y := !y9) rfl (X.zU (X.zU (X.zU h_18))) rfl) rfl (X.q rfl ?_)
   iterate 4 refine X.off (X.ZL rfl rfl rfl (X.zU (X.zU (X.zU (X.zU h_18))))) rfl ?_
   refine X.opR rfl (X.zd (y := !y10) rfl (X.zU (X.zU (X.zU (X.zU h_18)))) rfl) rfl (GS.zA ?_)
   exact X.norm _ hg rfl (sr rfl)
  refine X.split (((!decide (y8 = 0)) || (!decide ((y2.1.length : Int) = y4.1)))) (fun h_19 => ?_) (fun h_19 => ?_)
  ·iterate 3 refine X.q rfl ?_
   refine X.call (jh h_15) rfl rfl rfl (.cons (.shut (n := 9) rfl) (.cons (.shut (n := 9) rfl) (.cons (.shut (n := 9) rfl) .nil))) (X.q rfl (X.q rfl ?_))
   refine X.opR (X.on_f rfl rfl rfl h_18) rfl rfl ?_
   refine X.opR (X.on_f rfl rfl rfl h_18) (X.lenF rfl rfl rfl) rfl ?_
   iterate 2 refine X.opR (X.on_f rfl rfl rfl h_18) rfl rfl ?_
   refine X.opR rfl (X.zb (y := !decide ((y2.1.length : Int) = y4.1)) rfl h_18 rfl) rfl (X.q rfl ?_)
   iterate 2 refine X.off (X.ZL rfl rfl rfl h_19) rfl ?_
   refine X.opR rfl (X.zd (y := !decide (y6.2 = 0)) rfl h_19 rfl) rfl (X.q rfl ?_)
   iterate 2 refine X.off (X.ZL rfl rfl rfl (X.zU h_19)) rfl ?_
   refine X.opR rfl (X.zd (y := !decide (y7.2 = 0)) rfl (X.zU h_19) rfl) rfl (X.q rfl ?_)
   iterate 4 refine X.off (X.ZL rfl rfl rfl (X.zU (X.zU h_19))) rfl ?_
   refine X.opR rfl (X.zd (y := !y9) rfl (X.zU (X.zU h_19)) rfl) rfl (X.q rfl ?_)
   iterate 4 refine X.off (X.ZL rfl rfl rfl (X.zU (X.zU (X.zU h_19)))) rfl ?_
   refine X.opR rfl (X.zd (y := !y10) rfl (X.zU (X.zU (X.zU h_19))) rfl) rfl (GS.zA ?_)
   exact X.norm _ hg rfl (sr rfl)
  refine X.split ((((!decide (y8 = 0)) || (!decide ((y2.1.length : Int) = y4.1))) || (!decide (y6.2 = 0)))) (fun h_20 => ?_) (fun h_20 => ?_)
  ·iterate 3 refine X.q rfl ?_
   refine X.call (jh h_15) rfl rfl rfl (.cons (.shut (n := 9) rfl) (.cons (.shut (n := 9) rfl) (.cons (.shut (n := 9) rfl) .nil))) (X.q rfl (X.q rfl ?_))
   refine X.opR (X.on_f rfl rfl rfl h_18) rfl rfl ?_
   refine X.opR (X.on_f rfl rfl rfl h_18) (X.lenF rfl rfl rfl) rfl ?_
   iterate 2 refine X.opR (X.on_f rfl rfl rfl h_18) rfl rfl ?_
   refine X.opR rfl (X.zb (y := !decide ((y2.1.length : Int) = y4.1)) rfl h_18 rfl) rfl (X.q rfl ?_)
   iterate 2 refine X.opR (X.on_f rfl rfl rfl h_19) rfl rfl ?_
   refine X.opR rfl (X.zb (y := !decide (y6.2 = 0)) rfl h_19 rfl) rfl (X.q rfl ?_)
   iterate 2 refine X.off (X.ZL rfl rfl rfl h_20) rfl ?_
   refine X.opR rfl (X.zd (y := !decide (y7.2 = 0)) rfl h_20 rfl) rfl (X.q rfl ?_)
   iterate 4 refine X.off (X.ZL rfl rfl rfl (X.zU h_20)) rfl ?_
   refine X.opR rfl (X.zd (y := !y9) rfl (X.zU h_20) rfl) rfl (X.q rfl ?_)
   iterate 4 refine X.off (X.ZL rfl rfl rfl (X.zU (X.zU h_20))) rfl ?_
   refine X.opR rfl (X.zd (y := !y10) rfl (X.zU (X.zU h_20)) rfl) rfl (GS.zA ?_)
   exact X.norm _ hg rfl (sr rfl)
  refine X.split (((((!decide (y8 = 0)) || (!decide ((y2.1.length : Int) = y4.1))) || (!decide (y6.2 = 0))) || (!decide (y7.2 = 0)))) (fun h_21 => ?_) (fun h_21 => ?_)
  ·iterate 3 refine X.q rfl ?_
   refine X.call (jh h_15) rfl rfl rfl (.cons (.shut (n := 9) rfl) (.cons (.shut (n := 9) rfl) (.cons (.shut (n := 9) rfl) .nil))) (X.q rfl (X.q rfl ?_))
   refine X.opR (X.on_f rfl rfl rfl h_18) rfl rfl ?_
   refine X.opR (X.on_f rfl rfl rfl h_18) (X.lenF rfl rfl rfl) rfl ?_
   iterate 2 refine X.opR (X.on_f rfl rfl rfl h_18) rfl rfl ?_
   refine X.opR rfl (X.zb (y := !decide ((y2.1.length : Int) = y4.1)) rfl h_18 rfl) rfl (X.q rfl ?_)
   iterate 2 refine X.opR (X.on_f rfl rfl rfl h_19) rfl rfl ?_
   refine X.opR rfl (X.zb (y := !decide (y6.2 = 0)) rfl h_19 rfl) rfl (X.q rfl ?_)
   iterate 2 refine X.opR (X.on_f rfl rfl rfl h_20) rfl rfl ?_
   refine X.opR rfl (X.zb (y := !decide (y7.2 = 0)) rfl h_20 rfl) rfl (X.q rfl ?_)
   iterate 4 refine X.off (X.ZL rfl rfl rfl h_21) rfl ?_
   refine X.opR rfl (X.zd (y := !y9) rfl h_21 rfl) rfl (X.q rfl ?_)
   iterate 4 refine X.off (X.ZL rfl rfl rfl (X.zU h_21)) rfl ?_
   refine X.opR rfl (X.zd (y := !y10) rfl (X.zU h_21) rfl) rfl (GS.zA ?_)
   exact X.norm _ hg rfl (sr rfl)
  refine X.split ((((((!decide (y8 = 0)) || (!decide ((y2.1.length : Int) = y4.1))) || (!decide (y6.2 = 0))) || (!decide (y7.2 = 0))) || (!y9))) (fun h_22 => ?_) (fun h_22 => ?_)
  ·iterate 3 refine X.q rfl ?_
   refine X.call (jh h_15) rfl rfl rfl (.cons (.shut (n := 9) rfl) (.cons (.shut (n := 9) rfl) (.cons (.shut (n := 9) rfl) .nil))) (X.q rfl (X.q rfl ?_))
   refine X.opR (X.on_f rfl rfl rfl h_18) rfl rfl ?_
   refine X.opR (X.on_f rfl rfl rfl h_18) (X.lenF rfl rfl rfl) rfl ?_
   iterate 2 refine X.opR (X.on_f rfl rfl rfl h_18) rfl rfl ?_
   refine X.opR rfl (X.zb (y := !decide ((y2.1.length : Int) = y4.1)) rfl h_18 rfl) rfl (X.q rfl ?_)
   iterate 2 refine X.opR (X.on_f rfl rfl rfl h_19) rfl rfl ?_
   refine X.opR rfl (X.zb (y := !decide (y6.2 = 0)) rfl h_19 rfl) rfl (X.q rfl ?_)
   iterate 2 refine X.opR (X.on_f rfl rfl rfl h_20) rfl rfl ?_
   refine X.opR rfl (X.zb (y := !decide (y7.2 = 0)) rfl h_20 rfl) rfl (X.q rfl ?_)
   iterate 2 refine X.opR (X.on_f rfl rfl rfl h_21) rfl rfl ?_
   refine X.call (QI (h_16 (X.nt h_21))) (X.on_f rfl rfl rfl h_21) rfl rfl (.cons (.shut (n := 9) rfl) (.cons (.shut (n := 9) rfl) .nil)) ?_
   refine X.opR (X.on_f rfl rfl rfl h_21) rfl rfl ?_
   refine X.opR rfl (X.zb (y := !y9) rfl h_21 rfl) rfl (X.q rfl ?_)
   iterate 4 refine X.off (X.ZL rfl rfl rfl h_22) rfl ?_
   refine X.opR rfl (X.zd (y := !y10) rfl h_22 rfl) rfl (GS.zA ?_)
   exact X.norm _ hg rfl (sr rfl)
  iterate 3 refine X.q rfl ?_
  refine X.call (jh h_15) rfl rfl rfl (.cons (.shut (n := 9) rfl) (.cons (.shut (n := 9) rfl) (.cons (.shut (n := 9) rfl) .nil))) (X.q rfl (X.q rfl ?_))
  refine X.opR (X.on_f rfl rfl rfl h_18) rfl rfl ?_
  refine X.opR (X.on_f rfl rfl rfl h_18) (X.lenF rfl rfl rfl) rfl ?_
  iterate 2 refine X.opR (X.on_f rfl rfl rfl h_18) rfl rfl ?_
  refine X.opR rfl (X.zb (y := !decide ((y2.1.length : Int) = y4.1)) rfl h_18 rfl) rfl (X.q rfl ?_)
  iterate 2 refine X.opR (X.on_f rfl rfl rfl h_19) rfl rfl ?_
  refine X.opR rfl (X.zb (y := !decide (y6.2 = 0)) rfl h_19 rfl) rfl (X.q rfl ?_)
  iterate 2 refine X.opR (X.on_f rfl rfl rfl h_20) rfl rfl ?_
  refine X.opR rfl (X.zb (y := !decide (y7.2 = 0)) rfl h_20 rfl) rfl (X.q rfl ?_)
  iterate 2 refine X.opR (X.on_f rfl rfl rfl h_21) rfl rfl ?_
  refine X.call (QI (h_16 (X.nt h_21))) (X.on_f rfl rfl rfl h_21) rfl rfl (.cons (.shut (n := 9) rfl) (.cons (.shut (n := 9) rfl) .nil)) ?_
  refine X.opR (X.on_f rfl rfl rfl h_21) rfl rfl ?_
  refine X.opR rfl (X.zb (y := !y9) rfl h_21 rfl) rfl (X.q rfl ?_)
  iterate 2 refine X.opR (X.on_f rfl rfl rfl h_22) rfl rfl ?_
  refine X.call (QI (h_17 (X.nt h_22))) (X.on_f rfl rfl rfl h_22) rfl rfl (.cons (.shut (n := 9) rfl) (.cons (.shut (n := 9) rfl) .nil)) ?_
  refine X.opR (X.on_f rfl rfl rfl h_22) rfl rfl ?_
  refine X.opR rfl (X.zb (y := !y10) rfl h_22 rfl) rfl (GS.zA ?_)
  exact X.norm _ hg rfl (sr rfl)
 refine X.cond rfl (fun h_23 => ?_) (fun h_23 => ?_)
 ·replace hM := zZ h_23 hM
  refine X.sq (X.q rfl (GS.zA ?_))
  cases hM
  exact GS.ret ⟨_, rfl, ⟨30, rfl⟩⟩
 replace hM := za h_23 hM
 refine GS.skip (GS.seq ?_)
 obtain ⟨y11, h_24, hM⟩ := zH hM
 obtain ⟨y12, h_25, hM⟩ := zCA hM
 obtain ⟨y13, h_26, hM⟩ := zCA hM
 refine GS.region ?_
 refine X.mid [(6, (V.b (y11 && (decide (y12 ≤ y13)))))] ?_ ?_
 ·intro hg
  refine X.split (y11) (fun h_27 => ?_) (fun h_27 => ?_)
  ·refine X.call (QC h_24) rfl rfl rfl .nil (X.q rfl ?_)
   iterate 3 refine X.opR (X.on_t rfl rfl rfl h_27) rfl rfl ?_
   refine X.call (zA0 (h_25 h_27)) (X.on_t rfl rfl rfl h_27) rfl rfl (.cons (.shut (n := 9) rfl) (.cons (.shut (n := 9) rfl) (.cons (.shut (n := 9) rfl) .nil))) ?_
   iterate 3 refine X.opR (X.on_t rfl rfl rfl h_27) rfl rfl ?_
   refine X.call (zA0 (h_26 h_27)) (X.on_t rfl rfl rfl h_27) rfl rfl (.cons (.shut (n := 9) rfl) (.cons (.shut (n := 9) rfl) (.cons (.shut (n := 9) rfl) .nil))) ?_
   refine X.opR (X.on_t rfl rfl rfl h_27) rfl rfl ?_
   refine X.opR rfl (X.zW (y := decide (y12 ≤ y13)) rfl h_27 rfl) rfl (X.q rfl (GS.zA ?_))
   exact X.norm _ hg rfl (sr rfl)
  refine X.call (QC h_24) rfl rfl rfl .nil (X.q rfl ?_)
  iterate 9 refine X.off (X.zn rfl rfl rfl h_27) rfl ?_
  refine X.opR rfl (X.zQ (y := decide (y12 ≤ y13)) rfl h_27 rfl) rfl (X.q rfl (GS.zA ?_))
  exact X.norm _ hg rfl (sr rfl)
 cases hM
 exact GS.ret ⟨_, rfl, ⟨30, rfl⟩⟩
end Go.Proofs.YtnkngglimidldaaGreat
