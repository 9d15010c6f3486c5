/- The program's functions compute the plain ones. Conditions: none. Printed by a program (wip/tools/xg.py). -/
import Derived.Test.YtnkngglimidldaaGreatP2
set_option linter.unusedVariables false
set_option linter.unusedSimpArgs false
namespace Go.Proofs.YtnkngglimidldaaGreat
open Go Go.Am Go.Proofs Go.Mx
set_option maxHeartbeats 4000000 in
theorem zAP {h : zL} {l : (List zN)} {old : (List zP)} {r : (List zP) × Int} (hM : JG h l old = some r) : Ct Tryz.prog 32 [(zH h), (V.sl (List.map zG l)), (V.sl (List.map zS old))] (V.tup [(V.sl (List.map zS r.1)), (V.i r.2)]) := by
 refine zg ZR rfl ?_
 unfold JG at hM
 refine X.sq ?_
 refine X.opW rfl rfl rfl rfl (X.q rfl (X.q rfl ?_))
 refine GS.zA ?_
 iterate 2 refine GS.seq ?_
 obtain ⟨y, h_1, hM⟩ := zI hM
 refine GS.region (X.q rfl (X.q rfl ?_))
 refine X.call (jk h_1) rfl rfl rfl (.cons (.shut (n := 9) rfl) (.cons (.shut (n := 9) rfl) .nil)) (X.q rfl (X.nq (X.q rfl (X.q rfl ?_))))
 refine GS.zA ?_
 refine X.cond rfl (fun h_2 => ?_) (fun h_2 => ?_)
 ·replace hM := za h_2 hM
  refine X.sq (X.q rfl (X.q rfl (X.q rfl ?_)))
  refine GS.zA ?_
  cases hM
  exact GS.ret ⟨_, rfl, ⟨30, rfl⟩⟩
 replace hM := zb h_2 hM
 refine GS.skip (GS.seq (X.sq (X.q rfl ?_)))
 refine X.opR rfl (X.lenF rfl rfl rfl) rfl (X.q rfl (GS.zA ?_))
 refine X.cond rfl (fun h_3 => ?_) (fun h_3 => ?_)
 ·replace hM := za h_3 hM
  refine X.sq (X.q rfl (X.q rfl ?_))
  refine GS.zA ?_
  cases hM
  exact GS.ret ⟨_, rfl, ⟨30, rfl⟩⟩
 replace hM := zb h_3 hM
 refine GS.skip (X.sq (X.q rfl (X.q rfl ?_)))
 refine X.joinO (τ := (List zF) × (List (List (zF × zD))) × (List Int)) (fun v => YV l old v.1 v.2.1 v.2.2 = some r) (fun v => ⟨[(1, (V.sl (List.map zG l))), (2, (V.sl (List.map zS old))), (25, (V.ptr 0 0 0))], [.rows 4 [(V.agg [(V.sl (List.map zG l)), (ovl 1 v.1), (ovl 2 v.2.1), (ovl 3 v.2.2)])], obl 2 zC v.1, obl 1 (fun l => V.fmap (List.map (fun p => zC p.1) l) (List.map (fun p => zJ p.2) l)) v.2.1, obl 1 V.i v.2.2], 0, none, 57⟩) ?_ ?_
 ·rintro ⟨l1, l2, l3⟩ hM
  replace hM : YV l old l1 l2 l3 = some r := hM
  unfold YV at hM
  refine X.q rfl (GS.zA (GS.seq (X.sq (X.q rfl ?_))))
  refine X.opR rfl (X.lenF rfl rfl rfl) rfl (X.q rfl (GS.zA ?_))
  refine X.join (τ := (List Int)) (fun v => YU l l1 l2 v = some r) (fun v => ⟨[(9, (V.ptr 0 0 0))], [.rows 4 [(V.agg [(V.sl (List.map zG l)), (ovl 1 l1), (ovl 2 l2), (ovl 3 v)])], obl 2 zC l1, obl 1 (fun l => V.fmap (List.map (fun p => zC p.1) l) (List.map (fun p => zJ p.2) l)) l2, obl 1 V.i v], 0, none, 57⟩) ?_ ?_
  ·intro l4 hM
   replace hM : YU l l1 l2 l4 = some r := hM
   unfold YU at hM
   refine GS.seq ?_
   refine GS.freezeW (K' := [(9, (V.fptr [(zT (⟨l, l1, l2, l4⟩ : zK))] 0 0))]) (X.fw_cons rfl (FR.ptr rfl rfl (FR.agg (.cons ⟨30, rfl⟩ (.cons (FR.ovl (f := zC) (l := l1) 9 rfl rfl (fun _ => rfl)) (.cons (FR.ovl (f := (fun l => V.fmap (List.map (fun p => zC p.1) l) (List.map (fun p => zJ p.2) l))) (l := l2) 9 rfl rfl (fun _ => rfl)) (.cons (FR.ovl (f := V.i) (l := l4) 9 rfl rfl (fun _ => rfl)) .nil)))))) X.fw_nil) ?_
   obtain ⟨y2, h_5, hM⟩ := zI hM
   refine GS.region (X.q rfl ?_)
   refine X.call (zAX h_5) rfl rfl rfl (.cons (.shut (n := 9) rfl) .nil) (X.q rfl (X.q rfl ?_))
   refine GS.zA ?_
   cases hM
   exact GS.ret ⟨_, rfl, ⟨30, rfl⟩⟩
  intro hj_2
  refine GS.block ?_
  refine X.gc [some 0, some 1, some 2, some 3] (X.loop (σ := (Int × (List Int))) (fun v => ⟨[(2, (V.sl (List.map zS old))), (9, (V.ptr 0 0 0)), (26, (V.sl (List.map zG l))), (27, (V.i (l.length : Int))), (28, (V.i v.1))], [.rows 4 [(V.agg [(V.sl (List.map zG l)), (ovl 1 l1), (ovl 2 l2), (ovl 3 v.2)])], obl 2 zC l1, obl 1 (fun l => V.fmap (List.map (fun p => zC p.1) l) (List.map (fun p => zJ p.2) l)) l2, obl 1 V.i v.2], 0, none, 57⟩) hM ?_ rfl) rfl rfl rfl (ga rfl rfl) (Z0 rfl rfl (je (.cons ⟨9, rfl⟩ (.cons (zl rfl) (.cons (zl rfl) (.cons (zl rfl) .nil))))) (zn 9 rfl rfl (fun _ => rfl) (zn 9 rfl rfl (fun _ => rfl) (zn 9 rfl rfl (fun _ => rfl) zM))))
  rintro ⟨x2, l6⟩ b_1 hM hc_3 hr_1
  rw [YX] at hM
  refine X.sq (X.q rfl (GS.zA (GS.seq ?_)))
  refine X.cond rfl (fun h_6 => ?_) (fun h_6 => ?_)
  ·replace hM := za h_6 hM
   refine GS.skip (GS.seq ?_)
   refine X.join (τ := (List Int)) (fun v => Jy x2 v = some b_1) (fun v => ⟨[(2, (V.sl (List.map zS old))), (9, (V.ptr 0 0 0)), (26, (V.sl (List.map zG l))), (27, (V.i (l.length : Int))), (28, (V.i x2))], [.rows 4 [(V.agg [(V.sl (List.map zG l)), (ovl 1 l1), (ovl 2 l2), (ovl 3 v)])], obl 2 zC l1, obl 1 (fun l => V.fmap (List.map (fun p => zC p.1) l) (List.map (fun p => zJ p.2) l)) l2, obl 1 V.i v], 0, none, 57⟩) ?_ ?_
   ·intro l5 hM
    replace hM : Jy x2 l5 = some b_1 := hM
    unfold Jy at hM
    refine GS.region ?_
    refine X.opR rfl (X.addE rfl rfl) rfl (X.q rfl (GS.zA ?_))
    have hE := Option.some.inj hM
    exact X.gc [some 0, some 1, some 2, some 3] (hc_3 (w64 (x2 + 1), l5) hE.symm) rfl rfl rfl (ga rfl rfl) (Z0 rfl rfl (je (.cons ⟨9, rfl⟩ (.cons (zl rfl) (.cons (zl rfl) (.cons (zl rfl) .nil))))) (zn 9 rfl rfl (fun _ => rfl) (zn 9 rfl rfl (fun _ => rfl) (zn 9 rfl rfl (fun _ => rfl) zM))))
   intro hj_4
   refine GS.block (GS.seq ?_)
   obtain ⟨x, h_7, hM⟩ := zI hM
   refine GS.region (X.q rfl ?_)
   refine X.opR rfl (X.ZJ (f := zG) h_7 (fun _ => rfl) rfl rfl rfl rfl) rfl ?_
   refine X.opR rfl (X.Za h_7 rfl rfl rfl) rfl ?_
   refine X.opW (H' := [.rows 4 [(V.agg [(V.sl (List.map zG l)), (ovl 1 l1), (ovl 2 l2), (ovl 3 l6)])], obl 2 zC l1, obl 1 (fun l => V.fmap (List.map (fun p => zC p.1) l) (List.map (fun p => zJ p.2) l)) l2, obl 1 V.i l6, .rows 5 [(V.agg [(V.i 0), (V.i 0), (V.i 0), (V.i 0), (V.i 0)])]]) rfl rfl rfl rfl (X.q rfl ?_)
   refine X.op0W (H' := [.rows 4 [(V.agg [(V.sl (List.map zG l)), (ovl 1 l1), (ovl 2 l2), (ovl 3 l6)])], obl 2 zC l1, obl 1 (fun l => V.fmap (List.map (fun p => zC p.1) l) (List.map (fun p => zJ p.2) l)) l2, obl 1 V.i l6, .rows 5 [(zG x)]]) rfl rfl rfl (GS.zA (GS.seq ?_))
   obtain ⟨y3, h_8, hM⟩ := zI hM
   refine GS.region (X.q rfl (X.q rfl (X.q rfl ?_)))
   refine X.call (zBL h_8) rfl rfl rfl (.cons (.shut (n := 9) rfl) (.cons (.shut (n := 9) rfl) .nil)) (X.q rfl (X.q rfl (X.q rfl ?_)))
   refine X.opW (H' := [.rows 4 [(V.agg [(V.sl (List.map zG l)), (ovl 1 l1), (ovl 2 l2), (ovl 3 l6)])], obl 2 zC l1, obl 1 (fun l => V.fmap (List.map (fun p => zC p.1) l) (List.map (fun p => zJ p.2) l)) l2, obl 1 V.i l6, .rows 5 [(zG x)], .rows 5 [(V.agg [(V.i 0), (V.i 0), (V.i 0), (V.i 0), (V.i 0)])]]) rfl rfl rfl rfl ?_
   refine X.op0W (H' := [.rows 4 [(V.agg [(V.sl (List.map zG l)), (ovl 1 l1), (ovl 2 l2), (ovl 3 l6)])], obl 2 zC l1, obl 1 (fun l => V.fmap (List.map (fun p => zC p.1) l) (List.map (fun p => zJ p.2) l)) l2, obl 1 V.i l6, .rows 5 [(zG x)], .rows 5 [(zS y3.1)]]) rfl rfl rfl (X.q rfl (X.nq (X.q rfl (GS.zA ?_))))
   refine X.cond rfl (fun h_9 => ?_) (fun h_9 => ?_)
   ·replace hM := za h_9 hM
    obtain ⟨y4, h_10, hM⟩ := zI hM
    obtain ⟨x1, h_11, hM⟩ := zI hM
    refine X.draw (by kernel_rfl) ?_
    iterate 11 refine X.dop rfl rfl rfl rfl (by kernel_rfl) rfl rfl ?_
    refine X.dcallF (zBK h_10) rfl rfl rfl (by kernel_rfl) rfl (m := 9) rfl (.cons (FR.arg (FR.ovl (f := zC) (l := l1) 9 rfl rfl (fun _ => rfl))) (.cons (.shut (n := 9) rfl) .nil)) ?_
    refine X.dop rfl (X.zBx h_11 rfl rfl rfl rfl rfl) rfl rfl (by kernel_rfl) rfl rfl ?_
    refine X.dop0 rfl (X.zBH (b := y4) h_11 rfl rfl rfl rfl rfl rfl rfl) rfl rfl (X.zKc (by kernel_rfl)) rfl ?_
    refine X.dnil ?_
    refine X.norm [(2, (V.sl (List.map zS old))), (9, (V.ptr 0 0 0)), (26, (V.sl (List.map zG l))), (27, (V.i (l.length : Int))), (28, (V.i x2))] ?_ rfl (sr rfl)
    refine GS.endB ?_
    exact X.gc [some 0, some 1, some 2, some 3] (hj_4 (put l6 x2 y4) hM) rfl rfl rfl (ga rfl rfl) (Z0 rfl rfl (je (.cons ⟨9, rfl⟩ (.cons (zl rfl) (.cons (zl rfl) (.cons (QO X.zD2 (zl rfl)) .nil))))) (zn 9 rfl rfl (fun _ => rfl) (zn 9 rfl rfl (fun _ => rfl) (zn 9 rfl rfl (fun _ => rfl) zM))))
   replace hM := zb h_9 hM
   refine GS.skip ?_
   refine GS.endB ?_
   exact X.gc [some 0, some 1, some 2, some 3] (hj_4 l6 hM) rfl rfl rfl (ga rfl rfl) (Z0 rfl rfl (je (.cons ⟨9, rfl⟩ (.cons (zl rfl) (.cons (zl rfl) (.cons (zl rfl) .nil))))) (zn 9 rfl rfl (fun _ => rfl) (zn 9 rfl rfl (fun _ => rfl) (zn 9 rfl rfl (fun _ => rfl) zM))))
  replace hM := zb h_6 hM
  refine GS.exit rfl ?_
  obtain ⟨y_1, hM, hy⟩ := ZV hM
  rw [hr_1 _ hy.symm] at hM
  exact X.gc [some 0, some 1, some 2, some 3] (hj_2 l6 hM) rfl rfl rfl (ga rfl rfl) (Z0 rfl rfl (je (.cons ⟨9, rfl⟩ (.cons (zl rfl) (.cons (zl rfl) (.cons (zl rfl) .nil))))) (zn 9 rfl rfl (fun _ => rfl) (zn 9 rfl rfl (fun _ => rfl) (zn 9 rfl rfl (fun _ => rfl) zM))))
 intro hj_1
 refine X.inl rfl rfl rfl rfl (X.sq ?_)
 refine X.opW rfl rfl rfl rfl (X.q rfl (X.nq (X.q rfl (X.q rfl ?_))))
 refine X.opW rfl rfl rfl rfl ?_
 refine X.opW (H' := [.rows 6 [(zH h)], .rows 6 [(zH h)], .rows 4 [(V.agg [(V.sl (List.map zG l)), V.nil, V.nil, V.nil])], .rows 1 [(V.lit (.pointer none))]]) rfl rfl rfl rfl ?_
 refine X.op0W (H' := [.rows 6 [(zH h)], .rows 6 [(zH h)], .rows 4 [(V.agg [(V.sl (List.map zG l)), V.nil, V.nil, V.nil])], .rows 1 [(V.ptr 2 0 0)]]) rfl rfl rfl (GS.zA (GS.seq (X.sq (X.q rfl ?_))))
 refine X.call (zAy h) rfl rfl rfl (.cons (.shut (n := 9) rfl) .nil) (GS.zA (GS.block ?_))
 refine X.gc [some 1, some 3, some 2] (H' := [.dead, .rows 6 [(zH h)], .rows 1 [(V.ptr 3 0 0)], .rows 4 [(V.agg [(V.sl (List.map zG l)), V.nil, V.nil, V.nil])]]) (K' := [(1, (V.sl (List.map zG l))), (2, (V.ptr 1 0 0)), (5, (V.ptr 2 0 0)), (15, (V.fn 120 [(V.fptr [(zH (zW h))] 0 0)]))]) ?_ rfl rfl rfl (ga rfl rfl) (zBR (gb9 rfl rfl rfl (gb9 rfl rfl rfl (gb9 rfl rfl rfl zM))))
 refine X.range rfl rfl (jm ⟨9, rfl⟩ (jm ⟨9, rfl⟩ (jm ⟨9, rfl⟩ (jm ⟨9, rfl⟩ zEB)))) rfl ?_
 intro R_12 hrn_12 hrK_12 hrp_12 hra_12 hrb_12 hlow_12
 refine X.sq (X.q rfl (X.q rfl ?_))
 refine X.opR rfl (X.lenF rfl rfl rfl) rfl (X.q rfl (GS.zA (GS.block ?_)))
 refine X.gc [none] (X.loop (σ := (Int × (List zF))) (fun v => ⟨[(0, (V.yld 4)), (1, (V.fptr [(zH (zW h))] 0 0)), (8, (V.i (((zW h).Tides).length : Int))), (9, (V.i v.1))], [.dead, .rows 6 [(zH h)], .rows 1 [(V.ptr 3 0 0)], .rows 4 [(V.agg [(V.sl (List.map zG l)), (ovl 5 v.2), V.nil, V.nil])], lr R_12 .ready none, obl 2 zC v.2], 0, none, 29⟩) hM ?_ rfl) rfl rfl rfl (ga rfl rfl) (zBR (gb9 rfl rfl rfl (gb9 rfl rfl rfl (gb9 rfl rfl rfl (jf hlow_12 rfl rfl rfl (gb_pad' rfl zM))))))
 rintro ⟨x7, l16⟩ b_1 hM hc_5 hr_1
 rw [Qn] at hM
 refine X.sq (X.q rfl (GS.zA (GS.seq ?_)))
 refine X.cond rfl (fun h_13 => ?_) (fun h_13 => ?_)
 ·replace hM := za h_13 hM
  refine GS.skip (GS.seq (GS.block (X.sq (X.q rfl (X.q rfl ?_)))))
  refine X.nq (X.q rfl (X.q rfl ?_))
  refine X.opR rfl (X.lenF rfl rfl rfl) rfl (X.q rfl (GS.zA ?_))
  refine X.join (τ := (List zF)) (fun v => YT x7 v = some b_1) (fun v => ⟨[(0, (V.yld 4)), (1, (V.fptr [(zH (zW h))] 0 0)), (8, (V.i (((zW h).Tides).length : Int))), (9, (V.i x7))], [.dead, .rows 6 [(zH h)], .rows 1 [(V.ptr 3 0 0)], .rows 4 [(V.agg [(V.sl (List.map zG l)), (ovl 5 v), V.nil, V.nil])], lr R_12 .ready none, obl 2 zC v], 0, none, 29⟩) ?_ ?_
  ·intro l7 hM
   replace hM : YT x7 l7 = some b_1 := hM
   unfold YT at hM
   refine GS.endB (GS.region ?_)
   refine X.opR rfl (X.addE rfl rfl) rfl (X.q rfl (GS.zA ?_))
   have hE := Option.some.inj hM
   exact X.gc [some 5] (hc_5 (w64 (x7 + 1), l7) hE.symm) rfl rfl rfl (ga rfl rfl) (zBR (gb9 rfl rfl rfl (gb9 rfl rfl rfl (Z0 rfl rfl (je (.cons ⟨9, rfl⟩ (.cons (zl rfl) (.cons ⟨9, rfl⟩ (.cons ⟨9, rfl⟩ .nil))))) (jf hlow_12 rfl rfl rfl (zn 9 rfl rfl (fun _ => rfl) zM))))))
  intro hj_6
  refine GS.block ?_
  refine X.gc [some 5] (X.loop (σ := (Int × (List zF))) (fun v => ⟨[(0, (V.yld 4)), (1, (V.fptr [(zH (zW h))] 0 0)), (3, (V.i x7)), (8, (V.i (((zW h).Tides).length : Int))), (9, (V.i x7)), (13, (V.sl (List.map zU ((zW h).Berths)))), (14, (V.i (((zW h).Berths).length : Int))), (15, (V.i v.1))], [.dead, .rows 6 [(zH h)], .rows 1 [(V.ptr 3 0 0)], .rows 4 [(V.agg [(V.sl (List.map zG l)), (ovl 5 v.2), V.nil, V.nil])], lr R_12 .ready none, obl 2 zC v.2], 0, none, 29⟩) hM ?_ rfl) rfl rfl rfl (ga rfl rfl) (zBR (gb9 rfl rfl rfl (gb9 rfl rfl rfl (Z0 rfl rfl (je (.cons ⟨9, rfl⟩ (.cons (zl rfl) (.cons ⟨9, rfl⟩ (.cons ⟨9, rfl⟩ .nil))))) (jf hlow_12 rfl rfl rfl (zn 9 rfl rfl (fun _ => rfl) zM))))))
  rintro ⟨x4, l9⟩ b_2 hM hc_7 hr_2
  rw [YW] at hM
  refine X.sq (X.q rfl (GS.zA (GS.seq ?_)))
  refine X.cond rfl (fun h_14 => ?_) (fun h_14 => ?_)
  ·replace hM := za h_14 hM
   refine GS.skip (GS.seq (GS.block (GS.seq ?_)))
   obtain ⟨x3, h_15, hM⟩ := zI hM
   refine GS.region ?_
   refine X.opR rfl (X.ZJ (f := zU) h_15 (fun _ => rfl) rfl rfl rfl rfl) rfl ?_
   refine X.opR rfl (X.Za h_15 rfl rfl rfl) rfl ?_
   refine X.opW (H' := [.dead, .rows 6 [(zH h)], .rows 1 [(V.ptr 3 0 0)], .rows 4 [(V.agg [(V.sl (List.map zG l)), (ovl 5 l9), V.nil, V.nil])], lr R_12 .ready none, obl 2 zC l9, .rows 2 [(V.agg [(V.i 0), (V.i 0)])]]) rfl rfl rfl rfl ?_
   refine X.op0W (H' := [.dead, .rows 6 [(zH h)], .rows 1 [(V.ptr 3 0 0)], .rows 4 [(V.agg [(V.sl (List.map zG l)), (ovl 5 l9), V.nil, V.nil])], lr R_12 .ready none, obl 2 zC l9, .rows 2 [(zU x3)]]) rfl rfl rfl (X.nq ?_)
   iterate 6 refine X.q rfl ?_
   refine X.yld hrn_12 hrK_12 hrp_12 hra_12 hrb_12 rfl rfl rfl rfl rfl rfl (GS.region ?_)
   refine X.opW (H' := [.dead, .rows 6 [(zH h)], .rows 1 [(V.ptr 3 0 0)], .rows 4 [(V.agg [(V.sl (List.map zG l)), (ovl 5 l9), V.nil, V.nil])], lr R_12 .ready none, obl 2 zC l9, .rows 2 [(zU x3)], .rows 2 [(V.agg [(V.i 0), (V.i 0)])]]) rfl rfl rfl rfl ?_
   refine X.op0W (H' := [.dead, .rows 6 [(zH h)], .rows 1 [(V.ptr 3 0 0)], .rows 4 [(V.agg [(V.sl (List.map zG l)), (ovl 5 l9), V.nil, V.nil])], lr R_12 .ready none, obl 2 zC l9, .rows 2 [(zU x3)], .rows 2 [(V.agg [(V.i x7), (V.i x3.ID)])]]) rfl rfl rfl (GS.zA ?_)
   refine GS.nil (X.begin' rfl rfl ?_ rfl)
   refine GS.block ?_
   obtain ⟨l8, h_16, hM⟩ := zI hM
   refine X.draw (by kernel_rfl) ?_
   iterate 7 refine X.dop rfl rfl rfl rfl (by kernel_rfl) rfl rfl ?_
   refine X.zHq (f := zC) h_16 (fun _ => rfl) (by rfl) (by rfl) (by rfl) (by rfl) (by rfl) (by rfl) (by rfl) (by rfl) (by rfl) (by rfl) (by rfl) (by exact rfl) (by rfl) (by rfl) (by kernel_rfl) (by rfl) (by rfl) ?_
   iterate 2 refine X.dop rfl rfl rfl rfl (by kernel_rfl) rfl rfl ?_
   refine X.dop0 rfl rfl rfl rfl (by kernel_rfl) rfl ?_
   refine X.dnil ?_
   refine X.norm [] ?_ rfl W.zH3
   refine GS.endB ?_
   refine GS.nil ⟨_, rfl, ?_⟩
   refine X.norm (H' := [.dead, .rows 6 [(zH h)], .rows 1 [(V.ptr 3 0 0)], .rows 4 [(V.agg [(V.sl (List.map zG l)), (V.osl 9 0 (List.length l8)), V.nil, V.nil])], lr R_12 .ready none, .dead, .rows 2 [(zU x3)], .rows 2 [(V.agg [(V.i x7), (V.i x3.ID)])], .rows 2 (List.map zC ([(⟨x7, x3.ID⟩ : zF)])), .rows 2 (List.map zC l8)]) [(0, (V.yld 4)), (1, (V.fptr [(zH (zW h))] 0 0)), (3, (V.i x7)), (8, (V.i (((zW h).Tides).length : Int))), (9, (V.i x7)), (13, (V.sl (List.map zU ((zW h).Berths)))), (14, (V.i (((zW h).Berths).length : Int))), (15, (V.i x4)), (25, (V.b true))] ?_ rfl (sr rfl)
   refine X.q rfl (GS.zA ?_)
   refine GS.zAa rfl (GS.skip ?_)
   refine GS.endB (GS.region ?_)
   refine X.opR rfl (X.addE rfl rfl) rfl (X.q rfl (GS.zA ?_))
   have hE := Option.some.inj hM
   exact X.gc [some 9] (hc_7 (w64 (x4 + 1), l8) hE.symm) rfl rfl rfl (ga rfl rfl) (zBR (gb9 rfl rfl rfl (gb9 rfl rfl rfl (Z0 rfl rfl (je (.cons ⟨9, rfl⟩ (.cons (zAW (jR h_16) rfl) (.cons ⟨9, rfl⟩ (.cons ⟨9, rfl⟩ .nil))))) (jf hlow_12 rfl rfl rfl (gb_obl' 9 (jR h_16) rfl rfl (fun _ => rfl) zM))))))
  replace hM := zb h_14 hM
  refine GS.exit rfl ?_
  obtain ⟨y_2, hM, hy⟩ := ZV hM
  rw [hr_2 _ hy.symm] at hM
  exact X.gc [some 5] (hj_6 l9 hM) rfl rfl rfl (ga rfl rfl) (zBR (gb9 rfl rfl rfl (gb9 rfl rfl rfl (Z0 rfl rfl (je (.cons ⟨9, rfl⟩ (.cons (zl rfl) (.cons ⟨9, rfl⟩ (.cons ⟨9, rfl⟩ .nil))))) (jf hlow_12 rfl rfl rfl (zn 9 rfl rfl (fun _ => rfl) zM))))))
 replace hM := zb h_13 hM
 refine GS.exit rfl ?_
 refine GS.nil ⟨_, _, rfl, rfl, ?_⟩
 refine X.norm (H' := [.dead, .rows 6 [(zH h)], .rows 1 [(V.ptr 3 0 0)], .rows 4 [(V.agg [(V.sl (List.map zG l)), (ovl 5 l16), V.nil, V.nil])], .dead, obl 2 zC l16]) [(1, (V.sl (List.map zG l))), (2, (V.ptr 1 0 0)), (5, (V.ptr 2 0 0)), (15, (V.fn 120 [(V.fptr [(zH (zW h))] 0 0)]))] ?_ rfl (sr rfl)
 refine GS.endB (GS.seq (X.sq (X.q rfl ?_)))
 refine X.opR rfl (X.lenF rfl rfl rfl) rfl (X.q rfl (GS.zA ?_))
 refine X.join (τ := (List (List (zF × zD))) × (List Int)) (fun v => YS l old l16 v.1 v.2 = some b_1) (fun v => ⟨[(5, (V.ptr 1 0 0))], [.dead, .rows 1 [(V.ptr 2 0 0)], .rows 4 [(V.agg [(V.sl (List.map zG l)), (ovl 3 l16), (ovl 4 v.1), (ovl 5 v.2)])], obl 2 zC l16, obl 1 (fun l => V.fmap (List.map (fun p => zC p.1) l) (List.map (fun p => zJ p.2) l)) v.1, obl 1 V.i v.2], 0, none, 61⟩) ?_ ?_
 ·rintro ⟨l10, l11⟩ hM
  replace hM : YS l old l16 l10 l11 = some b_1 := hM
  unfold YS at hM
  refine X.sq (X.q rfl (X.q rfl ?_))
  refine GS.zA ?_
  refine GS.ret ⟨_, rfl, ?_⟩
  refine X.norm (H' := [.dead, .rows 1 [(V.ptr 2 0 0)], .rows 4 [(V.agg [(V.sl (List.map zG l)), (ovl 3 l16), (ovl 4 l10), (ovl 5 l11)])], obl 2 zC l16, obl 1 (fun l => V.fmap (List.map (fun p => zC p.1) l) (List.map (fun p => zJ p.2) l)) l10, obl 1 V.i l11]) [(1, (V.sl (List.map zG l))), (2, (V.sl (List.map zS old))), (25, (V.ptr 2 0 0))] ?_ rfl (sr rfl)
  obtain ⟨y_1, hM, hy⟩ := ZV hM
  rw [hr_1 _ hy.symm] at hM
  exact X.gc [some 2, some 3, some 4, some 5] (hj_1 (l16, l10, l11) hM) rfl rfl rfl (ga rfl rfl) (Z0 rfl rfl (je (.cons ⟨9, rfl⟩ (.cons (zl rfl) (.cons (zl rfl) (.cons (zl rfl) .nil))))) (zn 9 rfl rfl (fun _ => rfl) (zn 9 rfl rfl (fun _ => rfl) (zn 9 rfl rfl (fun _ => rfl) zM))))
 intro hj_8
 refine GS.block ?_
 refine X.gc [some 1, some 2, some 3, some 5, none, none] (X.loop (σ := (Int × (List (List (zF × zD))) × (List Int))) (fun v => ⟨[(2, (V.ptr 1 0 0)), (5, (V.ptr 2 0 0)), (28, (V.sl (List.map zG l))), (29, (V.i (l.length : Int))), (30, (V.i v.1))], [.dead, .rows 6 [(zH h)], .rows 1 [(V.ptr 3 0 0)], .rows 4 [(V.agg [(V.sl (List.map zG l)), (ovl 4 l16), (ovl 5 v.2.1), (ovl 6 v.2.2)])], obl 2 zC l16, obl 1 (fun l => V.fmap (List.map (fun p => zC p.1) l) (List.map (fun p => zJ p.2) l)) v.2.1, obl 1 V.i v.2.2], 0, none, 61⟩) hM ?_ rfl) rfl rfl rfl (ga rfl rfl) (zBR (gb9 rfl rfl rfl (gb9 rfl rfl rfl (Z0 rfl rfl (je (.cons ⟨9, rfl⟩ (.cons (zl rfl) (.cons ⟨9, rfl⟩ (.cons ⟨9, rfl⟩ .nil))))) (zn 9 rfl rfl (fun _ => rfl) (gb_pad' rfl (gb_pad' rfl zM)))))))
 rintro ⟨x6, l14, l15⟩ b_2 hM hc_9 hr_2
 rw [Qm] at hM
 refine X.sq (X.q rfl (GS.zA (GS.seq ?_)))
 refine X.cond rfl (fun h_17 => ?_) (fun h_17 => ?_)
 ·replace hM := za h_17 hM
  refine GS.skip (GS.seq (GS.block (GS.seq ?_)))
  obtain ⟨x5, h_18, hM⟩ := zI hM
  refine GS.region ?_
  refine X.opR rfl (X.ZJ (f := zG) h_18 (fun _ => rfl) rfl rfl rfl rfl) rfl ?_
  refine X.opR rfl (X.Za h_18 rfl rfl rfl) rfl ?_
  refine X.opW (H' := [.dead, .rows 6 [(zH h)], .rows 1 [(V.ptr 3 0 0)], .rows 4 [(V.agg [(V.sl (List.map zG l)), (ovl 4 l16), (ovl 5 l14), (ovl 6 l15)])], obl 2 zC l16, obl 1 (fun l => V.fmap (List.map (fun p => zC p.1) l) (List.map (fun p => zJ p.2) l)) l14, obl 1 V.i l15, .rows 5 [(V.agg [(V.i 0), (V.i 0), (V.i 0), (V.i 0), (V.i 0)])]]) rfl rfl rfl rfl ?_
  refine X.op0W (H' := [.dead, .rows 6 [(zH h)], .rows 1 [(V.ptr 3 0 0)], .rows 4 [(V.agg [(V.sl (List.map zG l)), (ovl 4 l16), (ovl 5 l14), (ovl 6 l15)])], obl 2 zC l16, obl 1 (fun l => V.fmap (List.map (fun p => zC p.1) l) (List.map (fun p => zJ p.2) l)) l14, obl 1 V.i l15, .rows 5 [(zG x5)]]) rfl rfl rfl (GS.zA (GS.seq ?_))
  obtain ⟨y5, h_19, hM⟩ := zI hM
  refine GS.region (X.q rfl (X.q rfl ?_))
  refine X.call (zCW h_19) rfl rfl rfl (.cons (.shut (n := 9) rfl) (.cons (.shut (n := 9) rfl) .nil)) ?_
  iterate 5 refine X.q rfl ?_
  refine GS.zA ?_
  obtain ⟨l12, h_20, hM⟩ := zI hM
  obtain ⟨l13, h_21, hM⟩ := zI hM
  refine X.draw (by kernel_rfl) ?_
  iterate 8 refine X.dop rfl rfl rfl rfl (by kernel_rfl) rfl rfl ?_
  refine X.zHq (f := (fun l => V.fmap (List.map (fun p => zC p.1) l) (List.map (fun p => zJ p.2) l))) h_20 (fun _ => rfl) (by rfl) (by rfl) (by rfl) (by rfl) (by rfl) (by rfl) (by rfl) (by rfl) (by rfl) (by rfl) (by rfl) (by exact rfl) (by rfl) (by rfl) (by kernel_rfl) (by rfl) (by rfl) ?_
  iterate 5 refine X.dop rfl rfl rfl rfl (by kernel_rfl) rfl rfl ?_
  refine X.zHq (f := V.i) h_21 (fun _ => rfl) (by rfl) (by rfl) (by rfl) (by rfl) (by rfl) (by rfl) (by rfl) (by rfl) (by rfl) (by rfl) (by rfl) (by exact rfl) (by rfl) (by rfl) (by kernel_rfl) (by rfl) (by rfl) ?_
  iterate 2 refine X.dop rfl rfl rfl rfl (by kernel_rfl) rfl rfl ?_
  refine X.dop0 rfl rfl rfl rfl (by kernel_rfl) rfl ?_
  iterate 2 refine X.dop rfl rfl rfl rfl (by kernel_rfl) rfl rfl ?_
  refine X.dop0 rfl rfl rfl rfl (by kernel_rfl) rfl ?_
  refine X.dnil ?_
  refine X.norm [(2, (V.ptr 1 0 0)), (5, (V.ptr 2 0 0)), (28, (V.sl (List.map zG l))), (29, (V.i (l.length : Int))), (30, (V.i x6))] ?_ rfl (sr rfl)
  refine GS.endB (GS.region ?_)
  refine X.opR rfl (X.addE rfl rfl) rfl (X.q rfl (GS.zA ?_))
  have hE := Option.some.inj hM
  exact X.gc [some 1, some 2, some 3, some 4, some 9, some 11] (hc_9 (w64 (x6 + 1), l12, l13) hE.symm) rfl rfl rfl (ga rfl rfl) (zBR (gb9 rfl rfl rfl (gb9 rfl rfl rfl (Z0 rfl rfl (je (.cons ⟨9, rfl⟩ (.cons (zl rfl) (.cons (zAW (jR h_20) rfl) (.cons (zAW (jR h_21) rfl) .nil))))) (zn 9 rfl rfl (fun _ => rfl) (gb_obl' 9 (jR h_20) rfl rfl (fun _ => rfl) (gb_obl' 9 (jR h_21) rfl rfl (fun _ => rfl) zM)))))))
 replace hM := zb h_17 hM
 refine GS.exit rfl ?_
 obtain ⟨y_2, hM, hy⟩ := ZV hM
 rw [hr_2 _ hy.symm] at hM
 exact X.gc [some 2, some 3, some 4, some 5, some 6] (hj_8 (l14, l15) hM) rfl rfl rfl (ga rfl rfl) (zBR (gb9 rfl rfl rfl (Z0 rfl rfl (je (.cons ⟨9, rfl⟩ (.cons (zl rfl) (.cons (zl rfl) (.cons (zl rfl) .nil))))) (zn 9 rfl rfl (fun _ => rfl) (zn 9 rfl rfl (fun _ => rfl) (zn 9 rfl rfl (fun _ => rfl) zM))))))
theorem zDC {b : zK} {r : Int} (hM : Jg b = some r) : Ct Tryz.prog 73 [(V.fptr [(zT b)] 0 0)] (V.i r) := by
 refine zg ZR rfl ?_
 unfold Jg at hM
 refine X.sq (X.q rfl (GS.zA (GS.seq ?_)))
 obtain ⟨y, h_1, hM⟩ := zI hM
 refine GS.region (X.q rfl ?_)
 refine X.call (yJ h_1) rfl rfl rfl (.cons (.shut (n := 9) rfl) (.cons (.nil (n := 9) rfl) .nil)) ?_
 iterate 5 refine X.q rfl ?_
 refine X.nq (X.q rfl (GS.zA (GS.seq (X.sq (X.q rfl ?_)))))
 refine X.opR rfl (X.lenF rfl rfl rfl) rfl (X.q rfl (GS.zA ?_))
 refine X.join (τ := Int) (fun v => JY v = some r) (fun v => ⟨[(5, (V.i v))], [], 0, none, 30⟩) ?_ ?_
 ·intro n hM
  replace hM : JY n = some r := hM
  unfold JY at hM
  refine X.sq (X.q rfl (X.q rfl ?_))
  refine GS.zA ?_
  cases hM
  exact GS.ret ⟨_, rfl, ⟨30, rfl⟩⟩
 intro hj_1
 refine GS.block ?_
 refine X.gc [] (X.loop (σ := (Int × Int)) (fun v => ⟨[(0, (V.fptr [(zT b)] 0 0)), (5, (V.i v.1)), (13, (V.sl (List.map V.i y.1))), (14, (V.i (y.1.length : Int))), (15, (V.i v.2))], [], 0, none, 30⟩) hM ?_ rfl) rfl rfl rfl (ga rfl rfl) (zM)
 rintro ⟨n2, x1⟩ b_1 hM hc_2 hr_1
 rw [yM] at hM
 refine X.sq (X.q rfl (GS.zA (GS.seq ?_)))
 refine X.cond rfl (fun h_2 => ?_) (fun h_2 => ?_)
 ·replace hM := za h_2 hM
  refine GS.skip (GS.seq ?_)
  refine X.join (τ := Int) (fun v => jL x1 v = some b_1) (fun v => ⟨[(0, (V.fptr [(zT b)] 0 0)), (5, (V.i v)), (13, (V.sl (List.map V.i y.1))), (14, (V.i (y.1.length : Int))), (15, (V.i x1))], [], 0, none, 30⟩) ?_ ?_
  ·intro n1 hM
   replace hM : jL x1 n1 = some b_1 := hM
   unfold jL at hM
   refine GS.region ?_
   refine X.opR rfl (X.addE rfl rfl) rfl (X.q rfl (GS.zA ?_))
   have hE := Option.some.inj hM
   exact X.gc [] (hc_2 (n1, w64 (x1 + 1)) hE.symm) rfl rfl rfl (ga rfl rfl) (zM)
  intro hj_3
  refine GS.block (GS.seq ?_)
  obtain ⟨x, h_3, hM⟩ := zI hM
  refine GS.region ?_
  refine X.opR rfl (X.ZJ (f := V.i) h_3 (fun _ => rfl) rfl rfl rfl rfl) rfl ?_
  refine X.opR rfl (X.Za h_3 rfl rfl rfl) rfl (X.q rfl (X.nq ?_))
  iterate 5 refine X.q rfl ?_
  refine X.opR rfl (X.lenF rfl rfl rfl) rfl (X.q rfl (GS.zA ?_))
  refine X.cond rfl (fun h_4 => ?_) (fun h_4 => ?_)
  ·replace hM := za h_4 hM
   refine GS.region (X.q rfl ?_)
   refine X.opR rfl (X.addE rfl rfl) rfl (X.q rfl (GS.zA ?_))
   refine GS.endB ?_
   exact X.gc [] (hj_3 (w64 (n2 + 1)) hM) rfl rfl rfl (ga rfl rfl) (zM)
  replace hM := zb h_4 hM
  refine GS.skip ?_
  refine GS.endB ?_
  exact X.gc [] (hj_3 n2 hM) rfl rfl rfl (ga rfl rfl) (zM)
 replace hM := zb h_2 hM
 refine GS.exit rfl ?_
 obtain ⟨y_1, hM, hy⟩ := ZV hM
 rw [hr_1 _ hy.symm] at hM
 exact X.gc [] (hj_1 n2 hM) rfl rfl rfl (ga rfl rfl) (zM)
theorem zG8 {h : zL} {l : (List zN)} {r : Int × Int} (hM : Qu h l = some r) : Ct Tryz.prog 34 [(zH h), (V.sl (List.map zG l))] (V.tup [(V.i r.1), (V.i r.2)]) := by
 refine zg ZR rfl ?_
 unfold Qu at hM
 refine X.sq ?_
 refine X.opW rfl rfl rfl rfl (X.q rfl (X.q rfl ?_))
 refine GS.zA ?_
 iterate 2 refine GS.seq ?_
 obtain ⟨y, h_1, hM⟩ := zI hM
 refine GS.region (X.q rfl (X.q rfl ?_))
 refine X.call (jk h_1) rfl rfl rfl (.cons (.shut (n := 9) rfl) (.cons (.shut (n := 9) rfl) .nil)) (X.q rfl (X.nq (X.q rfl (X.q rfl ?_))))
 refine GS.zA ?_
 refine X.cond rfl (fun h_2 => ?_) (fun h_2 => ?_)
 ·replace hM := za h_2 hM
  refine X.sq (X.q rfl (X.q rfl (X.q rfl ?_)))
  refine GS.zA ?_
  cases hM
  exact GS.ret ⟨_, rfl, ⟨30, rfl⟩⟩
 replace hM := zb h_2 hM
 refine GS.skip (GS.seq ?_)
 obtain ⟨y1, h_3, hM⟩ := zI hM
 obtain ⟨y2, h_4, hM⟩ := zI hM
 refine GS.region (X.q rfl (X.q rfl ?_))
 refine X.call (qp h_3) rfl rfl rfl (.cons (.shut (n := 9) rfl) (.cons (.shut (n := 9) rfl) .nil)) ?_
 refine X.call (zDC h_4) rfl rfl rfl (.cons (.shut (n := 9) rfl) .nil) (X.q rfl (X.q rfl ?_))
 refine GS.zA ?_
 cases hM
 exact GS.ret ⟨_, rfl, ⟨30, rfl⟩⟩
set_option maxHeartbeats 4000000 in
theorem jy {h : zL} {l : (List zN)} {p : (List zP)} {r : Int} (hM : YQ h l p = some r) : Ct Tryz.prog 35 [(zH h), (V.sl (List.map zG l)), (V.sl (List.map zS p))] (V.i r) := by
 refine zg ZR rfl ?_
 unfold YQ at hM
 refine X.sq ?_
 refine X.opW rfl rfl rfl rfl (X.q rfl (GS.zA ?_))
 iterate 2 refine GS.seq ?_
 obtain ⟨y, h_1, hM⟩ := zI hM
 refine GS.region (X.q rfl (X.q rfl ?_))
 refine X.call (jk h_1) rfl rfl rfl (.cons (.shut (n := 9) rfl) (.cons (.shut (n := 9) rfl) .nil)) (X.q rfl (X.nq (X.q rfl (X.q rfl ?_))))
 refine GS.zA ?_
 refine X.cond rfl (fun h_2 => ?_) (fun h_2 => ?_)
 ·replace hM := za h_2 hM
  refine X.sq (X.q rfl (X.q rfl ?_))
  refine GS.zA ?_
  cases hM
  exact GS.ret ⟨_, rfl, ⟨30, rfl⟩⟩
 replace hM := zb h_2 hM
 refine GS.skip (X.sq (X.q rfl (X.nq ?_)))
 refine X.opW rfl rfl rfl rfl (X.q rfl (GS.zA (GS.seq (X.sq (X.q rfl ?_)))))
 refine X.opR rfl (X.lenF rfl rfl rfl) rfl (X.q rfl (GS.zA ?_))
 refine X.join (τ := Unit) (fun v => Jq = some r) (fun v => ⟨[], [], 0, none, 79⟩) ?_ ?_
 ·intro _ hM
  replace hM : Jq = some r := hM
  unfold Jq at hM
  refine X.sq (X.q rfl (GS.zA ?_))
  cases hM
  exact GS.ret ⟨_, rfl, ⟨30, rfl⟩⟩
 intro hj_1
 refine GS.block ?_
 refine X.gc [some 0, some 1] (X.loop (σ := (Int × Int × (List (zF × Bool)))) (fun v => ⟨[(1, (V.sl (List.map zG l))), (3, (V.ptr 0 0 0)), (8, (V.i v.1)), (9, (V.map 1)), (24, (V.sl (List.map zS p))), (25, (V.i (p.length : Int))), (26, (V.i v.2.1))], [.rows 6 [(zH h)], .map (List.map (fun p : zF × Bool => zC p.1) v.2.2) (List.map (fun p : zF × Bool => V.b p.2) v.2.2)], 0, none, 79⟩) hM ?_ rfl) rfl rfl rfl (ga rfl rfl) (gb9 rfl rfl rfl (X.ZY 9 rfl rfl (fun _ => rfl) (fun _ => rfl) zM))
 rintro ⟨last, x2, m⟩ b_1 hM hc_2 hr_1
 rw [Jr] at hM
 refine X.sq (X.q rfl (GS.zA (GS.seq ?_)))
 refine X.cond rfl (fun h_3 => ?_) (fun h_3 => ?_)
 ·replace hM := za h_3 hM
  refine GS.skip (GS.seq (GS.block (GS.seq ?_)))
  obtain ⟨x, h_4, hM⟩ := zI hM
  refine GS.region ?_
  refine X.opR rfl (X.ZJ (f := zS) h_4 (fun _ => rfl) rfl rfl rfl rfl) rfl ?_
  refine X.opR rfl (X.Za h_4 rfl rfl rfl) rfl ?_
  refine X.opW rfl rfl rfl rfl ?_
  refine X.op0W rfl rfl rfl (GS.zA (GS.seq ?_))
  obtain ⟨y1, h_5, hM⟩ := zI hM
  refine GS.region (X.q rfl (X.q rfl (X.q rfl ?_)))
  refine X.call (Zv h_5) rfl rfl rfl (.cons (.shut (n := 9) rfl) (.cons (.shut (n := 9) rfl) (.cons (.shut (n := 9) rfl) .nil))) (X.q rfl (GS.zA (GS.seq ?_)))
  obtain ⟨y2, h_6, hM⟩ := zI hM
  refine GS.region (X.q rfl (X.q rfl (X.q rfl ?_)))
  refine X.call (zBM h_6) rfl rfl rfl (.cons (.shut (n := 9) rfl) (.cons (.shut (n := 9) rfl) .nil)) (X.q rfl (X.q rfl (X.q rfl ?_)))
  refine X.opW (H' := [.rows 6 [(zH h)], .map (List.map (fun p : zF × Bool => zC p.1) m) (List.map (fun p : zF × Bool => V.b p.2) m), .rows 5 [(zS x)], .rows 2 [(V.agg [(V.i 0), (V.i 0)])]]) rfl rfl rfl rfl ?_
  refine X.op0W (H' := [.rows 6 [(zH h)], .map (List.map (fun p : zF × Bool => zC p.1) m) (List.map (fun p : zF × Bool => V.b p.2) m), .rows 5 [(zS x)], .rows 2 [(zU y2.1)]]) rfl rfl rfl (X.q rfl (GS.zA (GS.seq (X.sq ?_))))
  refine X.mid [(1, (V.sl (List.map zG l))), (3, (V.ptr 0 0 0)), (9, (V.map 1)), (11, (V.ptr 2 0 0)), (12, (V.i y1)), (13, (V.ptr 3 0 0)), (24, (V.sl (List.map zS p))), (25, (V.i (p.length : Int))), (26, (V.i x2)), (53, (V.b (((decide (y1 ≤ last)) || (!y2.2)) || ((ZH x.Slot m).getD false))))] ?_ ?_
  ·intro hg
   refine X.split (decide (y1 ≤ last)) (fun h_7 => ?_) (fun h_7 => ?_)
   ·iterate 4 refine X.q rfl ?_
    iterate 2 refine X.off (X.ZT rfl rfl rfl h_7) rfl ?_
    refine X.opR rfl (X.zf (y := !y2.2) rfl h_7 rfl) rfl (X.q rfl ?_)
    iterate 4 refine X.off (X.ZT rfl rfl rfl (X.zV h_7)) rfl ?_
    refine X.opR rfl (X.zf (y := ((ZH x.Slot m).getD false)) rfl (X.zV h_7) rfl) rfl (GS.zA ?_)
    exact X.norm _ hg rfl (sr rfl)
   refine X.split (((decide (y1 ≤ last)) || (!y2.2))) (fun h_8 => ?_) (fun h_8 => ?_)
   ·iterate 4 refine X.q rfl ?_
    iterate 2 refine X.opR (X.on_f rfl rfl rfl h_7) rfl rfl ?_
    refine X.opR rfl (X.ze (y := !y2.2) rfl h_7 rfl) rfl (X.q rfl ?_)
    iterate 4 refine X.off (X.ZT rfl rfl rfl h_8) rfl ?_
    refine X.opR rfl (X.zf (y := ((ZH x.Slot m).getD false)) rfl h_8 rfl) rfl (GS.zA ?_)
    exact X.norm _ hg rfl (sr rfl)
   iterate 4 refine X.q rfl ?_
   iterate 2 refine X.opR (X.on_f rfl rfl rfl h_7) rfl rfl ?_
   refine X.opR rfl (X.ze (y := !y2.2) rfl h_7 rfl) rfl (X.q rfl ?_)
   iterate 3 refine X.opR (X.on_f rfl rfl rfl h_8) rfl rfl ?_
   refine X.opR (X.on_f rfl rfl rfl h_8) (X.lookW (f := zC) (g := V.b) (k := x.Slot) (l := m) (z := false) (ok := false) J5 rfl rfl rfl rfl rfl rfl) rfl ?_
   refine X.opR rfl (X.ze (y := ((ZH x.Slot m).getD false)) rfl h_8 rfl) rfl (GS.zA ?_)
   exact X.norm _ hg rfl (sr rfl)
  refine X.cond rfl (fun h_9 => ?_) (fun h_9 => ?_)
  ·replace hM := za h_9 hM
   refine X.sq (X.q rfl (GS.zA ?_))
   have hE := Option.some.inj hM
   replace hE := hr_1 _ hE.symm
   subst hE
   exact GS.ret ⟨_, rfl, ⟨30, rfl⟩⟩
  replace hM := zb h_9 hM
  refine GS.skip ?_
  iterate 2 refine GS.seq ?_
  obtain ⟨x1, h_10, hM⟩ := zI hM
  obtain ⟨y3, h_11, hM⟩ := zI hM
  refine X.draw (by kernel_rfl) ?_
  iterate 3 refine X.dop rfl rfl rfl rfl (by kernel_rfl) rfl rfl ?_
  refine X.dop rfl (X.ZJ (f := zG) h_10 (fun _ => rfl) rfl rfl rfl rfl) rfl rfl (by kernel_rfl) rfl rfl ?_
  refine X.dop rfl (X.Za h_10 rfl rfl rfl) rfl rfl (by kernel_rfl) rfl rfl ?_
  iterate 3 refine X.dop rfl rfl rfl rfl (by kernel_rfl) rfl rfl ?_
  refine X.dcall (qo h_11) rfl rfl rfl (by kernel_rfl) rfl (.cons (.shut (n := 9) rfl) (.cons (.shut (n := 9) rfl) (.cons (.shut (n := 9) rfl) (.cons (.shut (n := 9) rfl) .nil)))) ?_
  iterate 4 refine X.dop rfl rfl rfl rfl (by kernel_rfl) rfl rfl ?_
  refine X.dop0 rfl rfl rfl rfl (by kernel_rfl) rfl ?_
  refine X.dop rfl rfl rfl rfl (by kernel_rfl) rfl rfl ?_
  refine X.dnil ?_
  refine X.norm [(1, (V.sl (List.map zG l))), (3, (V.ptr 0 0 0)), (9, (V.map 1)), (11, (V.ptr 2 0 0)), (12, (V.i y1)), (15, (V.ptr 4 0 0)), (16, (V.b y3.2)), (24, (V.sl (List.map zS p))), (25, (V.i (p.length : Int))), (26, (V.i x2))] ?_ rfl (sr rfl)
  refine X.sq ?_
  refine X.mid [(1, (V.sl (List.map zG l))), (3, (V.ptr 0 0 0)), (9, (V.map 1)), (11, (V.ptr 2 0 0)), (12, (V.i y1)), (24, (V.sl (List.map zS p))), (25, (V.i (p.length : Int))), (26, (V.i x2)), (73, (V.b ((!y3.2) || (!decide (y3.1 = x.Span)))))] ?_ ?_
  ·intro hg
   refine X.split (!y3.2) (fun h_12 => ?_) (fun h_12 => ?_)
   ·iterate 3 refine X.q rfl ?_
    iterate 4 refine X.off (X.ZT rfl rfl rfl h_12) rfl ?_
    refine X.opR rfl (X.zf (y := !decide (y3.1 = x.Span)) rfl h_12 rfl) rfl (GS.zA ?_)
    exact X.norm _ hg rfl (sr rfl)
   iterate 3 refine X.q rfl ?_
   iterate 3 refine X.opR (X.on_f rfl rfl rfl h_12) rfl rfl ?_
   refine X.opR (X.on_f rfl rfl rfl h_12) (X.neqE (zCq y3.1 x.Span) rfl rfl) rfl ?_
   refine X.opR rfl (X.ze (y := !decide (y3.1 = x.Span)) rfl h_12 rfl) rfl (GS.zA ?_)
   exact X.norm _ hg rfl (sr rfl)
  refine X.cond rfl (fun h_13 => ?_) (fun h_13 => ?_)
  ·replace hM := za h_13 hM
   refine X.sq (X.q rfl (GS.zA ?_))
   have hE := Option.some.inj hM
   replace hE := hr_1 _ hE.symm
   subst hE
   exact GS.ret ⟨_, rfl, ⟨30, rfl⟩⟩
  replace hM := zb h_13 hM
  refine GS.skip (X.sq (X.q rfl (X.q rfl ?_)))
  refine X.mq (X.q rfl (X.q rfl (X.q rfl ?_)))
  refine X.op0W (H' := [.rows 6 [(zH h)], .map (List.map (fun p : zF × Bool => zC p.1) (putM posE m x.Slot true)) (List.map (fun p : zF × Bool => V.b p.2) (putM posE m x.Slot true)), .rows 5 [(zS x)], .rows 2 [(zU y2.1)], .rows 2 [(zJ y3.1)]]) rfl (X.putW (f := zC) (g := V.b) (pos := posE) (k := x.Slot) (v := true) (l := m) J5 (fun l => (X.zHf _ _).trans (List.length_map ..)) rfl rfl rfl rfl rfl rfl rfl) rfl (GS.zA ?_)
  refine GS.endB (GS.region ?_)
  refine X.opR rfl (X.addE rfl rfl) rfl (X.q rfl (GS.zA ?_))
  have hE := Option.some.inj hM
  exact X.gc [some 0, some 1] (hc_2 (y1, w64 (x2 + 1), (putM posE m x.Slot true)) hE.symm) rfl rfl rfl (ga rfl rfl) (gb9 rfl rfl rfl (X.ZY 9 rfl rfl (fun _ => rfl) (fun _ => rfl) zM))
 replace hM := zb h_3 hM
 refine GS.exit rfl ?_
 obtain ⟨y_1, hM, hy⟩ := ZV hM
 rw [hr_1 _ hy.symm] at hM
 exact X.gc [] (hj_1 () hM) rfl rfl rfl (yD) (zM)
theorem Qq {a : (List zP)} {b : (List zP)} {r : Bool} (hM : Ju a b = some r) : Ct Tryz.prog 36 [(V.sl (List.map zS a)), (V.sl (List.map zS b))] (V.b r) := by
 refine zg ZR rfl ?_
 unfold Ju at hM
 refine X.sq (X.q rfl (GS.zA (GS.seq (X.sq (X.q rfl ?_)))))
 refine X.opR rfl (X.lenF rfl rfl rfl) rfl (X.q rfl ?_)
 refine X.opR rfl (X.lenF rfl rfl rfl) rfl (X.q rfl (GS.zA ?_))
 refine X.cond rfl (fun h_1 => ?_) (fun h_1 => ?_)
 ·replace hM := za h_1 hM
  refine X.sq (X.q rfl (GS.zA ?_))
  cases hM
  exact GS.ret ⟨_, rfl, ⟨30, rfl⟩⟩
 replace hM := zb h_1 hM
 refine GS.skip (GS.seq (X.sq (X.q rfl (GS.zA ?_))))
 refine X.join (τ := Unit) (fun v => yu = some r) (fun v => ⟨[], [], 0, none, 26⟩) ?_ ?_
 ·intro _ hM
  replace hM : yu = some r := hM
  unfold yu at hM
  refine X.sq (X.q rfl (GS.zA ?_))
  cases hM
  exact GS.ret ⟨_, rfl, ⟨30, rfl⟩⟩
 intro hj_1
 refine GS.block ?_
 refine X.gc [] (X.loop (σ := Int) (fun v => ⟨[(0, (V.sl (List.map zS a))), (1, (V.sl (List.map zS b))), (5, (V.i v))], [], 0, none, 26⟩) hM ?_ rfl) rfl rfl rfl (ga rfl rfl) (zM)
 intro i b_1 hM hc_2 hr_1
 rw [yw] at hM
 refine GS.seq (X.sq (X.q rfl (X.q rfl ?_)))
 refine X.opR rfl (X.lenF rfl rfl rfl) rfl (X.q rfl (GS.zA ?_))
 refine X.cond rfl (fun h_2 => ?_) (fun h_2 => ?_)
 ·replace hM := za h_2 hM
  refine GS.skip (GS.seq (GS.block (GS.seq ?_)))
  obtain ⟨x, h_3, hM⟩ := zI hM
  obtain ⟨x1, h_4, hM⟩ := zI hM
  refine X.drawc (by kernel_rfl) rfl ?_
  iterate 2 refine X.cop rfl rfl rfl rfl ?_
  refine X.cop rfl (X.ZJ (f := zS) h_3 (fun _ => rfl) rfl rfl rfl rfl) rfl rfl ?_
  refine X.cop rfl (X.Za h_3 rfl rfl rfl) rfl rfl ?_
  iterate 2 refine X.cop rfl rfl rfl rfl ?_
  refine X.cop rfl (X.ZJ (f := zS) h_4 (fun _ => rfl) rfl rfl rfl rfl) rfl rfl ?_
  refine X.cop rfl (X.Za h_4 rfl rfl rfl) rfl rfl ?_
  refine X.cop rfl (X.neqE (Q3 x x1) rfl rfl) rfl rfl ?_
  refine X.cnil ?_
  refine X.norm [(0, (V.sl (List.map zS a))), (1, (V.sl (List.map zS b))), (5, (V.i i)), (25, (V.b (!decide (x = x1))))] ?_ rfl (sr rfl)
  refine X.cond rfl (fun h_5 => ?_) (fun h_5 => ?_)
  ·replace hM := za h_5 hM
   refine X.sq (X.q rfl (GS.zA ?_))
   have hE := Option.some.inj hM
   replace hE := hr_1 _ hE.symm
   subst hE
   exact GS.ret ⟨_, rfl, ⟨30, rfl⟩⟩
  replace hM := zb h_5 hM
  refine GS.skip ?_
  refine GS.endB (GS.region (X.q rfl ?_))
  refine X.opR rfl (X.addE rfl rfl) rfl (X.q rfl (GS.zA ?_))
  have hE := Option.some.inj hM
  exact X.gc [] (hc_2 (w64 (i + 1)) hE.symm) rfl rfl rfl (ga rfl rfl) (zM)
 replace hM := zb h_2 hM
 refine GS.exit rfl ?_
 obtain ⟨y_1, hM, hy⟩ := ZV hM
 rw [hr_1 _ hy.symm] at hM
 exact X.gc [] (hj_1 () hM) rfl rfl rfl (yD) (zM)
set_option maxHeartbeats 4000000 in
theorem zEt {old : (List zP)} {now : (List zP)} {r : (List Int)} (hM : Qh old now = some r) : Ct Tryz.prog 80 [(V.sl (List.map zS old)), (V.sl (List.map zS now))] (V.sl (List.map V.i r)) := by
 refine zg ZR rfl ?_
 unfold Qh at hM
 refine X.sq (X.q rfl (X.nq (X.q rfl (GS.zA (GS.seq (X.sq (X.q rfl ?_)))))))
 refine X.opR rfl (X.lenF rfl rfl rfl) rfl (X.q rfl (GS.zA ?_))
 refine X.join (τ := (List Int)) (fun v => Jl v = some r) (fun v => ⟨[(5, (ovl 0 v))], [obl 1 V.i v], 0, none, 51⟩) ?_ ?_
 ·intro l hM
  replace hM : Jl l = some r := hM
  unfold Jl at hM
  refine GS.seq ?_
  obtain ⟨l1, h_1, hM⟩ := zI hM
  refine GS.region (X.q rfl ?_)
  refine X.norm [(5, (ovl 0 l)), (47, (ovl 0 l))] ?_ rfl (sr rfl)
  refine X.sortInt (z := true) h_1 zLa zIm (fun _ _ _ h => h) (K' := [(5, (ovl 0 l1)), (47, (ovl 0 l1))]) (H' := [obl 1 V.i l1]) rfl rfl rfl rfl rfl rfl ?_ ?_ ?_
  ·first | rfl | rw [X.zBc (zAE h_1)] | simp only [ovl, X.zBc (zAE h_1)] | simp only [zAE h_1]
  ·first | rfl | (simp only [hput]; rfl) | (simp only [ovl, obl]; rw [X.zBc (zAE h_1)] <;> rfl)
  refine X.nq (X.q rfl ?_)
  refine X.joinO (τ := (List Int)) (fun v => JB v = some r) (fun v => ⟨[(50, (V.sl (List.map V.i v)))], [], 0, none, 51⟩) ?_ ?_
  ·intro x hM
   replace hM : JB x = some r := hM
   unfold JB at hM
   refine X.q rfl (GS.zA ?_)
   cases hM
   exact GS.ret ⟨_, rfl, ⟨30, rfl⟩⟩
  intro hj_2
  refine X.inl rfl rfl rfl rfl (X.sq (X.q rfl (GS.zA (GS.seq (X.sq (X.q rfl ?_))))))
  refine X.opR rfl (X.lenN (l := l1) rfl rfl rfl) rfl (X.q rfl (GS.zA ?_))
  refine X.cond rfl (fun h_2 => ?_) (fun h_2 => ?_)
  ·replace hM := za h_2 hM
   refine X.sq (X.q rfl (X.q rfl ?_))
   refine GS.zA ?_
   refine GS.ret ⟨_, rfl, ?_⟩
   refine X.norm (H' := [obl 1 V.i l1]) [(50, (ovl 0 l1))] ?_ rfl (sr rfl)
   refine X.zCl (z := true) (f := V.i) (l := l1) (es := 1) 50 rfl rfl rfl rfl (fun _ => rfl) ?_
   exact X.gc [] (hj_2 l1 hM) rfl rfl rfl (ga rfl rfl) (zM)
  replace hM := zb h_2 hM
  refine GS.skip (GS.seq (X.sq (X.q rfl (GS.zA ?_))))
  refine X.join (τ := Unit) (fun v => QJ l1 = some r) (fun v => ⟨[(0, (ovl 0 l1))], [obl 1 V.i l1], 0, none, 61⟩) ?_ ?_
  ·intro _ hM
   replace hM : QJ l1 = some r := hM
   unfold QJ at hM
   refine X.sq (X.q rfl (X.q rfl ?_))
   refine GS.zA ?_
   refine GS.ret ⟨_, rfl, ?_⟩
   refine X.norm (H' := [obl 1 V.i l1]) [(50, (ovl 0 l1))] ?_ rfl (sr rfl)
   refine X.zCl (z := true) (f := V.i) (l := l1) (es := 1) 50 rfl rfl rfl rfl (fun _ => rfl) ?_
   exact X.gc [] (hj_2 l1 hM) rfl rfl rfl (ga rfl rfl) (zM)
  intro hj_3
  refine GS.block ?_
  refine X.gc [] (X.loop (σ := Int) (fun v => ⟨[(0, (ovl 0 l1)), (3, (V.i v))], [obl 1 V.i l1], 0, none, 61⟩) hM ?_ rfl) rfl rfl rfl (zO rfl (zl rfl) (ga rfl rfl)) (zn 9 rfl rfl (fun _ => rfl) zM)
  intro k3 b_1 hM hc_4 hr_1
  rw [QM] at hM
  refine GS.seq (X.sq (X.q rfl (X.q rfl ?_)))
  refine X.opR rfl (X.lenN (l := l1) rfl rfl rfl) rfl (X.q rfl (GS.zA ?_))
  refine X.cond rfl (fun h_3 => ?_) (fun h_3 => ?_)
  ·replace hM := za h_3 hM
   refine GS.skip (GS.seq (GS.block (GS.seq ?_)))
   obtain ⟨x1, h_4, hM⟩ := zI hM
   obtain ⟨x2, h_5, hM⟩ := zI hM
   refine X.drawc (by kernel_rfl) rfl ?_
   iterate 2 refine X.cop rfl rfl rfl rfl ?_
   refine X.cop rfl (X.zBx h_4 rfl rfl rfl rfl rfl) rfl rfl ?_
   refine X.cop rfl (X.zGV h_4 rfl rfl rfl rfl) rfl rfl ?_
   iterate 2 refine X.cop rfl rfl rfl rfl ?_
   refine X.cop rfl (X.subE rfl rfl) rfl rfl ?_
   refine X.cop rfl (X.zBx h_5 rfl rfl rfl rfl rfl) rfl rfl ?_
   refine X.cop rfl (X.zGV h_5 rfl rfl rfl rfl) rfl rfl ?_
   refine X.cop rfl rfl rfl rfl ?_
   refine X.cnil ?_
   refine X.norm [(0, (ovl 0 l1)), (3, (V.i k3)), (25, (V.b (decide (x1 = x2))))] ?_ rfl (sr rfl)
   refine X.cond rfl (fun h_6 => ?_) (fun h_6 => ?_)
   ·replace hM := za h_6 hM
    refine GS.seq ?_
    obtain ⟨a, h_7, hM⟩ := zI hM
    refine GS.region (X.q rfl (X.q rfl ?_))
    refine X.opR rfl (X.sliceQN (f := V.i) (l := l1) h_7 rfl rfl rfl rfl rfl rfl (X.zB4 rfl)) rfl (X.q rfl (GS.zA (GS.seq (X.sq (X.q rfl (GS.zA ?_))))))
    refine X.join (τ := Int × (List Int)) (fun v => yc v.1 v.2 = some b_1) (fun v => ⟨[(0, (ovl 0 v.2)), (3, (V.i v.1))], [obl 1 V.i v.2], 0, none, 61⟩) ?_ ?_
    ·rintro ⟨k, l2⟩ hM
     replace hM : yc k l2 = some b_1 := hM
     unfold yc at hM
     refine GS.seq ?_
     obtain ⟨l3, h_8, hM⟩ := zI hM
     obtain ⟨l4, h_9, hM⟩ := zI hM
     refine GS.region (X.q rfl (X.q rfl ?_))
     refine X.opR rfl (X.zLd (z := true) (f := V.i) (l := l2) h_8 rfl rfl rfl rfl rfl rfl (X.zB4 rfl) rfl) rfl ?_
     refine X.clearU (f := V.i) (l := l2) (l' := l4) (H' := [obl 1 V.i l4]) 0 h_9 h_8 rfl rfl rfl rfl rfl rfl rfl rfl rfl rfl rfl (GS.zA (GS.seq ?_))
     obtain ⟨l5, h_10, hM⟩ := zI hM
     refine GS.region (X.q rfl (X.q rfl ?_))
     refine X.opR rfl (X.zLd (z := true) (f := V.i) (l := l4) h_10 rfl rfl rfl rfl rfl rfl rfl (X.zB4 rfl)) rfl (X.q rfl (GS.zA ?_))
     refine GS.ret ⟨_, rfl, ?_⟩
     refine X.norm (H' := [obl 1 V.i l4]) [(50, (ovs true 0 l4 l5 0))] ?_ rfl (sr rfl)
     refine X.zLJ (z := true) (f := V.i) (l := l4) (r := l5) 50 h_10 rfl rfl rfl rfl (fun _ => rfl) ?_
     obtain ⟨y_1, hM, hy⟩ := ZV hM
     rw [hr_1 _ hy.symm] at hM
     exact X.gc [] (hj_2 l5 hM) rfl rfl rfl (ga rfl rfl) (zM)
    intro hj_5
    refine GS.block ?_
    refine X.gc [] (X.loop (σ := (Int × Int × (List Int))) (fun v => ⟨[(0, (ovl 0 v.2.2)), (3, (V.i v.1)), (4, (oqv 0 v.2.2 a)), (5, (V.i v.2.1))], [obl 1 V.i v.2.2], 0, none, 61⟩) hM ?_ rfl) rfl rfl rfl (zO rfl (zl rfl) (ga rfl rfl)) (zn 9 rfl rfl (fun _ => rfl) zM)
    rintro ⟨k2, k21, l7⟩ b_2 hM hc_6 hr_2
    rw [QL] at hM
    refine GS.seq (X.sq (X.q rfl (X.q rfl ?_)))
    refine X.opR rfl (X.lenQ rfl rfl rfl) rfl (X.q rfl (GS.zA ?_))
    refine X.cond rfl (fun h_11 => ?_) (fun h_11 => ?_)
    ·replace hM := za h_11 hM
     refine GS.skip (GS.seq ?_)
     refine X.join (τ := Int × (List Int)) (fun v => Jk k21 v.1 v.2 = some b_2) (fun v => ⟨[(0, (ovl 0 v.2)), (3, (V.i v.1)), (4, (oqv 0 v.2 a)), (5, (V.i k21))], [obl 1 V.i v.2], 0, none, 61⟩) ?_ ?_
     ·rintro ⟨k1, l6⟩ hM
      replace hM : Jk k21 k1 l6 = some b_2 := hM
      unfold Jk at hM
      refine GS.region (X.q rfl ?_)
      refine X.opR rfl (X.addE rfl rfl) rfl (X.q rfl (GS.zA ?_))
      have hE := Option.some.inj hM
      exact X.gc [] (hc_6 (k1, w64 (k21 + 1), l6) hE.symm) rfl rfl rfl (zO rfl (zl rfl) (ga rfl rfl)) (zn 9 rfl rfl (fun _ => rfl) zM)
     intro hj_7
     refine GS.block (GS.seq ?_)
     obtain ⟨x3, h_12, hM⟩ := zI hM
     obtain ⟨x4, h_13, hM⟩ := zI hM
     refine X.drawc (by kernel_rfl) rfl ?_
     iterate 2 refine X.cop rfl rfl rfl rfl ?_
     refine X.cop rfl (X.zIO (f := V.i) h_12 rfl rfl rfl rfl rfl) rfl rfl ?_
     refine X.cop rfl (X.zGV (X.zIM h_12) rfl rfl rfl rfl) rfl rfl ?_
     iterate 2 refine X.cop rfl rfl rfl rfl ?_
     refine X.cop rfl (X.subE rfl rfl) rfl rfl ?_
     refine X.cop rfl (X.zIO (f := V.i) h_13 rfl rfl rfl rfl rfl) rfl rfl ?_
     refine X.cop rfl (X.zGV (X.zIM h_13) rfl rfl rfl rfl) rfl rfl ?_
     refine X.cop rfl rfl rfl rfl ?_
     refine X.cnil ?_
     refine X.norm [(0, (ovl 0 l7)), (3, (V.i k2)), (4, (oqv 0 l7 a)), (5, (V.i k21)), (44, (V.b (!decide (x3 = x4))))] ?_ rfl (sr rfl)
     refine X.cond rfl (fun h_14 => ?_) (fun h_14 => ?_)
     ·replace hM := za h_14 hM
      refine GS.seq ?_
      obtain ⟨x5, h_15, hM⟩ := zI hM
      obtain ⟨x6, h_16, hM⟩ := zI hM
      refine GS.region ?_
      iterate 4 refine X.q rfl ?_
      refine X.opR rfl (X.zIO (f := V.i) h_15 rfl rfl rfl rfl rfl) rfl ?_
      refine X.opR rfl (X.zGV (X.zIM h_15) rfl rfl rfl rfl) rfl ?_
      refine X.opR rfl (X.zBx h_16 rfl rfl rfl rfl rfl) rfl ?_
      refine X.op0W rfl (X.zBH (b := x5) h_16 rfl rfl rfl rfl rfl rfl rfl) rfl (X.mq (X.q rfl ?_))
      refine X.opR rfl (X.addE rfl rfl) rfl (X.q rfl (GS.zA ?_))
      refine GS.endB ?_
      exact X.gc [] (hj_7 (w64 (k2 + 1), (put l7 k2 x5)) hM) rfl rfl rfl (zO rfl (QO X.zD2 (zl rfl)) (zO rfl ⟨9, rfl⟩ (zO rfl (QO X.oqv_put ⟨9, rfl⟩) (ga rfl rfl)))) (zn 9 rfl rfl (fun _ => rfl) zM)
     replace hM := zb h_14 hM
     refine GS.skip ?_
     refine GS.endB ?_
     exact X.gc [] (hj_7 (k2, l7) hM) rfl rfl rfl (zO rfl (zl rfl) (ga rfl rfl)) (zn 9 rfl rfl (fun _ => rfl) zM)
    replace hM := zb h_11 hM
    refine GS.exit rfl ?_
    obtain ⟨y_2, hM, hy⟩ := ZV hM
    rw [hr_2 _ hy.symm] at hM
    exact X.gc [] (hj_5 (k2, l7) hM) rfl rfl rfl (zO rfl (zl rfl) (ga rfl rfl)) (zn 9 rfl rfl (fun _ => rfl) zM)
   replace hM := zb h_6 hM
   refine GS.skip ?_
   refine GS.endB (GS.region (X.q rfl ?_))
   refine X.opR rfl (X.addE rfl rfl) rfl (X.q rfl (GS.zA ?_))
   have hE := Option.some.inj hM
   exact X.gc [] (hc_4 (w64 (k3 + 1)) hE.symm) rfl rfl rfl (zO rfl (zl rfl) (ga rfl rfl)) (zn 9 rfl rfl (fun _ => rfl) zM)
  replace hM := zb h_3 hM
  refine GS.exit rfl ?_
  obtain ⟨y_1, hM, hy⟩ := ZV hM
  rw [hr_1 _ hy.symm] at hM
  exact X.gc [] (hj_3 () hM) rfl rfl rfl (zO rfl (zl rfl) yD) (zn 9 rfl rfl (fun _ => rfl) zM)
 intro hj_1
 refine GS.block ?_
 refine X.gc [none] (X.loop (σ := (Int × (List Int))) (fun v => ⟨[(0, (V.sl (List.map zS old))), (1, (V.sl (List.map zS now))), (5, (ovl 0 v.2)), (12, (V.sl (List.map zS old))), (13, (V.i (old.length : Int))), (14, (V.i v.1))], [obl 1 V.i v.2], 0, none, 51⟩) hM ?_ rfl) rfl rfl rfl (ga rfl rfl) (gb_pad' rfl zM)
 rintro ⟨x8, l10⟩ b_1 hM hc_8 hr_1
 rw [QK] at hM
 refine X.sq (X.q rfl (GS.zA (GS.seq ?_)))
 refine X.cond rfl (fun h_17 => ?_) (fun h_17 => ?_)
 ·replace hM := za h_17 hM
  refine GS.skip (GS.seq ?_)
  refine X.join (τ := (List Int)) (fun v => Jj x8 v = some b_1) (fun v => ⟨[(0, (V.sl (List.map zS old))), (1, (V.sl (List.map zS now))), (5, (ovl 0 v)), (12, (V.sl (List.map zS old))), (13, (V.i (old.length : Int))), (14, (V.i x8))], [obl 1 V.i v], 0, none, 51⟩) ?_ ?_
  ·intro l8 hM
   replace hM : Jj x8 l8 = some b_1 := hM
   unfold Jj at hM
   refine GS.region ?_
   refine X.opR rfl (X.addE rfl rfl) rfl (X.q rfl (GS.zA ?_))
   have hE := Option.some.inj hM
   exact X.gc [some 0] (hc_8 (w64 (x8 + 1), l8) hE.symm) rfl rfl rfl (zO rfl ⟨9, rfl⟩ (zO rfl ⟨9, rfl⟩ (zO rfl (zl rfl) (ga rfl rfl)))) (zn 9 rfl rfl (fun _ => rfl) zM)
  intro hj_9
  refine GS.block (GS.seq ?_)
  obtain ⟨x7, h_18, hM⟩ := zI hM
  refine GS.region ?_
  refine X.opR rfl (X.ZJ (f := zS) h_18 (fun _ => rfl) rfl rfl rfl rfl) rfl ?_
  refine X.opR rfl (X.Za h_18 rfl rfl rfl) rfl ?_
  refine X.opW rfl rfl rfl rfl ?_
  refine X.op0W rfl rfl rfl (GS.zA (GS.seq ?_))
  obtain ⟨y, h_19, hM⟩ := zI hM
  refine GS.region (X.q rfl (X.q rfl (X.q rfl ?_)))
  refine X.call (zBL h_19) rfl rfl rfl (.cons (.shut (n := 9) rfl) (.cons (.shut (n := 9) rfl) .nil)) (X.q rfl (X.q rfl (X.q rfl ?_)))
  refine X.opW rfl rfl rfl rfl ?_
  refine X.op0W rfl rfl rfl (X.q rfl (GS.zA (GS.seq ?_)))
  obtain ⟨y1, h_20, hM⟩ := zI hM
  refine GS.region (X.q rfl (X.q rfl (X.q rfl ?_)))
  refine X.call (zBL h_20) rfl rfl rfl (.cons (.shut (n := 9) rfl) (.cons (.shut (n := 9) rfl) .nil)) (X.q rfl (X.q rfl (X.q rfl ?_)))
  refine X.opW (H' := [obl 1 V.i l10, .rows 5 [(zS x7)], .rows 5 [(zS y.1)], .rows 5 [(V.agg [(V.i 0), (V.i 0), (V.i 0), (V.i 0), (V.i 0)])]]) rfl rfl rfl rfl ?_
  refine X.op0W (H' := [obl 1 V.i l10, .rows 5 [(zS x7)], .rows 5 [(zS y.1)], .rows 5 [(zS y1.1)]]) rfl rfl rfl (X.q rfl (X.nq ?_))
  refine X.mid [(0, (V.sl (List.map zS old))), (1, (V.sl (List.map zS now))), (5, (ovl 0 l10)), (7, (V.ptr 1 0 0)), (12, (V.sl (List.map zS old))), (13, (V.i (old.length : Int))), (14, (V.i x8)), (40, (V.b ((!y1.2) || (!decide (y.1.Slot = y1.1.Slot)))))] ?_ ?_
  ·intro hg
   refine X.split (!y1.2) (fun h_21 => ?_) (fun h_21 => ?_)
   ·iterate 3 refine X.q rfl ?_
    iterate 5 refine X.off (X.ZT rfl rfl rfl h_21) rfl ?_
    refine X.opR rfl (X.zf (y := !decide (y.1.Slot = y1.1.Slot)) rfl h_21 rfl) rfl (GS.zA ?_)
    exact X.norm _ hg rfl (sr rfl)
   iterate 3 refine X.q rfl ?_
   iterate 4 refine X.opR (X.on_f rfl rfl rfl h_21) rfl rfl ?_
   refine X.opR (X.on_f rfl rfl rfl h_21) (X.neqE (zCr y.1.Slot y1.1.Slot) rfl rfl) rfl ?_
   refine X.opR rfl (X.ze (y := !decide (y.1.Slot = y1.1.Slot)) rfl h_21 rfl) rfl (GS.zA ?_)
   exact X.norm _ hg rfl (sr rfl)
  refine X.cond rfl (fun h_22 => ?_) (fun h_22 => ?_)
  ·replace hM := za h_22 hM
   obtain ⟨l9, h_23, hM⟩ := zI hM
   refine GS.region (X.q rfl (X.q rfl (X.q rfl ?_)))
   refine X.opW (H' := [obl 1 V.i l10, .rows 5 [(zS x7)], .rows 5 [(zS y.1)], .rows 5 [(zS y1.1)], .rows 1 (List.map V.i ([x7.Call]))]) rfl rfl rfl rfl ?_
   refine X.appN (f := V.i) h_23 (fun _ => rfl) (by rfl) (by rfl) (by rfl) (by rfl) (by rfl) (by rfl) (by rfl) (by rfl) (by rfl) (by rfl) (by rfl) (by exact rfl) (by rfl) (by rfl) (X.q rfl (GS.zA ?_))
   refine GS.endB ?_
   exact X.gc [some 5] (hj_9 l9 hM) rfl rfl rfl (zO rfl ⟨9, rfl⟩ (zO rfl ⟨9, rfl⟩ (zO rfl (zAW (jR h_23) rfl) (ga rfl rfl)))) (gb_obl' 9 (jR h_23) rfl rfl (fun _ => rfl) zM)
  replace hM := zb h_22 hM
  refine GS.skip ?_
  refine GS.endB ?_
  exact X.gc [some 0] (hj_9 l10 hM) rfl rfl rfl (zO rfl ⟨9, rfl⟩ (zO rfl ⟨9, rfl⟩ (zO rfl (zl rfl) (ga rfl rfl)))) (zn 9 rfl rfl (fun _ => rfl) zM)
 replace hM := zb h_17 hM
 refine GS.exit rfl ?_
 obtain ⟨y_1, hM, hy⟩ := ZV hM
 rw [hr_1 _ hy.symm] at hM
 exact X.gc [some 0] (hj_1 l10 hM) rfl rfl rfl (zO rfl (zl rfl) yD) (zn 9 rfl rfl (fun _ => rfl) zM)
theorem zBd {l : (List zN)} {old : (List zP)} {now : (List zP)} {r : Int} (hM : yC l old now = some r) : Ct Tryz.prog 37 [(V.sl (List.map zG l)), (V.sl (List.map zS old)), (V.sl (List.map zS now))] (V.i r) := by
 refine zg ZR rfl ?_
 unfold yC at hM
 refine X.sq (X.q rfl (X.nq (X.q rfl (GS.zA ?_))))
 iterate 2 refine GS.seq ?_
 obtain ⟨y, h_1, hM⟩ := zI hM
 refine GS.region (X.q rfl (X.q rfl ?_))
 refine X.call (zEt h_1) rfl rfl rfl (.cons (.shut (n := 9) rfl) (.cons (.shut (n := 9) rfl) .nil)) ?_
 refine X.opR rfl (X.lenF rfl rfl rfl) rfl (X.q rfl (GS.zA ?_))
 refine X.join (τ := Int) (fun v => QD v = some r) (fun v => ⟨[(7, (V.i v))], [], 0, none, 35⟩) ?_ ?_
 ·intro n hM
  replace hM : QD n = some r := hM
  unfold QD at hM
  refine X.sq (X.q rfl (X.q rfl ?_))
  refine GS.zA ?_
  cases hM
  exact GS.ret ⟨_, rfl, ⟨30, rfl⟩⟩
 intro hj_1
 refine GS.block ?_
 refine X.gc [] (X.loop (σ := (Int × Int)) (fun v => ⟨[(0, (V.sl (List.map zG l))), (7, (V.i v.1)), (14, (V.sl (List.map V.i y))), (15, (V.i (y.length : Int))), (16, (V.i v.2))], [], 0, none, 35⟩) hM ?_ rfl) rfl rfl rfl (ga rfl rfl) (zM)
 rintro ⟨n4, x3⟩ b_1 hM hc_2 hr_1
 rw [QE] at hM
 refine X.sq (X.q rfl (GS.zA (GS.seq ?_)))
 refine X.cond rfl (fun h_2 => ?_) (fun h_2 => ?_)
 ·replace hM := za h_2 hM
  refine GS.skip (GS.seq (GS.block (GS.seq ?_)))
  obtain ⟨x, h_3, hM⟩ := zI hM
  refine GS.region ?_
  refine X.opR rfl (X.ZJ (f := V.i) h_3 (fun _ => rfl) rfl rfl rfl rfl) rfl ?_
  refine X.opR rfl (X.Za h_3 rfl rfl rfl) rfl (X.q rfl (X.nq (X.q rfl ?_)))
  refine X.opR rfl (X.lenF rfl rfl rfl) rfl (X.q rfl (GS.zA ?_))
  refine X.join (τ := Int) (fun v => QC x3 v = some b_1) (fun v => ⟨[(0, (V.sl (List.map zG l))), (7, (V.i v)), (14, (V.sl (List.map V.i y))), (15, (V.i (y.length : Int))), (16, (V.i x3))], [], 0, none, 35⟩) ?_ ?_
  ·intro n1 hM
   replace hM : QC x3 n1 = some b_1 := hM
   unfold QC at hM
   refine GS.endB (GS.region ?_)
   refine X.opR rfl (X.addE rfl rfl) rfl (X.q rfl (GS.zA ?_))
   have hE := Option.some.inj hM
   exact X.gc [] (hc_2 (n1, w64 (x3 + 1)) hE.symm) rfl rfl rfl (ga rfl rfl) (zM)
  intro hj_3
  refine GS.block ?_
  refine X.gc [] (X.loop (σ := (Int × Int)) (fun v => ⟨[(0, (V.sl (List.map zG l))), (7, (V.i v.1)), (9, (V.i x)), (14, (V.sl (List.map V.i y))), (15, (V.i (y.length : Int))), (16, (V.i x3)), (20, (V.sl (List.map zG l))), (21, (V.i (l.length : Int))), (22, (V.i v.2))], [], 0, none, 35⟩) hM ?_ rfl) rfl rfl rfl (ga rfl rfl) (zM)
  rintro ⟨n3, x2⟩ b_2 hM hc_4 hr_2
  rw [yT] at hM
  refine X.sq (X.q rfl (GS.zA (GS.seq ?_)))
  refine X.cond rfl (fun h_4 => ?_) (fun h_4 => ?_)
  ·replace hM := za h_4 hM
   refine GS.skip (GS.seq ?_)
   refine X.join (τ := Int) (fun v => Jf x2 v = some b_2) (fun v => ⟨[(0, (V.sl (List.map zG l))), (7, (V.i v)), (9, (V.i x)), (14, (V.sl (List.map V.i y))), (15, (V.i (y.length : Int))), (16, (V.i x3)), (20, (V.sl (List.map zG l))), (21, (V.i (l.length : Int))), (22, (V.i x2))], [], 0, none, 35⟩) ?_ ?_
   ·intro n2 hM
    replace hM : Jf x2 n2 = some b_2 := hM
    unfold Jf at hM
    refine GS.region ?_
    refine X.opR rfl (X.addE rfl rfl) rfl (X.q rfl (GS.zA ?_))
    have hE := Option.some.inj hM
    exact X.gc [] (hc_4 (n2, w64 (x2 + 1)) hE.symm) rfl rfl rfl (ga rfl rfl) (zM)
   intro hj_5
   refine GS.block (GS.seq ?_)
   obtain ⟨x1, h_5, hM⟩ := zI hM
   refine GS.region ?_
   refine X.opR rfl (X.ZJ (f := zG) h_5 (fun _ => rfl) rfl rfl rfl rfl) rfl ?_
   refine X.opR rfl (X.Za h_5 rfl rfl rfl) rfl ?_
   refine X.opW rfl rfl rfl rfl ?_
   refine X.op0W rfl rfl rfl (X.nq ?_)
   iterate 4 refine X.q rfl ?_
   refine GS.zA ?_
   refine X.cond rfl (fun h_6 => ?_) (fun h_6 => ?_)
   ·replace hM := za h_6 hM
    refine GS.region (X.q rfl ?_)
    refine X.opR rfl (X.addE rfl rfl) rfl (X.q rfl (GS.zA ?_))
    refine GS.endB ?_
    exact X.gc [] (hj_5 (w64 (n3 + 1)) hM) rfl rfl rfl (ga rfl rfl) (zM)
   replace hM := zb h_6 hM
   refine GS.skip ?_
   refine GS.endB ?_
   exact X.gc [] (hj_5 n3 hM) rfl rfl rfl (ga rfl rfl) (zM)
  replace hM := zb h_4 hM
  refine GS.exit rfl ?_
  obtain ⟨y_2, hM, hy⟩ := ZV hM
  rw [hr_2 _ hy.symm] at hM
  exact X.gc [] (hj_3 n3 hM) rfl rfl rfl (ga rfl rfl) (zM)
 replace hM := zb h_2 hM
 refine GS.exit rfl ?_
 obtain ⟨y_1, hM, hy⟩ := ZV hM
 rw [hr_1 _ hy.symm] at hM
 exact X.gc [] (hj_1 n4 hM) rfl rfl rfl (ga rfl rfl) (zM)
set_option maxHeartbeats 4000000 in
theorem zDB {h : zL} {l : (List zN)} {old : (List zP)} {r : Bool} (hM : yU h l old = some r) : Ct Tryz.prog 6 [(zH h), (V.sl (List.map zG l)), (V.sl (List.map zS old))] (V.b r) := by
 refine zg ZR rfl ?_
 unfold yU at hM
 refine X.sq ?_
 refine X.opW rfl rfl rfl rfl (X.q rfl (GS.zA ?_))
 iterate 2 refine GS.seq ?_
 obtain ⟨y, h_1, hM⟩ := zI hM
 refine GS.region ?_
 refine X.mid [(1, (V.sl (List.map zG l))), (2, (V.sl (List.map zS old))), (3, (V.ptr 0 0 0)), (29, (V.b (((!y) || (decide (5 < (l.length : Int)))) || (decide (10 < (old.length : Int))))))] ?_ ?_
 ·intro hg
  refine X.split (!y) (fun h_2 => ?_) (fun h_2 => ?_)
  ·refine X.q rfl ?_
   refine X.call (zAw h_1) rfl rfl rfl (.cons (.shut (n := 9) rfl) .nil) (X.q rfl (X.q rfl ?_))
   iterate 3 refine X.off (X.ZT rfl rfl rfl h_2) rfl ?_
   refine X.opR rfl (X.zf (y := decide (5 < (l.length : Int))) rfl h_2 rfl) rfl (X.q rfl ?_)
   iterate 3 refine X.off (X.ZT rfl rfl rfl (X.zV h_2)) rfl ?_
   refine X.opR rfl (X.zf (y := decide (10 < (old.length : Int))) rfl (X.zV h_2) rfl) rfl (GS.zA ?_)
   exact X.norm _ hg rfl (sr rfl)
  refine X.split (((!y) || (decide (5 < (l.length : Int))))) (fun h_3 => ?_) (fun h_3 => ?_)
  ·refine X.q rfl ?_
   refine X.call (zAw h_1) rfl rfl rfl (.cons (.shut (n := 9) rfl) .nil) (X.q rfl (X.q rfl ?_))
   refine X.opR (X.on_f rfl rfl rfl h_2) rfl rfl ?_
   refine X.opR (X.on_f rfl rfl rfl h_2) (X.lenF rfl rfl rfl) rfl ?_
   refine X.opR (X.on_f rfl rfl rfl h_2) rfl rfl ?_
   refine X.opR rfl (X.ze (y := decide (5 < (l.length : Int))) rfl h_2 rfl) rfl (X.q rfl ?_)
   iterate 3 refine X.off (X.ZT rfl rfl rfl h_3) rfl ?_
   refine X.opR rfl (X.zf (y := decide (10 < (old.length : Int))) rfl h_3 rfl) rfl (GS.zA ?_)
   exact X.norm _ hg rfl (sr rfl)
  refine X.q rfl ?_
  refine X.call (zAw h_1) rfl rfl rfl (.cons (.shut (n := 9) rfl) .nil) (X.q rfl (X.q rfl ?_))
  refine X.opR (X.on_f rfl rfl rfl h_2) rfl rfl ?_
  refine X.opR (X.on_f rfl rfl rfl h_2) (X.lenF rfl rfl rfl) rfl ?_
  refine X.opR (X.on_f rfl rfl rfl h_2) rfl rfl ?_
  refine X.opR rfl (X.ze (y := decide (5 < (l.length : Int))) rfl h_2 rfl) rfl (X.q rfl ?_)
  refine X.opR (X.on_f rfl rfl rfl h_3) rfl rfl ?_
  refine X.opR (X.on_f rfl rfl rfl h_3) (X.lenF rfl rfl rfl) rfl ?_
  refine X.opR (X.on_f rfl rfl rfl h_3) rfl rfl ?_
  refine X.opR rfl (X.ze (y := decide (10 < (old.length : Int))) rfl h_3 rfl) rfl (GS.zA ?_)
  exact X.norm _ hg rfl (sr rfl)
 refine X.cond rfl (fun h_4 => ?_) (fun h_4 => ?_)
 ·replace hM := za h_4 hM
  refine GS.seq ?_
  obtain ⟨y1, h_5, hM⟩ := zI hM
  refine GS.region ?_
  refine X.call (Qk h_5) rfl rfl rfl .nil (X.q rfl (GS.zA ?_))
  cases hM
  exact GS.ret ⟨_, rfl, ⟨30, rfl⟩⟩
 replace hM := zb h_4 hM
 refine GS.skip (GS.seq ?_)
 obtain ⟨y2, h_6, hM⟩ := zI hM
 refine GS.region (X.q rfl (X.q rfl (X.q rfl ?_)))
 refine X.call (zAP h_6) rfl rfl rfl (.cons (.shut (n := 9) rfl) (.cons (.shut (n := 9) rfl) (.cons (.shut (n := 9) rfl) .nil))) ?_
 iterate 5 refine X.q rfl ?_
 refine GS.zA (GS.seq ?_)
 obtain ⟨y3, h_7, hM⟩ := zI hM
 refine GS.region (X.q rfl (X.q rfl ?_))
 refine X.call (zDG h_7) rfl rfl rfl (.cons (.shut (n := 9) rfl) (.cons (.shut (n := 9) rfl) .nil)) ?_
 iterate 5 refine X.q rfl ?_
 refine GS.zA (GS.seq ?_)
 obtain ⟨y4, h_8, hM⟩ := zI hM
 refine GS.region (X.q rfl (X.q rfl ?_))
 refine X.call (zG8 h_8) rfl rfl rfl (.cons (.shut (n := 9) rfl) (.cons (.shut (n := 9) rfl) .nil)) ?_
 iterate 5 refine X.q rfl ?_
 refine GS.zA (GS.seq (X.sq ?_))
 refine X.mid [(1, (V.sl (List.map zG l))), (2, (V.sl (List.map zS old))), (3, (V.ptr 0 0 0)), (7, (V.sl (List.map zS y2.1))), (8, (V.i y2.2)), (9, (V.sl (List.map zS y3.1))), (11, (V.i y4.1)), (57, (V.b ((!decide (y2.2 = y3.2)) || (!decide (y3.2 = y4.2)))))] ?_ ?_
 ·intro hg
  refine X.split (!decide (y2.2 = y3.2)) (fun h_9 => ?_) (fun h_9 => ?_)
  ·iterate 4 refine X.q rfl ?_
   iterate 3 refine X.off (X.ZT rfl rfl rfl h_9) rfl ?_
   refine X.opR rfl (X.zf (y := !decide (y3.2 = y4.2)) rfl h_9 rfl) rfl (GS.zA ?_)
   exact X.norm _ hg rfl (sr rfl)
  iterate 4 refine X.q rfl ?_
  iterate 3 refine X.opR (X.on_f rfl rfl rfl h_9) rfl rfl ?_
  refine X.opR rfl (X.ze (y := !decide (y3.2 = y4.2)) rfl h_9 rfl) rfl (GS.zA ?_)
  exact X.norm _ hg rfl (sr rfl)
 refine X.cond rfl (fun h_10 => ?_) (fun h_10 => ?_)
 ·replace hM := za h_10 hM
  refine X.sq (X.q rfl (GS.zA ?_))
  cases hM
  exact GS.ret ⟨_, rfl, ⟨30, rfl⟩⟩
 replace hM := zb h_10 hM
 refine GS.skip (GS.seq (X.sq (X.q rfl (X.q rfl ?_))))
 refine GS.zA ?_
 refine X.cond rfl (fun h_11 => ?_) (fun h_11 => ?_)
 ·replace hM := za h_11 hM
  refine GS.seq ?_
  obtain ⟨y5, h_12, hM⟩ := zI hM
  refine GS.region ?_
  refine X.call (Qk h_12) rfl rfl rfl .nil (X.q rfl (GS.zA ?_))
  cases hM
  exact GS.ret ⟨_, rfl, ⟨30, rfl⟩⟩
 replace hM := zb h_11 hM
 refine GS.skip (GS.seq ?_)
 obtain ⟨y6, h_13, hM⟩ := zI hM
 refine GS.region (X.q rfl (X.q rfl (X.q rfl ?_)))
 refine X.call (zAP h_13) rfl rfl rfl (.cons (.shut (n := 9) rfl) (.cons (.shut (n := 9) rfl) (.cons (.shut (n := 9) rfl) .nil))) ?_
 iterate 5 refine X.q rfl ?_
 refine GS.zA (GS.seq ?_)
 obtain ⟨y7, h_14, hM⟩ := zI hM
 refine GS.region (X.q rfl (X.q rfl (X.q rfl ?_)))
 refine X.call (zAP h_14) rfl rfl rfl (.cons (.shut (n := 9) rfl) (.cons (.shut (n := 9) rfl) (.cons (.shut (n := 9) rfl) .nil))) ?_
 iterate 5 refine X.q rfl ?_
 refine GS.zA ?_
 iterate 2 refine GS.seq ?_
 obtain ⟨y8, h_15, hM⟩ := zI hM
 obtain ⟨y9, h_16, hM⟩ := zCk hM
 obtain ⟨y10, h_17, hM⟩ := zCk hM
 refine GS.region ?_
 refine X.mid [(1, (V.sl (List.map zG l))), (2, (V.sl (List.map zS old))), (7, (V.sl (List.map zS y2.1))), (9, (V.sl (List.map zS y3.1))), (105, (V.b ((((((!decide (y8 = 0)) || (!decide ((y2.1.length : Int) = y4.1))) || (!decide (y6.2 = 0))) || (!decide (y7.2 = 0))) || (!y9)) || (!y10))))] ?_ ?_
 ·intro hg
  refine X.split (!decide (y8 = 0)) (fun h_18 => ?_) (fun h_18 => ?_)
  ·iterate 3 refine X.q rfl ?_
   refine X.call (jy h_15) rfl rfl rfl (.cons (.shut (n := 9) rfl) (.cons (.shut (n := 9) rfl) (.cons (.shut (n := 9) rfl) .nil))) (X.q rfl (X.q rfl ?_))
   iterate 4 refine X.off (X.ZT rfl rfl rfl h_18) rfl ?_
   refine X.opR rfl (X.zf (y := !decide ((y2.1.length : Int) = y4.1)) rfl h_18 rfl) rfl (X.q rfl ?_)
   iterate 2 refine X.off (X.ZT rfl rfl rfl (X.zV h_18)) rfl ?_
   refine X.opR rfl (X.zf (y := !decide (y6.2 = 0)) rfl (X.zV h_18) rfl) rfl (X.q rfl ?_)
   iterate 2 refine X.off (X.ZT rfl rfl rfl (X.zV (X.zV h_18))) rfl ?_
   refine X.opR rfl (X.zf (y := !decide (y7.2 = 0)) rfl (X.zV (X.zV h_18)) rfl) rfl (X.q rfl ?_)
   iterate 4 refine X.off (X.ZT rfl rfl rfl (X.zV (X.zV (X.zV h_18)))) rfl ?_
   refine X.opR rfl (X.zf (y := !y9) rfl (X.zV (X.zV (X.zV h_18))) rfl) rfl (X.q rfl ?_)
   iterate 4 refine X.off (X.ZT rfl rfl rfl (X.zV (X.zV (X.zV (X.zV h_18))))) rfl ?_
   refine X.opR rfl (X.zf (y := !y10) rfl (X.zV (X.zV (X.zV (X.zV h_18)))) rfl) rfl (GS.zA ?_)
   exact X.norm _ hg rfl (sr rfl)
  refine X.split (((!decide (y8 = 0)) || (!decide ((y2.1.length : Int) = y4.1)))) (fun h_19 => ?_) (fun h_19 => ?_)
  ·iterate 3 refine X.q rfl ?_
   refine X.call (jy h_15) rfl rfl rfl (.cons (.shut (n := 9) rfl) (.cons (.shut (n := 9) rfl) (.cons (.shut (n := 9) rfl) .nil))) (X.q rfl (X.q rfl ?_))
   refine X.opR (X.on_f rfl rfl rfl h_18) rfl rfl ?_
   refine X.opR (X.on_f rfl rfl rfl h_18) (X.lenF rfl rfl rfl) rfl ?_
   iterate 2 refine X.opR (X.on_f rfl rfl rfl h_18) rfl rfl ?_
   refine X.opR rfl (X.ze (y := !decide ((y2.1.length : Int) = y4.1)) rfl h_18 rfl) rfl (X.q rfl ?_)
   iterate 2 refine X.off (X.ZT rfl rfl rfl h_19) rfl ?_
   refine X.opR rfl (X.zf (y := !decide (y6.2 = 0)) rfl h_19 rfl) rfl (X.q rfl ?_)
   iterate 2 refine X.off (X.ZT rfl rfl rfl (X.zV h_19)) rfl ?_
   refine X.opR rfl (X.zf (y := !decide (y7.2 = 0)) rfl (X.zV h_19) rfl) rfl (X.q rfl ?_)
   iterate 4 refine X.off (X.ZT rfl rfl rfl (X.zV (X.zV h_19))) rfl ?_
   refine X.opR rfl (X.zf (y := !y9) rfl (X.zV (X.zV h_19)) rfl) rfl (X.q rfl ?_)
   iterate 4 refine X.off (X.ZT rfl rfl rfl (X.zV (X.zV (X.zV h_19)))) rfl ?_
   refine X.opR rfl (X.zf (y := !y10) rfl (X.zV (X.zV (X.zV h_19))) rfl) rfl (GS.zA ?_)
   exact X.norm _ hg rfl (sr rfl)
  refine X.split ((((!decide (y8 = 0)) || (!decide ((y2.1.length : Int) = y4.1))) || (!decide (y6.2 = 0)))) (fun h_20 => ?_) (fun h_20 => ?_)
  ·iterate 3 refine X.q rfl ?_
   refine X.call (jy h_15) rfl rfl rfl (.cons (.shut (n := 9) rfl) (.cons (.shut (n := 9) rfl) (.cons (.shut (n := 9) rfl) .nil))) (X.q rfl (X.q rfl ?_))
   refine X.opR (X.on_f rfl rfl rfl h_18) rfl rfl ?_
   refine X.opR (X.on_f rfl rfl rfl h_18) (X.lenF rfl rfl rfl) rfl ?_
   iterate 2 refine X.opR (X.on_f rfl rfl rfl h_18) rfl rfl ?_
   refine X.opR rfl (X.ze (y := !decide ((y2.1.length : Int) = y4.1)) rfl h_18 rfl) rfl (X.q rfl ?_)
   iterate 2 refine X.opR (X.on_f rfl rfl rfl h_19) rfl rfl ?_
   refine X.opR rfl (X.ze (y := !decide (y6.2 = 0)) rfl h_19 rfl) rfl (X.q rfl ?_)
   iterate 2 refine X.off (X.ZT rfl rfl rfl h_20) rfl ?_
   refine X.opR rfl (X.zf (y := !decide (y7.2 = 0)) rfl h_20 rfl) rfl (X.q rfl ?_)
   iterate 4 refine X.off (X.ZT rfl rfl rfl (X.zV h_20)) rfl ?_
   refine X.opR rfl (X.zf (y := !y9) rfl (X.zV h_20) rfl) rfl (X.q rfl ?_)
   iterate 4 refine X.off (X.ZT rfl rfl rfl (X.zV (X.zV h_20))) rfl ?_
   refine X.opR rfl (X.zf (y := !y10) rfl (X.zV (X.zV h_20)) rfl) rfl (GS.zA ?_)
   exact X.norm _ hg rfl (sr rfl)
  refine X.split (((((!decide (y8 = 0)) || (!decide ((y2.1.length : Int) = y4.1))) || (!decide (y6.2 = 0))) || (!decide (y7.2 = 0)))) (fun h_21 => ?_) (fun h_21 => ?_)
  ·iterate 3 refine X.q rfl ?_
   refine X.call (jy h_15) rfl rfl rfl (.cons (.shut (n := 9) rfl) (.cons (.shut (n := 9) rfl) (.cons (.shut (n := 9) rfl) .nil))) (X.q rfl (X.q rfl ?_))
   refine X.opR (X.on_f rfl rfl rfl h_18) rfl rfl ?_
   refine X.opR (X.on_f rfl rfl rfl h_18) (X.lenF rfl rfl rfl) rfl ?_
   iterate 2 refine X.opR (X.on_f rfl rfl rfl h_18) rfl rfl ?_
   refine X.opR rfl (X.ze (y := !decide ((y2.1.length : Int) = y4.1)) rfl h_18 rfl) rfl (X.q rfl ?_)
   iterate 2 refine X.opR (X.on_f rfl rfl rfl h_19) rfl rfl ?_
   refine X.opR rfl (X.ze (y := !decide (y6.2 = 0)) rfl h_19 rfl) rfl (X.q rfl ?_)
   iterate 2 refine X.opR (X.on_f rfl rfl rfl h_20) rfl rfl ?_
   refine X.opR rfl (X.ze (y := !decide (y7.2 = 0)) rfl h_20 rfl) rfl (X.q rfl ?_)
   iterate 4 refine X.off (X.ZT rfl rfl rfl h_21) rfl ?_
   refine X.opR rfl (X.zf (y := !y9) rfl h_21 rfl) rfl (X.q rfl ?_)
   iterate 4 refine X.off (X.ZT rfl rfl rfl (X.zV h_21)) rfl ?_
   refine X.opR rfl (X.zf (y := !y10) rfl (X.zV h_21) rfl) rfl (GS.zA ?_)
   exact X.norm _ hg rfl (sr rfl)
  refine X.split ((((((!decide (y8 = 0)) || (!decide ((y2.1.length : Int) = y4.1))) || (!decide (y6.2 = 0))) || (!decide (y7.2 = 0))) || (!y9))) (fun h_22 => ?_) (fun h_22 => ?_)
  ·iterate 3 refine X.q rfl ?_
   refine X.call (jy h_15) rfl rfl rfl (.cons (.shut (n := 9) rfl) (.cons (.shut (n := 9) rfl) (.cons (.shut (n := 9) rfl) .nil))) (X.q rfl (X.q rfl ?_))
   refine X.opR (X.on_f rfl rfl rfl h_18) rfl rfl ?_
   refine X.opR (X.on_f rfl rfl rfl h_18) (X.lenF rfl rfl rfl) rfl ?_
   iterate 2 refine X.opR (X.on_f rfl rfl rfl h_18) rfl rfl ?_
   refine X.opR rfl (X.ze (y := !decide ((y2.1.length : Int) = y4.1)) rfl h_18 rfl) rfl (X.q rfl ?_)
   iterate 2 refine X.opR (X.on_f rfl rfl rfl h_19) rfl rfl ?_
   refine X.opR rfl (X.ze (y := !decide (y6.2 = 0)) rfl h_19 rfl) rfl (X.q rfl ?_)
   iterate 2 refine X.opR (X.on_f rfl rfl rfl h_20) rfl rfl ?_
   refine X.opR rfl (X.ze (y := !decide (y7.2 = 0)) rfl h_20 rfl) rfl (X.q rfl ?_)
   iterate 2 refine X.opR (X.on_f rfl rfl rfl h_21) rfl rfl ?_
   refine X.call (Qq (h_16 (X.nt h_21))) (X.on_f rfl rfl rfl h_21) rfl rfl (.cons (.shut (n := 9) rfl) (.cons (.shut (n := 9) rfl) .nil)) ?_
   refine X.opR (X.on_f rfl rfl rfl h_21) rfl rfl ?_
   refine X.opR rfl (X.ze (y := !y9) rfl h_21 rfl) rfl (X.q rfl ?_)
   iterate 4 refine X.off (X.ZT rfl rfl rfl h_22) rfl ?_
   refine X.opR rfl (X.zf (y := !y10) rfl h_22 rfl) rfl (GS.zA ?_)
   exact X.norm _ hg rfl (sr rfl)
  iterate 3 refine X.q rfl ?_
  refine X.call (jy h_15) rfl rfl rfl (.cons (.shut (n := 9) rfl) (.cons (.shut (n := 9) rfl) (.cons (.shut (n := 9) rfl) .nil))) (X.q rfl (X.q rfl ?_))
  refine X.opR (X.on_f rfl rfl rfl h_18) rfl rfl ?_
  refine X.opR (X.on_f rfl rfl rfl h_18) (X.lenF rfl rfl rfl) rfl ?_
  iterate 2 refine X.opR (X.on_f rfl rfl rfl h_18) rfl rfl ?_
  refine X.opR rfl (X.ze (y := !decide ((y2.1.length : Int) = y4.1)) rfl h_18 rfl) rfl (X.q rfl ?_)
  iterate 2 refine X.opR (X.on_f rfl rfl rfl h_19) rfl rfl ?_
  refine X.opR rfl (X.ze (y := !decide (y6.2 = 0)) rfl h_19 rfl) rfl (X.q rfl ?_)
  iterate 2 refine X.opR (X.on_f rfl rfl rfl h_20) rfl rfl ?_
  refine X.opR rfl (X.ze (y := !decide (y7.2 = 0)) rfl h_20 rfl) rfl (X.q rfl ?_)
  iterate 2 refine X.opR (X.on_f rfl rfl rfl h_21) rfl rfl ?_
  refine X.call (Qq (h_16 (X.nt h_21))) (X.on_f rfl rfl rfl h_21) rfl rfl (.cons (.shut (n := 9) rfl) (.cons (.shut (n := 9) rfl) .nil)) ?_
  refine X.opR (X.on_f rfl rfl rfl h_21) rfl rfl ?_
  refine X.opR rfl (X.ze (y := !y9) rfl h_21 rfl) rfl (X.q rfl ?_)
  iterate 2 refine X.opR (X.on_f rfl rfl rfl h_22) rfl rfl ?_
  refine X.call (Qq (h_17 (X.nt h_22))) (X.on_f rfl rfl rfl h_22) rfl rfl (.cons (.shut (n := 9) rfl) (.cons (.shut (n := 9) rfl) .nil)) ?_
  refine X.opR (X.on_f rfl rfl rfl h_22) rfl rfl ?_
  refine X.opR rfl (X.ze (y := !y10) rfl h_22 rfl) rfl (GS.zA ?_)
  exact X.norm _ hg rfl (sr rfl)
 refine X.cond rfl (fun h_23 => ?_) (fun h_23 => ?_)
 ·replace hM := za h_23 hM
  refine X.sq (X.q rfl (GS.zA ?_))
  cases hM
  exact GS.ret ⟨_, rfl, ⟨30, rfl⟩⟩
 replace hM := zb h_23 hM
 refine GS.skip (GS.seq ?_)
 obtain ⟨y11, h_24, hM⟩ := zI hM
 obtain ⟨y12, h_25, hM⟩ := zCk hM
 obtain ⟨y13, h_26, hM⟩ := zCk hM
 refine GS.region ?_
 refine X.mid [(6, (V.b (y11 && (decide (y12 ≤ y13)))))] ?_ ?_
 ·intro hg
  refine X.split (y11) (fun h_27 => ?_) (fun h_27 => ?_)
  ·refine X.call (Qk h_24) rfl rfl rfl .nil (X.q rfl ?_)
   iterate 3 refine X.opR (X.on_t rfl rfl rfl h_27) rfl rfl ?_
   refine X.call (zBd (h_25 h_27)) (X.on_t rfl rfl rfl h_27) rfl rfl (.cons (.shut (n := 9) rfl) (.cons (.shut (n := 9) rfl) (.cons (.shut (n := 9) rfl) .nil))) ?_
   iterate 3 refine X.opR (X.on_t rfl rfl rfl h_27) rfl rfl ?_
   refine X.call (zBd (h_26 h_27)) (X.on_t rfl rfl rfl h_27) rfl rfl (.cons (.shut (n := 9) rfl) (.cons (.shut (n := 9) rfl) (.cons (.shut (n := 9) rfl) .nil))) ?_
   refine X.opR (X.on_t rfl rfl rfl h_27) rfl rfl ?_
   refine X.opR rfl (X.zX (y := decide (y12 ≤ y13)) rfl h_27 rfl) rfl (X.q rfl (GS.zA ?_))
   exact X.norm _ hg rfl (sr rfl)
  refine X.call (Qk h_24) rfl rfl rfl .nil (X.q rfl ?_)
  iterate 9 refine X.off (X.zt rfl rfl rfl h_27) rfl ?_
  refine X.opR rfl (X.zR (y := decide (y12 ≤ y13)) rfl h_27 rfl) rfl (X.q rfl (GS.zA ?_))
  exact X.norm _ hg rfl (sr rfl)
 cases hM
 exact GS.ret ⟨_, rfl, ⟨30, rfl⟩⟩
end Go.Proofs.YtnkngglimidldaaGreat
