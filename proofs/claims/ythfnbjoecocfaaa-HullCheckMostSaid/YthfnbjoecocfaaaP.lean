/- The program's functions compute the plain ones. Conditions: none. Printed by a program (wip/tools/xg.py). -/
import Derived.Test.YthfnbjoecocfaaaP2
set_option linter.unusedVariables false
set_option linter.unusedSimpArgs false
namespace Go.Proofs.Ythfnbjoecocfaaa
open Go Go.Am Go.Proofs Go.Mx

theorem ok_ref03_value {form : (List Int)} {x : (List Int)} {r : Int} (hM : ref03_value form x = some r) : Ct Try.prog 96 [(V.sl (List.map V.i form)), (V.sl (List.map V.i x))] (V.i r) := by
  refine ct_of_gs CC_ok rfl ?_
  unfold ref03_value at hM
  refine X.sq ?_
  refine X.q rfl ?_
  refine X.nq ?_
  refine X.q rfl ?_
  refine GS.opsNil ?_
  refine GS.seq ?_
  refine X.sq ?_
  refine X.q rfl ?_
  refine GS.opsNil ?_
  refine X.join (τ := Int) (fun v => ref03_value_j1 v = some r) (fun v => ⟨[(5, (V.i v))], [], 0, none, 25⟩) ?_ ?_
  · intro n hM
    replace hM : ref03_value_j1 n = some r := hM
    unfold ref03_value_j1 at hM
    refine X.sq ?_
    iterate 2 refine X.q rfl ?_
    refine GS.opsNil ?_
    have hE := Option.some.inj hM
    subst hE
    exact GS.ret ⟨_, rfl, ⟨30, rfl⟩⟩
  intro hj_1
  refine GS.block ?_
  refine X.gc [] (X.loop (σ := (Int × Int)) (fun v => ⟨[(0, (V.sl (List.map V.i form))), (1, (V.sl (List.map V.i x))), (5, (V.i v.1)), (6, (V.i v.2))], [], 0, none, 25⟩) hM ?_ rfl) rfl rfl rfl (gk_cons rfl ⟨9, rfl⟩ (gk_cons rfl ⟨9, rfl⟩ (gk_cons rfl ⟨9, rfl⟩ (gk_cons rfl ⟨9, rfl⟩ gk_nil)))) (gb_nil)
  rintro ⟨n1, i⟩ b_1 hM hc_2 hr_1
  rw [ref03_value_b2] at hM
  refine GS.seq ?_
  refine X.sq ?_
  iterate 2 refine X.q rfl ?_
  refine X.opR rfl (X.lenF rfl rfl rfl) rfl ?_
  refine X.q rfl ?_
  refine GS.opsNil ?_
  refine X.cond rfl (fun h_1 => ?_) (fun h_1 => ?_)
  · replace hM := ite_t h_1 hM
    refine GS.skip ?_
    refine GS.seq ?_
    refine GS.block ?_
    obtain ⟨x1, h_2, hM⟩ := bind_of hM
    obtain ⟨x2, h_3, hM⟩ := bind_of hM
    refine X.drawc (by kernel_rfl) rfl ?_
    iterate 3 refine X.cop rfl rfl rfl rfl ?_
    refine X.cop rfl (X.indexF (f := V.i) h_2 (fun _ => rfl) rfl rfl rfl rfl) rfl rfl ?_
    refine X.cop rfl (X.loadF h_2 rfl rfl rfl) rfl rfl ?_
    iterate 2 refine X.cop rfl rfl rfl rfl ?_
    refine X.cop rfl (X.indexF (f := V.i) h_3 (fun _ => rfl) rfl rfl rfl rfl) rfl rfl ?_
    refine X.cop rfl (X.loadF h_3 rfl rfl rfl) rfl rfl ?_
    refine X.cop rfl (X.mulE rfl rfl) rfl rfl ?_
    refine X.cop rfl (X.addE rfl rfl) rfl rfl ?_
    refine X.cop rfl rfl rfl rfl ?_
    refine X.cnil ?_
    refine X.norm [(0, (V.sl (List.map V.i form))), (1, (V.sl (List.map V.i x))), (5, (V.i (w64 (n1 + (w64 (x1 * x2)))))), (6, (V.i i))] ?_ rfl (W.sub_cons rfl (W.sub_cons rfl (W.sub_cons rfl (W.sub_cons rfl W.sub_nil))))
    refine GS.endB ?_
    refine GS.region ?_
    refine X.q rfl ?_
    refine X.opR rfl (X.addE rfl rfl) rfl ?_
    refine X.q rfl ?_
    refine GS.opsNil ?_
    have hE := Option.some.inj hM
    exact X.gc [] (hc_2 (w64 (n1 + (w64 (x1 * x2))), w64 (i + 1)) hE.symm) rfl rfl rfl (gk_cons rfl ⟨9, rfl⟩ (gk_cons rfl ⟨9, rfl⟩ (gk_cons rfl ⟨9, rfl⟩ (gk_cons rfl ⟨9, rfl⟩ gk_nil)))) (gb_nil)
  replace hM := ite_f h_1 hM
  refine GS.exit rfl ?_
  obtain ⟨y_1, hM, hy⟩ := map_of hM
  rw [hr_1 _ hy.symm] at hM
  exact X.gc [] (hj_1 n1 hM) rfl rfl rfl (gk_cons rfl ⟨9, rfl⟩ gk_nil) (gb_nil)

theorem ok_ref03_bound {l : (List api_Span)} {form : (List Int)} {t : api_Span} {price : Int} {r : Int} (hM : ref03_bound l form t price = some r) : Ct Try.prog 98 [(V.sl (List.map e_api_Span l)), (V.sl (List.map V.i form)), (e_api_Span t), (V.i price)] (V.i r) := by
  refine ct_of_gs CC_ok rfl ?_
  unfold ref03_bound at hM
  refine X.sq ?_
  refine X.opW rfl rfl rfl rfl ?_
  refine X.q rfl ?_
  refine X.nq ?_
  iterate 3 refine X.q rfl ?_
  refine X.opR rfl (X.mulE rfl rfl) rfl ?_
  refine X.q rfl ?_
  refine GS.opsNil ?_
  refine GS.seq ?_
  refine X.sq ?_
  iterate 2 refine X.q rfl ?_
  refine GS.opsNil ?_
  refine X.join (τ := Int) (fun v => ref03_bound_j1 l form price v = some r) (fun v => ⟨[(0, (V.sl (List.map e_api_Span l))), (1, (V.sl (List.map V.i form))), (3, (V.i price)), (9, (V.i v))], [], 0, none, 55⟩) ?_ ?_
  · intro n hM
    replace hM : ref03_bound_j1 l form price n = some r := hM
    unfold ref03_bound_j1 at hM
    refine GS.seq ?_
    refine X.sq ?_
    refine X.q rfl ?_
    refine GS.opsNil ?_
    refine X.join (τ := Int) (fun v => ref03_bound_j2 v = some r) (fun v => ⟨[(9, (V.i v))], [], 0, none, 55⟩) ?_ ?_
    · intro n1 hM
      replace hM : ref03_bound_j2 n1 = some r := hM
      unfold ref03_bound_j2 at hM
      refine X.sq ?_
      iterate 2 refine X.q rfl ?_
      refine GS.opsNil ?_
      have hE := Option.some.inj hM
      subst hE
      exact GS.ret ⟨_, rfl, ⟨30, rfl⟩⟩
    intro hj_2
    refine GS.block ?_
    refine X.gc [] (X.loop (σ := (Int × Int)) (fun v => ⟨[(0, (V.sl (List.map e_api_Span l))), (1, (V.sl (List.map V.i form))), (3, (V.i price)), (9, (V.i v.1)), (10, (V.i v.2))], [], 0, none, 55⟩) hM ?_ rfl) rfl rfl rfl (gk_cons rfl ⟨9, rfl⟩ (gk_cons rfl ⟨9, rfl⟩ (gk_cons rfl ⟨9, rfl⟩ (gk_cons rfl ⟨9, rfl⟩ (gk_cons rfl ⟨9, rfl⟩ gk_nil))))) (gb_nil)
    rintro ⟨n2, i⟩ b_1 hM hc_3 hr_1
    rw [ref03_bound_b3] at hM
    refine GS.seq ?_
    refine X.sq ?_
    iterate 2 refine X.q rfl ?_
    refine X.opR rfl (X.lenF rfl rfl rfl) rfl ?_
    refine X.q rfl ?_
    refine GS.opsNil ?_
    refine X.cond rfl (fun h_1 => ?_) (fun h_1 => ?_)
    · replace hM := ite_t h_1 hM
      refine GS.skip ?_
      refine GS.seq ?_
      refine GS.block ?_
      obtain ⟨x, h_2, hM⟩ := bind_of hM
      obtain ⟨x1, h_3, hM⟩ := bind_of hM
      obtain ⟨x2, h_4, hM⟩ := bind_of hM
      obtain ⟨x3, h_5, hM⟩ := bind_of hM
      refine X.drawc (by kernel_rfl) rfl ?_
      iterate 3 refine X.cop rfl rfl rfl rfl ?_
      refine X.cop rfl (X.indexF (f := V.i) h_2 (fun _ => rfl) rfl rfl rfl rfl) rfl rfl ?_
      refine X.cop rfl (X.loadF h_2 rfl rfl rfl) rfl rfl ?_
      refine X.cop rfl rfl rfl rfl ?_
      refine X.cop rfl (X.subE rfl rfl) rfl rfl ?_
      iterate 2 refine X.cop rfl rfl rfl rfl ?_
      refine X.cop rfl (X.indexF (f := e_api_Span) h_3 (fun _ => rfl) rfl rfl rfl rfl) rfl rfl ?_
      refine X.cop rfl rfl rfl rfl ?_
      refine X.cop rfl (X.loadF h_3 rfl rfl rfl) rfl rfl ?_
      refine X.cop rfl (X.mulE rfl rfl) rfl rfl ?_
      iterate 2 refine X.cop rfl rfl rfl rfl ?_
      refine X.cop rfl (X.indexF (f := V.i) h_4 (fun _ => rfl) rfl rfl rfl rfl) rfl rfl ?_
      refine X.cop rfl (X.loadF h_4 rfl rfl rfl) rfl rfl ?_
      refine X.cop rfl rfl rfl rfl ?_
      refine X.cop rfl (X.subE rfl rfl) rfl rfl ?_
      iterate 2 refine X.cop rfl rfl rfl rfl ?_
      refine X.cop rfl (X.indexF (f := e_api_Span) h_5 (fun _ => rfl) rfl rfl rfl rfl) rfl rfl ?_
      refine X.cop rfl rfl rfl rfl ?_
      refine X.cop rfl (X.loadF h_5 rfl rfl rfl) rfl rfl ?_
      refine X.cop rfl (X.mulE rfl rfl) rfl rfl ?_
      refine X.cop rfl (X.maxE rfl rfl) rfl rfl ?_
      refine X.cop rfl (X.addE rfl rfl) rfl rfl ?_
      refine X.cop rfl rfl rfl rfl ?_
      refine X.cnil ?_
      refine X.norm [(0, (V.sl (List.map e_api_Span l))), (1, (V.sl (List.map V.i form))), (3, (V.i price)), (9, (V.i (w64 (n2 + (max (w64 ((w64 (x - price)) * x1.Lo)) (w64 ((w64 (x2 - price)) * x3.Hi))))))), (10, (V.i i))] ?_ rfl (W.sub_cons rfl (W.sub_cons rfl (W.sub_cons rfl (W.sub_cons rfl (W.sub_cons rfl W.sub_nil)))))
      refine GS.endB ?_
      refine GS.region ?_
      refine X.q rfl ?_
      refine X.opR rfl (X.addE rfl rfl) rfl ?_
      refine X.q rfl ?_
      refine GS.opsNil ?_
      have hE := Option.some.inj hM
      exact X.gc [] (hc_3 (w64 (n2 + (max (w64 ((w64 (x - price)) * x1.Lo)) (w64 ((w64 (x2 - price)) * x3.Hi)))), w64 (i + 1)) hE.symm) rfl rfl rfl (gk_cons rfl ⟨9, rfl⟩ (gk_cons rfl ⟨9, rfl⟩ (gk_cons rfl ⟨9, rfl⟩ (gk_cons rfl ⟨9, rfl⟩ (gk_cons rfl ⟨9, rfl⟩ gk_nil))))) (gb_nil)
    replace hM := ite_f h_1 hM
    refine GS.exit rfl ?_
    obtain ⟨y_1, hM, hy⟩ := map_of hM
    rw [hr_1 _ hy.symm] at hM
    exact X.gc [] (hj_2 n2 hM) rfl rfl rfl (gk_cons rfl ⟨9, rfl⟩ gk_nil) (gb_nil)
  intro hj_1
  refine X.cond rfl (fun h_6 => ?_) (fun h_6 => ?_)
  · replace hM := ite_t h_6 hM
    refine GS.region ?_
    iterate 3 refine X.q rfl ?_
    refine X.opR rfl (X.mulE rfl rfl) rfl ?_
    refine X.q rfl ?_
    refine GS.opsNil ?_
    exact X.gc [] (hj_1 (w64 (price * t.Lo)) hM) rfl rfl rfl (gk_cons rfl ⟨9, rfl⟩ (gk_cons rfl ⟨9, rfl⟩ (gk_cons rfl ⟨9, rfl⟩ (gk_cons rfl ⟨9, rfl⟩ gk_nil)))) (gb_nil)
  replace hM := ite_f h_6 hM
  refine GS.skip ?_
  exact X.gc [] (hj_1 (w64 (price * t.Hi)) hM) rfl rfl rfl (gk_cons rfl ⟨9, rfl⟩ (gk_cons rfl ⟨9, rfl⟩ (gk_cons rfl ⟨9, rfl⟩ (gk_cons rfl ⟨9, rfl⟩ gk_nil)))) (gb_nil)

theorem ok_ref03_CheckMost {s : api_Ship} {l : api_Load} {form : (List Int)} {p : api_Price} {r : Int} (hM : ref03_CheckMost s l form p = some r) : Ct Try.prog 32 [(e_api_Ship s), (e_api_Load l), (V.sl (List.map V.i form)), (e_api_Price p)] (V.i r) := by
  refine ct_of_gs CC_ok rfl ?_
  unfold ref03_CheckMost at hM
  refine X.sq ?_
  iterate 3 refine X.opW rfl rfl rfl rfl ?_
  refine X.q rfl ?_
  refine GS.opsNil ?_
  refine GS.seq ?_
  obtain ⟨y, h_1, hM⟩ := bind_of hM
  refine GS.region ?_
  iterate 2 refine X.q rfl ?_
  refine X.call (ok_ref03_CheckLoad h_1) rfl rfl rfl (.cons (.shut (n := 9) rfl) (.cons (.shut (n := 9) rfl) .nil)) ?_
  refine X.q rfl ?_
  refine GS.opsNil ?_
  refine GS.seq ?_
  refine X.sq ?_
  iterate 2 refine X.q rfl ?_
  refine GS.opsNil ?_
  refine X.cond rfl (fun h_2 => ?_) (fun h_2 => ?_)
  · replace hM := ite_t h_2 hM
    refine X.sq ?_
    iterate 2 refine X.q rfl ?_
    refine GS.opsNil ?_
    have hE := Option.some.inj hM
    subst hE
    exact GS.ret ⟨_, rfl, ⟨30, rfl⟩⟩
  replace hM := ite_f h_2 hM
  refine GS.skip ?_
  refine GS.seq ?_
  obtain ⟨y1, h_3, hM⟩ := bind_of hM
  refine GS.region ?_
  iterate 2 refine X.q rfl ?_
  refine X.call (ok_ref03_formed h_3) rfl rfl rfl (.cons (.shut (n := 9) rfl) (.cons (.shut (n := 9) rfl) .nil)) ?_
  refine X.q rfl ?_
  refine GS.opsNil ?_
  refine GS.seq ?_
  refine X.sq ?_
  iterate 2 refine X.q rfl ?_
  refine GS.opsNil ?_
  refine X.cond rfl (fun h_4 => ?_) (fun h_4 => ?_)
  · replace hM := ite_t h_4 hM
    refine X.sq ?_
    refine X.q rfl ?_
    refine GS.opsNil ?_
    have hE := Option.some.inj hM
    subst hE
    exact GS.ret ⟨_, rfl, ⟨30, rfl⟩⟩
  replace hM := ite_f h_4 hM
  refine GS.skip ?_
  refine GS.seq ?_
  obtain ⟨y2, h_5, hM⟩ := bind_of hM
  refine GS.region ?_
  iterate 3 refine X.q rfl ?_
  refine X.call (ok_ref03_fits h_5) rfl rfl rfl (.cons (.shut (n := 9) rfl) (.cons (.shut (n := 9) rfl) .nil)) ?_
  refine X.q rfl ?_
  refine GS.opsNil ?_
  iterate 2 refine GS.seq ?_
  obtain ⟨y3, h_6, hM⟩ := gb_of hM
  obtain ⟨y4, h_7, hM⟩ := gb_of hM
  refine X.mid [(55, (V.b ((((!y2) || (!decide (y3 = p.Value))) || (!(ref03_in p.Price (-1048576) 1048576))) || (!decide (y4 = p.Value)))))] ?_ ?_
  · intro hg
    refine X.split (!y2) (fun h_8 => ?_) (fun h_8 => ?_)
    · refine X.drawc (by kernel_rfl) rfl ?_
      iterate 3 refine X.cop rfl rfl rfl rfl ?_
      iterate 7 refine X.coff (X.off_f rfl rfl rfl h_8) rfl rfl ?_
      refine X.cop rfl (X.pickor_t (y := !decide (y3 = p.Value)) rfl h_8 rfl) rfl rfl ?_
      refine X.cop rfl rfl rfl rfl ?_
      iterate 4 refine X.coff (X.off_f rfl rfl rfl (X.or_tt h_8)) rfl rfl ?_
      refine X.cop rfl (X.pickor_t (y := !(ref03_in p.Price (-1048576) 1048576)) rfl (X.or_tt h_8) rfl) rfl rfl ?_
      refine X.cop rfl rfl rfl rfl ?_
      iterate 11 refine X.coff (X.off_f rfl rfl rfl (X.or_tt (X.or_tt h_8))) rfl rfl ?_
      refine X.cop rfl (X.pickor_t (y := !decide (y4 = p.Value)) rfl (X.or_tt (X.or_tt h_8)) rfl) rfl rfl ?_
      refine X.cnil ?_
      exact X.norm _ hg rfl (W.sub_cons rfl W.sub_nil)
    refine X.split (((!y2) || (!decide (y3 = p.Value)))) (fun h_9 => ?_) (fun h_9 => ?_)
    · refine X.drawc (by kernel_rfl) rfl ?_
      iterate 3 refine X.cop rfl rfl rfl rfl ?_
      iterate 3 refine X.cop (X.on_f rfl rfl rfl h_8) rfl rfl rfl ?_
      refine X.ccall (ok_ref03_value (h_6 (X.nt h_8))) (X.on_f rfl rfl rfl h_8) rfl rfl rfl (.cons (.shut (n := 9) rfl) (.cons (.shut (n := 9) rfl) .nil)) ?_
      iterate 3 refine X.cop (X.on_f rfl rfl rfl h_8) rfl rfl rfl ?_
      refine X.cop rfl (X.pickor_f (y := !decide (y3 = p.Value)) rfl h_8 rfl) rfl rfl ?_
      refine X.cop rfl rfl rfl rfl ?_
      iterate 4 refine X.coff (X.off_f rfl rfl rfl h_9) rfl rfl ?_
      refine X.cop rfl (X.pickor_t (y := !(ref03_in p.Price (-1048576) 1048576)) rfl h_9 rfl) rfl rfl ?_
      refine X.cop rfl rfl rfl rfl ?_
      iterate 11 refine X.coff (X.off_f rfl rfl rfl (X.or_tt h_9)) rfl rfl ?_
      refine X.cop rfl (X.pickor_t (y := !decide (y4 = p.Value)) rfl (X.or_tt h_9) rfl) rfl rfl ?_
      refine X.cnil ?_
      exact X.norm _ hg rfl (W.sub_cons rfl W.sub_nil)
    refine X.split ((((!y2) || (!decide (y3 = p.Value))) || (!(ref03_in p.Price (-1048576) 1048576)))) (fun h_10 => ?_) (fun h_10 => ?_)
    · refine X.drawc (by kernel_rfl) rfl ?_
      iterate 3 refine X.cop rfl rfl rfl rfl ?_
      iterate 3 refine X.cop (X.on_f rfl rfl rfl h_8) rfl rfl rfl ?_
      refine X.ccall (ok_ref03_value (h_6 (X.nt h_8))) (X.on_f rfl rfl rfl h_8) rfl rfl rfl (.cons (.shut (n := 9) rfl) (.cons (.shut (n := 9) rfl) .nil)) ?_
      iterate 3 refine X.cop (X.on_f rfl rfl rfl h_8) rfl rfl rfl ?_
      refine X.cop rfl (X.pickor_f (y := !decide (y3 = p.Value)) rfl h_8 rfl) rfl rfl ?_
      refine X.cop rfl rfl rfl rfl ?_
      iterate 2 refine X.cop (X.on_f rfl rfl rfl h_9) rfl rfl rfl ?_
      refine X.ccall (ok_ref03_in p.Price (-1048576) 1048576) (X.on_f rfl rfl rfl h_9) rfl rfl rfl (.cons (.shut (n := 9) rfl) (.cons (.shut (n := 9) rfl) (.cons (.shut (n := 9) rfl) .nil))) ?_
      refine X.cop (X.on_f rfl rfl rfl h_9) rfl rfl rfl ?_
      refine X.cop rfl (X.pickor_f (y := !(ref03_in p.Price (-1048576) 1048576)) rfl h_9 rfl) rfl rfl ?_
      refine X.cop rfl rfl rfl rfl ?_
      iterate 11 refine X.coff (X.off_f rfl rfl rfl h_10) rfl rfl ?_
      refine X.cop rfl (X.pickor_t (y := !decide (y4 = p.Value)) rfl h_10 rfl) rfl rfl ?_
      refine X.cnil ?_
      exact X.norm _ hg rfl (W.sub_cons rfl W.sub_nil)
    refine X.drawc (by kernel_rfl) rfl ?_
    iterate 3 refine X.cop rfl rfl rfl rfl ?_
    iterate 3 refine X.cop (X.on_f rfl rfl rfl h_8) rfl rfl rfl ?_
    refine X.ccall (ok_ref03_value (h_6 (X.nt h_8))) (X.on_f rfl rfl rfl h_8) rfl rfl rfl (.cons (.shut (n := 9) rfl) (.cons (.shut (n := 9) rfl) .nil)) ?_
    iterate 3 refine X.cop (X.on_f rfl rfl rfl h_8) rfl rfl rfl ?_
    refine X.cop rfl (X.pickor_f (y := !decide (y3 = p.Value)) rfl h_8 rfl) rfl rfl ?_
    refine X.cop rfl rfl rfl rfl ?_
    iterate 2 refine X.cop (X.on_f rfl rfl rfl h_9) rfl rfl rfl ?_
    refine X.ccall (ok_ref03_in p.Price (-1048576) 1048576) (X.on_f rfl rfl rfl h_9) rfl rfl rfl (.cons (.shut (n := 9) rfl) (.cons (.shut (n := 9) rfl) (.cons (.shut (n := 9) rfl) .nil))) ?_
    refine X.cop (X.on_f rfl rfl rfl h_9) rfl rfl rfl ?_
    refine X.cop rfl (X.pickor_f (y := !(ref03_in p.Price (-1048576) 1048576)) rfl h_9 rfl) rfl rfl ?_
    refine X.cop rfl rfl rfl rfl ?_
    iterate 7 refine X.cop (X.on_f rfl rfl rfl h_10) rfl rfl rfl ?_
    refine X.ccall (ok_ref03_bound (h_7 (X.nt h_10))) (X.on_f rfl rfl rfl h_10) rfl rfl rfl (.cons (.shut (n := 9) rfl) (.cons (.shut (n := 9) rfl) (.cons (.shut (n := 9) rfl) (.cons (.shut (n := 9) rfl) .nil)))) ?_
    iterate 3 refine X.cop (X.on_f rfl rfl rfl h_10) rfl rfl rfl ?_
    refine X.cop rfl (X.pickor_f (y := !decide (y4 = p.Value)) rfl h_10 rfl) rfl rfl ?_
    refine X.cnil ?_
    exact X.norm _ hg rfl (W.sub_cons rfl W.sub_nil)
  refine X.cond rfl (fun h_11 => ?_) (fun h_11 => ?_)
  · replace hM := ite_t h_11 hM
    refine X.sq ?_
    refine X.q rfl ?_
    refine GS.opsNil ?_
    have hE := Option.some.inj hM
    subst hE
    exact GS.ret ⟨_, rfl, ⟨30, rfl⟩⟩
  replace hM := ite_f h_11 hM
  refine GS.skip ?_
  refine X.sq ?_
  refine X.q rfl ?_
  refine GS.opsNil ?_
  have hE := Option.some.inj hM
  subst hE
  exact GS.ret ⟨_, rfl, ⟨30, rfl⟩⟩

set_option maxHeartbeats 4000000 in
theorem ok_law03_HullCheckMost {s : api_Ship} {l : api_Load} {form : (List Int)} {p : api_Price} {what : Int} {by_ : Int} {r : Bool} (hM : law03_HullCheckMost s l form p what by_ = some r) : Ct Try.prog 8 [(e_api_Ship s), (e_api_Load l), (V.sl (List.map V.i form)), (e_api_Price p), (V.i what), (V.i by_)] (V.b r) := by
  refine ct_of_gs CC_ok rfl ?_
  unfold law03_HullCheckMost at hM
  refine X.sq ?_
  iterate 3 refine X.opW rfl rfl rfl rfl ?_
  refine X.q rfl ?_
  refine GS.opsNil ?_
  refine GS.seq ?_
  refine X.sq ?_
  refine X.mid [(2, (V.sl (List.map V.i form))), (4, (V.i what)), (5, (V.i by_)), (6, (V.ptr 0 0 0)), (7, (V.ptr 1 0 0)), (9, (V.ptr 2 0 0)), (29, (V.b (((!(law03_short s l)) || (decide (20 < (form.length : Int)))) || (decide (20 < (p.Loading.length : Int))))))] ?_ ?_
  · intro hg
    refine X.split (!(law03_short s l)) (fun h_1 => ?_) (fun h_1 => ?_)
    · iterate 2 refine X.q rfl ?_
      refine X.call (ok_law03_short s l) rfl rfl rfl (.cons (.shut (n := 9) rfl) (.cons (.shut (n := 9) rfl) .nil)) ?_
      iterate 2 refine X.q rfl ?_
      iterate 3 refine X.off (X.off_f rfl rfl rfl h_1) rfl ?_
      refine X.opR rfl (X.pickor_t (y := decide (20 < (form.length : Int))) rfl h_1 rfl) rfl ?_
      refine X.q rfl ?_
      iterate 4 refine X.off (X.off_f rfl rfl rfl (X.or_tt h_1)) rfl ?_
      refine X.opR rfl (X.pickor_t (y := decide (20 < (p.Loading.length : Int))) rfl (X.or_tt h_1) rfl) rfl ?_
      refine GS.opsNil ?_
      exact X.norm _ hg rfl (W.sub_cons rfl (W.sub_cons rfl (W.sub_cons rfl (W.sub_cons rfl (W.sub_cons rfl (W.sub_cons rfl (W.sub_cons rfl W.sub_nil)))))))
    refine X.split (((!(law03_short s l)) || (decide (20 < (form.length : Int))))) (fun h_2 => ?_) (fun h_2 => ?_)
    · iterate 2 refine X.q rfl ?_
      refine X.call (ok_law03_short s l) rfl rfl rfl (.cons (.shut (n := 9) rfl) (.cons (.shut (n := 9) rfl) .nil)) ?_
      iterate 2 refine X.q rfl ?_
      refine X.opR (X.on_f rfl rfl rfl h_1) rfl rfl ?_
      refine X.opR (X.on_f rfl rfl rfl h_1) (X.lenF rfl rfl rfl) rfl ?_
      refine X.opR (X.on_f rfl rfl rfl h_1) rfl rfl ?_
      refine X.opR rfl (X.pickor_f (y := decide (20 < (form.length : Int))) rfl h_1 rfl) rfl ?_
      refine X.q rfl ?_
      iterate 4 refine X.off (X.off_f rfl rfl rfl h_2) rfl ?_
      refine X.opR rfl (X.pickor_t (y := decide (20 < (p.Loading.length : Int))) rfl h_2 rfl) rfl ?_
      refine GS.opsNil ?_
      exact X.norm _ hg rfl (W.sub_cons rfl (W.sub_cons rfl (W.sub_cons rfl (W.sub_cons rfl (W.sub_cons rfl (W.sub_cons rfl (W.sub_cons rfl W.sub_nil)))))))
    iterate 2 refine X.q rfl ?_
    refine X.call (ok_law03_short s l) rfl rfl rfl (.cons (.shut (n := 9) rfl) (.cons (.shut (n := 9) rfl) .nil)) ?_
    iterate 2 refine X.q rfl ?_
    refine X.opR (X.on_f rfl rfl rfl h_1) rfl rfl ?_
    refine X.opR (X.on_f rfl rfl rfl h_1) (X.lenF rfl rfl rfl) rfl ?_
    refine X.opR (X.on_f rfl rfl rfl h_1) rfl rfl ?_
    refine X.opR rfl (X.pickor_f (y := decide (20 < (form.length : Int))) rfl h_1 rfl) rfl ?_
    refine X.q rfl ?_
    iterate 2 refine X.opR (X.on_f rfl rfl rfl h_2) rfl rfl ?_
    refine X.opR (X.on_f rfl rfl rfl h_2) (X.lenF rfl rfl rfl) rfl ?_
    refine X.opR (X.on_f rfl rfl rfl h_2) rfl rfl ?_
    refine X.opR rfl (X.pickor_f (y := decide (20 < (p.Loading.length : Int))) rfl h_2 rfl) rfl ?_
    refine GS.opsNil ?_
    exact X.norm _ hg rfl (W.sub_cons rfl (W.sub_cons rfl (W.sub_cons rfl (W.sub_cons rfl (W.sub_cons rfl (W.sub_cons rfl (W.sub_cons rfl W.sub_nil)))))))
  refine X.cond rfl (fun h_3 => ?_) (fun h_3 => ?_)
  · replace hM := ite_t h_3 hM
    refine GS.seq ?_
    obtain ⟨y, h_4, hM⟩ := bind_of hM
    refine GS.region ?_
    refine X.call (ok_law03_sanity h_4) rfl rfl rfl .nil ?_
    refine X.q rfl ?_
    refine GS.opsNil ?_
    have hE := Option.some.inj hM
    subst hE
    exact GS.ret ⟨_, rfl, ⟨30, rfl⟩⟩
  replace hM := ite_f h_3 hM
  refine GS.skip ?_
  refine GS.seq ?_
  obtain ⟨y1, h_5, hM⟩ := bind_of hM
  refine GS.region ?_
  iterate 3 refine X.q rfl ?_
  refine X.call (ok_hull_Most h_5) rfl rfl rfl (.cons (.shut (n := 9) rfl) (.cons (.shut (n := 9) rfl) (.cons (.shut (n := 9) rfl) .nil))) ?_
  iterate 3 refine X.q rfl ?_
  refine X.opW (H' := [.rows 11 [(e_api_Ship s)], .rows 3 [(e_api_Load l)], .rows 3 [(e_api_Price p)], .rows 3 [(V.agg [(V.i 0), V.nil, (V.i 0)])]]) rfl rfl rfl rfl ?_
  refine X.op0W (H' := [.rows 11 [(e_api_Ship s)], .rows 3 [(e_api_Load l)], .rows 3 [(e_api_Price p)], .rows 3 [(e_api_Price y1.1)]]) rfl rfl rfl ?_
  refine X.q rfl ?_
  refine GS.opsNil ?_
  refine GS.seq ?_
  obtain ⟨l1, h_6, hM⟩ := bind_of hM
  refine GS.region ?_
  refine X.opW (H' := [.rows 11 [(e_api_Ship s)], .rows 3 [(e_api_Load l)], .rows 3 [(e_api_Price p)], .rows 3 [(e_api_Price y1.1)], .rows 1 (List.map V.i [])]) rfl rfl rfl rfl ?_
  iterate 2 refine X.q rfl ?_
  refine X.opW (H' := [.rows 11 [(e_api_Ship s)], .rows 3 [(e_api_Load l)], .rows 3 [(e_api_Price p)], .rows 3 [(e_api_Price y1.1)], .dead, .rows 1 (List.map V.i l1)]) rfl (X.appO (f := V.i) h_6 (fun _ => rfl) rfl rfl rfl rfl rfl rfl rfl rfl rfl rfl) rfl rfl ?_
  refine X.q rfl ?_
  refine X.op0W (H' := [.rows 11 [(e_api_Ship s)], .rows 3 [(e_api_Load l)], .rows 3 [(e_api_Price p)], .rows 3 [(V.agg [(V.i y1.1.Value), (V.osl 5 0 (List.length l1)), (V.i y1.1.Price)])], .dead, .rows 1 (List.map V.i l1)]) rfl rfl rfl ?_
  refine GS.opsNil ?_
  refine GS.seq ?_
  refine X.join (τ := Int × Int × (List Int)) (fun v => law03_HullCheckMost_j1 s l form p v.1 v.2.1 v.2.2 = some r) (fun v => ⟨[(2, (V.sl (List.map V.i form))), (6, (V.ptr 0 0 0)), (7, (V.ptr 1 0 0)), (9, (V.ptr 2 0 0)), (13, (V.ptr 3 0 0))], [.rows 11 [(e_api_Ship s)], .rows 3 [(e_api_Load l)], .rows 3 [(e_api_Price p)], .rows 3 [(V.agg [(V.i v.1), (V.osl 4 0 (List.length v.2.2)), (V.i v.2.1)])], .rows 1 (List.map V.i v.2.2)], 0, none, 125⟩) ?_ ?_
  · rintro ⟨Value, Price, l2⟩ hM
    replace hM : law03_HullCheckMost_j1 s l form p Value Price l2 = some r := hM
    unfold law03_HullCheckMost_j1 at hM
    refine GS.seq ?_
    obtain ⟨y2, h_7, hM⟩ := bind_of hM
    obtain ⟨y3, h_8, hM⟩ := gb_of hM
    obtain ⟨y4, h_9, hM⟩ := gb_of hM
    obtain ⟨y5, h_10, hM⟩ := gb_of hM
    obtain ⟨y6, h_11, hM⟩ := gb_of hM
    refine X.mid [(12, (V.b ((y2 && (decide (y3 = y4))) && (decide (y5 = y6)))))] ?_ ?_
    · intro hg
      refine X.split (y2) (fun h_12 => ?_) (fun h_12 => ?_)
      · refine X.split ((y2 && (decide (y3 = y4)))) (fun h_13 => ?_) (fun h_13 => ?_)
        · refine X.drawc (by kernel_rfl) rfl ?_
          refine X.ccall (ok_law03_sanity h_7) rfl rfl rfl rfl .nil ?_
          refine X.cop rfl rfl rfl rfl ?_
          iterate 4 refine X.cop (X.on_t rfl rfl rfl h_12) rfl rfl rfl ?_
          refine X.ccall (ok_hull_CheckMost (h_8 h_12)) (X.on_t rfl rfl rfl h_12) rfl rfl rfl (.cons (.shut (n := 9) rfl) (.cons (.shut (n := 9) rfl) (.cons (.shut (n := 9) rfl) (.cons (.shut (n := 9) rfl) .nil)))) ?_
          iterate 4 refine X.cop (X.on_t rfl rfl rfl h_12) rfl rfl rfl ?_
          refine X.ccall (ok_ref03_CheckMost (h_9 h_12)) (X.on_t rfl rfl rfl h_12) rfl rfl rfl (.cons (.shut (n := 9) rfl) (.cons (.shut (n := 9) rfl) (.cons (.shut (n := 9) rfl) (.cons (.shut (n := 9) rfl) .nil)))) ?_
          refine X.cop (X.on_t rfl rfl rfl h_12) rfl rfl rfl ?_
          refine X.cop rfl (X.pickand_t (y := decide (y3 = y4)) rfl h_12 rfl) rfl rfl ?_
          refine X.cop rfl rfl rfl rfl ?_
          iterate 4 refine X.cop (X.on_t rfl rfl rfl h_13) rfl rfl rfl ?_
          refine X.ccallF (ok_hull_CheckMost (h_10 h_13)) (X.on_t rfl rfl rfl h_13) rfl rfl rfl (m := 9) rfl (.cons (.shut (n := 9) rfl) (.cons (.shut (n := 9) rfl) (.cons (.shut (n := 9) rfl) (.cons (FR.arg (FR.agg (.cons ⟨30, rfl⟩ (.cons (FR.osl (f := V.i) (l := l2) 9 rfl rfl (fun _ => rfl)) (.cons ⟨30, rfl⟩ .nil))))) .nil)))) ?_
          iterate 4 refine X.cop (X.on_t rfl rfl rfl h_13) rfl rfl rfl ?_
          refine X.ccallF (ok_ref03_CheckMost (h_11 h_13)) (X.on_t rfl rfl rfl h_13) rfl rfl rfl (m := 9) rfl (.cons (.shut (n := 9) rfl) (.cons (.shut (n := 9) rfl) (.cons (.shut (n := 9) rfl) (.cons (FR.arg (FR.agg (.cons ⟨30, rfl⟩ (.cons (FR.osl (f := V.i) (l := l2) 9 rfl rfl (fun _ => rfl)) (.cons ⟨30, rfl⟩ .nil))))) .nil)))) ?_
          refine X.cop (X.on_t rfl rfl rfl h_13) rfl rfl rfl ?_
          refine X.cop rfl (X.pickand_t (y := decide (y5 = y6)) rfl h_13 rfl) rfl rfl ?_
          refine X.cop rfl rfl rfl rfl ?_
          refine X.cnil ?_
          exact X.norm _ hg rfl (W.sub_cons rfl W.sub_nil)
        refine X.drawc (by kernel_rfl) rfl ?_
        refine X.ccall (ok_law03_sanity h_7) rfl rfl rfl rfl .nil ?_
        refine X.cop rfl rfl rfl rfl ?_
        iterate 4 refine X.cop (X.on_t rfl rfl rfl h_12) rfl rfl rfl ?_
        refine X.ccall (ok_hull_CheckMost (h_8 h_12)) (X.on_t rfl rfl rfl h_12) rfl rfl rfl (.cons (.shut (n := 9) rfl) (.cons (.shut (n := 9) rfl) (.cons (.shut (n := 9) rfl) (.cons (.shut (n := 9) rfl) .nil)))) ?_
        iterate 4 refine X.cop (X.on_t rfl rfl rfl h_12) rfl rfl rfl ?_
        refine X.ccall (ok_ref03_CheckMost (h_9 h_12)) (X.on_t rfl rfl rfl h_12) rfl rfl rfl (.cons (.shut (n := 9) rfl) (.cons (.shut (n := 9) rfl) (.cons (.shut (n := 9) rfl) (.cons (.shut (n := 9) rfl) .nil)))) ?_
        refine X.cop (X.on_t rfl rfl rfl h_12) rfl rfl rfl ?_
        refine X.cop rfl (X.pickand_t (y := decide (y3 = y4)) rfl h_12 rfl) rfl rfl ?_
        refine X.cop rfl rfl rfl rfl ?_
        iterate 11 refine X.coff (X.off_t rfl rfl rfl h_13) rfl rfl ?_
        refine X.cop rfl (X.pickand_f (y := decide (y5 = y6)) rfl h_13 rfl) rfl rfl ?_
        refine X.cop rfl rfl rfl rfl ?_
        refine X.cnil ?_
        exact X.norm _ hg rfl (W.sub_cons rfl W.sub_nil)
      refine X.drawc (by kernel_rfl) rfl ?_
      refine X.ccall (ok_law03_sanity h_7) rfl rfl rfl rfl .nil ?_
      refine X.cop rfl rfl rfl rfl ?_
      iterate 11 refine X.coff (X.off_t rfl rfl rfl h_12) rfl rfl ?_
      refine X.cop rfl (X.pickand_f (y := decide (y3 = y4)) rfl h_12 rfl) rfl rfl ?_
      refine X.cop rfl rfl rfl rfl ?_
      iterate 11 refine X.coff (X.off_t rfl rfl rfl (X.and_ff h_12)) rfl rfl ?_
      refine X.cop rfl (X.pickand_f (y := decide (y5 = y6)) rfl (X.and_ff h_12) rfl) rfl rfl ?_
      refine X.cop rfl rfl rfl rfl ?_
      refine X.cnil ?_
      exact X.norm _ hg rfl (W.sub_cons rfl W.sub_nil)
    have hE := Option.some.inj hM
    subst hE
    exact GS.ret ⟨_, rfl, ⟨30, rfl⟩⟩
  intro hj_1
  refine GS.block ?_
  refine X.sq ?_
  iterate 3 refine X.q rfl ?_
  refine GS.opsNil ?_
  refine X.cond rfl (fun h_14 => ?_) (fun h_14 => ?_)
  · replace hM := ite_t h_14 hM
    refine GS.region ?_
    iterate 3 refine X.q rfl ?_
    refine X.opR rfl (X.addE rfl rfl) rfl ?_
    refine X.q rfl ?_
    refine X.op0W (H' := [.rows 11 [(e_api_Ship s)], .rows 3 [(e_api_Load l)], .rows 3 [(e_api_Price p)], .rows 3 [(V.agg [(V.i (w64 (y1.1.Value + by_))), (V.osl 5 0 (List.length l1)), (V.i y1.1.Price)])], .dead, .rows 1 (List.map V.i l1)]) rfl rfl rfl ?_
    refine GS.opsNil ?_
    refine GS.endB ?_
    exact X.gc [some 0, some 1, some 2, some 3, some 5] (hj_1 (w64 (y1.1.Value + by_), y1.1.Price, l1) hM) rfl rfl rfl (gk_cons rfl ⟨9, rfl⟩ (gk_cons rfl ⟨9, rfl⟩ (gk_cons rfl ⟨9, rfl⟩ (gk_cons rfl ⟨9, rfl⟩ (gk_cons rfl ⟨9, rfl⟩ gk_nil))))) (gb_box rfl rfl ⟨9, rfl⟩ (gb_box rfl rfl ⟨9, rfl⟩ (gb_box rfl rfl ⟨9, rfl⟩ (gb_box rfl rfl ⟨9, rfl⟩ (gb_rows 9 rfl rfl (fun _ => rfl) gb_nil)))))
  replace hM := ite_f h_14 hM
  refine X.sq ?_
  iterate 3 refine X.q rfl ?_
  refine GS.opsNil ?_
  refine X.cond rfl (fun h_15 => ?_) (fun h_15 => ?_)
  · replace hM := ite_t h_15 hM
    refine GS.region ?_
    iterate 3 refine X.q rfl ?_
    refine X.opR rfl (X.addE rfl rfl) rfl ?_
    refine X.q rfl ?_
    refine X.op0W (H' := [.rows 11 [(e_api_Ship s)], .rows 3 [(e_api_Load l)], .rows 3 [(e_api_Price p)], .rows 3 [(V.agg [(V.i y1.1.Value), (V.osl 5 0 (List.length l1)), (V.i (w64 (y1.1.Price + by_)))])], .dead, .rows 1 (List.map V.i l1)]) rfl rfl rfl ?_
    refine GS.opsNil ?_
    refine GS.endB ?_
    exact X.gc [some 0, some 1, some 2, some 3, some 5] (hj_1 (y1.1.Value, w64 (y1.1.Price + by_), l1) hM) rfl rfl rfl (gk_cons rfl ⟨9, rfl⟩ (gk_cons rfl ⟨9, rfl⟩ (gk_cons rfl ⟨9, rfl⟩ (gk_cons rfl ⟨9, rfl⟩ (gk_cons rfl ⟨9, rfl⟩ gk_nil))))) (gb_box rfl rfl ⟨9, rfl⟩ (gb_box rfl rfl ⟨9, rfl⟩ (gb_box rfl rfl ⟨9, rfl⟩ (gb_box rfl rfl ⟨9, rfl⟩ (gb_rows 9 rfl rfl (fun _ => rfl) gb_nil)))))
  replace hM := ite_f h_15 hM
  refine X.sq ?_
  refine X.mid [(2, (V.sl (List.map V.i form))), (4, (V.i what)), (5, (V.i by_)), (6, (V.ptr 0 0 0)), (7, (V.ptr 1 0 0)), (9, (V.ptr 2 0 0)), (13, (V.ptr 3 0 0)), (59, (V.b ((decide (what = 3)) && (decide (0 < (l1.length : Int))))))] ?_ ?_
  · intro hg
    refine X.split (decide (what = 3)) (fun h_16 => ?_) (fun h_16 => ?_)
    · iterate 3 refine X.q rfl ?_
      iterate 2 refine X.opR (X.on_t rfl rfl rfl h_16) rfl rfl ?_
      refine X.opR (X.on_t rfl rfl rfl h_16) (X.lenO (l := l1) rfl rfl rfl) rfl ?_
      refine X.opR (X.on_t rfl rfl rfl h_16) rfl rfl ?_
      refine X.opR rfl (X.pickand_t (y := decide (0 < (l1.length : Int))) rfl h_16 rfl) rfl ?_
      refine X.q rfl ?_
      refine GS.opsNil ?_
      exact X.norm _ hg rfl (W.sub_cons rfl (W.sub_cons rfl (W.sub_cons rfl (W.sub_cons rfl (W.sub_cons rfl (W.sub_cons rfl (W.sub_cons rfl (W.sub_cons rfl W.sub_nil))))))))
    iterate 3 refine X.q rfl ?_
    iterate 4 refine X.off (X.off_t rfl rfl rfl h_16) rfl ?_
    refine X.opR rfl (X.pickand_f (y := decide (0 < (l1.length : Int))) rfl h_16 rfl) rfl ?_
    refine X.q rfl ?_
    refine GS.opsNil ?_
    exact X.norm _ hg rfl (W.sub_cons rfl (W.sub_cons rfl (W.sub_cons rfl (W.sub_cons rfl (W.sub_cons rfl (W.sub_cons rfl (W.sub_cons rfl (W.sub_cons rfl W.sub_nil))))))))
  refine X.cond rfl (fun h_17 => ?_) (fun h_17 => ?_)
  · replace hM := ite_t h_17 hM
    obtain ⟨x, h_18, hM⟩ := bind_of hM
    obtain ⟨x1, h_19, hM⟩ := bind_of hM
    refine GS.region ?_
    iterate 2 refine X.q rfl ?_
    refine X.opR rfl (X.indexO h_18 rfl rfl rfl rfl rfl) rfl ?_
    refine X.opR rfl (X.loadO h_18 rfl rfl rfl rfl) rfl ?_
    refine X.q rfl ?_
    refine X.opR rfl (X.addE rfl rfl) rfl ?_
    refine X.opR rfl (X.indexO h_19 rfl rfl rfl rfl rfl) rfl ?_
    refine X.op0W (H' := [.rows 11 [(e_api_Ship s)], .rows 3 [(e_api_Load l)], .rows 3 [(e_api_Price p)], .rows 3 [(V.agg [(V.i y1.1.Value), (V.osl 5 0 (List.length l1)), (V.i y1.1.Price)])], .dead, .rows 1 (List.map V.i (put l1 0 (w64 (x + by_))))]) rfl (X.storeO (b := w64 (x + by_)) h_19 rfl rfl rfl rfl rfl rfl rfl) rfl ?_
    refine GS.opsNil ?_
    refine GS.endB ?_
    exact X.gc [some 0, some 1, some 2, some 3, some 5] (hj_1 (y1.1.Value, y1.1.Price, (put l1 0 (w64 (x + by_)))) hM) rfl rfl rfl (gk_cons rfl ⟨9, rfl⟩ (gk_cons rfl ⟨9, rfl⟩ (gk_cons rfl ⟨9, rfl⟩ (gk_cons rfl ⟨9, rfl⟩ (gk_cons rfl ⟨9, rfl⟩ gk_nil))))) (gb_box rfl rfl ⟨9, rfl⟩ (gb_box rfl rfl ⟨9, rfl⟩ (gb_box rfl rfl ⟨9, rfl⟩ (gb_box rfl rfl (rn_agg (.cons ⟨9, rfl⟩ (.cons (rv_eq X.osl_put ⟨9, rfl⟩) (.cons ⟨9, rfl⟩ .nil)))) (gb_rows 9 rfl rfl (fun _ => rfl) gb_nil)))))
  replace hM := ite_f h_17 hM
  refine X.sq ?_
  refine X.mid [(2, (V.sl (List.map V.i form))), (6, (V.ptr 0 0 0)), (7, (V.ptr 1 0 0)), (9, (V.ptr 2 0 0)), (13, (V.ptr 3 0 0)), (75, (V.b ((decide (what = 4)) && (decide (1 < (l1.length : Int))))))] ?_ ?_
  · intro hg
    refine X.split (decide (what = 4)) (fun h_20 => ?_) (fun h_20 => ?_)
    · iterate 3 refine X.q rfl ?_
      iterate 2 refine X.opR (X.on_t rfl rfl rfl h_20) rfl rfl ?_
      refine X.opR (X.on_t rfl rfl rfl h_20) (X.lenO (l := l1) rfl rfl rfl) rfl ?_
      refine X.opR (X.on_t rfl rfl rfl h_20) rfl rfl ?_
      refine X.opR rfl (X.pickand_t (y := decide (1 < (l1.length : Int))) rfl h_20 rfl) rfl ?_
      refine X.q rfl ?_
      refine GS.opsNil ?_
      exact X.norm _ hg rfl (W.sub_cons rfl (W.sub_cons rfl (W.sub_cons rfl (W.sub_cons rfl (W.sub_cons rfl (W.sub_cons rfl W.sub_nil))))))
    iterate 3 refine X.q rfl ?_
    iterate 4 refine X.off (X.off_t rfl rfl rfl h_20) rfl ?_
    refine X.opR rfl (X.pickand_f (y := decide (1 < (l1.length : Int))) rfl h_20 rfl) rfl ?_
    refine X.q rfl ?_
    refine GS.opsNil ?_
    exact X.norm _ hg rfl (W.sub_cons rfl (W.sub_cons rfl (W.sub_cons rfl (W.sub_cons rfl (W.sub_cons rfl (W.sub_cons rfl W.sub_nil))))))
  refine X.cond rfl (fun h_21 => ?_) (fun h_21 => ?_)
  · replace hM := ite_t h_21 hM
    obtain ⟨x2, h_22, hM⟩ := bind_of hM
    obtain ⟨x3, h_23, hM⟩ := bind_of hM
    obtain ⟨x4, h_24, hM⟩ := bind_of hM
    obtain ⟨x5, h_25, hM⟩ := bind_of hM
    refine X.draw (by kernel_rfl) ?_
    iterate 6 refine X.dop rfl rfl rfl rfl (by kernel_rfl) rfl rfl ?_
    refine X.dop rfl (X.indexO h_22 rfl rfl rfl rfl rfl) rfl rfl (by kernel_rfl) rfl rfl ?_
    refine X.dop rfl (X.loadO h_22 rfl rfl rfl rfl) rfl rfl (by kernel_rfl) rfl rfl ?_
    iterate 2 refine X.dop rfl rfl rfl rfl (by kernel_rfl) rfl rfl ?_
    refine X.dop rfl (X.indexO h_23 rfl rfl rfl rfl rfl) rfl rfl (by kernel_rfl) rfl rfl ?_
    refine X.dop rfl (X.loadO h_23 rfl rfl rfl rfl) rfl rfl (by kernel_rfl) rfl rfl ?_
    refine X.dop rfl (X.indexO h_24 rfl rfl rfl rfl rfl) rfl rfl (by kernel_rfl) rfl rfl ?_
    refine X.dop0 rfl (X.storeO (b := x2) h_24 rfl rfl rfl rfl rfl rfl rfl) rfl rfl (by kernel_rfl) rfl ?_
    refine X.dop rfl (X.indexO h_25 rfl rfl (X.kev_eq rfl X.osl_put) rfl rfl) rfl rfl (by kernel_rfl) rfl rfl ?_
    refine X.dop0 rfl (X.storeO (b := x3) h_25 rfl rfl rfl rfl rfl rfl rfl) rfl rfl (by kernel_rfl) rfl ?_
    refine X.dnil ?_
    refine X.norm [(2, (V.sl (List.map V.i form))), (6, (V.ptr 0 0 0)), (7, (V.ptr 1 0 0)), (9, (V.ptr 2 0 0)), (13, (V.ptr 3 0 0))] ?_ rfl (W.sub_cons rfl (W.sub_cons rfl (W.sub_cons rfl (W.sub_cons rfl (W.sub_cons rfl W.sub_nil)))))
    refine GS.endB ?_
    exact X.gc [some 0, some 1, some 2, some 3, some 5] (hj_1 (y1.1.Value, y1.1.Price, (put (put l1 0 x2) 1 x3)) hM) rfl rfl rfl (gk_cons rfl ⟨9, rfl⟩ (gk_cons rfl ⟨9, rfl⟩ (gk_cons rfl ⟨9, rfl⟩ (gk_cons rfl ⟨9, rfl⟩ (gk_cons rfl ⟨9, rfl⟩ gk_nil))))) (gb_box rfl rfl ⟨9, rfl⟩ (gb_box rfl rfl ⟨9, rfl⟩ (gb_box rfl rfl ⟨9, rfl⟩ (gb_box rfl rfl (rn_agg (.cons ⟨9, rfl⟩ (.cons (rv_eq (Eq.trans X.osl_put X.osl_put) ⟨9, rfl⟩) (.cons ⟨9, rfl⟩ .nil)))) (gb_rows 9 rfl rfl (fun _ => rfl) gb_nil)))))
  replace hM := ite_f h_21 hM
  refine GS.skip ?_
  refine GS.endB ?_
  exact X.gc [some 0, some 1, some 2, some 3, some 5] (hj_1 (y1.1.Value, y1.1.Price, l1) hM) rfl rfl rfl (gk_cons rfl ⟨9, rfl⟩ (gk_cons rfl ⟨9, rfl⟩ (gk_cons rfl ⟨9, rfl⟩ (gk_cons rfl ⟨9, rfl⟩ (gk_cons rfl ⟨9, rfl⟩ gk_nil))))) (gb_box rfl rfl ⟨9, rfl⟩ (gb_box rfl rfl ⟨9, rfl⟩ (gb_box rfl rfl ⟨9, rfl⟩ (gb_box rfl rfl ⟨9, rfl⟩ (gb_rows 9 rfl rfl (fun _ => rfl) gb_nil)))))

end Go.Proofs.Ythfnbjoecocfaaa
