/- The program's functions compute the plain ones. Conditions: none. Printed by a program (wip/tools/xg.py). -/
import Derived.Test.YthfnbjoecocfaaaP2
set_option linter.unusedVariables false
set_option linter.unusedSimpArgs false
namespace Go.Proofs.Ythfnbjoecocfaaa
open Go Go.Am Go.Proofs Go.Mx

theorem ok_hull_CheckMost {s : api_Ship} {l : api_Load} {form : (List Int)} {p : api_Price} {r : Int} (hM : hull_CheckMost s l form p = some r) : Ct Try.prog 33 [(e_api_Ship s), (e_api_Load l), (V.sl (List.map V.i form)), (e_api_Price p)] (V.i r) := by
  refine ct_of_gs CC_ok rfl ?_
  unfold hull_CheckMost at hM
  refine X.sq ?_
  iterate 3 refine X.opW rfl rfl rfl rfl ?_
  refine X.q rfl ?_
  refine GS.opsNil ?_
  iterate 2 refine GS.seq ?_
  obtain ⟨y, h_1, hM⟩ := bind_of hM
  refine GS.region ?_
  iterate 3 refine X.q rfl ?_
  refine X.call (ok_hull_asked h_1) rfl rfl rfl (.cons (.shut (n := 9) rfl) (.cons (.shut (n := 9) rfl) (.cons (.shut (n := 9) rfl) .nil))) ?_
  refine X.q rfl ?_
  refine X.nq ?_
  iterate 2 refine X.q rfl ?_
  refine GS.opsNil ?_
  refine X.cond rfl (fun h_2 => ?_) (fun h_2 => ?_)
  · replace hM := ite_t h_2 hM
    refine X.sq ?_
    iterate 2 refine X.q rfl ?_
    refine GS.opsNil ?_
    have hE := Option.some.inj hM
    subst hE
    exact GS.ret ⟨_, rfl, ⟨30, rfl⟩⟩
  replace hM := ite_f h_2 hM
  refine GS.skip ?_
  iterate 2 refine GS.seq ?_
  obtain ⟨y1, h_3, hM⟩ := bind_of hM
  obtain ⟨y2, h_4, hM⟩ := gb_of hM
  obtain ⟨y3, h_5, hM⟩ := gb_of hM
  refine X.mid [(48, (V.b ((((!y1) || (!decide (y2 = p.Value))) || (!(hull_within p.Price (-1048576) 1048576))) || (!decide (y3 = p.Value)))))] ?_ ?_
  · intro hg
    refine X.split (!y1) (fun h_6 => ?_) (fun h_6 => ?_)
    · refine X.drawc (by kernel_rfl) rfl ?_
      iterate 3 refine X.cop rfl rfl rfl rfl ?_
      refine X.ccall (ok_hull_fits h_3) rfl rfl rfl rfl (.cons (.shut (n := 9) rfl) (.cons (.shut (n := 9) rfl) .nil)) ?_
      iterate 2 refine X.cop rfl rfl rfl rfl ?_
      iterate 7 refine X.coff (X.off_f rfl rfl rfl h_6) rfl rfl ?_
      refine X.cop rfl (X.pickor_t (y := !decide (y2 = p.Value)) rfl h_6 rfl) rfl rfl ?_
      refine X.cop rfl rfl rfl rfl ?_
      iterate 4 refine X.coff (X.off_f rfl rfl rfl (X.or_tt h_6)) rfl rfl ?_
      refine X.cop rfl (X.pickor_t (y := !(hull_within p.Price (-1048576) 1048576)) rfl (X.or_tt h_6) rfl) rfl rfl ?_
      refine X.cop rfl rfl rfl rfl ?_
      iterate 10 refine X.coff (X.off_f rfl rfl rfl (X.or_tt (X.or_tt h_6))) rfl rfl ?_
      refine X.cop rfl (X.pickor_t (y := !decide (y3 = p.Value)) rfl (X.or_tt (X.or_tt h_6)) rfl) rfl rfl ?_
      refine X.cnil ?_
      exact X.norm _ hg rfl (sr rfl)
    refine X.split (((!y1) || (!decide (y2 = p.Value)))) (fun h_7 => ?_) (fun h_7 => ?_)
    · refine X.drawc (by kernel_rfl) rfl ?_
      iterate 3 refine X.cop rfl rfl rfl rfl ?_
      refine X.ccall (ok_hull_fits h_3) rfl rfl rfl rfl (.cons (.shut (n := 9) rfl) (.cons (.shut (n := 9) rfl) .nil)) ?_
      iterate 2 refine X.cop rfl rfl rfl rfl ?_
      iterate 3 refine X.cop (X.on_f rfl rfl rfl h_6) rfl rfl rfl ?_
      refine X.ccall (ok_hull_value (h_4 (X.nt h_6))) (X.on_f rfl rfl rfl h_6) rfl rfl rfl (.cons (.shut (n := 9) rfl) (.cons (.shut (n := 9) rfl) .nil)) ?_
      iterate 3 refine X.cop (X.on_f rfl rfl rfl h_6) rfl rfl rfl ?_
      refine X.cop rfl (X.pickor_f (y := !decide (y2 = p.Value)) rfl h_6 rfl) rfl rfl ?_
      refine X.cop rfl rfl rfl rfl ?_
      iterate 4 refine X.coff (X.off_f rfl rfl rfl h_7) rfl rfl ?_
      refine X.cop rfl (X.pickor_t (y := !(hull_within p.Price (-1048576) 1048576)) rfl h_7 rfl) rfl rfl ?_
      refine X.cop rfl rfl rfl rfl ?_
      iterate 10 refine X.coff (X.off_f rfl rfl rfl (X.or_tt h_7)) rfl rfl ?_
      refine X.cop rfl (X.pickor_t (y := !decide (y3 = p.Value)) rfl (X.or_tt h_7) rfl) rfl rfl ?_
      refine X.cnil ?_
      exact X.norm _ hg rfl (sr rfl)
    refine X.split ((((!y1) || (!decide (y2 = p.Value))) || (!(hull_within p.Price (-1048576) 1048576)))) (fun h_8 => ?_) (fun h_8 => ?_)
    · refine X.drawc (by kernel_rfl) rfl ?_
      iterate 3 refine X.cop rfl rfl rfl rfl ?_
      refine X.ccall (ok_hull_fits h_3) rfl rfl rfl rfl (.cons (.shut (n := 9) rfl) (.cons (.shut (n := 9) rfl) .nil)) ?_
      iterate 2 refine X.cop rfl rfl rfl rfl ?_
      iterate 3 refine X.cop (X.on_f rfl rfl rfl h_6) rfl rfl rfl ?_
      refine X.ccall (ok_hull_value (h_4 (X.nt h_6))) (X.on_f rfl rfl rfl h_6) rfl rfl rfl (.cons (.shut (n := 9) rfl) (.cons (.shut (n := 9) rfl) .nil)) ?_
      iterate 3 refine X.cop (X.on_f rfl rfl rfl h_6) rfl rfl rfl ?_
      refine X.cop rfl (X.pickor_f (y := !decide (y2 = p.Value)) rfl h_6 rfl) rfl rfl ?_
      refine X.cop rfl rfl rfl rfl ?_
      iterate 2 refine X.cop (X.on_f rfl rfl rfl h_7) rfl rfl rfl ?_
      refine X.ccall (ok_hull_within p.Price (-1048576) 1048576) (X.on_f rfl rfl rfl h_7) rfl rfl rfl (.cons (.shut (n := 9) rfl) (.cons (.shut (n := 9) rfl) (.cons (.shut (n := 9) rfl) .nil))) ?_
      refine X.cop (X.on_f rfl rfl rfl h_7) rfl rfl rfl ?_
      refine X.cop rfl (X.pickor_f (y := !(hull_within p.Price (-1048576) 1048576)) rfl h_7 rfl) rfl rfl ?_
      refine X.cop rfl rfl rfl rfl ?_
      iterate 10 refine X.coff (X.off_f rfl rfl rfl h_8) rfl rfl ?_
      refine X.cop rfl (X.pickor_t (y := !decide (y3 = p.Value)) rfl h_8 rfl) rfl rfl ?_
      refine X.cnil ?_
      exact X.norm _ hg rfl (sr rfl)
    refine X.drawc (by kernel_rfl) rfl ?_
    iterate 3 refine X.cop rfl rfl rfl rfl ?_
    refine X.ccall (ok_hull_fits h_3) rfl rfl rfl rfl (.cons (.shut (n := 9) rfl) (.cons (.shut (n := 9) rfl) .nil)) ?_
    iterate 2 refine X.cop rfl rfl rfl rfl ?_
    iterate 3 refine X.cop (X.on_f rfl rfl rfl h_6) rfl rfl rfl ?_
    refine X.ccall (ok_hull_value (h_4 (X.nt h_6))) (X.on_f rfl rfl rfl h_6) rfl rfl rfl (.cons (.shut (n := 9) rfl) (.cons (.shut (n := 9) rfl) .nil)) ?_
    iterate 3 refine X.cop (X.on_f rfl rfl rfl h_6) rfl rfl rfl ?_
    refine X.cop rfl (X.pickor_f (y := !decide (y2 = p.Value)) rfl h_6 rfl) rfl rfl ?_
    refine X.cop rfl rfl rfl rfl ?_
    iterate 2 refine X.cop (X.on_f rfl rfl rfl h_7) rfl rfl rfl ?_
    refine X.ccall (ok_hull_within p.Price (-1048576) 1048576) (X.on_f rfl rfl rfl h_7) rfl rfl rfl (.cons (.shut (n := 9) rfl) (.cons (.shut (n := 9) rfl) (.cons (.shut (n := 9) rfl) .nil))) ?_
    refine X.cop (X.on_f rfl rfl rfl h_7) rfl rfl rfl ?_
    refine X.cop rfl (X.pickor_f (y := !(hull_within p.Price (-1048576) 1048576)) rfl h_7 rfl) rfl rfl ?_
    refine X.cop rfl rfl rfl rfl ?_
    iterate 6 refine X.cop (X.on_f rfl rfl rfl h_8) rfl rfl rfl ?_
    refine X.ccall (ok_hull_bound (h_5 (X.nt h_8))) (X.on_f rfl rfl rfl h_8) rfl rfl rfl (.cons (.shut (n := 9) rfl) (.cons (.shut (n := 9) rfl) (.cons (.shut (n := 9) rfl) (.cons (.shut (n := 9) rfl) .nil)))) ?_
    iterate 3 refine X.cop (X.on_f rfl rfl rfl h_8) rfl rfl rfl ?_
    refine X.cop rfl (X.pickor_f (y := !decide (y3 = p.Value)) rfl h_8 rfl) rfl rfl ?_
    refine X.cnil ?_
    exact X.norm _ hg rfl (sr rfl)
  refine X.cond rfl (fun h_9 => ?_) (fun h_9 => ?_)
  · replace hM := ite_t h_9 hM
    refine X.sq ?_
    refine X.q rfl ?_
    refine GS.opsNil ?_
    have hE := Option.some.inj hM
    subst hE
    exact GS.ret ⟨_, rfl, ⟨30, rfl⟩⟩
  replace hM := ite_f h_9 hM
  refine GS.skip ?_
  refine X.sq ?_
  refine X.q rfl ?_
  refine GS.opsNil ?_
  have hE := Option.some.inj hM
  subst hE
  exact GS.ret ⟨_, rfl, ⟨30, rfl⟩⟩

set_option maxHeartbeats 4000000 in
theorem ok_law03_HullMost {s : api_Ship} {l : api_Load} {form : (List Int)} {r : Bool} (hM : law03_HullMost s l form = some r) : Ct Try.prog 7 [(e_api_Ship s), (e_api_Load l), (V.sl (List.map V.i form))] (V.b r) := by
  refine ct_of_gs CC_ok rfl ?_
  unfold law03_HullMost at hM
  refine X.sq ?_
  iterate 2 refine X.opW rfl rfl rfl rfl ?_
  refine X.q rfl ?_
  refine GS.opsNil ?_
  refine GS.seq ?_
  refine X.sq ?_
  refine X.mid [(2, (V.sl (List.map V.i form))), (3, (V.ptr 0 0 0)), (4, (V.ptr 1 0 0)), (18, (V.b ((!(law03_short s l)) || (decide (20 < (form.length : Int))))))] ?_ ?_
  · intro hg
    refine X.split (!(law03_short s l)) (fun h_1 => ?_) (fun h_1 => ?_)
    · iterate 2 refine X.q rfl ?_
      refine X.call (ok_law03_short s l) rfl rfl rfl (.cons (.shut (n := 9) rfl) (.cons (.shut (n := 9) rfl) .nil)) ?_
      iterate 2 refine X.q rfl ?_
      iterate 3 refine X.off (X.off_f rfl rfl rfl h_1) rfl ?_
      refine X.opR rfl (X.pickor_t (y := decide (20 < (form.length : Int))) rfl h_1 rfl) rfl ?_
      refine GS.opsNil ?_
      exact X.norm _ hg rfl (sr rfl)
    iterate 2 refine X.q rfl ?_
    refine X.call (ok_law03_short s l) rfl rfl rfl (.cons (.shut (n := 9) rfl) (.cons (.shut (n := 9) rfl) .nil)) ?_
    iterate 2 refine X.q rfl ?_
    refine X.opR (X.on_f rfl rfl rfl h_1) rfl rfl ?_
    refine X.opR (X.on_f rfl rfl rfl h_1) (X.lenF rfl rfl rfl) rfl ?_
    refine X.opR (X.on_f rfl rfl rfl h_1) rfl rfl ?_
    refine X.opR rfl (X.pickor_f (y := decide (20 < (form.length : Int))) rfl h_1 rfl) rfl ?_
    refine GS.opsNil ?_
    exact X.norm _ hg rfl (sr rfl)
  refine X.cond rfl (fun h_2 => ?_) (fun h_2 => ?_)
  · replace hM := ite_t h_2 hM
    refine GS.seq ?_
    obtain ⟨y, h_3, hM⟩ := bind_of hM
    refine GS.region ?_
    refine X.call (ok_law03_sanity h_3) rfl rfl rfl .nil ?_
    refine X.q rfl ?_
    refine GS.opsNil ?_
    have hE := Option.some.inj hM
    subst hE
    exact GS.ret ⟨_, rfl, ⟨30, rfl⟩⟩
  replace hM := ite_f h_2 hM
  refine GS.skip ?_
  refine GS.seq ?_
  obtain ⟨y1, h_4, hM⟩ := bind_of hM
  refine GS.region ?_
  iterate 3 refine X.q rfl ?_
  refine X.call (ok_hull_Most h_4) rfl rfl rfl (.cons (.shut (n := 9) rfl) (.cons (.shut (n := 9) rfl) (.cons (.shut (n := 9) rfl) .nil))) ?_
  iterate 3 refine X.q rfl ?_
  refine X.opW rfl rfl rfl rfl ?_
  refine X.op0W rfl rfl rfl ?_
  refine X.q rfl ?_
  refine GS.opsNil ?_
  refine GS.seq ?_
  obtain ⟨y2, h_5, hM⟩ := bind_of hM
  refine GS.region ?_
  iterate 3 refine X.q rfl ?_
  refine X.call (ok_ref03_Greatest h_5) rfl rfl rfl (.cons (.shut (n := 9) rfl) (.cons (.shut (n := 9) rfl) (.cons (.shut (n := 9) rfl) .nil))) ?_
  refine X.opW (H' := [.rows 11 [(e_api_Ship s)], .rows 3 [(e_api_Load l)], .rows 3 [(e_api_Price y1.1)], .rows 2 [(V.agg [(V.i 0), (V.i 0)])]]) rfl rfl rfl rfl ?_
  refine X.op0W (H' := [.rows 11 [(e_api_Ship s)], .rows 3 [(e_api_Load l)], .rows 3 [(e_api_Price y1.1)], .rows 2 [(e_ref03_Worth y2)]]) rfl rfl rfl ?_
  refine GS.opsNil ?_
  refine GS.seq ?_
  refine X.sq ?_
  iterate 4 refine X.q rfl ?_
  refine GS.opsNil ?_
  refine X.cond rfl (fun h_6 => ?_) (fun h_6 => ?_)
  · replace hM := ite_t h_6 hM
    refine X.sq ?_
    refine X.q rfl ?_
    refine GS.opsNil ?_
    have hE := Option.some.inj hM
    subst hE
    exact GS.ret ⟨_, rfl, ⟨30, rfl⟩⟩
  replace hM := ite_f h_6 hM
  refine GS.skip ?_
  refine GS.seq ?_
  refine X.sq ?_
  iterate 2 refine X.q rfl ?_
  refine GS.opsNil ?_
  refine X.cond rfl (fun h_7 => ?_) (fun h_7 => ?_)
  · replace hM := ite_t h_7 hM
    refine GS.seq ?_
    obtain ⟨y3, h_8, hM⟩ := bind_of hM
    refine GS.region ?_
    refine X.mid [(6, (V.b (((y3 && (decide (y1.1.Value = 0))) && (decide ((y1.1.Loading.length : Int) = 0))) && (decide (y1.1.Price = 0)))))] ?_ ?_
    · intro hg
      refine X.split (y3) (fun h_9 => ?_) (fun h_9 => ?_)
      · refine X.split ((y3 && (decide (y1.1.Value = 0)))) (fun h_10 => ?_) (fun h_10 => ?_)
        · refine X.split (((y3 && (decide (y1.1.Value = 0))) && (decide ((y1.1.Loading.length : Int) = 0)))) (fun h_11 => ?_) (fun h_11 => ?_)
          · refine X.call (ok_law03_sanity h_8) rfl rfl rfl .nil ?_
            refine X.q rfl ?_
            iterate 3 refine X.opR (X.on_t rfl rfl rfl h_9) rfl rfl ?_
            refine X.opR rfl (X.pickand_t (y := decide (y1.1.Value = 0)) rfl h_9 rfl) rfl ?_
            refine X.q rfl ?_
            iterate 2 refine X.opR (X.on_t rfl rfl rfl h_10) rfl rfl ?_
            refine X.opR (X.on_t rfl rfl rfl h_10) (X.lenF rfl rfl rfl) rfl ?_
            refine X.opR (X.on_t rfl rfl rfl h_10) rfl rfl ?_
            refine X.opR rfl (X.pickand_t (y := decide ((y1.1.Loading.length : Int) = 0)) rfl h_10 rfl) rfl ?_
            refine X.q rfl ?_
            iterate 3 refine X.opR (X.on_t rfl rfl rfl h_11) rfl rfl ?_
            refine X.opR rfl (X.pickand_t (y := decide (y1.1.Price = 0)) rfl h_11 rfl) rfl ?_
            refine X.q rfl ?_
            refine GS.opsNil ?_
            exact X.norm _ hg rfl (sr rfl)
          refine X.call (ok_law03_sanity h_8) rfl rfl rfl .nil ?_
          refine X.q rfl ?_
          iterate 3 refine X.opR (X.on_t rfl rfl rfl h_9) rfl rfl ?_
          refine X.opR rfl (X.pickand_t (y := decide (y1.1.Value = 0)) rfl h_9 rfl) rfl ?_
          refine X.q rfl ?_
          iterate 2 refine X.opR (X.on_t rfl rfl rfl h_10) rfl rfl ?_
          refine X.opR (X.on_t rfl rfl rfl h_10) (X.lenF rfl rfl rfl) rfl ?_
          refine X.opR (X.on_t rfl rfl rfl h_10) rfl rfl ?_
          refine X.opR rfl (X.pickand_t (y := decide ((y1.1.Loading.length : Int) = 0)) rfl h_10 rfl) rfl ?_
          refine X.q rfl ?_
          iterate 3 refine X.off (X.off_t rfl rfl rfl h_11) rfl ?_
          refine X.opR rfl (X.pickand_f (y := decide (y1.1.Price = 0)) rfl h_11 rfl) rfl ?_
          refine X.q rfl ?_
          refine GS.opsNil ?_
          exact X.norm _ hg rfl (sr rfl)
        refine X.call (ok_law03_sanity h_8) rfl rfl rfl .nil ?_
        refine X.q rfl ?_
        iterate 3 refine X.opR (X.on_t rfl rfl rfl h_9) rfl rfl ?_
        refine X.opR rfl (X.pickand_t (y := decide (y1.1.Value = 0)) rfl h_9 rfl) rfl ?_
        refine X.q rfl ?_
        iterate 4 refine X.off (X.off_t rfl rfl rfl h_10) rfl ?_
        refine X.opR rfl (X.pickand_f (y := decide ((y1.1.Loading.length : Int) = 0)) rfl h_10 rfl) rfl ?_
        refine X.q rfl ?_
        iterate 3 refine X.off (X.off_t rfl rfl rfl (X.and_ff h_10)) rfl ?_
        refine X.opR rfl (X.pickand_f (y := decide (y1.1.Price = 0)) rfl (X.and_ff h_10) rfl) rfl ?_
        refine X.q rfl ?_
        refine GS.opsNil ?_
        exact X.norm _ hg rfl (sr rfl)
      refine X.call (ok_law03_sanity h_8) rfl rfl rfl .nil ?_
      refine X.q rfl ?_
      iterate 3 refine X.off (X.off_t rfl rfl rfl h_9) rfl ?_
      refine X.opR rfl (X.pickand_f (y := decide (y1.1.Value = 0)) rfl h_9 rfl) rfl ?_
      refine X.q rfl ?_
      iterate 4 refine X.off (X.off_t rfl rfl rfl (X.and_ff h_9)) rfl ?_
      refine X.opR rfl (X.pickand_f (y := decide ((y1.1.Loading.length : Int) = 0)) rfl (X.and_ff h_9) rfl) rfl ?_
      refine X.q rfl ?_
      iterate 3 refine X.off (X.off_t rfl rfl rfl (X.and_ff (X.and_ff h_9))) rfl ?_
      refine X.opR rfl (X.pickand_f (y := decide (y1.1.Price = 0)) rfl (X.and_ff (X.and_ff h_9)) rfl) rfl ?_
      refine X.q rfl ?_
      refine GS.opsNil ?_
      exact X.norm _ hg rfl (sr rfl)
    have hE := Option.some.inj hM
    subst hE
    exact GS.ret ⟨_, rfl, ⟨30, rfl⟩⟩
  replace hM := ite_f h_7 hM
  refine GS.skip ?_
  refine GS.seq ?_
  obtain ⟨y4, h_12, hM⟩ := bind_of hM
  obtain ⟨y5, h_13, hM⟩ := gb_of hM
  obtain ⟨y6, h_14, hM⟩ := gb_of hM
  refine GS.region ?_
  refine X.mid [(6, (V.b (((y4 && (decide (y1.1.Value = y2.N))) && (decide (y5 = 0))) && (decide (y6 = 0)))))] ?_ ?_
  · intro hg
    refine X.split (y4) (fun h_15 => ?_) (fun h_15 => ?_)
    · refine X.split ((y4 && (decide (y1.1.Value = y2.N)))) (fun h_16 => ?_) (fun h_16 => ?_)
      · refine X.split (((y4 && (decide (y1.1.Value = y2.N))) && (decide (y5 = 0)))) (fun h_17 => ?_) (fun h_17 => ?_)
        · refine X.call (ok_law03_sanity h_12) rfl rfl rfl .nil ?_
          refine X.q rfl ?_
          iterate 5 refine X.opR (X.on_t rfl rfl rfl h_15) rfl rfl ?_
          refine X.opR rfl (X.pickand_t (y := decide (y1.1.Value = y2.N)) rfl h_15 rfl) rfl ?_
          refine X.q rfl ?_
          iterate 4 refine X.opR (X.on_t rfl rfl rfl h_16) rfl rfl ?_
          refine X.call (ok_ref03_CheckMost (h_13 h_16)) (X.on_t rfl rfl rfl h_16) rfl rfl (.cons (.shut (n := 9) rfl) (.cons (.shut (n := 9) rfl) (.cons (.shut (n := 9) rfl) (.cons (.shut (n := 9) rfl) .nil)))) ?_
          refine X.opR (X.on_t rfl rfl rfl h_16) rfl rfl ?_
          refine X.opR rfl (X.pickand_t (y := decide (y5 = 0)) rfl h_16 rfl) rfl ?_
          refine X.q rfl ?_
          iterate 4 refine X.opR (X.on_t rfl rfl rfl h_17) rfl rfl ?_
          refine X.call (ok_hull_CheckMost (h_14 h_17)) (X.on_t rfl rfl rfl h_17) rfl rfl (.cons (.shut (n := 9) rfl) (.cons (.shut (n := 9) rfl) (.cons (.shut (n := 9) rfl) (.cons (.shut (n := 9) rfl) .nil)))) ?_
          refine X.opR (X.on_t rfl rfl rfl h_17) rfl rfl ?_
          refine X.opR rfl (X.pickand_t (y := decide (y6 = 0)) rfl h_17 rfl) rfl ?_
          refine X.q rfl ?_
          refine GS.opsNil ?_
          exact X.norm _ hg rfl (sr rfl)
        refine X.call (ok_law03_sanity h_12) rfl rfl rfl .nil ?_
        refine X.q rfl ?_
        iterate 5 refine X.opR (X.on_t rfl rfl rfl h_15) rfl rfl ?_
        refine X.opR rfl (X.pickand_t (y := decide (y1.1.Value = y2.N)) rfl h_15 rfl) rfl ?_
        refine X.q rfl ?_
        iterate 4 refine X.opR (X.on_t rfl rfl rfl h_16) rfl rfl ?_
        refine X.call (ok_ref03_CheckMost (h_13 h_16)) (X.on_t rfl rfl rfl h_16) rfl rfl (.cons (.shut (n := 9) rfl) (.cons (.shut (n := 9) rfl) (.cons (.shut (n := 9) rfl) (.cons (.shut (n := 9) rfl) .nil)))) ?_
        refine X.opR (X.on_t rfl rfl rfl h_16) rfl rfl ?_
        refine X.opR rfl (X.pickand_t (y := decide (y5 = 0)) rfl h_16 rfl) rfl ?_
        refine X.q rfl ?_
        iterate 6 refine X.off (X.off_t rfl rfl rfl h_17) rfl ?_
        refine X.opR rfl (X.pickand_f (y := decide (y6 = 0)) rfl h_17 rfl) rfl ?_
        refine X.q rfl ?_
        refine GS.opsNil ?_
        exact X.norm _ hg rfl (sr rfl)
      refine X.call (ok_law03_sanity h_12) rfl rfl rfl .nil ?_
      refine X.q rfl ?_
      iterate 5 refine X.opR (X.on_t rfl rfl rfl h_15) rfl rfl ?_
      refine X.opR rfl (X.pickand_t (y := decide (y1.1.Value = y2.N)) rfl h_15 rfl) rfl ?_
      refine X.q rfl ?_
      iterate 6 refine X.off (X.off_t rfl rfl rfl h_16) rfl ?_
      refine X.opR rfl (X.pickand_f (y := decide (y5 = 0)) rfl h_16 rfl) rfl ?_
      refine X.q rfl ?_
      iterate 6 refine X.off (X.off_t rfl rfl rfl (X.and_ff h_16)) rfl ?_
      refine X.opR rfl (X.pickand_f (y := decide (y6 = 0)) rfl (X.and_ff h_16) rfl) rfl ?_
      refine X.q rfl ?_
      refine GS.opsNil ?_
      exact X.norm _ hg rfl (sr rfl)
    refine X.call (ok_law03_sanity h_12) rfl rfl rfl .nil ?_
    refine X.q rfl ?_
    iterate 5 refine X.off (X.off_t rfl rfl rfl h_15) rfl ?_
    refine X.opR rfl (X.pickand_f (y := decide (y1.1.Value = y2.N)) rfl h_15 rfl) rfl ?_
    refine X.q rfl ?_
    iterate 6 refine X.off (X.off_t rfl rfl rfl (X.and_ff h_15)) rfl ?_
    refine X.opR rfl (X.pickand_f (y := decide (y5 = 0)) rfl (X.and_ff h_15) rfl) rfl ?_
    refine X.q rfl ?_
    iterate 6 refine X.off (X.off_t rfl rfl rfl (X.and_ff (X.and_ff h_15))) rfl ?_
    refine X.opR rfl (X.pickand_f (y := decide (y6 = 0)) rfl (X.and_ff (X.and_ff h_15)) rfl) rfl ?_
    refine X.q rfl ?_
    refine GS.opsNil ?_
    exact X.norm _ hg rfl (sr rfl)
  have hE := Option.some.inj hM
  subst hE
  exact GS.ret ⟨_, rfl, ⟨30, rfl⟩⟩

end Go.Proofs.Ythfnbjoecocfaaa
