/- The program's functions compute the plain ones. Conditions: none. Printed by a program (wip/tools/xg.py). -/
import Derived.Test.YthfnbjoecocfaaaP2
set_option linter.unusedVariables false
set_option linter.unusedSimpArgs false
namespace Go.Proofs.Ythfnbjoecocfaaa
open Go Go.Am Go.Proofs Go.Mx

set_option maxHeartbeats 4000000 in
theorem ok_law03_HullCheckSteady {s : api_Ship} {l : api_Load} {parts : (List api_Part)} {what : Int} {at_ : Int} {by_ : Int} {r : Bool} (hM : law03_HullCheckSteady s l parts what at_ by_ = some r) : Ct Try.prog 14 [(e_api_Ship s), (e_api_Load l), (V.sl (List.map e_api_Part parts)), (V.i what), (V.lit (.int .u16 at_)), (V.i by_)] (V.b r) := by
  refine ct_of_gs CC_ok rfl ?_
  unfold law03_HullCheckSteady at hM
  refine X.sq ?_
  iterate 2 refine X.opW rfl rfl rfl rfl ?_
  refine X.q rfl ?_
  refine GS.opsNil ?_
  refine GS.seq ?_
  refine X.sq ?_
  refine X.mid [(2, (V.sl (List.map e_api_Part parts))), (3, (V.i what)), (4, (V.lit (.int .u16 at_))), (5, (V.i by_)), (6, (V.ptr 0 0 0)), (7, (V.ptr 1 0 0)), (34, (V.b (((!(law03_short s l)) || ((decide (50 < (parts.length : Int))) && (decide ((parts.length : Int) ≤ 4000)))) || (decide (4005 < (parts.length : Int))))))] ?_ ?_
  · intro hg
    refine X.split (!(law03_short s l)) (fun h_1 => ?_) (fun h_1 => ?_)
    · iterate 2 refine X.q rfl ?_
      refine X.call (ok_law03_short s l) rfl rfl rfl (.cons (.shut (n := 9) rfl) (.cons (.shut (n := 9) rfl) .nil)) ?_
      iterate 2 refine X.q rfl ?_
      iterate 4 refine X.off (X.off_f rfl rfl rfl h_1) rfl ?_
      iterate 3 refine X.off rfl rfl ?_
      refine X.off (X.off_f rfl rfl rfl h_1) rfl ?_
      refine X.opR rfl (X.pickor_t (y := ((decide (50 < (parts.length : Int))) && (decide ((parts.length : Int) ≤ 4000)))) rfl h_1 rfl) rfl ?_
      refine X.q rfl ?_
      iterate 3 refine X.off (X.off_f rfl rfl rfl (X.or_tt h_1)) rfl ?_
      refine X.opR rfl (X.pickor_t (y := decide (4005 < (parts.length : Int))) rfl (X.or_tt h_1) rfl) rfl ?_
      refine GS.opsNil ?_
      exact X.norm _ hg rfl (sr rfl)
    refine X.split (decide (50 < (parts.length : Int))) (fun h_2 => ?_) (fun h_2 => ?_)
    · refine X.split (((!(law03_short s l)) || ((decide (50 < (parts.length : Int))) && (decide ((parts.length : Int) ≤ 4000))))) (fun h_3 => ?_) (fun h_3 => ?_)
      · iterate 2 refine X.q rfl ?_
        refine X.call (ok_law03_short s l) rfl rfl rfl (.cons (.shut (n := 9) rfl) (.cons (.shut (n := 9) rfl) .nil)) ?_
        iterate 2 refine X.q rfl ?_
        refine X.opR (X.on_f rfl rfl rfl h_1) rfl rfl ?_
        refine X.opR (X.on_f rfl rfl rfl h_1) (X.lenF rfl rfl rfl) rfl ?_
        iterate 2 refine X.opR (X.on_f rfl rfl rfl h_1) rfl rfl ?_
        refine X.opR (X.on_t rfl rfl rfl h_2) rfl rfl ?_
        refine X.opR (X.on_t rfl rfl rfl h_2) (X.lenF rfl rfl rfl) rfl ?_
        refine X.opR (X.on_t rfl rfl rfl h_2) rfl rfl ?_
        refine X.opR (X.on_f rfl rfl rfl h_1) (X.pickand_t (y := decide ((parts.length : Int) ≤ 4000)) rfl h_2 rfl) rfl ?_
        refine X.opR rfl (X.pickor_f (y := ((decide (50 < (parts.length : Int))) && (decide ((parts.length : Int) ≤ 4000)))) rfl h_1 rfl) rfl ?_
        refine X.q rfl ?_
        iterate 3 refine X.off (X.off_f rfl rfl rfl h_3) rfl ?_
        refine X.opR rfl (X.pickor_t (y := decide (4005 < (parts.length : Int))) rfl h_3 rfl) rfl ?_
        refine GS.opsNil ?_
        exact X.norm _ hg rfl (sr rfl)
      iterate 2 refine X.q rfl ?_
      refine X.call (ok_law03_short s l) rfl rfl rfl (.cons (.shut (n := 9) rfl) (.cons (.shut (n := 9) rfl) .nil)) ?_
      iterate 2 refine X.q rfl ?_
      refine X.opR (X.on_f rfl rfl rfl h_1) rfl rfl ?_
      refine X.opR (X.on_f rfl rfl rfl h_1) (X.lenF rfl rfl rfl) rfl ?_
      iterate 2 refine X.opR (X.on_f rfl rfl rfl h_1) rfl rfl ?_
      refine X.opR (X.on_t rfl rfl rfl h_2) rfl rfl ?_
      refine X.opR (X.on_t rfl rfl rfl h_2) (X.lenF rfl rfl rfl) rfl ?_
      refine X.opR (X.on_t rfl rfl rfl h_2) rfl rfl ?_
      refine X.opR (X.on_f rfl rfl rfl h_1) (X.pickand_t (y := decide ((parts.length : Int) ≤ 4000)) rfl h_2 rfl) rfl ?_
      refine X.opR rfl (X.pickor_f (y := ((decide (50 < (parts.length : Int))) && (decide ((parts.length : Int) ≤ 4000)))) rfl h_1 rfl) rfl ?_
      refine X.q rfl ?_
      refine X.opR (X.on_f rfl rfl rfl h_3) rfl rfl ?_
      refine X.opR (X.on_f rfl rfl rfl h_3) (X.lenF rfl rfl rfl) rfl ?_
      refine X.opR (X.on_f rfl rfl rfl h_3) rfl rfl ?_
      refine X.opR rfl (X.pickor_f (y := decide (4005 < (parts.length : Int))) rfl h_3 rfl) rfl ?_
      refine GS.opsNil ?_
      exact X.norm _ hg rfl (sr rfl)
    iterate 2 refine X.q rfl ?_
    refine X.call (ok_law03_short s l) rfl rfl rfl (.cons (.shut (n := 9) rfl) (.cons (.shut (n := 9) rfl) .nil)) ?_
    iterate 2 refine X.q rfl ?_
    refine X.opR (X.on_f rfl rfl rfl h_1) rfl rfl ?_
    refine X.opR (X.on_f rfl rfl rfl h_1) (X.lenF rfl rfl rfl) rfl ?_
    iterate 2 refine X.opR (X.on_f rfl rfl rfl h_1) rfl rfl ?_
    iterate 3 refine X.off (X.off_t rfl rfl rfl h_2) rfl ?_
    refine X.opR (X.on_f rfl rfl rfl h_1) (X.pickand_f (y := decide ((parts.length : Int) ≤ 4000)) rfl h_2 rfl) rfl ?_
    refine X.opR rfl (X.pickor_f (y := ((decide (50 < (parts.length : Int))) && (decide ((parts.length : Int) ≤ 4000)))) rfl h_1 rfl) rfl ?_
    refine X.q rfl ?_
    refine X.opR (X.on_f rfl rfl rfl (X.or_ff h_1 (X.and_ff h_2))) rfl rfl ?_
    refine X.opR (X.on_f rfl rfl rfl (X.or_ff h_1 (X.and_ff h_2))) (X.lenF rfl rfl rfl) rfl ?_
    refine X.opR (X.on_f rfl rfl rfl (X.or_ff h_1 (X.and_ff h_2))) rfl rfl ?_
    refine X.opR rfl (X.pickor_f (y := decide (4005 < (parts.length : Int))) rfl (X.or_ff h_1 (X.and_ff h_2)) rfl) rfl ?_
    refine GS.opsNil ?_
    exact X.norm _ hg rfl (sr rfl)
  refine X.cond rfl (fun h_4 => ?_) (fun h_4 => ?_)
  · replace hM := ite_t h_4 hM
    refine GS.seq ?_
    obtain ⟨y, h_5, hM⟩ := bind_of hM
    refine GS.region ?_
    refine X.call (ok_law03_sanity h_5) rfl rfl rfl .nil ?_
    refine X.q rfl ?_
    refine GS.opsNil ?_
    have hE := Option.some.inj hM
    subst hE
    exact GS.ret ⟨_, rfl, ⟨30, rfl⟩⟩
  replace hM := ite_f h_4 hM
  refine GS.skip ?_
  refine GS.seq ?_
  obtain ⟨y1, h_6, hM⟩ := bind_of hM
  refine GS.region ?_
  iterate 2 refine X.q rfl ?_
  refine X.call (ok_hull_Prove h_6) rfl rfl rfl (.cons (.shut (n := 9) rfl) (.cons (.shut (n := 9) rfl) .nil)) ?_
  iterate 5 refine X.q rfl ?_
  refine GS.opsNil ?_
  refine GS.seq ?_
  obtain ⟨l1, h_7, hM⟩ := bind_of hM
  refine GS.region ?_
  refine X.opW rfl rfl rfl rfl ?_
  refine X.q rfl ?_
  refine X.opW (H' := [.rows 11 [(e_api_Ship s)], .rows 3 [(e_api_Load l)], .dead, .rows 3 (List.map e_api_Part l1)]) rfl (X.appO (f := e_api_Part) h_7 (fun _ => rfl) rfl rfl rfl rfl rfl rfl rfl rfl rfl rfl) rfl rfl ?_
  refine X.q rfl ?_
  refine GS.opsNil ?_
  refine GS.seq ?_
  refine X.sq ?_
  refine X.q rfl ?_
  refine X.opR rfl (X.lenO (l := l1) rfl rfl rfl) rfl ?_
  refine X.q rfl ?_
  refine GS.opsNil ?_
  refine X.join (τ := (List api_Part)) (fun v => law03_HullCheckSteady_j1 s l parts v = some r) (fun v => ⟨[(2, (V.sl (List.map e_api_Part parts))), (6, (V.ptr 0 0 0)), (7, (V.ptr 1 0 0)), (13, (V.sl (List.map e_api_Part v)))], [.rows 11 [(e_api_Ship s)], .rows 3 [(e_api_Load l)]], 0, none, 124⟩) ?_ ?_
  · intro p hM
    replace hM : law03_HullCheckSteady_j1 s l parts p = some r := hM
    unfold law03_HullCheckSteady_j1 at hM
    refine GS.seq ?_
    obtain ⟨y2, h_8, hM⟩ := bind_of hM
    obtain ⟨y3, h_9, hM⟩ := gb_of hM
    obtain ⟨y4, h_10, hM⟩ := gb_of hM
    obtain ⟨y5, h_11, hM⟩ := gb_of hM
    obtain ⟨y6, h_12, hM⟩ := gb_of hM
    refine X.mid [(12, (V.b ((y2 && (decide (y3 = y4))) && (decide (y5 = y6)))))] ?_ ?_
    · intro hg
      refine X.split (y2) (fun h_13 => ?_) (fun h_13 => ?_)
      · refine X.split ((y2 && (decide (y3 = y4)))) (fun h_14 => ?_) (fun h_14 => ?_)
        · refine X.drawc (by kernel_rfl) rfl ?_
          refine X.ccall (ok_law03_sanity h_8) rfl rfl rfl rfl .nil ?_
          refine X.cop rfl rfl rfl rfl ?_
          iterate 3 refine X.cop (X.on_t rfl rfl rfl h_13) rfl rfl rfl ?_
          refine X.ccall (ok_hull_CheckSteady (h_9 h_13)) (X.on_t rfl rfl rfl h_13) rfl rfl rfl (.cons (.shut (n := 9) rfl) (.cons (.shut (n := 9) rfl) (.cons (.shut (n := 9) rfl) .nil))) ?_
          iterate 3 refine X.cop (X.on_t rfl rfl rfl h_13) rfl rfl rfl ?_
          refine X.ccall (ok_ref03_CheckSteady (h_10 h_13)) (X.on_t rfl rfl rfl h_13) rfl rfl rfl (.cons (.shut (n := 9) rfl) (.cons (.shut (n := 9) rfl) (.cons (.shut (n := 9) rfl) .nil))) ?_
          refine X.cop (X.on_t rfl rfl rfl h_13) rfl rfl rfl ?_
          refine X.cop rfl (X.pickand_t (y := decide (y3 = y4)) rfl h_13 rfl) rfl rfl ?_
          refine X.cop rfl rfl rfl rfl ?_
          iterate 3 refine X.cop (X.on_t rfl rfl rfl h_14) rfl rfl rfl ?_
          refine X.ccall (ok_hull_CheckSteady (h_11 h_14)) (X.on_t rfl rfl rfl h_14) rfl rfl rfl (.cons (.shut (n := 9) rfl) (.cons (.shut (n := 9) rfl) (.cons (.shut (n := 9) rfl) .nil))) ?_
          iterate 3 refine X.cop (X.on_t rfl rfl rfl h_14) rfl rfl rfl ?_
          refine X.ccall (ok_ref03_CheckSteady (h_12 h_14)) (X.on_t rfl rfl rfl h_14) rfl rfl rfl (.cons (.shut (n := 9) rfl) (.cons (.shut (n := 9) rfl) (.cons (.shut (n := 9) rfl) .nil))) ?_
          refine X.cop (X.on_t rfl rfl rfl h_14) rfl rfl rfl ?_
          refine X.cop rfl (X.pickand_t (y := decide (y5 = y6)) rfl h_14 rfl) rfl rfl ?_
          refine X.cop rfl rfl rfl rfl ?_
          refine X.cnil ?_
          exact X.norm _ hg rfl (sr rfl)
        refine X.drawc (by kernel_rfl) rfl ?_
        refine X.ccall (ok_law03_sanity h_8) rfl rfl rfl rfl .nil ?_
        refine X.cop rfl rfl rfl rfl ?_
        iterate 3 refine X.cop (X.on_t rfl rfl rfl h_13) rfl rfl rfl ?_
        refine X.ccall (ok_hull_CheckSteady (h_9 h_13)) (X.on_t rfl rfl rfl h_13) rfl rfl rfl (.cons (.shut (n := 9) rfl) (.cons (.shut (n := 9) rfl) (.cons (.shut (n := 9) rfl) .nil))) ?_
        iterate 3 refine X.cop (X.on_t rfl rfl rfl h_13) rfl rfl rfl ?_
        refine X.ccall (ok_ref03_CheckSteady (h_10 h_13)) (X.on_t rfl rfl rfl h_13) rfl rfl rfl (.cons (.shut (n := 9) rfl) (.cons (.shut (n := 9) rfl) (.cons (.shut (n := 9) rfl) .nil))) ?_
        refine X.cop (X.on_t rfl rfl rfl h_13) rfl rfl rfl ?_
        refine X.cop rfl (X.pickand_t (y := decide (y3 = y4)) rfl h_13 rfl) rfl rfl ?_
        refine X.cop rfl rfl rfl rfl ?_
        iterate 9 refine X.coff (X.off_t rfl rfl rfl h_14) rfl rfl ?_
        refine X.cop rfl (X.pickand_f (y := decide (y5 = y6)) rfl h_14 rfl) rfl rfl ?_
        refine X.cop rfl rfl rfl rfl ?_
        refine X.cnil ?_
        exact X.norm _ hg rfl (sr rfl)
      refine X.drawc (by kernel_rfl) rfl ?_
      refine X.ccall (ok_law03_sanity h_8) rfl rfl rfl rfl .nil ?_
      refine X.cop rfl rfl rfl rfl ?_
      iterate 9 refine X.coff (X.off_t rfl rfl rfl h_13) rfl rfl ?_
      refine X.cop rfl (X.pickand_f (y := decide (y3 = y4)) rfl h_13 rfl) rfl rfl ?_
      refine X.cop rfl rfl rfl rfl ?_
      iterate 9 refine X.coff (X.off_t rfl rfl rfl (X.and_ff h_13)) rfl rfl ?_
      refine X.cop rfl (X.pickand_f (y := decide (y5 = y6)) rfl (X.and_ff h_13) rfl) rfl rfl ?_
      refine X.cop rfl rfl rfl rfl ?_
      refine X.cnil ?_
      exact X.norm _ hg rfl (sr rfl)
    have hE := Option.some.inj hM
    subst hE
    exact GS.ret ⟨_, rfl, ⟨30, rfl⟩⟩
  intro hj_1
  refine X.cond rfl (fun h_15 => ?_) (fun h_15 => ?_)
  · replace hM := ite_t h_15 hM
    refine GS.seq ?_
    obtain ⟨q, h_16, hM⟩ := bind_of hM
    refine GS.region ?_
    refine X.q rfl ?_
    refine X.opR rfl (X.convE rfl rfl rfl rfl) rfl ?_
    refine X.q rfl ?_
    refine X.opR rfl (X.lenO (l := l1) rfl rfl rfl) rfl ?_
    refine X.opR rfl (X.remE h_16 rfl rfl) rfl ?_
    refine X.q rfl ?_
    refine X.nq ?_
    refine X.q rfl ?_
    refine GS.opsNil ?_
    refine GS.block ?_
    refine X.sq ?_
    iterate 2 refine X.q rfl ?_
    refine GS.opsNil ?_
    refine X.cond rfl (fun h_17 => ?_) (fun h_17 => ?_)
    · replace hM := ite_t h_17 hM
      obtain ⟨x, h_18, hM⟩ := bind_of hM
      obtain ⟨x1, h_19, hM⟩ := bind_of hM
      refine GS.region ?_
      iterate 2 refine X.q rfl ?_
      refine X.opR rfl (X.indexO h_18 rfl rfl rfl rfl rfl) rfl ?_
      refine X.q rfl ?_
      refine X.opR rfl (X.loadO h_18 rfl rfl rfl rfl) rfl ?_
      refine X.q rfl ?_
      refine X.opR rfl (X.addE rfl rfl) rfl ?_
      refine X.opR rfl (X.indexO h_19 rfl rfl rfl rfl rfl) rfl ?_
      refine X.q rfl ?_
      refine X.op0W (H' := [.rows 11 [(e_api_Ship s)], .rows 3 [(e_api_Load l)], .dead, .rows 3 (List.map e_api_Part (put l1 q (⟨x1.Totals, w64 (x.Price + by_)⟩ : api_Part)))]) rfl (X.storeO (b := (⟨x1.Totals, w64 (x.Price + by_)⟩ : api_Part)) h_19 rfl rfl rfl rfl rfl rfl rfl) rfl ?_
      refine GS.opsNil ?_
      refine GS.endB ?_
      refine X.freezeAt (z := false) (f := e_api_Part) (l := (put l1 q (⟨x1.Totals, w64 (x.Price + by_)⟩ : api_Part))) (es := 3) 13 (X.kget_eq rfl X.osl_put) rfl rfl rfl (fun _ => rfl) ?_
      exact X.gc [some 0, some 1] (hj_1 (put l1 q (⟨x1.Totals, w64 (x.Price + by_)⟩ : api_Part)) hM) rfl rfl rfl (ga rfl rfl) (gb9 rfl rfl rfl (gb9 rfl rfl rfl gb_nil))
    replace hM := ite_f h_17 hM
    refine X.sq ?_
    iterate 2 refine X.q rfl ?_
    refine GS.opsNil ?_
    refine X.cond rfl (fun h_20 => ?_) (fun h_20 => ?_)
    · replace hM := ite_t h_20 hM
      obtain ⟨x2, h_21, hM⟩ := bind_of hM
      obtain ⟨x3, h_22, hM⟩ := bind_of hM
      refine GS.region ?_
      iterate 2 refine X.q rfl ?_
      refine X.opR rfl (X.indexO h_21 rfl rfl rfl rfl rfl) rfl ?_
      iterate 2 refine X.q rfl ?_
      refine X.opR rfl (X.loadO h_21 rfl rfl rfl rfl) rfl ?_
      refine X.q rfl ?_
      refine X.opR rfl (X.addE rfl rfl) rfl ?_
      refine X.opR rfl (X.indexO h_22 rfl rfl rfl rfl rfl) rfl ?_
      iterate 2 refine X.q rfl ?_
      refine X.op0W (H' := [.rows 11 [(e_api_Ship s)], .rows 3 [(e_api_Load l)], .dead, .rows 3 (List.map e_api_Part (put l1 q (⟨(⟨x3.Totals.Lo, w64 (x2.Totals.Hi + by_)⟩ : api_Span), x3.Price⟩ : api_Part)))]) rfl (X.storeO (b := (⟨(⟨x3.Totals.Lo, w64 (x2.Totals.Hi + by_)⟩ : api_Span), x3.Price⟩ : api_Part)) h_22 rfl rfl rfl rfl rfl rfl rfl) rfl ?_
      refine GS.opsNil ?_
      refine GS.endB ?_
      refine X.freezeAt (z := false) (f := e_api_Part) (l := (put l1 q (⟨(⟨x3.Totals.Lo, w64 (x2.Totals.Hi + by_)⟩ : api_Span), x3.Price⟩ : api_Part))) (es := 3) 13 (X.kget_eq rfl X.osl_put) rfl rfl rfl (fun _ => rfl) ?_
      exact X.gc [some 0, some 1] (hj_1 (put l1 q (⟨(⟨x3.Totals.Lo, w64 (x2.Totals.Hi + by_)⟩ : api_Span), x3.Price⟩ : api_Part)) hM) rfl rfl rfl (ga rfl rfl) (gb9 rfl rfl rfl (gb9 rfl rfl rfl gb_nil))
    replace hM := ite_f h_20 hM
    refine X.sq ?_
    iterate 2 refine X.q rfl ?_
    refine GS.opsNil ?_
    refine X.cond rfl (fun h_23 => ?_) (fun h_23 => ?_)
    · replace hM := ite_t h_23 hM
      obtain ⟨x4, h_24, hM⟩ := bind_of hM
      obtain ⟨x5, h_25, hM⟩ := bind_of hM
      refine GS.region ?_
      iterate 2 refine X.q rfl ?_
      refine X.opR rfl (X.indexO h_24 rfl rfl rfl rfl rfl) rfl ?_
      iterate 2 refine X.q rfl ?_
      refine X.opR rfl (X.loadO h_24 rfl rfl rfl rfl) rfl ?_
      refine X.q rfl ?_
      refine X.opR rfl (X.addE rfl rfl) rfl ?_
      refine X.opR rfl (X.indexO h_25 rfl rfl rfl rfl rfl) rfl ?_
      iterate 2 refine X.q rfl ?_
      refine X.op0W (H' := [.rows 11 [(e_api_Ship s)], .rows 3 [(e_api_Load l)], .dead, .rows 3 (List.map e_api_Part (put l1 q (⟨(⟨w64 (x4.Totals.Lo + by_), x5.Totals.Hi⟩ : api_Span), x5.Price⟩ : api_Part)))]) rfl (X.storeO (b := (⟨(⟨w64 (x4.Totals.Lo + by_), x5.Totals.Hi⟩ : api_Span), x5.Price⟩ : api_Part)) h_25 rfl rfl rfl rfl rfl rfl rfl) rfl ?_
      refine GS.opsNil ?_
      refine GS.endB ?_
      refine X.freezeAt (z := false) (f := e_api_Part) (l := (put l1 q (⟨(⟨w64 (x4.Totals.Lo + by_), x5.Totals.Hi⟩ : api_Span), x5.Price⟩ : api_Part))) (es := 3) 13 (X.kget_eq rfl X.osl_put) rfl rfl rfl (fun _ => rfl) ?_
      exact X.gc [some 0, some 1] (hj_1 (put l1 q (⟨(⟨w64 (x4.Totals.Lo + by_), x5.Totals.Hi⟩ : api_Span), x5.Price⟩ : api_Part)) hM) rfl rfl rfl (ga rfl rfl) (gb9 rfl rfl rfl (gb9 rfl rfl rfl gb_nil))
    replace hM := ite_f h_23 hM
    refine X.sq ?_
    iterate 2 refine X.q rfl ?_
    refine GS.opsNil ?_
    refine X.cond rfl (fun h_26 => ?_) (fun h_26 => ?_)
    · replace hM := ite_t h_26 hM
      obtain ⟨l2, h_27, hM⟩ := bind_of hM
      obtain ⟨a, h_28, hM⟩ := bind_of hM
      obtain ⟨l3, h_29, hM⟩ := bind_of hM
      refine X.draw (by kernel_rfl) ?_
      iterate 2 refine X.dop rfl rfl rfl rfl (by kernel_rfl) rfl rfl ?_
      refine X.dop rfl (X.sliceN (z := false) (f := e_api_Part) (l := l1) h_27 rfl rfl rfl rfl rfl rfl rfl (X.boundA_int rfl)) rfl rfl (by kernel_rfl) rfl rfl ?_
      iterate 2 refine X.dop rfl rfl rfl rfl (by kernel_rfl) rfl rfl ?_
      refine X.dop rfl (X.addE rfl rfl) rfl rfl (by kernel_rfl) rfl rfl ?_
      refine X.dop rfl (X.sliceQ (f := e_api_Part) (l := l1) (a := 0) h_28 rfl rfl rfl rfl rfl rfl (X.boundA_int rfl)) rfl rfl (by kernel_rfl) rfl rfl ?_
      refine X.dop rfl (X.appCut (f := e_api_Part) (l := l1) h_29 h_27 h_28 (fun _ => rfl) rfl rfl rfl rfl rfl rfl rfl rfl) rfl rfl (by kernel_rfl) rfl rfl ?_
      refine X.dop rfl rfl rfl rfl (by kernel_rfl) rfl rfl ?_
      refine X.dnil ?_
      refine X.norm [(2, (V.sl (List.map e_api_Part parts))), (6, (V.ptr 0 0 0)), (7, (V.ptr 1 0 0)), (13, (V.osl 3 0 (List.length l3)))] ?_ rfl (sr rfl)
      refine GS.endB ?_
      refine X.freezePre (f := e_api_Part) (r := l3) 13 rfl rfl rfl (fun _ => rfl) ?_
      exact X.gc [some 0, some 1] (hj_1 l3 hM) rfl rfl rfl (ga rfl rfl) (gb9 rfl rfl rfl (gb9 rfl rfl rfl gb_nil))
    replace hM := ite_f h_26 hM
    refine GS.skip ?_
    refine GS.endB ?_
    refine X.freezeAt (z := false) (f := e_api_Part) (l := l1) (es := 3) 13 rfl rfl rfl rfl (fun _ => rfl) ?_
    exact X.gc [some 0, some 1] (hj_1 l1 hM) rfl rfl rfl (ga rfl rfl) (gb9 rfl rfl rfl (gb9 rfl rfl rfl gb_nil))
  replace hM := ite_f h_15 hM
  refine GS.skip ?_
  refine X.freezeAt (z := false) (f := e_api_Part) (l := l1) (es := 3) 13 rfl rfl rfl rfl (fun _ => rfl) ?_
  exact X.gc [some 0, some 1] (hj_1 l1 hM) rfl rfl rfl (ga rfl rfl) (gb9 rfl rfl rfl (gb9 rfl rfl rfl gb_nil))

end Go.Proofs.Ythfnbjoecocfaaa
