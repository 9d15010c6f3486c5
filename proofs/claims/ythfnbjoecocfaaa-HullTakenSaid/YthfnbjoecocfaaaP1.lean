/- The program's functions compute the plain ones. Conditions: none. Printed by a program (wip/tools/xg.py). -/
import Derived.Test.YthfnbjoecocfaaaTok
import Derived.Test.YthfnbjoecocfaaaQu
import Derived.Test.YthfnbjoecocfaaaM
set_option linter.unusedVariables false
set_option linter.unusedSimpArgs false
namespace Go.Proofs.Ythfnbjoecocfaaa
open Go Go.Am Go.Proofs Go.Mx

noncomputable def CC : Cfg := cfg (Ct Try.prog)
theorem CC_ok : CC.OK := cfg_ok fun f args v h => h

abbrev e_api_Hold (x : api_Hold) : V := .agg [(V.i x.ID), (V.i x.Room), (V.i x.Lever), (V.i x.Height)]

abbrev e_api_Knot (x : api_Knot) : V := .agg [(V.i x.X), (V.i x.Y)]

abbrev e_api_Curve (x : api_Curve) : V := .agg [(V.sl (List.map e_api_Knot x.Knots)), (V.i x.Err)]

abbrev e_api_Ship (x : api_Ship) : V := .agg [(V.i x.ID), (V.i x.Light), (V.i x.Lever), (V.i x.Height), (V.sl (List.map e_api_Hold x.Holds)), (V.sl (List.map e_api_Knot x.Mean.Knots)), (V.i x.Mean.Err), (V.sl (List.map e_api_Knot x.Mtac.Knots)), (V.i x.Mtac.Err), (V.i x.Turn), (V.i x.Least)]

abbrev e_api_Span (x : api_Span) : V := .agg [(V.i x.Lo), (V.i x.Hi)]

abbrev e_api_Load (x : api_Load) : V := .agg [(V.sl (List.map e_api_Span x.Holds)), (V.i x.All.Lo), (V.i x.All.Hi)]

theorem ok_law03_short (s : api_Ship) (l : api_Load) : Ct Try.prog 16 [(e_api_Ship s), (e_api_Load l)] (V.b (law03_short s l)) := by
  refine ct_of_gs CC_ok rfl ?_
  generalize hM : law03_short s l = r
  unfold law03_short at hM
  refine X.sq ?_
  iterate 2 refine X.opW rfl rfl rfl rfl ?_
  refine X.q rfl ?_
  refine X.nq ?_
  iterate 6 refine X.q rfl ?_
  refine X.opR rfl (X.subE rfl rfl) rfl ?_
  refine X.q rfl ?_
  refine X.nq ?_
  refine X.mid [(4, (V.b (((((decide ((s.Holds.length : Int) ≤ 12)) && (decide ((s.Mean.Knots.length : Int) ≤ 60))) && (decide ((s.Mtac.Knots.length : Int) ≤ 60))) && (decide ((l.Holds.length : Int) ≤ 20))) && (((decide ((w64 (l.All.Hi - l.All.Lo)) ≤ 300)) || (decide (4000 ≤ (w64 (l.All.Hi - l.All.Lo))))) || (decide ((w64 (l.All.Hi - l.All.Lo)) < 0))))))] ?_ ?_
  · intro hg
    refine X.split (decide ((s.Holds.length : Int) ≤ 12)) (fun h_1 => ?_) (fun h_1 => ?_)
    · refine X.split (((decide ((s.Holds.length : Int) ≤ 12)) && (decide ((s.Mean.Knots.length : Int) ≤ 60)))) (fun h_2 => ?_) (fun h_2 => ?_)
      · refine X.split ((((decide ((s.Holds.length : Int) ≤ 12)) && (decide ((s.Mean.Knots.length : Int) ≤ 60))) && (decide ((s.Mtac.Knots.length : Int) ≤ 60)))) (fun h_3 => ?_) (fun h_3 => ?_)
        · refine X.split (((((decide ((s.Holds.length : Int) ≤ 12)) && (decide ((s.Mean.Knots.length : Int) ≤ 60))) && (decide ((s.Mtac.Knots.length : Int) ≤ 60))) && (decide ((l.Holds.length : Int) ≤ 20)))) (fun h_4 => ?_) (fun h_4 => ?_)
          · refine X.split (decide ((w64 (l.All.Hi - l.All.Lo)) ≤ 300)) (fun h_5 => ?_) (fun h_5 => ?_)
            · iterate 2 refine X.q rfl ?_
              refine X.opR rfl (X.lenF rfl rfl rfl) rfl ?_
              iterate 2 refine X.q rfl ?_
              iterate 3 refine X.opR (X.on_t rfl rfl rfl h_1) rfl rfl ?_
              refine X.opR (X.on_t rfl rfl rfl h_1) (X.lenF rfl rfl rfl) rfl ?_
              refine X.opR (X.on_t rfl rfl rfl h_1) rfl rfl ?_
              refine X.opR rfl (X.pickand_t (y := decide ((s.Mean.Knots.length : Int) ≤ 60)) rfl h_1 rfl) rfl ?_
              refine X.q rfl ?_
              iterate 3 refine X.opR (X.on_t rfl rfl rfl h_2) rfl rfl ?_
              refine X.opR (X.on_t rfl rfl rfl h_2) (X.lenF rfl rfl rfl) rfl ?_
              refine X.opR (X.on_t rfl rfl rfl h_2) rfl rfl ?_
              refine X.opR rfl (X.pickand_t (y := decide ((s.Mtac.Knots.length : Int) ≤ 60)) rfl h_2 rfl) rfl ?_
              refine X.q rfl ?_
              iterate 2 refine X.opR (X.on_t rfl rfl rfl h_3) rfl rfl ?_
              refine X.opR (X.on_t rfl rfl rfl h_3) (X.lenF rfl rfl rfl) rfl ?_
              refine X.opR (X.on_t rfl rfl rfl h_3) rfl rfl ?_
              refine X.opR rfl (X.pickand_t (y := decide ((l.Holds.length : Int) ≤ 20)) rfl h_3 rfl) rfl ?_
              refine X.q rfl ?_
              iterate 3 refine X.opR (X.on_t rfl rfl rfl h_4) rfl rfl ?_
              iterate 2 refine X.off (X.off_f rfl rfl rfl h_5) rfl ?_
              refine X.opR (X.on_t rfl rfl rfl h_4) (X.pickor_t (y := decide (4000 ≤ (w64 (l.All.Hi - l.All.Lo)))) rfl h_5 rfl) rfl ?_
              refine X.opR (X.on_t rfl rfl rfl h_4) rfl rfl ?_
              iterate 2 refine X.off (X.off_f rfl rfl rfl (X.or_tt h_5)) rfl ?_
              refine X.opR (X.on_t rfl rfl rfl h_4) (X.pickor_t (y := decide ((w64 (l.All.Hi - l.All.Lo)) < 0)) rfl (X.or_tt h_5) rfl) rfl ?_
              refine X.opR rfl (X.pickand_t (y := (((decide ((w64 (l.All.Hi - l.All.Lo)) ≤ 300)) || (decide (4000 ≤ (w64 (l.All.Hi - l.All.Lo))))) || (decide ((w64 (l.All.Hi - l.All.Lo)) < 0)))) rfl h_4 rfl) rfl ?_
              refine X.q rfl ?_
              refine GS.opsNil ?_
              exact X.norm _ hg rfl (sr rfl)
            refine X.split (((decide ((w64 (l.All.Hi - l.All.Lo)) ≤ 300)) || (decide (4000 ≤ (w64 (l.All.Hi - l.All.Lo)))))) (fun h_6 => ?_) (fun h_6 => ?_)
            · iterate 2 refine X.q rfl ?_
              refine X.opR rfl (X.lenF rfl rfl rfl) rfl ?_
              iterate 2 refine X.q rfl ?_
              iterate 3 refine X.opR (X.on_t rfl rfl rfl h_1) rfl rfl ?_
              refine X.opR (X.on_t rfl rfl rfl h_1) (X.lenF rfl rfl rfl) rfl ?_
              refine X.opR (X.on_t rfl rfl rfl h_1) rfl rfl ?_
              refine X.opR rfl (X.pickand_t (y := decide ((s.Mean.Knots.length : Int) ≤ 60)) rfl h_1 rfl) rfl ?_
              refine X.q rfl ?_
              iterate 3 refine X.opR (X.on_t rfl rfl rfl h_2) rfl rfl ?_
              refine X.opR (X.on_t rfl rfl rfl h_2) (X.lenF rfl rfl rfl) rfl ?_
              refine X.opR (X.on_t rfl rfl rfl h_2) rfl rfl ?_
              refine X.opR rfl (X.pickand_t (y := decide ((s.Mtac.Knots.length : Int) ≤ 60)) rfl h_2 rfl) rfl ?_
              refine X.q rfl ?_
              iterate 2 refine X.opR (X.on_t rfl rfl rfl h_3) rfl rfl ?_
              refine X.opR (X.on_t rfl rfl rfl h_3) (X.lenF rfl rfl rfl) rfl ?_
              refine X.opR (X.on_t rfl rfl rfl h_3) rfl rfl ?_
              refine X.opR rfl (X.pickand_t (y := decide ((l.Holds.length : Int) ≤ 20)) rfl h_3 rfl) rfl ?_
              refine X.q rfl ?_
              iterate 3 refine X.opR (X.on_t rfl rfl rfl h_4) rfl rfl ?_
              iterate 2 refine X.opR (X.on_f rfl rfl rfl h_5) rfl rfl ?_
              refine X.opR (X.on_t rfl rfl rfl h_4) (X.pickor_f (y := decide (4000 ≤ (w64 (l.All.Hi - l.All.Lo)))) rfl h_5 rfl) rfl ?_
              refine X.opR (X.on_t rfl rfl rfl h_4) rfl rfl ?_
              iterate 2 refine X.off (X.off_f rfl rfl rfl h_6) rfl ?_
              refine X.opR (X.on_t rfl rfl rfl h_4) (X.pickor_t (y := decide ((w64 (l.All.Hi - l.All.Lo)) < 0)) rfl h_6 rfl) rfl ?_
              refine X.opR rfl (X.pickand_t (y := (((decide ((w64 (l.All.Hi - l.All.Lo)) ≤ 300)) || (decide (4000 ≤ (w64 (l.All.Hi - l.All.Lo))))) || (decide ((w64 (l.All.Hi - l.All.Lo)) < 0)))) rfl h_4 rfl) rfl ?_
              refine X.q rfl ?_
              refine GS.opsNil ?_
              exact X.norm _ hg rfl (sr rfl)
            iterate 2 refine X.q rfl ?_
            refine X.opR rfl (X.lenF rfl rfl rfl) rfl ?_
            iterate 2 refine X.q rfl ?_
            iterate 3 refine X.opR (X.on_t rfl rfl rfl h_1) rfl rfl ?_
            refine X.opR (X.on_t rfl rfl rfl h_1) (X.lenF rfl rfl rfl) rfl ?_
            refine X.opR (X.on_t rfl rfl rfl h_1) rfl rfl ?_
            refine X.opR rfl (X.pickand_t (y := decide ((s.Mean.Knots.length : Int) ≤ 60)) rfl h_1 rfl) rfl ?_
            refine X.q rfl ?_
            iterate 3 refine X.opR (X.on_t rfl rfl rfl h_2) rfl rfl ?_
            refine X.opR (X.on_t rfl rfl rfl h_2) (X.lenF rfl rfl rfl) rfl ?_
            refine X.opR (X.on_t rfl rfl rfl h_2) rfl rfl ?_
            refine X.opR rfl (X.pickand_t (y := decide ((s.Mtac.Knots.length : Int) ≤ 60)) rfl h_2 rfl) rfl ?_
            refine X.q rfl ?_
            iterate 2 refine X.opR (X.on_t rfl rfl rfl h_3) rfl rfl ?_
            refine X.opR (X.on_t rfl rfl rfl h_3) (X.lenF rfl rfl rfl) rfl ?_
            refine X.opR (X.on_t rfl rfl rfl h_3) rfl rfl ?_
            refine X.opR rfl (X.pickand_t (y := decide ((l.Holds.length : Int) ≤ 20)) rfl h_3 rfl) rfl ?_
            refine X.q rfl ?_
            iterate 3 refine X.opR (X.on_t rfl rfl rfl h_4) rfl rfl ?_
            iterate 2 refine X.opR (X.on_f rfl rfl rfl h_5) rfl rfl ?_
            refine X.opR (X.on_t rfl rfl rfl h_4) (X.pickor_f (y := decide (4000 ≤ (w64 (l.All.Hi - l.All.Lo)))) rfl h_5 rfl) rfl ?_
            refine X.opR (X.on_t rfl rfl rfl h_4) rfl rfl ?_
            iterate 2 refine X.opR (X.on_f rfl rfl rfl h_6) rfl rfl ?_
            refine X.opR (X.on_t rfl rfl rfl h_4) (X.pickor_f (y := decide ((w64 (l.All.Hi - l.All.Lo)) < 0)) rfl h_6 rfl) rfl ?_
            refine X.opR rfl (X.pickand_t (y := (((decide ((w64 (l.All.Hi - l.All.Lo)) ≤ 300)) || (decide (4000 ≤ (w64 (l.All.Hi - l.All.Lo))))) || (decide ((w64 (l.All.Hi - l.All.Lo)) < 0)))) rfl h_4 rfl) rfl ?_
            refine X.q rfl ?_
            refine GS.opsNil ?_
            exact X.norm _ hg rfl (sr rfl)
          iterate 2 refine X.q rfl ?_
          refine X.opR rfl (X.lenF rfl rfl rfl) rfl ?_
          iterate 2 refine X.q rfl ?_
          iterate 3 refine X.opR (X.on_t rfl rfl rfl h_1) rfl rfl ?_
          refine X.opR (X.on_t rfl rfl rfl h_1) (X.lenF rfl rfl rfl) rfl ?_
          refine X.opR (X.on_t rfl rfl rfl h_1) rfl rfl ?_
          refine X.opR rfl (X.pickand_t (y := decide ((s.Mean.Knots.length : Int) ≤ 60)) rfl h_1 rfl) rfl ?_
          refine X.q rfl ?_
          iterate 3 refine X.opR (X.on_t rfl rfl rfl h_2) rfl rfl ?_
          refine X.opR (X.on_t rfl rfl rfl h_2) (X.lenF rfl rfl rfl) rfl ?_
          refine X.opR (X.on_t rfl rfl rfl h_2) rfl rfl ?_
          refine X.opR rfl (X.pickand_t (y := decide ((s.Mtac.Knots.length : Int) ≤ 60)) rfl h_2 rfl) rfl ?_
          refine X.q rfl ?_
          iterate 2 refine X.opR (X.on_t rfl rfl rfl h_3) rfl rfl ?_
          refine X.opR (X.on_t rfl rfl rfl h_3) (X.lenF rfl rfl rfl) rfl ?_
          refine X.opR (X.on_t rfl rfl rfl h_3) rfl rfl ?_
          refine X.opR rfl (X.pickand_t (y := decide ((l.Holds.length : Int) ≤ 20)) rfl h_3 rfl) rfl ?_
          refine X.q rfl ?_
          iterate 3 refine X.off (X.off_t rfl rfl rfl h_4) rfl ?_
          iterate 2 refine X.off rfl rfl ?_
          iterate 2 refine X.off (X.off_t rfl rfl rfl h_4) rfl ?_
          iterate 2 refine X.off rfl rfl ?_
          refine X.off (X.off_t rfl rfl rfl h_4) rfl ?_
          refine X.opR rfl (X.pickand_f (y := (((decide ((w64 (l.All.Hi - l.All.Lo)) ≤ 300)) || (decide (4000 ≤ (w64 (l.All.Hi - l.All.Lo))))) || (decide ((w64 (l.All.Hi - l.All.Lo)) < 0)))) rfl h_4 rfl) rfl ?_
          refine X.q rfl ?_
          refine GS.opsNil ?_
          exact X.norm _ hg rfl (sr rfl)
        iterate 2 refine X.q rfl ?_
        refine X.opR rfl (X.lenF rfl rfl rfl) rfl ?_
        iterate 2 refine X.q rfl ?_
        iterate 3 refine X.opR (X.on_t rfl rfl rfl h_1) rfl rfl ?_
        refine X.opR (X.on_t rfl rfl rfl h_1) (X.lenF rfl rfl rfl) rfl ?_
        refine X.opR (X.on_t rfl rfl rfl h_1) rfl rfl ?_
        refine X.opR rfl (X.pickand_t (y := decide ((s.Mean.Knots.length : Int) ≤ 60)) rfl h_1 rfl) rfl ?_
        refine X.q rfl ?_
        iterate 3 refine X.opR (X.on_t rfl rfl rfl h_2) rfl rfl ?_
        refine X.opR (X.on_t rfl rfl rfl h_2) (X.lenF rfl rfl rfl) rfl ?_
        refine X.opR (X.on_t rfl rfl rfl h_2) rfl rfl ?_
        refine X.opR rfl (X.pickand_t (y := decide ((s.Mtac.Knots.length : Int) ≤ 60)) rfl h_2 rfl) rfl ?_
        refine X.q rfl ?_
        iterate 4 refine X.off (X.off_t rfl rfl rfl h_3) rfl ?_
        refine X.opR rfl (X.pickand_f (y := decide ((l.Holds.length : Int) ≤ 20)) rfl h_3 rfl) rfl ?_
        refine X.q rfl ?_
        iterate 3 refine X.off (X.off_t rfl rfl rfl (X.and_ff h_3)) rfl ?_
        iterate 2 refine X.off rfl rfl ?_
        iterate 2 refine X.off (X.off_t rfl rfl rfl (X.and_ff h_3)) rfl ?_
        iterate 2 refine X.off rfl rfl ?_
        refine X.off (X.off_t rfl rfl rfl (X.and_ff h_3)) rfl ?_
        refine X.opR rfl (X.pickand_f (y := (((decide ((w64 (l.All.Hi - l.All.Lo)) ≤ 300)) || (decide (4000 ≤ (w64 (l.All.Hi - l.All.Lo))))) || (decide ((w64 (l.All.Hi - l.All.Lo)) < 0)))) rfl (X.and_ff h_3) rfl) rfl ?_
        refine X.q rfl ?_
        refine GS.opsNil ?_
        exact X.norm _ hg rfl (sr rfl)
      iterate 2 refine X.q rfl ?_
      refine X.opR rfl (X.lenF rfl rfl rfl) rfl ?_
      iterate 2 refine X.q rfl ?_
      iterate 3 refine X.opR (X.on_t rfl rfl rfl h_1) rfl rfl ?_
      refine X.opR (X.on_t rfl rfl rfl h_1) (X.lenF rfl rfl rfl) rfl ?_
      refine X.opR (X.on_t rfl rfl rfl h_1) rfl rfl ?_
      refine X.opR rfl (X.pickand_t (y := decide ((s.Mean.Knots.length : Int) ≤ 60)) rfl h_1 rfl) rfl ?_
      refine X.q rfl ?_
      iterate 5 refine X.off (X.off_t rfl rfl rfl h_2) rfl ?_
      refine X.opR rfl (X.pickand_f (y := decide ((s.Mtac.Knots.length : Int) ≤ 60)) rfl h_2 rfl) rfl ?_
      refine X.q rfl ?_
      iterate 4 refine X.off (X.off_t rfl rfl rfl (X.and_ff h_2)) rfl ?_
      refine X.opR rfl (X.pickand_f (y := decide ((l.Holds.length : Int) ≤ 20)) rfl (X.and_ff h_2) rfl) rfl ?_
      refine X.q rfl ?_
      iterate 3 refine X.off (X.off_t rfl rfl rfl (X.and_ff (X.and_ff h_2))) rfl ?_
      iterate 2 refine X.off rfl rfl ?_
      iterate 2 refine X.off (X.off_t rfl rfl rfl (X.and_ff (X.and_ff h_2))) rfl ?_
      iterate 2 refine X.off rfl rfl ?_
      refine X.off (X.off_t rfl rfl rfl (X.and_ff (X.and_ff h_2))) rfl ?_
      refine X.opR rfl (X.pickand_f (y := (((decide ((w64 (l.All.Hi - l.All.Lo)) ≤ 300)) || (decide (4000 ≤ (w64 (l.All.Hi - l.All.Lo))))) || (decide ((w64 (l.All.Hi - l.All.Lo)) < 0)))) rfl (X.and_ff (X.and_ff h_2)) rfl) rfl ?_
      refine X.q rfl ?_
      refine GS.opsNil ?_
      exact X.norm _ hg rfl (sr rfl)
    iterate 2 refine X.q rfl ?_
    refine X.opR rfl (X.lenF rfl rfl rfl) rfl ?_
    iterate 2 refine X.q rfl ?_
    iterate 5 refine X.off (X.off_t rfl rfl rfl h_1) rfl ?_
    refine X.opR rfl (X.pickand_f (y := decide ((s.Mean.Knots.length : Int) ≤ 60)) rfl h_1 rfl) rfl ?_
    refine X.q rfl ?_
    iterate 5 refine X.off (X.off_t rfl rfl rfl (X.and_ff h_1)) rfl ?_
    refine X.opR rfl (X.pickand_f (y := decide ((s.Mtac.Knots.length : Int) ≤ 60)) rfl (X.and_ff h_1) rfl) rfl ?_
    refine X.q rfl ?_
    iterate 4 refine X.off (X.off_t rfl rfl rfl (X.and_ff (X.and_ff h_1))) rfl ?_
    refine X.opR rfl (X.pickand_f (y := decide ((l.Holds.length : Int) ≤ 20)) rfl (X.and_ff (X.and_ff h_1)) rfl) rfl ?_
    refine X.q rfl ?_
    iterate 3 refine X.off (X.off_t rfl rfl rfl (X.and_ff (X.and_ff (X.and_ff h_1)))) rfl ?_
    iterate 2 refine X.off rfl rfl ?_
    iterate 2 refine X.off (X.off_t rfl rfl rfl (X.and_ff (X.and_ff (X.and_ff h_1)))) rfl ?_
    iterate 2 refine X.off rfl rfl ?_
    refine X.off (X.off_t rfl rfl rfl (X.and_ff (X.and_ff (X.and_ff h_1)))) rfl ?_
    refine X.opR rfl (X.pickand_f (y := (((decide ((w64 (l.All.Hi - l.All.Lo)) ≤ 300)) || (decide (4000 ≤ (w64 (l.All.Hi - l.All.Lo))))) || (decide ((w64 (l.All.Hi - l.All.Lo)) < 0)))) rfl (X.and_ff (X.and_ff (X.and_ff h_1))) rfl) rfl ?_
    refine X.q rfl ?_
    refine GS.opsNil ?_
    exact X.norm _ hg rfl (sr rfl)
  subst hM
  exact GS.ret ⟨_, rfl, ⟨30, rfl⟩⟩

theorem ok_law03_Ship : Ct Try.prog 63 [] (e_api_Ship (law03_Ship)) := by
  refine ct_of_gs CC_ok rfl ?_
  generalize hM : law03_Ship = r
  unfold law03_Ship at hM
  refine X.sq ?_
  refine X.opW rfl rfl rfl rfl ?_
  refine X.nq ?_
  iterate 2 refine X.q rfl ?_
  refine X.opW rfl rfl rfl rfl ?_
  refine X.q rfl ?_
  refine X.nq ?_
  iterate 2 refine X.q rfl ?_
  refine X.opW rfl rfl rfl rfl ?_
  refine X.q rfl ?_
  refine X.opW (H' := [.rows 11 [(V.agg [(V.i 0), (V.i 0), (V.i 0), (V.i 0), V.nil, V.nil, (V.i 0), V.nil, (V.i 0), (V.i 0), (V.i 0)])], .rows 4 (List.map e_api_Hold ([(⟨1, 400, 50, 60⟩ : api_Hold), (⟨2, 400, (-50), 150⟩ : api_Hold)])), .rows 2 (List.map e_api_Knot ([(⟨10, 100⟩ : api_Knot), (⟨30, 500⟩ : api_Knot)])), .rows 2 [(V.agg [V.nil, (V.i 0)])]]) rfl rfl rfl rfl ?_
  refine X.op0W (H' := [.rows 11 [(V.agg [(V.i 0), (V.i 0), (V.i 0), (V.i 0), V.nil, V.nil, (V.i 0), V.nil, (V.i 0), (V.i 0), (V.i 0)])], .rows 4 (List.map e_api_Hold ([(⟨1, 400, 50, 60⟩ : api_Hold), (⟨2, 400, (-50), 150⟩ : api_Hold)])), .rows 2 (List.map e_api_Knot ([(⟨10, 100⟩ : api_Knot), (⟨30, 500⟩ : api_Knot)])), .rows 2 [(V.agg [(V.osl 2 0 (List.length ([(⟨10, 100⟩ : api_Knot), (⟨30, 500⟩ : api_Knot)]))), (V.i 0)])]]) rfl rfl rfl ?_
  refine X.nq ?_
  iterate 2 refine X.q rfl ?_
  refine X.opW (H' := [.rows 11 [(V.agg [(V.i 0), (V.i 0), (V.i 0), (V.i 0), V.nil, V.nil, (V.i 0), V.nil, (V.i 0), (V.i 0), (V.i 0)])], .rows 4 (List.map e_api_Hold ([(⟨1, 400, 50, 60⟩ : api_Hold), (⟨2, 400, (-50), 150⟩ : api_Hold)])), .rows 2 (List.map e_api_Knot ([(⟨10, 100⟩ : api_Knot), (⟨30, 500⟩ : api_Knot)])), .rows 2 [(V.agg [(V.osl 2 0 (List.length ([(⟨10, 100⟩ : api_Knot), (⟨30, 500⟩ : api_Knot)]))), (V.i 0)])], .rows 2 (List.map e_api_Knot ([(⟨10, 160⟩ : api_Knot), (⟨30, 140⟩ : api_Knot)]))]) rfl rfl rfl rfl ?_
  refine X.q rfl ?_
  refine X.opW (H' := [.rows 11 [(V.agg [(V.i 0), (V.i 0), (V.i 0), (V.i 0), V.nil, V.nil, (V.i 0), V.nil, (V.i 0), (V.i 0), (V.i 0)])], .rows 4 (List.map e_api_Hold ([(⟨1, 400, 50, 60⟩ : api_Hold), (⟨2, 400, (-50), 150⟩ : api_Hold)])), .rows 2 (List.map e_api_Knot ([(⟨10, 100⟩ : api_Knot), (⟨30, 500⟩ : api_Knot)])), .rows 2 [(V.agg [(V.osl 2 0 (List.length ([(⟨10, 100⟩ : api_Knot), (⟨30, 500⟩ : api_Knot)]))), (V.i 0)])], .rows 2 (List.map e_api_Knot ([(⟨10, 160⟩ : api_Knot), (⟨30, 140⟩ : api_Knot)])), .rows 2 [(V.agg [V.nil, (V.i 0)])]]) rfl rfl rfl rfl ?_
  refine X.op0W (H' := [.rows 11 [(V.agg [(V.i 0), (V.i 0), (V.i 0), (V.i 0), V.nil, V.nil, (V.i 0), V.nil, (V.i 0), (V.i 0), (V.i 0)])], .rows 4 (List.map e_api_Hold ([(⟨1, 400, 50, 60⟩ : api_Hold), (⟨2, 400, (-50), 150⟩ : api_Hold)])), .rows 2 (List.map e_api_Knot ([(⟨10, 100⟩ : api_Knot), (⟨30, 500⟩ : api_Knot)])), .rows 2 [(V.agg [(V.osl 2 0 (List.length ([(⟨10, 100⟩ : api_Knot), (⟨30, 500⟩ : api_Knot)]))), (V.i 0)])], .rows 2 (List.map e_api_Knot ([(⟨10, 160⟩ : api_Knot), (⟨30, 140⟩ : api_Knot)])), .rows 2 [(V.agg [(V.osl 4 0 (List.length ([(⟨10, 160⟩ : api_Knot), (⟨30, 140⟩ : api_Knot)]))), (V.i 0)])]]) rfl rfl rfl ?_
  refine X.nq ?_
  iterate 4 refine X.q rfl ?_
  refine X.op0W (H' := [.rows 11 [(V.agg [(V.i 1), (V.i 400), (V.i 0), (V.i 100), (V.osl 1 0 (List.length ([(⟨1, 400, 50, 60⟩ : api_Hold), (⟨2, 400, (-50), 150⟩ : api_Hold)]))), (V.osl 2 0 (List.length ([(⟨10, 100⟩ : api_Knot), (⟨30, 500⟩ : api_Knot)]))), (V.i 0), (V.osl 4 0 (List.length ([(⟨10, 160⟩ : api_Knot), (⟨30, 140⟩ : api_Knot)]))), (V.i 0), (V.i 10), (V.i 30)])], .rows 4 (List.map e_api_Hold ([(⟨1, 400, 50, 60⟩ : api_Hold), (⟨2, 400, (-50), 150⟩ : api_Hold)])), .rows 2 (List.map e_api_Knot ([(⟨10, 100⟩ : api_Knot), (⟨30, 500⟩ : api_Knot)])), .rows 2 [(V.agg [(V.osl 2 0 (List.length ([(⟨10, 100⟩ : api_Knot), (⟨30, 500⟩ : api_Knot)]))), (V.i 0)])], .rows 2 (List.map e_api_Knot ([(⟨10, 160⟩ : api_Knot), (⟨30, 140⟩ : api_Knot)])), .rows 2 [(V.agg [(V.osl 4 0 (List.length ([(⟨10, 160⟩ : api_Knot), (⟨30, 140⟩ : api_Knot)]))), (V.i 0)])]]) rfl rfl rfl ?_
  refine GS.opsNil ?_
  subst hM
  exact GS.ret ⟨_, rfl, ⟨30, rfl⟩⟩

theorem ok_hull_within (n : Int) (lo : Int) (hi : Int) : Ct Try.prog 75 [(V.i n), (V.i lo), (V.i hi)] (V.b (hull_within n lo hi)) := by
  refine ct_of_gs CC_ok rfl ?_
  generalize hM : hull_within n lo hi = r
  unfold hull_within at hM
  refine X.sq ?_
  refine X.q rfl ?_
  refine X.nq ?_
  refine X.mid [(6, (V.b ((decide (lo ≤ n)) && (decide (n ≤ hi)))))] ?_ ?_
  · intro hg
    refine X.split (decide (lo ≤ n)) (fun h_1 => ?_) (fun h_1 => ?_)
    · iterate 4 refine X.q rfl ?_
      iterate 3 refine X.opR (X.on_t rfl rfl rfl h_1) rfl rfl ?_
      refine X.opR rfl (X.pickand_t (y := decide (n ≤ hi)) rfl h_1 rfl) rfl ?_
      refine X.q rfl ?_
      refine GS.opsNil ?_
      exact X.norm _ hg rfl (sr rfl)
    iterate 4 refine X.q rfl ?_
    iterate 3 refine X.off (X.off_t rfl rfl rfl h_1) rfl ?_
    refine X.opR rfl (X.pickand_f (y := decide (n ≤ hi)) rfl h_1 rfl) rfl ?_
    refine X.q rfl ?_
    refine GS.opsNil ?_
    exact X.norm _ hg rfl (sr rfl)
  subst hM
  exact GS.ret ⟨_, rfl, ⟨30, rfl⟩⟩

theorem ok_hull_placed (lever : Int) (height : Int) : Ct Try.prog 76 [(V.i lever), (V.i height)] (V.b (hull_placed lever height)) := by
  refine ct_of_gs CC_ok rfl ?_
  generalize hM : hull_placed lever height = r
  unfold hull_placed at hM
  refine X.sq ?_
  refine X.q rfl ?_
  refine X.nq ?_
  refine X.mid [(4, (V.b ((hull_within lever (-20000) 20000) && (hull_within height 0 5000))))] ?_ ?_
  · intro hg
    refine X.split ((hull_within lever (-20000) 20000)) (fun h_1 => ?_) (fun h_1 => ?_)
    · refine X.q rfl ?_
      refine X.call (ok_hull_within lever (-20000) 20000) rfl rfl rfl (.cons (.shut (n := 9) rfl) (.cons (.shut (n := 9) rfl) (.cons (.shut (n := 9) rfl) .nil))) ?_
      refine X.q rfl ?_
      refine X.opR (X.on_t rfl rfl rfl h_1) rfl rfl ?_
      refine X.call (ok_hull_within height 0 5000) (X.on_t rfl rfl rfl h_1) rfl rfl (.cons (.shut (n := 9) rfl) (.cons (.shut (n := 9) rfl) (.cons (.shut (n := 9) rfl) .nil))) ?_
      refine X.opR rfl (X.pickand_t (y := (hull_within height 0 5000)) rfl h_1 rfl) rfl ?_
      refine X.q rfl ?_
      refine GS.opsNil ?_
      exact X.norm _ hg rfl (sr rfl)
    refine X.q rfl ?_
    refine X.call (ok_hull_within lever (-20000) 20000) rfl rfl rfl (.cons (.shut (n := 9) rfl) (.cons (.shut (n := 9) rfl) (.cons (.shut (n := 9) rfl) .nil))) ?_
    refine X.q rfl ?_
    iterate 2 refine X.off (X.off_t rfl rfl rfl h_1) rfl ?_
    refine X.opR rfl (X.pickand_f (y := (hull_within height 0 5000)) rfl h_1 rfl) rfl ?_
    refine X.q rfl ?_
    refine GS.opsNil ?_
    exact X.norm _ hg rfl (sr rfl)
  subst hM
  exact GS.ret ⟨_, rfl, ⟨30, rfl⟩⟩

theorem ok_hull_Check_1 (x : api_Hold) (c : api_Hold) : Ct Try.prog 78 [(e_api_Hold x), (V.fptr [(e_api_Hold c)] 0 0)] (V.b (hull_Check_1 x c)) := by
  refine ct_of_gs CC_ok rfl ?_
  generalize hM : hull_Check_1 x c = r
  unfold hull_Check_1 at hM
  refine X.sq ?_
  refine X.opW rfl rfl rfl rfl ?_
  refine X.q rfl ?_
  refine X.nq ?_
  iterate 6 refine X.q rfl ?_
  refine GS.opsNil ?_
  subst hM
  exact GS.ret ⟨_, rfl, ⟨30, rfl⟩⟩

theorem ok_slices_IndexFunc_api_Hold__hull_Check_1 {s : (List api_Hold)} {c : api_Hold} {r : Int} (hM : slices_IndexFunc_api_Hold__hull_Check_1 s c = some r) : Ct Try.prog 129 [(V.sl (List.map e_api_Hold s)), (V.fn 78 [(V.fptr [(e_api_Hold c)] 0 0)])] (V.i r) := by
  refine ct_of_gs CC_ok rfl ?_
  unfold slices_IndexFunc_api_Hold__hull_Check_1 at hM
  refine X.sq ?_
  refine X.q rfl ?_
  refine GS.opsNil ?_
  refine GS.seq ?_
  refine X.sq ?_
  refine X.q rfl ?_
  refine X.opR rfl (X.lenF rfl rfl rfl) rfl ?_
  refine X.q rfl ?_
  refine GS.opsNil ?_
  refine X.join (τ := Unit) (fun v => slices_IndexFunc_api_Hold__hull_Check_1_j1 = some r) (fun v => ⟨[], [], 0, none, 19⟩) ?_ ?_
  · intro _ hM
    replace hM : slices_IndexFunc_api_Hold__hull_Check_1_j1 = some r := hM
    unfold slices_IndexFunc_api_Hold__hull_Check_1_j1 at hM
    refine X.sq ?_
    refine X.q rfl ?_
    refine GS.opsNil ?_
    have hE := Option.some.inj hM
    subst hE
    exact GS.ret ⟨_, rfl, ⟨30, rfl⟩⟩
  intro hj_1
  refine GS.block ?_
  refine X.gc [] (X.loop (σ := Int) (fun v => ⟨[(0, (V.sl (List.map e_api_Hold s))), (1, (V.fn 78 [(V.fptr [(e_api_Hold c)] 0 0)])), (7, (V.i (s.length : Int))), (8, (V.i v))], [], 0, none, 19⟩) hM ?_ rfl) rfl rfl rfl (ga rfl rfl) (gb_nil)
  intro x1 b_1 hM hc_2 hr_1
  rw [slices_IndexFunc_api_Hold__hull_Check_1_b2] at hM
  refine X.sq ?_
  refine X.q rfl ?_
  refine GS.opsNil ?_
  refine GS.seq ?_
  refine X.cond rfl (fun h_1 => ?_) (fun h_1 => ?_)
  · replace hM := ite_t h_1 hM
    refine GS.skip ?_
    refine GS.seq ?_
    refine GS.block ?_
    refine X.sq ?_
    iterate 2 refine X.q rfl ?_
    refine GS.opsNil ?_
    refine GS.seq ?_
    obtain ⟨x, h_2, hM⟩ := bind_of hM
    refine GS.region ?_
    iterate 3 refine X.q rfl ?_
    refine X.opR rfl (X.indexF (f := e_api_Hold) h_2 (fun _ => rfl) rfl rfl rfl rfl) rfl ?_
    refine X.opR rfl (X.loadF h_2 rfl rfl rfl) rfl ?_
    refine X.call (ok_hull_Check_1 x c) rfl rfl rfl (.cons (.shut (n := 9) rfl) (.cons (.shut (n := 9) rfl) .nil)) ?_
    refine GS.opsNil ?_
    refine X.cond rfl (fun h_3 => ?_) (fun h_3 => ?_)
    · replace hM := ite_t h_3 hM
      refine X.sq ?_
      iterate 2 refine X.q rfl ?_
      refine GS.opsNil ?_
      have hE := Option.some.inj hM
      replace hE := hr_1 _ hE.symm
      subst hE
      exact GS.ret ⟨_, rfl, ⟨30, rfl⟩⟩
    replace hM := ite_f h_3 hM
    refine GS.skip ?_
    refine GS.endB ?_
    refine GS.region ?_
    refine X.opR rfl (X.addE rfl rfl) rfl ?_
    refine X.q rfl ?_
    refine GS.opsNil ?_
    have hE := Option.some.inj hM
    exact X.gc [] (hc_2 (w64 (x1 + 1)) hE.symm) rfl rfl rfl (ga rfl rfl) (gb_nil)
  replace hM := ite_f h_1 hM
  refine GS.exit rfl ?_
  obtain ⟨y_1, hM, hy⟩ := map_of hM
  rw [hr_1 _ hy.symm] at hM
  exact X.gc [] (hj_1 () hM) rfl rfl rfl (gk_nil) (gb_nil)

theorem ok_slices_ContainsFunc_api_Hold__hull_Check_1 {s : (List api_Hold)} {c : api_Hold} {r : Bool} (hM : slices_ContainsFunc_api_Hold__hull_Check_1 s c = some r) : Ct Try.prog 77 [(V.sl (List.map e_api_Hold s)), (V.fn 78 [(V.fptr [(e_api_Hold c)] 0 0)])] (V.b r) := by
  refine ct_of_gs CC_ok rfl ?_
  unfold slices_ContainsFunc_api_Hold__hull_Check_1 at hM
  refine X.sq ?_
  refine X.q rfl ?_
  refine GS.opsNil ?_
  refine GS.seq ?_
  obtain ⟨y, h_1, hM⟩ := bind_of hM
  refine GS.region ?_
  iterate 2 refine X.q rfl ?_
  refine X.call (ok_slices_IndexFunc_api_Hold__hull_Check_1 h_1) rfl rfl rfl (.cons (.shut (n := 9) rfl) (.cons (.shut (n := 9) rfl) .nil)) ?_
  iterate 2 refine X.q rfl ?_
  refine GS.opsNil ?_
  have hE := Option.some.inj hM
  subst hE
  exact GS.ret ⟨_, rfl, ⟨30, rfl⟩⟩

theorem ok_hull_rooms {s : api_Ship} {r : Int} (hM : hull_rooms s = some r) : Ct Try.prog 79 [(e_api_Ship s)] (V.i r) := by
  refine ct_of_gs CC_ok rfl ?_
  unfold hull_rooms at hM
  refine X.sq ?_
  refine X.opW rfl rfl rfl rfl ?_
  refine X.q rfl ?_
  refine X.nq ?_
  iterate 3 refine X.q rfl ?_
  refine GS.opsNil ?_
  refine GS.seq ?_
  refine X.sq ?_
  iterate 2 refine X.q rfl ?_
  refine X.opR rfl (X.lenF rfl rfl rfl) rfl ?_
  refine X.q rfl ?_
  refine GS.opsNil ?_
  refine X.join (τ := Int) (fun v => hull_rooms_j1 v = some r) (fun v => ⟨[(3, (V.i v))], [], 0, none, 21⟩) ?_ ?_
  · intro n hM
    replace hM : hull_rooms_j1 n = some r := hM
    unfold hull_rooms_j1 at hM
    refine X.sq ?_
    iterate 2 refine X.q rfl ?_
    refine GS.opsNil ?_
    have hE := Option.some.inj hM
    subst hE
    exact GS.ret ⟨_, rfl, ⟨30, rfl⟩⟩
  intro hj_1
  refine GS.block ?_
  refine X.gc [] (X.loop (σ := (Int × Int)) (fun v => ⟨[(3, (V.i v.1)), (9, (V.sl (List.map e_api_Hold s.Holds))), (10, (V.i (s.Holds.length : Int))), (11, (V.i v.2))], [], 0, none, 21⟩) hM ?_ rfl) rfl rfl rfl (ga rfl rfl) (gb_nil)
  rintro ⟨n1, x1⟩ b_1 hM hc_2 hr_1
  rw [hull_rooms_b2] at hM
  refine X.sq ?_
  refine X.q rfl ?_
  refine GS.opsNil ?_
  refine GS.seq ?_
  refine X.cond rfl (fun h_1 => ?_) (fun h_1 => ?_)
  · replace hM := ite_t h_1 hM
    refine GS.skip ?_
    refine GS.seq ?_
    refine GS.block ?_
    refine GS.seq ?_
    obtain ⟨x, h_2, hM⟩ := bind_of hM
    refine GS.region ?_
    refine X.opR rfl (X.indexF (f := e_api_Hold) h_2 (fun _ => rfl) rfl rfl rfl rfl) rfl ?_
    refine X.opR rfl (X.loadF h_2 rfl rfl rfl) rfl ?_
    refine X.opW rfl rfl rfl rfl ?_
    refine X.op0W rfl rfl rfl ?_
    refine X.mq ?_
    iterate 3 refine X.q rfl ?_
    refine X.opR rfl (X.addE rfl rfl) rfl ?_
    refine X.q rfl ?_
    refine GS.opsNil ?_
    refine GS.endB ?_
    refine GS.region ?_
    refine X.opR rfl (X.addE rfl rfl) rfl ?_
    refine X.q rfl ?_
    refine GS.opsNil ?_
    have hE := Option.some.inj hM
    exact X.gc [] (hc_2 (w64 (n1 + x.Room), w64 (x1 + 1)) hE.symm) rfl rfl rfl (ga rfl rfl) (gb_nil)
  replace hM := ite_f h_1 hM
  refine GS.exit rfl ?_
  obtain ⟨y_1, hM, hy⟩ := map_of hM
  rw [hr_1 _ hy.symm] at hM
  exact X.gc [] (hj_1 n1 hM) rfl rfl rfl (ga rfl rfl) (gb_nil)

theorem ok_curve_within (n : Int) (lo : Int) (hi : Int) : Ct Try.prog 130 [(V.i n), (V.i lo), (V.i hi)] (V.b (curve_within n lo hi)) := by
  refine ct_of_gs CC_ok rfl ?_
  generalize hM : curve_within n lo hi = r
  unfold curve_within at hM
  refine X.sq ?_
  refine X.q rfl ?_
  refine X.nq ?_
  refine X.mid [(6, (V.b ((decide (lo ≤ n)) && (decide (n ≤ hi)))))] ?_ ?_
  · intro hg
    refine X.split (decide (lo ≤ n)) (fun h_1 => ?_) (fun h_1 => ?_)
    · iterate 4 refine X.q rfl ?_
      iterate 3 refine X.opR (X.on_t rfl rfl rfl h_1) rfl rfl ?_
      refine X.opR rfl (X.pickand_t (y := decide (n ≤ hi)) rfl h_1 rfl) rfl ?_
      refine X.q rfl ?_
      refine GS.opsNil ?_
      exact X.norm _ hg rfl (sr rfl)
    iterate 4 refine X.q rfl ?_
    iterate 3 refine X.off (X.off_t rfl rfl rfl h_1) rfl ?_
    refine X.opR rfl (X.pickand_f (y := decide (n ≤ hi)) rfl h_1 rfl) rfl ?_
    refine X.q rfl ?_
    refine GS.opsNil ?_
    exact X.norm _ hg rfl (sr rfl)
  subst hM
  exact GS.ret ⟨_, rfl, ⟨30, rfl⟩⟩

theorem ok_curve_Check {c : api_Curve} {r : Int} (hM : curve_Check c = some r) : Ct Try.prog 80 [(e_api_Curve c)] (V.i r) := by
  refine ct_of_gs CC_ok rfl ?_
  unfold curve_Check at hM
  refine X.sq ?_
  refine X.opW rfl rfl rfl rfl ?_
  refine X.q rfl ?_
  refine GS.opsNil ?_
  refine GS.seq ?_
  refine GS.block ?_
  refine X.sq ?_
  iterate 2 refine X.q rfl ?_
  refine X.opR rfl (X.lenF rfl rfl rfl) rfl ?_
  iterate 2 refine X.q rfl ?_
  refine GS.opsNil ?_
  refine X.cond rfl (fun h_1 => ?_) (fun h_1 => ?_)
  · replace hM := ite_t h_1 hM
    refine X.sq ?_
    refine X.q rfl ?_
    refine GS.opsNil ?_
    have hE := Option.some.inj hM
    subst hE
    exact GS.ret ⟨_, rfl, ⟨30, rfl⟩⟩
  replace hM := ite_f h_1 hM
  refine X.sq ?_
  refine X.mid [(1, (V.ptr 0 0 0)), (11, (V.b ((decide ((c.Knots.length : Int) = 0)) || (!(curve_within c.Err 0 4000)))))] ?_ ?_
  · intro hg
    refine X.split (decide ((c.Knots.length : Int) = 0)) (fun h_2 => ?_) (fun h_2 => ?_)
    · iterate 2 refine X.q rfl ?_
      refine X.opR rfl (X.lenF rfl rfl rfl) rfl ?_
      iterate 2 refine X.q rfl ?_
      iterate 4 refine X.off (X.off_f rfl rfl rfl h_2) rfl ?_
      refine X.opR rfl (X.pickor_t (y := !(curve_within c.Err 0 4000)) rfl h_2 rfl) rfl ?_
      refine X.q rfl ?_
      refine GS.opsNil ?_
      exact X.norm _ hg rfl (sr rfl)
    iterate 2 refine X.q rfl ?_
    refine X.opR rfl (X.lenF rfl rfl rfl) rfl ?_
    iterate 2 refine X.q rfl ?_
    iterate 2 refine X.opR (X.on_f rfl rfl rfl h_2) rfl rfl ?_
    refine X.call (ok_curve_within c.Err 0 4000) (X.on_f rfl rfl rfl h_2) rfl rfl (.cons (.shut (n := 9) rfl) (.cons (.shut (n := 9) rfl) (.cons (.shut (n := 9) rfl) .nil))) ?_
    refine X.opR (X.on_f rfl rfl rfl h_2) rfl rfl ?_
    refine X.opR rfl (X.pickor_f (y := !(curve_within c.Err 0 4000)) rfl h_2 rfl) rfl ?_
    refine X.q rfl ?_
    refine GS.opsNil ?_
    exact X.norm _ hg rfl (sr rfl)
  refine X.cond rfl (fun h_3 => ?_) (fun h_3 => ?_)
  · replace hM := ite_t h_3 hM
    refine X.sq ?_
    refine X.q rfl ?_
    refine GS.opsNil ?_
    have hE := Option.some.inj hM
    subst hE
    exact GS.ret ⟨_, rfl, ⟨30, rfl⟩⟩
  replace hM := ite_f h_3 hM
  refine GS.skip ?_
  refine GS.endB ?_
  refine X.sq ?_
  refine X.q rfl ?_
  refine GS.opsNil ?_
  refine GS.seq ?_
  refine X.sq ?_
  iterate 2 refine X.q rfl ?_
  refine X.opR rfl (X.lenF rfl rfl rfl) rfl ?_
  refine X.q rfl ?_
  refine GS.opsNil ?_
  refine X.join (τ := Unit) (fun v => curve_Check_j1 = some r) (fun v => ⟨[], [], 0, none, 44⟩) ?_ ?_
  · intro _ hM
    replace hM : curve_Check_j1 = some r := hM
    unfold curve_Check_j1 at hM
    refine X.sq ?_
    refine X.q rfl ?_
    refine GS.opsNil ?_
    have hE := Option.some.inj hM
    subst hE
    exact GS.ret ⟨_, rfl, ⟨30, rfl⟩⟩
  intro hj_1
  refine GS.block ?_
  refine X.gc [] (X.loop (σ := (Int × Int)) (fun v => ⟨[(3, (V.i v.1)), (23, (V.sl (List.map e_api_Knot c.Knots))), (24, (V.i (c.Knots.length : Int))), (25, (V.i v.2))], [], 0, none, 44⟩) hM ?_ rfl) rfl rfl rfl (ga rfl rfl) (gb_nil)
  rintro ⟨last, x1⟩ b_1 hM hc_2 hr_1
  rw [curve_Check_b2] at hM
  refine X.sq ?_
  refine X.q rfl ?_
  refine GS.opsNil ?_
  refine GS.seq ?_
  refine X.cond rfl (fun h_4 => ?_) (fun h_4 => ?_)
  · replace hM := ite_t h_4 hM
    refine GS.skip ?_
    refine GS.seq ?_
    refine GS.block ?_
    refine GS.seq ?_
    obtain ⟨x, h_5, hM⟩ := bind_of hM
    refine GS.region ?_
    refine X.opR rfl (X.indexF (f := e_api_Knot) h_5 (fun _ => rfl) rfl rfl rfl rfl) rfl ?_
    refine X.opR rfl (X.loadF h_5 rfl rfl rfl) rfl ?_
    refine X.opW rfl rfl rfl rfl ?_
    refine X.op0W rfl rfl rfl ?_
    refine GS.opsNil ?_
    refine GS.seq ?_
    refine X.sq ?_
    refine X.mid [(5, (V.ptr 0 0 0)), (23, (V.sl (List.map e_api_Knot c.Knots))), (24, (V.i (c.Knots.length : Int))), (25, (V.i x1)), (40, (V.b ((!(curve_within x.X (w64 (last + 1)) 2000)) || (!(curve_within x.Y (-65536) 65536)))))] ?_ ?_
    · intro hg
      refine X.split (!(curve_within x.X (w64 (last + 1)) 2000)) (fun h_6 => ?_) (fun h_6 => ?_)
      · iterate 3 refine X.q rfl ?_
        refine X.opR rfl (X.addE rfl rfl) rfl ?_
        refine X.call (ok_curve_within x.X (w64 (last + 1)) 2000) rfl rfl rfl (.cons (.shut (n := 9) rfl) (.cons (.shut (n := 9) rfl) (.cons (.shut (n := 9) rfl) .nil))) ?_
        iterate 2 refine X.q rfl ?_
        iterate 4 refine X.off (X.off_f rfl rfl rfl h_6) rfl ?_
        refine X.opR rfl (X.pickor_t (y := !(curve_within x.Y (-65536) 65536)) rfl h_6 rfl) rfl ?_
        refine GS.opsNil ?_
        exact X.norm _ hg rfl (sr rfl)
      iterate 3 refine X.q rfl ?_
      refine X.opR rfl (X.addE rfl rfl) rfl ?_
      refine X.call (ok_curve_within x.X (w64 (last + 1)) 2000) rfl rfl rfl (.cons (.shut (n := 9) rfl) (.cons (.shut (n := 9) rfl) (.cons (.shut (n := 9) rfl) .nil))) ?_
      iterate 2 refine X.q rfl ?_
      iterate 2 refine X.opR (X.on_f rfl rfl rfl h_6) rfl rfl ?_
      refine X.call (ok_curve_within x.Y (-65536) 65536) (X.on_f rfl rfl rfl h_6) rfl rfl (.cons (.shut (n := 9) rfl) (.cons (.shut (n := 9) rfl) (.cons (.shut (n := 9) rfl) .nil))) ?_
      refine X.opR (X.on_f rfl rfl rfl h_6) rfl rfl ?_
      refine X.opR rfl (X.pickor_f (y := !(curve_within x.Y (-65536) 65536)) rfl h_6 rfl) rfl ?_
      refine GS.opsNil ?_
      exact X.norm _ hg rfl (sr rfl)
    refine X.cond rfl (fun h_7 => ?_) (fun h_7 => ?_)
    · replace hM := ite_t h_7 hM
      refine X.sq ?_
      refine X.q rfl ?_
      refine GS.opsNil ?_
      have hE := Option.some.inj hM
      replace hE := hr_1 _ hE.symm
      subst hE
      exact GS.ret ⟨_, rfl, ⟨30, rfl⟩⟩
    replace hM := ite_f h_7 hM
    refine GS.skip ?_
    refine GS.region ?_
    iterate 3 refine X.q rfl ?_
    refine GS.opsNil ?_
    refine GS.endB ?_
    refine GS.region ?_
    refine X.opR rfl (X.addE rfl rfl) rfl ?_
    refine X.q rfl ?_
    refine GS.opsNil ?_
    have hE := Option.some.inj hM
    exact X.gc [] (hc_2 (x.X, w64 (x1 + 1)) hE.symm) rfl rfl rfl (ga rfl rfl) (gb_nil)
  replace hM := ite_f h_4 hM
  refine GS.exit rfl ?_
  obtain ⟨y_1, hM, hy⟩ := map_of hM
  rw [hr_1 _ hy.symm] at hM
  exact X.gc [] (hj_1 () hM) rfl rfl rfl (gk_nil) (gb_nil)

theorem ok_curve_pieces (c : api_Curve) : Ct Try.prog 158 [(e_api_Curve c)] (V.fn 174 [(V.fptr [(e_api_Curve (curve_pieces c))] 0 0)]) := by
  refine ct_of_gs CC_ok rfl ?_
  generalize hM : curve_pieces c = r
  unfold curve_pieces at hM
  refine X.sq ?_
  refine X.opW rfl rfl rfl rfl ?_
  refine X.q rfl ?_
  refine X.nq ?_
  iterate 2 refine X.q rfl ?_
  refine GS.opsNil ?_
  subst hM
  exact GS.ret ⟨_, rfl, ⟨30, rfl⟩⟩

abbrev e_curve_piece (x : curve_piece) : V := .agg [(V.i x.p.X), (V.i x.p.Y), (V.i x.q.X), (V.i x.q.Y)]

theorem ok_curve_piece_rise (x : curve_piece) : Ct Try.prog 159 [(e_curve_piece x)] (V.i (curve_piece_rise x)) := by
  refine ct_of_gs CC_ok rfl ?_
  generalize hM : curve_piece_rise x = r
  unfold curve_piece_rise at hM
  refine X.sq ?_
  refine X.opW rfl rfl rfl rfl ?_
  refine X.q rfl ?_
  refine X.nq ?_
  iterate 6 refine X.q rfl ?_
  refine X.opR rfl (X.subE rfl rfl) rfl ?_
  refine X.q rfl ?_
  refine GS.opsNil ?_
  subst hM
  exact GS.ret ⟨_, rfl, ⟨30, rfl⟩⟩

set_option maxHeartbeats 4000000 in
theorem ok_curve_rising {c : api_Curve} {r : Int} (hM : curve_rising c = some r) : Ct Try.prog 131 [(e_api_Curve c)] (V.i r) := by
  refine ct_of_gs CC_ok rfl ?_
  unfold curve_rising at hM
  refine X.sq ?_
  refine X.opW rfl rfl rfl rfl ?_
  refine X.q rfl ?_
  refine X.nq ?_
  iterate 2 refine X.opW rfl rfl rfl rfl ?_
  iterate 2 refine X.op0W rfl rfl rfl ?_
  refine GS.opsNil ?_
  refine GS.seq ?_
  refine X.sq ?_
  refine X.q rfl ?_
  refine X.call (ok_curve_pieces c) rfl rfl rfl (.cons (.shut (n := 9) rfl) .nil) ?_
  refine GS.opsNil ?_
  refine GS.block ?_
  refine X.gc [some 1, some 2] (H' := [.rows 1 [(V.b true)], .rows 1 [(V.b true)]]) (K' := [(3, (V.ptr 0 0 0)), (4, (V.ptr 1 0 0)), (8, (V.fn 174 [(V.fptr [(e_api_Curve (curve_pieces c))] 0 0)]))]) ?_ rfl rfl rfl (ga rfl rfl) (gb9 rfl rfl rfl (gb9 rfl rfl rfl gb_nil))
  refine X.range rfl rfl (lowK_cons ⟨9, rfl⟩ (lowK_cons ⟨9, rfl⟩ (lowK_cons ⟨9, rfl⟩ lowK_nil))) rfl ?_
  intro R_1 hrn_1 hrK_1 hrp_1 hra_1 hrb_1 hlow_1
  refine X.sq ?_
  refine X.q rfl ?_
  refine GS.opsNil ?_
  refine GS.block ?_
  refine X.gc [] (X.loop (σ := (Int × Bool × Bool)) (fun v => ⟨[(0, (V.yld 2)), (1, (V.fptr [(e_api_Curve (curve_pieces c))] 0 0)), (3, (V.i v.1))], [.rows 1 [(V.b v.2.1)], .rows 1 [(V.b v.2.2)], lr R_1 .ready none], 0, none, 28⟩) hM ?_ rfl) rfl rfl rfl (ga rfl rfl) (gb9 rfl rfl rfl (gb9 rfl rfl rfl (gb_loop hlow_1 rfl rfl rfl gb_nil)))
  rintro ⟨i, up, down⟩ b_1 hM hc_1 hr_1
  rw [curve_rising_b1] at hM
  refine GS.seq ?_
  refine X.sq ?_
  iterate 3 refine X.q rfl ?_
  refine X.opR rfl (X.lenF rfl rfl rfl) rfl ?_
  refine X.q rfl ?_
  refine GS.opsNil ?_
  refine X.cond rfl (fun h_2 => ?_) (fun h_2 => ?_)
  · replace hM := ite_t h_2 hM
    refine GS.skip ?_
    refine GS.seq ?_
    refine GS.block ?_
    refine GS.seq ?_
    obtain ⟨x, h_3, hM⟩ := bind_of hM
    obtain ⟨x1, h_4, hM⟩ := bind_of hM
    refine X.drawCut 15 rfl (by kernel_rfl) (by kernel_rfl) ?_
    iterate 2 refine X.dop rfl rfl rfl rfl (by kernel_rfl) rfl rfl ?_
    refine X.dop rfl (X.subE rfl rfl) rfl rfl (by kernel_rfl) rfl rfl ?_
    iterate 3 refine X.dop rfl rfl rfl rfl (by kernel_rfl) rfl rfl ?_
    refine X.dop rfl (X.subE rfl rfl) rfl rfl (by kernel_rfl) rfl rfl ?_
    refine X.dop rfl (X.indexF (f := e_api_Knot) h_3 (fun _ => rfl) rfl rfl rfl rfl) rfl rfl (by kernel_rfl) rfl rfl ?_
    refine X.dop rfl (X.loadF h_3 rfl rfl rfl) rfl rfl (by kernel_rfl) rfl rfl ?_
    iterate 3 refine X.dop rfl rfl rfl rfl (by kernel_rfl) rfl rfl ?_
    refine X.dop rfl (X.indexF (f := e_api_Knot) h_4 (fun _ => rfl) rfl rfl rfl rfl) rfl rfl (by kernel_rfl) rfl rfl ?_
    refine X.dop rfl (X.loadF h_4 rfl rfl rfl) rfl rfl (by kernel_rfl) rfl rfl ?_
    refine X.dop rfl rfl rfl rfl (by kernel_rfl) rfl rfl ?_
    refine X.dnil ?_
    refine X.norm [(0, (V.yld 2)), (1, (V.fptr [(e_api_Curve (curve_pieces c))] 0 0)), (3, (V.i i)), (11, (V.yld 2)), (13, (V.i (w64 (i - 1)))), (25, (V.agg [(V.i x.X), (V.i x.Y), (V.i x1.X), (V.i x1.Y)]))] ?_ rfl (sr rfl)
    refine X.yld hrn_1 hrK_1 hrp_1 hra_1 hrb_1 rfl rfl rfl rfl rfl rfl ?_
    refine GS.region ?_
    refine X.opW (H' := [.rows 1 [(V.b up)], .rows 1 [(V.b down)], lr R_1 .ready none, .rows 4 [(V.agg [(V.i 0), (V.i 0), (V.i 0), (V.i 0)])]]) rfl rfl rfl rfl ?_
    refine X.op0W (H' := [.rows 1 [(V.b up)], .rows 1 [(V.b down)], lr R_1 .ready none, .rows 4 [(V.agg [(V.i x.X), (V.i x.Y), (V.i x1.X), (V.i x1.Y)])]]) rfl rfl rfl ?_
    refine GS.opsNil ?_
    refine GS.nil (X.begin' rfl rfl ?_ rfl)
    refine GS.block ?_
    refine X.midS ⟨[], [.rows 1 [(V.b (up && (decide (0 < (curve_piece_rise (⟨x, x1⟩ : curve_piece))))))], .rows 1 [(V.b (down && (decide ((curve_piece_rise (⟨x, x1⟩ : curve_piece)) < 0))))], lr R_1 .busy none, .dead], 0, (some 2), 27⟩ ?_ ?_
    · intro hg
      refine X.split (up) (fun h_5 => ?_) (fun h_5 => ?_)
      · refine X.split (down) (fun h_6 => ?_) (fun h_6 => ?_)
        · refine X.draw (by kernel_rfl) ?_
          iterate 2 refine X.dop rfl rfl rfl rfl (by kernel_rfl) rfl rfl ?_
          refine X.dop (X.on_t rfl rfl rfl h_5) rfl rfl rfl (by kernel_rfl) rfl rfl ?_
          refine X.dcall (ok_curve_piece_rise (⟨x, x1⟩ : curve_piece)) (X.on_t rfl rfl rfl h_5) rfl rfl (by kernel_rfl) rfl (.cons (.shut (n := 9) rfl) .nil) ?_
          refine X.dop (X.on_t rfl rfl rfl h_5) rfl rfl rfl (by kernel_rfl) rfl rfl ?_
          refine X.dop rfl (X.pickand_t (y := decide (0 < (curve_piece_rise (⟨x, x1⟩ : curve_piece)))) rfl h_5 rfl) rfl rfl (by kernel_rfl) rfl rfl ?_
          iterate 2 refine X.dop rfl rfl rfl rfl (by kernel_rfl) rfl rfl ?_
          refine X.dop (X.on_t rfl rfl rfl h_6) rfl rfl rfl (by kernel_rfl) rfl rfl ?_
          refine X.dcall (ok_curve_piece_rise (⟨x, x1⟩ : curve_piece)) (X.on_t rfl rfl rfl h_6) rfl rfl (by kernel_rfl) rfl (.cons (.shut (n := 9) rfl) .nil) ?_
          refine X.dop (X.on_t rfl rfl rfl h_6) rfl rfl rfl (by kernel_rfl) rfl rfl ?_
          refine X.dop rfl (X.pickand_t (y := decide ((curve_piece_rise (⟨x, x1⟩ : curve_piece)) < 0)) rfl h_6 rfl) rfl rfl (by kernel_rfl) rfl rfl ?_
          iterate 2 refine X.dop0 rfl rfl rfl rfl (by kernel_rfl) rfl ?_
          refine X.dnil ?_
          exact X.gc [] hg rfl rfl rfl (gk_nil) (gb9 rfl rfl rfl (gb9 rfl rfl rfl (gb_loop hlow_1 rfl rfl rfl (gb_pad gb_nil))))
        refine X.draw (by kernel_rfl) ?_
        iterate 2 refine X.dop rfl rfl rfl rfl (by kernel_rfl) rfl rfl ?_
        refine X.dop (X.on_t rfl rfl rfl h_5) rfl rfl rfl (by kernel_rfl) rfl rfl ?_
        refine X.dcall (ok_curve_piece_rise (⟨x, x1⟩ : curve_piece)) (X.on_t rfl rfl rfl h_5) rfl rfl (by kernel_rfl) rfl (.cons (.shut (n := 9) rfl) .nil) ?_
        refine X.dop (X.on_t rfl rfl rfl h_5) rfl rfl rfl (by kernel_rfl) rfl rfl ?_
        refine X.dop rfl (X.pickand_t (y := decide (0 < (curve_piece_rise (⟨x, x1⟩ : curve_piece)))) rfl h_5 rfl) rfl rfl (by kernel_rfl) rfl rfl ?_
        iterate 2 refine X.dop rfl rfl rfl rfl (by kernel_rfl) rfl rfl ?_
        iterate 3 refine X.doff (X.off_t rfl rfl rfl h_6) (by kernel_rfl) rfl ?_
        refine X.dop rfl (X.pickand_f (y := decide ((curve_piece_rise (⟨x, x1⟩ : curve_piece)) < 0)) rfl h_6 rfl) rfl rfl (by kernel_rfl) rfl rfl ?_
        iterate 2 refine X.dop0 rfl rfl rfl rfl (by kernel_rfl) rfl ?_
        refine X.dnil ?_
        exact X.gc [] hg rfl rfl rfl (gk_nil) (gb9 rfl rfl rfl (gb9 rfl rfl rfl (gb_loop hlow_1 rfl rfl rfl (gb_pad gb_nil))))
      refine X.split (down) (fun h_7 => ?_) (fun h_7 => ?_)
      · refine X.draw (by kernel_rfl) ?_
        iterate 2 refine X.dop rfl rfl rfl rfl (by kernel_rfl) rfl rfl ?_
        iterate 3 refine X.doff (X.off_t rfl rfl rfl h_5) (by kernel_rfl) rfl ?_
        refine X.dop rfl (X.pickand_f (y := decide (0 < (curve_piece_rise (⟨x, x1⟩ : curve_piece)))) rfl h_5 rfl) rfl rfl (by kernel_rfl) rfl rfl ?_
        iterate 2 refine X.dop rfl rfl rfl rfl (by kernel_rfl) rfl rfl ?_
        refine X.dop (X.on_t rfl rfl rfl h_7) rfl rfl rfl (by kernel_rfl) rfl rfl ?_
        refine X.dcall (ok_curve_piece_rise (⟨x, x1⟩ : curve_piece)) (X.on_t rfl rfl rfl h_7) rfl rfl (by kernel_rfl) rfl (.cons (.shut (n := 9) rfl) .nil) ?_
        refine X.dop (X.on_t rfl rfl rfl h_7) rfl rfl rfl (by kernel_rfl) rfl rfl ?_
        refine X.dop rfl (X.pickand_t (y := decide ((curve_piece_rise (⟨x, x1⟩ : curve_piece)) < 0)) rfl h_7 rfl) rfl rfl (by kernel_rfl) rfl rfl ?_
        iterate 2 refine X.dop0 rfl rfl rfl rfl (by kernel_rfl) rfl ?_
        refine X.dnil ?_
        exact X.gc [] hg rfl rfl rfl (gk_nil) (gb9 rfl rfl rfl (gb9 rfl rfl rfl (gb_loop hlow_1 rfl rfl rfl (gb_pad gb_nil))))
      refine X.draw (by kernel_rfl) ?_
      iterate 2 refine X.dop rfl rfl rfl rfl (by kernel_rfl) rfl rfl ?_
      iterate 3 refine X.doff (X.off_t rfl rfl rfl h_5) (by kernel_rfl) rfl ?_
      refine X.dop rfl (X.pickand_f (y := decide (0 < (curve_piece_rise (⟨x, x1⟩ : curve_piece)))) rfl h_5 rfl) rfl rfl (by kernel_rfl) rfl rfl ?_
      iterate 2 refine X.dop rfl rfl rfl rfl (by kernel_rfl) rfl rfl ?_
      iterate 3 refine X.doff (X.off_t rfl rfl rfl h_7) (by kernel_rfl) rfl ?_
      refine X.dop rfl (X.pickand_f (y := decide ((curve_piece_rise (⟨x, x1⟩ : curve_piece)) < 0)) rfl h_7 rfl) rfl rfl (by kernel_rfl) rfl rfl ?_
      iterate 2 refine X.dop0 rfl rfl rfl rfl (by kernel_rfl) rfl ?_
      refine X.dnil ?_
      exact X.gc [] hg rfl rfl rfl (gk_nil) (gb9 rfl rfl rfl (gb9 rfl rfl rfl (gb_loop hlow_1 rfl rfl rfl (gb_pad gb_nil))))
    refine GS.endB ?_
    refine GS.nil ⟨_, rfl, ?_⟩
    refine X.norm (H' := [.rows 1 [(V.b (up && (decide (0 < (curve_piece_rise (⟨x, x1⟩ : curve_piece))))))], .rows 1 [(V.b (down && (decide ((curve_piece_rise (⟨x, x1⟩ : curve_piece)) < 0))))], lr R_1 .ready none, .dead]) [(0, (V.yld 2)), (1, (V.fptr [(e_api_Curve (curve_pieces c))] 0 0)), (3, (V.i i)), (26, (V.b true))] ?_ rfl (sr rfl)
    refine X.q rfl ?_
    refine GS.opsNil ?_
    refine GS.condF rfl ?_
    refine GS.skip ?_
    refine GS.endB ?_
    refine GS.region ?_
    refine X.q rfl ?_
    refine X.opR rfl (X.addE rfl rfl) rfl ?_
    refine X.q rfl ?_
    refine GS.opsNil ?_
    have hE := Option.some.inj hM
    exact X.gc [] (hc_1 (w64 (i + 1), (up && (decide (0 < (curve_piece_rise (⟨x, x1⟩ : curve_piece))))), (down && (decide ((curve_piece_rise (⟨x, x1⟩ : curve_piece)) < 0)))) hE.symm) rfl rfl rfl (ga rfl rfl) (gb9 rfl rfl rfl (gb9 rfl rfl rfl (gb_loop hlow_1 rfl rfl rfl gb_nil)))
  replace hM := ite_f h_2 hM
  refine GS.exit rfl ?_
  refine GS.nil ⟨_, _, rfl, rfl, ?_⟩
  refine X.norm (H' := [.rows 1 [(V.b up)], .rows 1 [(V.b down)], .dead]) [(3, (V.ptr 0 0 0)), (4, (V.ptr 1 0 0)), (8, (V.fn 174 [(V.fptr [(e_api_Curve (curve_pieces c))] 0 0)]))] ?_ rfl (sr rfl)
  refine GS.endB ?_
  refine GS.seq ?_
  refine GS.block ?_
  refine X.sq ?_
  iterate 2 refine X.q rfl ?_
  refine GS.opsNil ?_
  refine X.cond rfl (fun h_8 => ?_) (fun h_8 => ?_)
  · replace hM := ite_t h_8 hM
    refine X.sq ?_
    refine X.q rfl ?_
    refine GS.opsNil ?_
    have hE := Option.some.inj hM
    replace hE := hr_1 _ hE.symm
    subst hE
    exact GS.ret ⟨_, rfl, ⟨30, rfl⟩⟩
  replace hM := ite_f h_8 hM
  refine X.sq ?_
  iterate 2 refine X.q rfl ?_
  refine GS.opsNil ?_
  refine X.cond rfl (fun h_9 => ?_) (fun h_9 => ?_)
  · replace hM := ite_t h_9 hM
    refine X.sq ?_
    refine X.q rfl ?_
    refine GS.opsNil ?_
    have hE := Option.some.inj hM
    replace hE := hr_1 _ hE.symm
    subst hE
    exact GS.ret ⟨_, rfl, ⟨30, rfl⟩⟩
  replace hM := ite_f h_9 hM
  refine GS.skip ?_
  refine GS.endB ?_
  refine X.sq ?_
  refine X.q rfl ?_
  refine GS.opsNil ?_
  have hE := Option.some.inj hM
  replace hE := hr_1 _ hE.symm
  subst hE
  exact GS.ret ⟨_, rfl, ⟨30, rfl⟩⟩

theorem ok_curve_Rising {c : api_Curve} {r : Int × Int} (hM : curve_Rising c = some r) : Ct Try.prog 81 [(e_api_Curve c)] (V.tup [(V.i r.1), (V.i r.2)]) := by
  refine ct_of_gs CC_ok rfl ?_
  unfold curve_Rising at hM
  refine X.sq ?_
  refine X.opW rfl rfl rfl rfl ?_
  iterate 2 refine X.q rfl ?_
  refine GS.opsNil ?_
  iterate 2 refine GS.seq ?_
  obtain ⟨y, h_1, hM⟩ := bind_of hM
  refine GS.region ?_
  refine X.q rfl ?_
  refine X.call (ok_curve_Check h_1) rfl rfl rfl (.cons (.shut (n := 9) rfl) .nil) ?_
  refine X.q rfl ?_
  refine X.nq ?_
  iterate 2 refine X.q rfl ?_
  refine GS.opsNil ?_
  refine X.cond rfl (fun h_2 => ?_) (fun h_2 => ?_)
  · replace hM := ite_t h_2 hM
    refine X.sq ?_
    iterate 3 refine X.q rfl ?_
    refine GS.opsNil ?_
    have hE := Option.some.inj hM
    subst hE
    exact GS.ret ⟨_, rfl, ⟨30, rfl⟩⟩
  replace hM := ite_f h_2 hM
  refine GS.skip ?_
  refine GS.seq ?_
  obtain ⟨y1, h_3, hM⟩ := bind_of hM
  refine GS.region ?_
  refine X.q rfl ?_
  refine X.call (ok_curve_rising h_3) rfl rfl rfl (.cons (.shut (n := 9) rfl) .nil) ?_
  iterate 2 refine X.q rfl ?_
  refine GS.opsNil ?_
  have hE := Option.some.inj hM
  subst hE
  exact GS.ret ⟨_, rfl, ⟨30, rfl⟩⟩

abbrev e_hull_table (x : hull_table) : V := .agg [(V.sl (List.map e_api_Knot x.Curve.Knots)), (V.i x.Curve.Err)]

theorem ok_hull_table_masses {t : hull_table} {r : api_Span} (hM : hull_table_masses t = some r) : Ct Try.prog 132 [(e_hull_table t)] (e_api_Span r) := by
  refine ct_of_gs CC_ok rfl ?_
  unfold hull_table_masses at hM
  refine X.sq ?_
  iterate 2 refine X.opW rfl rfl rfl rfl ?_
  refine GS.opsNil ?_
  refine GS.seq ?_
  obtain ⟨x, h_1, hM⟩ := bind_of hM
  obtain ⟨x1, h_2, hM⟩ := bind_of hM
  refine X.draw (by kernel_rfl) ?_
  iterate 3 refine X.dop rfl rfl rfl rfl (by kernel_rfl) rfl rfl ?_
  refine X.dop rfl (X.indexF (f := e_api_Knot) h_1 (fun _ => rfl) rfl rfl rfl rfl) rfl rfl (by kernel_rfl) rfl rfl ?_
  refine X.dop rfl rfl rfl rfl (by kernel_rfl) rfl rfl ?_
  refine X.dop rfl (X.loadF h_1 rfl rfl rfl) rfl rfl (by kernel_rfl) rfl rfl ?_
  refine X.dop rfl (X.mulE rfl rfl) rfl rfl (by kernel_rfl) rfl rfl ?_
  iterate 6 refine X.dop rfl rfl rfl rfl (by kernel_rfl) rfl rfl ?_
  refine X.dop rfl (X.lenF rfl rfl rfl) rfl rfl (by kernel_rfl) rfl rfl ?_
  refine X.dop rfl (X.subE rfl rfl) rfl rfl (by kernel_rfl) rfl rfl ?_
  refine X.dop rfl (X.indexF (f := e_api_Knot) h_2 (fun _ => rfl) rfl rfl rfl rfl) rfl rfl (by kernel_rfl) rfl rfl ?_
  refine X.dop rfl rfl rfl rfl (by kernel_rfl) rfl rfl ?_
  refine X.dop rfl (X.loadF h_2 rfl rfl rfl) rfl rfl (by kernel_rfl) rfl rfl ?_
  refine X.dop rfl (X.mulE rfl rfl) rfl rfl (by kernel_rfl) rfl rfl ?_
  refine X.dop rfl rfl rfl rfl (by kernel_rfl) rfl rfl ?_
  refine X.dop0 rfl rfl rfl rfl (by kernel_rfl) rfl ?_
  refine X.dnil ?_
  refine X.norm [(2, (V.ptr 1 0 0))] ?_ rfl (sr rfl)
  have hE := Option.some.inj hM
  subst hE
  exact GS.ret ⟨_, rfl, ⟨30, rfl⟩⟩

theorem ok_hull_tabled_1 (k : api_Knot) : Ct Try.prog 134 [(e_api_Knot k)] (V.b (hull_tabled_1 k)) := by
  refine ct_of_gs CC_ok rfl ?_
  generalize hM : hull_tabled_1 k = r
  unfold hull_tabled_1 at hM
  refine X.sq ?_
  refine X.opW rfl rfl rfl rfl ?_
  refine X.q rfl ?_
  refine X.nq ?_
  iterate 4 refine X.q rfl ?_
  refine GS.opsNil ?_
  subst hM
  exact GS.ret ⟨_, rfl, ⟨30, rfl⟩⟩

theorem ok_slices_IndexFunc_api_Knot__hull_tabled_1 {s : (List api_Knot)} {r : Int} (hM : slices_IndexFunc_api_Knot__hull_tabled_1 s = some r) : Ct Try.prog 156 [(V.sl (List.map e_api_Knot s)), (V.fn 134 [])] (V.i r) := by
  refine ct_of_gs CC_ok rfl ?_
  unfold slices_IndexFunc_api_Knot__hull_tabled_1 at hM
  refine X.sq ?_
  refine X.q rfl ?_
  refine GS.opsNil ?_
  refine GS.seq ?_
  refine X.sq ?_
  refine X.q rfl ?_
  refine X.opR rfl (X.lenF rfl rfl rfl) rfl ?_
  refine X.q rfl ?_
  refine GS.opsNil ?_
  refine X.join (τ := Unit) (fun v => slices_IndexFunc_api_Knot__hull_tabled_1_j1 = some r) (fun v => ⟨[], [], 0, none, 19⟩) ?_ ?_
  · intro _ hM
    replace hM : slices_IndexFunc_api_Knot__hull_tabled_1_j1 = some r := hM
    unfold slices_IndexFunc_api_Knot__hull_tabled_1_j1 at hM
    refine X.sq ?_
    refine X.q rfl ?_
    refine GS.opsNil ?_
    have hE := Option.some.inj hM
    subst hE
    exact GS.ret ⟨_, rfl, ⟨30, rfl⟩⟩
  intro hj_1
  refine GS.block ?_
  refine X.gc [] (X.loop (σ := Int) (fun v => ⟨[(0, (V.sl (List.map e_api_Knot s))), (1, (V.fn 134 [])), (7, (V.i (s.length : Int))), (8, (V.i v))], [], 0, none, 19⟩) hM ?_ rfl) rfl rfl rfl (ga rfl rfl) (gb_nil)
  intro x1 b_1 hM hc_2 hr_1
  rw [slices_IndexFunc_api_Knot__hull_tabled_1_b2] at hM
  refine X.sq ?_
  refine X.q rfl ?_
  refine GS.opsNil ?_
  refine GS.seq ?_
  refine X.cond rfl (fun h_1 => ?_) (fun h_1 => ?_)
  · replace hM := ite_t h_1 hM
    refine GS.skip ?_
    refine GS.seq ?_
    refine GS.block ?_
    refine X.sq ?_
    iterate 2 refine X.q rfl ?_
    refine GS.opsNil ?_
    refine GS.seq ?_
    obtain ⟨x, h_2, hM⟩ := bind_of hM
    refine GS.region ?_
    iterate 3 refine X.q rfl ?_
    refine X.opR rfl (X.indexF (f := e_api_Knot) h_2 (fun _ => rfl) rfl rfl rfl rfl) rfl ?_
    refine X.opR rfl (X.loadF h_2 rfl rfl rfl) rfl ?_
    refine X.call (ok_hull_tabled_1 x) rfl rfl rfl (.cons (.shut (n := 9) rfl) .nil) ?_
    refine GS.opsNil ?_
    refine X.cond rfl (fun h_3 => ?_) (fun h_3 => ?_)
    · replace hM := ite_t h_3 hM
      refine X.sq ?_
      iterate 2 refine X.q rfl ?_
      refine GS.opsNil ?_
      have hE := Option.some.inj hM
      replace hE := hr_1 _ hE.symm
      subst hE
      exact GS.ret ⟨_, rfl, ⟨30, rfl⟩⟩
    replace hM := ite_f h_3 hM
    refine GS.skip ?_
    refine GS.endB ?_
    refine GS.region ?_
    refine X.opR rfl (X.addE rfl rfl) rfl ?_
    refine X.q rfl ?_
    refine GS.opsNil ?_
    have hE := Option.some.inj hM
    exact X.gc [] (hc_2 (w64 (x1 + 1)) hE.symm) rfl rfl rfl (ga rfl rfl) (gb_nil)
  replace hM := ite_f h_1 hM
  refine GS.exit rfl ?_
  obtain ⟨y_1, hM, hy⟩ := map_of hM
  rw [hr_1 _ hy.symm] at hM
  exact X.gc [] (hj_1 () hM) rfl rfl rfl (gk_nil) (gb_nil)

theorem ok_slices_ContainsFunc_api_Knot__hull_tabled_1 {s : (List api_Knot)} {r : Bool} (hM : slices_ContainsFunc_api_Knot__hull_tabled_1 s = some r) : Ct Try.prog 133 [(V.sl (List.map e_api_Knot s)), (V.fn 134 [])] (V.b r) := by
  refine ct_of_gs CC_ok rfl ?_
  unfold slices_ContainsFunc_api_Knot__hull_tabled_1 at hM
  refine X.sq ?_
  refine X.q rfl ?_
  refine GS.opsNil ?_
  refine GS.seq ?_
  obtain ⟨y, h_1, hM⟩ := bind_of hM
  refine GS.region ?_
  iterate 2 refine X.q rfl ?_
  refine X.call (ok_slices_IndexFunc_api_Knot__hull_tabled_1 h_1) rfl rfl rfl (.cons (.shut (n := 9) rfl) (.cons (.shut (n := 9) rfl) .nil)) ?_
  iterate 2 refine X.q rfl ?_
  refine GS.opsNil ?_
  have hE := Option.some.inj hM
  subst hE
  exact GS.ret ⟨_, rfl, ⟨30, rfl⟩⟩

theorem ok_hull_tabled {s : api_Ship} {c : api_Curve} {r : Int} (hM : hull_tabled s c = some r) : Ct Try.prog 83 [(e_api_Ship s), (e_api_Curve c)] (V.i r) := by
  refine ct_of_gs CC_ok rfl ?_
  unfold hull_tabled at hM
  refine X.sq ?_
  iterate 2 refine X.opW rfl rfl rfl rfl ?_
  refine X.q rfl ?_
  refine GS.opsNil ?_
  refine GS.seq ?_
  obtain ⟨y, h_1, hM⟩ := bind_of hM
  refine GS.region ?_
  iterate 2 refine X.q rfl ?_
  refine X.call (ok_hull_table_masses h_1) rfl rfl rfl (.cons (.shut (n := 9) rfl) .nil) ?_
  refine X.opW rfl rfl rfl rfl ?_
  refine X.op0W rfl rfl rfl ?_
  refine GS.opsNil ?_
  iterate 2 refine GS.seq ?_
  obtain ⟨y1, h_2, hM⟩ := gb_of hM
  obtain ⟨y2, h_3, hM⟩ := gb_of hM
  refine X.mid [(25, (V.b (((decide (s.Light < y.Lo)) || (decide (y.Hi < y1))) || y2)))] ?_ ?_
  · intro hg
    refine X.split (decide (s.Light < y.Lo)) (fun h_4 => ?_) (fun h_4 => ?_)
    · refine X.drawc (by kernel_rfl) rfl ?_
      iterate 6 refine X.cop rfl rfl rfl rfl ?_
      iterate 5 refine X.coff (X.off_f rfl rfl rfl h_4) rfl rfl ?_
      refine X.cop rfl (X.pickor_t (y := decide (y.Hi < y1)) rfl h_4 rfl) rfl rfl ?_
      refine X.cop rfl rfl rfl rfl ?_
      iterate 3 refine X.coff (X.off_f rfl rfl rfl (X.or_tt h_4)) rfl rfl ?_
      refine X.cop rfl (X.pickor_t (y := y2) rfl (X.or_tt h_4) rfl) rfl rfl ?_
      refine X.cnil ?_
      exact X.norm _ hg rfl (sr rfl)
    refine X.split (((decide (s.Light < y.Lo)) || (decide (y.Hi < y1)))) (fun h_5 => ?_) (fun h_5 => ?_)
    · refine X.drawc (by kernel_rfl) rfl ?_
      iterate 6 refine X.cop rfl rfl rfl rfl ?_
      iterate 3 refine X.cop (X.on_f rfl rfl rfl h_4) rfl rfl rfl ?_
      refine X.ccall (ok_hull_rooms (h_2 (X.nt h_4))) (X.on_f rfl rfl rfl h_4) rfl rfl rfl (.cons (.shut (n := 9) rfl) .nil) ?_
      refine X.cop (X.on_f rfl rfl rfl h_4) rfl rfl rfl ?_
      refine X.cop rfl (X.pickor_f (y := decide (y.Hi < y1)) rfl h_4 rfl) rfl rfl ?_
      refine X.cop rfl rfl rfl rfl ?_
      iterate 3 refine X.coff (X.off_f rfl rfl rfl h_5) rfl rfl ?_
      refine X.cop rfl (X.pickor_t (y := y2) rfl h_5 rfl) rfl rfl ?_
      refine X.cnil ?_
      exact X.norm _ hg rfl (sr rfl)
    refine X.drawc (by kernel_rfl) rfl ?_
    iterate 6 refine X.cop rfl rfl rfl rfl ?_
    iterate 3 refine X.cop (X.on_f rfl rfl rfl h_4) rfl rfl rfl ?_
    refine X.ccall (ok_hull_rooms (h_2 (X.nt h_4))) (X.on_f rfl rfl rfl h_4) rfl rfl rfl (.cons (.shut (n := 9) rfl) .nil) ?_
    refine X.cop (X.on_f rfl rfl rfl h_4) rfl rfl rfl ?_
    refine X.cop rfl (X.pickor_f (y := decide (y.Hi < y1)) rfl h_4 rfl) rfl rfl ?_
    refine X.cop rfl rfl rfl rfl ?_
    iterate 2 refine X.cop (X.on_f rfl rfl rfl h_5) rfl rfl rfl ?_
    refine X.ccall (ok_slices_ContainsFunc_api_Knot__hull_tabled_1 (h_3 (X.nt h_5))) (X.on_f rfl rfl rfl h_5) rfl rfl rfl (.cons (.shut (n := 9) rfl) (.cons (.shut (n := 9) rfl) .nil)) ?_
    refine X.cop rfl (X.pickor_f (y := y2) rfl h_5 rfl) rfl rfl ?_
    refine X.cnil ?_
    exact X.norm _ hg rfl (sr rfl)
  refine X.cond rfl (fun h_6 => ?_) (fun h_6 => ?_)
  · replace hM := ite_t h_6 hM
    refine X.sq ?_
    refine X.q rfl ?_
    refine GS.opsNil ?_
    have hE := Option.some.inj hM
    subst hE
    exact GS.ret ⟨_, rfl, ⟨30, rfl⟩⟩
  replace hM := ite_f h_6 hM
  refine GS.skip ?_
  refine X.sq ?_
  refine X.q rfl ?_
  refine GS.opsNil ?_
  have hE := Option.some.inj hM
  subst hE
  exact GS.ret ⟨_, rfl, ⟨30, rfl⟩⟩

theorem ok_cmp_Or_api_Errno {vals : (List Int)} {r : Int} (hM : cmp_Or_api_Errno vals = some r) : Ct Try.prog 82 [(V.sl (List.map V.i vals))] (V.i r) := by
  refine ct_of_gs CC_ok rfl ?_
  unfold cmp_Or_api_Errno at hM
  refine X.sq ?_
  refine X.q rfl ?_
  refine X.nq ?_
  refine X.q rfl ?_
  refine GS.opsNil ?_
  refine GS.seq ?_
  refine X.sq ?_
  refine X.q rfl ?_
  refine X.opR rfl (X.lenF rfl rfl rfl) rfl ?_
  refine X.q rfl ?_
  refine GS.opsNil ?_
  refine X.join (τ := Unit) (fun v => cmp_Or_api_Errno_j1 = some r) (fun v => ⟨[(3, (V.i 0))], [], 0, none, 18⟩) ?_ ?_
  · intro _ hM
    replace hM : cmp_Or_api_Errno_j1 = some r := hM
    unfold cmp_Or_api_Errno_j1 at hM
    refine X.sq ?_
    iterate 2 refine X.q rfl ?_
    refine GS.opsNil ?_
    have hE := Option.some.inj hM
    subst hE
    exact GS.ret ⟨_, rfl, ⟨30, rfl⟩⟩
  intro hj_1
  refine GS.block ?_
  refine X.gc [] (X.loop (σ := Int) (fun v => ⟨[(3, (V.i 0)), (6, (V.sl (List.map V.i vals))), (7, (V.i (vals.length : Int))), (8, (V.i v))], [], 0, none, 18⟩) hM ?_ rfl) rfl rfl rfl (ga rfl rfl) (gb_nil)
  intro x1 b_1 hM hc_2 hr_1
  rw [cmp_Or_api_Errno_b2] at hM
  refine X.sq ?_
  refine X.q rfl ?_
  refine GS.opsNil ?_
  refine GS.seq ?_
  refine X.cond rfl (fun h_1 => ?_) (fun h_1 => ?_)
  · replace hM := ite_t h_1 hM
    refine GS.skip ?_
    refine GS.seq ?_
    refine GS.block ?_
    refine GS.seq ?_
    obtain ⟨x, h_2, hM⟩ := bind_of hM
    refine GS.region ?_
    refine X.opR rfl (X.indexF (f := V.i) h_2 (fun _ => rfl) rfl rfl rfl rfl) rfl ?_
    refine X.opR rfl (X.loadF h_2 rfl rfl rfl) rfl ?_
    refine X.q rfl ?_
    refine X.nq ?_
    iterate 3 refine X.q rfl ?_
    refine GS.opsNil ?_
    refine X.cond rfl (fun h_3 => ?_) (fun h_3 => ?_)
    · replace hM := ite_t h_3 hM
      refine X.sq ?_
      iterate 2 refine X.q rfl ?_
      refine GS.opsNil ?_
      have hE := Option.some.inj hM
      replace hE := hr_1 _ hE.symm
      subst hE
      exact GS.ret ⟨_, rfl, ⟨30, rfl⟩⟩
    replace hM := ite_f h_3 hM
    refine GS.skip ?_
    refine GS.endB ?_
    refine GS.region ?_
    refine X.opR rfl (X.addE rfl rfl) rfl ?_
    refine X.q rfl ?_
    refine GS.opsNil ?_
    have hE := Option.some.inj hM
    exact X.gc [] (hc_2 (w64 (x1 + 1)) hE.symm) rfl rfl rfl (ga rfl rfl) (gb_nil)
  replace hM := ite_f h_1 hM
  refine GS.exit rfl ?_
  obtain ⟨y_1, hM, hy⟩ := map_of hM
  rw [hr_1 _ hy.symm] at hM
  exact X.gc [] (hj_1 () hM) rfl rfl rfl (ga rfl rfl) (gb_nil)

set_option maxHeartbeats 4000000 in
theorem ok_hull_Check {s : api_Ship} {r : Int} (hM : hull_Check s = some r) : Ct Try.prog 23 [(e_api_Ship s)] (V.i r) := by
  refine ct_of_gs CC_ok rfl ?_
  unfold hull_Check at hM
  refine X.sq ?_
  refine X.opW rfl rfl rfl rfl ?_
  refine X.q rfl ?_
  refine GS.opsNil ?_
  refine GS.seq ?_
  refine X.sq ?_
  refine X.mid [(1, (V.ptr 0 0 0)), (39, (V.b (((((!(hull_within s.ID 1 1099511627776)) || (!(hull_within s.Light 1 65536))) || (!(hull_placed s.Lever s.Height))) || (!(hull_within s.Turn 1 1048576))) || (!(hull_within s.Least 0 5000)))))] ?_ ?_
  · intro hg
    refine X.split (!(hull_within s.ID 1 1099511627776)) (fun h_1 => ?_) (fun h_1 => ?_)
    · iterate 2 refine X.q rfl ?_
      refine X.call (ok_hull_within s.ID 1 1099511627776) rfl rfl rfl (.cons (.shut (n := 9) rfl) (.cons (.shut (n := 9) rfl) (.cons (.shut (n := 9) rfl) .nil))) ?_
      iterate 2 refine X.q rfl ?_
      iterate 4 refine X.off (X.off_f rfl rfl rfl h_1) rfl ?_
      refine X.opR rfl (X.pickor_t (y := !(hull_within s.Light 1 65536)) rfl h_1 rfl) rfl ?_
      refine X.q rfl ?_
      iterate 6 refine X.off (X.off_f rfl rfl rfl (X.or_tt h_1)) rfl ?_
      refine X.opR rfl (X.pickor_t (y := !(hull_placed s.Lever s.Height)) rfl (X.or_tt h_1) rfl) rfl ?_
      refine X.q rfl ?_
      iterate 4 refine X.off (X.off_f rfl rfl rfl (X.or_tt (X.or_tt h_1))) rfl ?_
      refine X.opR rfl (X.pickor_t (y := !(hull_within s.Turn 1 1048576)) rfl (X.or_tt (X.or_tt h_1)) rfl) rfl ?_
      refine X.q rfl ?_
      iterate 4 refine X.off (X.off_f rfl rfl rfl (X.or_tt (X.or_tt (X.or_tt h_1)))) rfl ?_
      refine X.opR rfl (X.pickor_t (y := !(hull_within s.Least 0 5000)) rfl (X.or_tt (X.or_tt (X.or_tt h_1))) rfl) rfl ?_
      refine GS.opsNil ?_
      exact X.norm _ hg rfl (sr rfl)
    refine X.split (((!(hull_within s.ID 1 1099511627776)) || (!(hull_within s.Light 1 65536)))) (fun h_2 => ?_) (fun h_2 => ?_)
    · iterate 2 refine X.q rfl ?_
      refine X.call (ok_hull_within s.ID 1 1099511627776) rfl rfl rfl (.cons (.shut (n := 9) rfl) (.cons (.shut (n := 9) rfl) (.cons (.shut (n := 9) rfl) .nil))) ?_
      iterate 2 refine X.q rfl ?_
      iterate 2 refine X.opR (X.on_f rfl rfl rfl h_1) rfl rfl ?_
      refine X.call (ok_hull_within s.Light 1 65536) (X.on_f rfl rfl rfl h_1) rfl rfl (.cons (.shut (n := 9) rfl) (.cons (.shut (n := 9) rfl) (.cons (.shut (n := 9) rfl) .nil))) ?_
      refine X.opR (X.on_f rfl rfl rfl h_1) rfl rfl ?_
      refine X.opR rfl (X.pickor_f (y := !(hull_within s.Light 1 65536)) rfl h_1 rfl) rfl ?_
      refine X.q rfl ?_
      iterate 6 refine X.off (X.off_f rfl rfl rfl h_2) rfl ?_
      refine X.opR rfl (X.pickor_t (y := !(hull_placed s.Lever s.Height)) rfl h_2 rfl) rfl ?_
      refine X.q rfl ?_
      iterate 4 refine X.off (X.off_f rfl rfl rfl (X.or_tt h_2)) rfl ?_
      refine X.opR rfl (X.pickor_t (y := !(hull_within s.Turn 1 1048576)) rfl (X.or_tt h_2) rfl) rfl ?_
      refine X.q rfl ?_
      iterate 4 refine X.off (X.off_f rfl rfl rfl (X.or_tt (X.or_tt h_2))) rfl ?_
      refine X.opR rfl (X.pickor_t (y := !(hull_within s.Least 0 5000)) rfl (X.or_tt (X.or_tt h_2)) rfl) rfl ?_
      refine GS.opsNil ?_
      exact X.norm _ hg rfl (sr rfl)
    refine X.split ((((!(hull_within s.ID 1 1099511627776)) || (!(hull_within s.Light 1 65536))) || (!(hull_placed s.Lever s.Height)))) (fun h_3 => ?_) (fun h_3 => ?_)
    · iterate 2 refine X.q rfl ?_
      refine X.call (ok_hull_within s.ID 1 1099511627776) rfl rfl rfl (.cons (.shut (n := 9) rfl) (.cons (.shut (n := 9) rfl) (.cons (.shut (n := 9) rfl) .nil))) ?_
      iterate 2 refine X.q rfl ?_
      iterate 2 refine X.opR (X.on_f rfl rfl rfl h_1) rfl rfl ?_
      refine X.call (ok_hull_within s.Light 1 65536) (X.on_f rfl rfl rfl h_1) rfl rfl (.cons (.shut (n := 9) rfl) (.cons (.shut (n := 9) rfl) (.cons (.shut (n := 9) rfl) .nil))) ?_
      refine X.opR (X.on_f rfl rfl rfl h_1) rfl rfl ?_
      refine X.opR rfl (X.pickor_f (y := !(hull_within s.Light 1 65536)) rfl h_1 rfl) rfl ?_
      refine X.q rfl ?_
      iterate 4 refine X.opR (X.on_f rfl rfl rfl h_2) rfl rfl ?_
      refine X.call (ok_hull_placed s.Lever s.Height) (X.on_f rfl rfl rfl h_2) rfl rfl (.cons (.shut (n := 9) rfl) (.cons (.shut (n := 9) rfl) .nil)) ?_
      refine X.opR (X.on_f rfl rfl rfl h_2) rfl rfl ?_
      refine X.opR rfl (X.pickor_f (y := !(hull_placed s.Lever s.Height)) rfl h_2 rfl) rfl ?_
      refine X.q rfl ?_
      iterate 4 refine X.off (X.off_f rfl rfl rfl h_3) rfl ?_
      refine X.opR rfl (X.pickor_t (y := !(hull_within s.Turn 1 1048576)) rfl h_3 rfl) rfl ?_
      refine X.q rfl ?_
      iterate 4 refine X.off (X.off_f rfl rfl rfl (X.or_tt h_3)) rfl ?_
      refine X.opR rfl (X.pickor_t (y := !(hull_within s.Least 0 5000)) rfl (X.or_tt h_3) rfl) rfl ?_
      refine GS.opsNil ?_
      exact X.norm _ hg rfl (sr rfl)
    refine X.split (((((!(hull_within s.ID 1 1099511627776)) || (!(hull_within s.Light 1 65536))) || (!(hull_placed s.Lever s.Height))) || (!(hull_within s.Turn 1 1048576)))) (fun h_4 => ?_) (fun h_4 => ?_)
    · iterate 2 refine X.q rfl ?_
      refine X.call (ok_hull_within s.ID 1 1099511627776) rfl rfl rfl (.cons (.shut (n := 9) rfl) (.cons (.shut (n := 9) rfl) (.cons (.shut (n := 9) rfl) .nil))) ?_
      iterate 2 refine X.q rfl ?_
      iterate 2 refine X.opR (X.on_f rfl rfl rfl h_1) rfl rfl ?_
      refine X.call (ok_hull_within s.Light 1 65536) (X.on_f rfl rfl rfl h_1) rfl rfl (.cons (.shut (n := 9) rfl) (.cons (.shut (n := 9) rfl) (.cons (.shut (n := 9) rfl) .nil))) ?_
      refine X.opR (X.on_f rfl rfl rfl h_1) rfl rfl ?_
      refine X.opR rfl (X.pickor_f (y := !(hull_within s.Light 1 65536)) rfl h_1 rfl) rfl ?_
      refine X.q rfl ?_
      iterate 4 refine X.opR (X.on_f rfl rfl rfl h_2) rfl rfl ?_
      refine X.call (ok_hull_placed s.Lever s.Height) (X.on_f rfl rfl rfl h_2) rfl rfl (.cons (.shut (n := 9) rfl) (.cons (.shut (n := 9) rfl) .nil)) ?_
      refine X.opR (X.on_f rfl rfl rfl h_2) rfl rfl ?_
      refine X.opR rfl (X.pickor_f (y := !(hull_placed s.Lever s.Height)) rfl h_2 rfl) rfl ?_
      refine X.q rfl ?_
      iterate 2 refine X.opR (X.on_f rfl rfl rfl h_3) rfl rfl ?_
      refine X.call (ok_hull_within s.Turn 1 1048576) (X.on_f rfl rfl rfl h_3) rfl rfl (.cons (.shut (n := 9) rfl) (.cons (.shut (n := 9) rfl) (.cons (.shut (n := 9) rfl) .nil))) ?_
      refine X.opR (X.on_f rfl rfl rfl h_3) rfl rfl ?_
      refine X.opR rfl (X.pickor_f (y := !(hull_within s.Turn 1 1048576)) rfl h_3 rfl) rfl ?_
      refine X.q rfl ?_
      iterate 4 refine X.off (X.off_f rfl rfl rfl h_4) rfl ?_
      refine X.opR rfl (X.pickor_t (y := !(hull_within s.Least 0 5000)) rfl h_4 rfl) rfl ?_
      refine GS.opsNil ?_
      exact X.norm _ hg rfl (sr rfl)
    iterate 2 refine X.q rfl ?_
    refine X.call (ok_hull_within s.ID 1 1099511627776) rfl rfl rfl (.cons (.shut (n := 9) rfl) (.cons (.shut (n := 9) rfl) (.cons (.shut (n := 9) rfl) .nil))) ?_
    iterate 2 refine X.q rfl ?_
    iterate 2 refine X.opR (X.on_f rfl rfl rfl h_1) rfl rfl ?_
    refine X.call (ok_hull_within s.Light 1 65536) (X.on_f rfl rfl rfl h_1) rfl rfl (.cons (.shut (n := 9) rfl) (.cons (.shut (n := 9) rfl) (.cons (.shut (n := 9) rfl) .nil))) ?_
    refine X.opR (X.on_f rfl rfl rfl h_1) rfl rfl ?_
    refine X.opR rfl (X.pickor_f (y := !(hull_within s.Light 1 65536)) rfl h_1 rfl) rfl ?_
    refine X.q rfl ?_
    iterate 4 refine X.opR (X.on_f rfl rfl rfl h_2) rfl rfl ?_
    refine X.call (ok_hull_placed s.Lever s.Height) (X.on_f rfl rfl rfl h_2) rfl rfl (.cons (.shut (n := 9) rfl) (.cons (.shut (n := 9) rfl) .nil)) ?_
    refine X.opR (X.on_f rfl rfl rfl h_2) rfl rfl ?_
    refine X.opR rfl (X.pickor_f (y := !(hull_placed s.Lever s.Height)) rfl h_2 rfl) rfl ?_
    refine X.q rfl ?_
    iterate 2 refine X.opR (X.on_f rfl rfl rfl h_3) rfl rfl ?_
    refine X.call (ok_hull_within s.Turn 1 1048576) (X.on_f rfl rfl rfl h_3) rfl rfl (.cons (.shut (n := 9) rfl) (.cons (.shut (n := 9) rfl) (.cons (.shut (n := 9) rfl) .nil))) ?_
    refine X.opR (X.on_f rfl rfl rfl h_3) rfl rfl ?_
    refine X.opR rfl (X.pickor_f (y := !(hull_within s.Turn 1 1048576)) rfl h_3 rfl) rfl ?_
    refine X.q rfl ?_
    iterate 2 refine X.opR (X.on_f rfl rfl rfl h_4) rfl rfl ?_
    refine X.call (ok_hull_within s.Least 0 5000) (X.on_f rfl rfl rfl h_4) rfl rfl (.cons (.shut (n := 9) rfl) (.cons (.shut (n := 9) rfl) (.cons (.shut (n := 9) rfl) .nil))) ?_
    refine X.opR (X.on_f rfl rfl rfl h_4) rfl rfl ?_
    refine X.opR rfl (X.pickor_f (y := !(hull_within s.Least 0 5000)) rfl h_4 rfl) rfl ?_
    refine GS.opsNil ?_
    exact X.norm _ hg rfl (sr rfl)
  refine X.cond rfl (fun h_5 => ?_) (fun h_5 => ?_)
  · replace hM := ite_t h_5 hM
    refine X.sq ?_
    refine X.q rfl ?_
    refine GS.opsNil ?_
    have hE := Option.some.inj hM
    subst hE
    exact GS.ret ⟨_, rfl, ⟨30, rfl⟩⟩
  replace hM := ite_f h_5 hM
  refine GS.skip ?_
  refine GS.seq ?_
  refine X.sq ?_
  iterate 2 refine X.q rfl ?_
  refine X.opR rfl (X.lenF rfl rfl rfl) rfl ?_
  refine X.q rfl ?_
  refine GS.opsNil ?_
  refine X.cond rfl (fun h_6 => ?_) (fun h_6 => ?_)
  · replace hM := ite_t h_6 hM
    refine X.sq ?_
    refine X.q rfl ?_
    refine GS.opsNil ?_
    have hE := Option.some.inj hM
    subst hE
    exact GS.ret ⟨_, rfl, ⟨30, rfl⟩⟩
  replace hM := ite_f h_6 hM
  refine GS.skip ?_
  refine GS.seq ?_
  refine X.sq ?_
  iterate 2 refine X.q rfl ?_
  refine X.opR rfl (X.lenF rfl rfl rfl) rfl ?_
  refine X.q rfl ?_
  refine GS.opsNil ?_
  refine X.join (τ := Unit) (fun v => hull_Check_j1 s = some r) (fun v => ⟨[(1, (V.ptr 0 0 0))], [.rows 11 [(e_api_Ship s)]], 0, none, 114⟩) ?_ ?_
  · intro _ hM
    replace hM : hull_Check_j1 s = some r := hM
    unfold hull_Check_j1 at hM
    iterate 2 refine GS.seq ?_
    obtain ⟨y, h_7, hM⟩ := bind_of hM
    refine GS.region ?_
    refine X.q rfl ?_
    refine X.call (ok_hull_rooms h_7) rfl rfl rfl (.cons (.shut (n := 9) rfl) .nil) ?_
    refine X.q rfl ?_
    refine GS.opsNil ?_
    refine X.cond rfl (fun h_8 => ?_) (fun h_8 => ?_)
    · replace hM := ite_t h_8 hM
      refine X.sq ?_
      refine X.q rfl ?_
      refine GS.opsNil ?_
      have hE := Option.some.inj hM
      subst hE
      exact GS.ret ⟨_, rfl, ⟨30, rfl⟩⟩
    replace hM := ite_f h_8 hM
    refine GS.skip ?_
    refine GS.seq ?_
    refine X.sq ?_
    iterate 4 refine X.q rfl ?_
    refine X.opW rfl rfl rfl rfl ?_
    refine X.opR rfl (X.lenO (l := [s.Mean, s.Mtac]) rfl rfl rfl) rfl ?_
    refine X.q rfl ?_
    refine GS.opsNil ?_
    refine X.join (τ := Unit) (fun v => hull_Check_j2 s = some r) (fun v => ⟨[(1, (V.ptr 0 0 0))], [.rows 11 [(e_api_Ship s)]], 0, none, 114⟩) ?_ ?_
    · intro _ hM
      replace hM : hull_Check_j2 s = some r := hM
      unfold hull_Check_j2 at hM
      iterate 2 refine GS.seq ?_
      obtain ⟨y1, h_9, hM⟩ := bind_of hM
      refine GS.region ?_
      iterate 2 refine X.q rfl ?_
      refine X.call (ok_curve_Rising h_9) rfl rfl rfl (.cons (.shut (n := 9) rfl) .nil) ?_
      iterate 5 refine X.q rfl ?_
      refine X.nq ?_
      iterate 2 refine X.q rfl ?_
      refine GS.opsNil ?_
      refine X.cond rfl (fun h_10 => ?_) (fun h_10 => ?_)
      · replace hM := ite_t h_10 hM
        refine X.sq ?_
        refine X.q rfl ?_
        refine GS.opsNil ?_
        have hE := Option.some.inj hM
        subst hE
        exact GS.ret ⟨_, rfl, ⟨30, rfl⟩⟩
      replace hM := ite_f h_10 hM
      refine GS.skip ?_
      refine GS.seq ?_
      obtain ⟨y2, h_11, hM⟩ := bind_of hM
      obtain ⟨y3, h_12, hM⟩ := bind_of hM
      obtain ⟨y4, h_13, hM⟩ := bind_of hM
      refine X.draw (by kernel_rfl) ?_
      iterate 3 refine X.dop rfl rfl rfl rfl (by kernel_rfl) rfl rfl ?_
      refine X.dcall (ok_hull_tabled h_11) rfl rfl rfl (by kernel_rfl) rfl (.cons (.shut (n := 9) rfl) (.cons (.shut (n := 9) rfl) .nil)) ?_
      iterate 3 refine X.dop rfl rfl rfl rfl (by kernel_rfl) rfl rfl ?_
      refine X.dcall (ok_hull_tabled h_12) rfl rfl rfl (by kernel_rfl) rfl (.cons (.shut (n := 9) rfl) (.cons (.shut (n := 9) rfl) .nil)) ?_
      refine X.dbld rfl rfl rfl rfl rfl (by kernel_rfl) rfl ?_
      refine X.dcall (ok_cmp_Or_api_Errno h_13) rfl rfl rfl (by kernel_rfl) rfl (.cons (.shut (n := 9) rfl) .nil) ?_
      refine X.dop rfl rfl rfl rfl (by kernel_rfl) rfl rfl ?_
      refine X.dnil ?_
      refine X.norm [(2, (V.i y4))] ?_ rfl (sr rfl)
      have hE := Option.some.inj hM
      subst hE
      exact GS.ret ⟨_, rfl, ⟨30, rfl⟩⟩
    intro hj_2
    refine GS.block ?_
    refine X.gc [some 0, some 1] (X.loop (σ := Int) (fun v => ⟨[(1, (V.ptr 0 0 0)), (84, (V.osl 1 0 (List.length ([s.Mean, s.Mtac])))), (85, (V.i (([s.Mean, s.Mtac]).length : Int))), (86, (V.i v))], [.rows 11 [(e_api_Ship s)], .rows 2 (List.map e_api_Curve ([s.Mean, s.Mtac]))], 0, none, 114⟩) hM ?_ rfl) rfl rfl rfl (ga rfl rfl) (gb9 rfl rfl rfl (gb_rows 9 rfl rfl (fun _ => rfl) gb_nil))
    intro x1 b_1 hM hc_3 hr_1
    rw [hull_Check_b3] at hM
    refine X.sq ?_
    refine X.q rfl ?_
    refine GS.opsNil ?_
    refine GS.seq ?_
    refine X.cond rfl (fun h_14 => ?_) (fun h_14 => ?_)
    · replace hM := ite_t h_14 hM
      refine GS.skip ?_
      refine GS.seq ?_
      refine GS.block ?_
      refine GS.seq ?_
      obtain ⟨x, h_15, hM⟩ := bind_of hM
      refine GS.region ?_
      refine X.opR rfl (X.indexO h_15 rfl rfl rfl rfl rfl) rfl ?_
      refine X.opR rfl (X.loadO h_15 rfl rfl rfl rfl) rfl ?_
      refine X.opW rfl rfl rfl rfl ?_
      refine X.op0W rfl rfl rfl ?_
      refine GS.opsNil ?_
      refine GS.seq ?_
      obtain ⟨y5, h_16, hM⟩ := bind_of hM
      refine GS.region ?_
      refine X.q rfl ?_
      refine X.call (ok_curve_Check h_16) rfl rfl rfl (.cons (.shut (n := 9) rfl) .nil) ?_
      refine X.q rfl ?_
      refine X.nq ?_
      iterate 2 refine X.q rfl ?_
      refine GS.opsNil ?_
      refine X.cond rfl (fun h_17 => ?_) (fun h_17 => ?_)
      · replace hM := ite_t h_17 hM
        refine X.sq ?_
        iterate 2 refine X.q rfl ?_
        refine GS.opsNil ?_
        have hE := Option.some.inj hM
        replace hE := hr_1 _ hE.symm
        subst hE
        exact GS.ret ⟨_, rfl, ⟨30, rfl⟩⟩
      replace hM := ite_f h_17 hM
      refine GS.skip ?_
      refine GS.endB ?_
      refine GS.region ?_
      refine X.opR rfl (X.addE rfl rfl) rfl ?_
      refine X.q rfl ?_
      refine GS.opsNil ?_
      have hE := Option.some.inj hM
      exact X.gc [some 0, some 1] (hc_3 (w64 (x1 + 1)) hE.symm) rfl rfl rfl (ga rfl rfl) (gb9 rfl rfl rfl (gb_rows 9 rfl rfl (fun _ => rfl) gb_nil))
    replace hM := ite_f h_14 hM
    refine GS.exit rfl ?_
    obtain ⟨y_1, hM, hy⟩ := map_of hM
    rw [hr_1 _ hy.symm] at hM
    exact X.gc [some 0] (hj_2 () hM) rfl rfl rfl (ga rfl rfl) (gb9 rfl rfl rfl gb_nil)
  intro hj_1
  refine GS.block ?_
  refine X.gc [some 0] (X.loop (σ := Int) (fun v => ⟨[(1, (V.ptr 0 0 0)), (45, (V.sl (List.map e_api_Hold s.Holds))), (46, (V.i (s.Holds.length : Int))), (47, (V.i v))], [.rows 11 [(e_api_Ship s)]], 0, none, 114⟩) hM ?_ rfl) rfl rfl rfl (ga rfl rfl) (gb9 rfl rfl rfl gb_nil)
  intro x3 b_1 hM hc_4 hr_1
  rw [hull_Check_b4] at hM
  refine X.sq ?_
  refine X.q rfl ?_
  refine GS.opsNil ?_
  refine GS.seq ?_
  refine X.cond rfl (fun h_18 => ?_) (fun h_18 => ?_)
  · replace hM := ite_t h_18 hM
    refine GS.skip ?_
    refine GS.seq ?_
    refine GS.block ?_
    refine GS.seq ?_
    obtain ⟨x2, h_19, hM⟩ := bind_of hM
    refine GS.region ?_
    refine X.q rfl ?_
    refine X.opR rfl (X.indexF (f := e_api_Hold) h_19 (fun _ => rfl) rfl rfl rfl rfl) rfl ?_
    refine X.opR rfl (X.loadF h_19 rfl rfl rfl) rfl ?_
    refine X.opW rfl rfl rfl rfl ?_
    refine X.q rfl ?_
    refine X.op0W rfl rfl rfl ?_
    refine GS.opsNil ?_
    refine GS.seq ?_
    refine X.sq ?_
    refine X.mid [(1, (V.ptr 0 0 0)), (3, (V.i x3)), (4, (V.ptr 1 0 0)), (45, (V.sl (List.map e_api_Hold s.Holds))), (46, (V.i (s.Holds.length : Int))), (47, (V.i x3)), (69, (V.b (((!(hull_within x2.ID 1 1099511627776)) || (!(hull_within x2.Room 0 65536))) || (!(hull_placed x2.Lever x2.Height)))))] ?_ ?_
    · intro hg
      refine X.split (!(hull_within x2.ID 1 1099511627776)) (fun h_20 => ?_) (fun h_20 => ?_)
      · iterate 2 refine X.q rfl ?_
        refine X.call (ok_hull_within x2.ID 1 1099511627776) rfl rfl rfl (.cons (.shut (n := 9) rfl) (.cons (.shut (n := 9) rfl) (.cons (.shut (n := 9) rfl) .nil))) ?_
        iterate 2 refine X.q rfl ?_
        iterate 4 refine X.off (X.off_f rfl rfl rfl h_20) rfl ?_
        refine X.opR rfl (X.pickor_t (y := !(hull_within x2.Room 0 65536)) rfl h_20 rfl) rfl ?_
        refine X.q rfl ?_
        iterate 6 refine X.off (X.off_f rfl rfl rfl (X.or_tt h_20)) rfl ?_
        refine X.opR rfl (X.pickor_t (y := !(hull_placed x2.Lever x2.Height)) rfl (X.or_tt h_20) rfl) rfl ?_
        refine GS.opsNil ?_
        exact X.norm _ hg rfl (sr rfl)
      refine X.split (((!(hull_within x2.ID 1 1099511627776)) || (!(hull_within x2.Room 0 65536)))) (fun h_21 => ?_) (fun h_21 => ?_)
      · iterate 2 refine X.q rfl ?_
        refine X.call (ok_hull_within x2.ID 1 1099511627776) rfl rfl rfl (.cons (.shut (n := 9) rfl) (.cons (.shut (n := 9) rfl) (.cons (.shut (n := 9) rfl) .nil))) ?_
        iterate 2 refine X.q rfl ?_
        iterate 2 refine X.opR (X.on_f rfl rfl rfl h_20) rfl rfl ?_
        refine X.call (ok_hull_within x2.Room 0 65536) (X.on_f rfl rfl rfl h_20) rfl rfl (.cons (.shut (n := 9) rfl) (.cons (.shut (n := 9) rfl) (.cons (.shut (n := 9) rfl) .nil))) ?_
        refine X.opR (X.on_f rfl rfl rfl h_20) rfl rfl ?_
        refine X.opR rfl (X.pickor_f (y := !(hull_within x2.Room 0 65536)) rfl h_20 rfl) rfl ?_
        refine X.q rfl ?_
        iterate 6 refine X.off (X.off_f rfl rfl rfl h_21) rfl ?_
        refine X.opR rfl (X.pickor_t (y := !(hull_placed x2.Lever x2.Height)) rfl h_21 rfl) rfl ?_
        refine GS.opsNil ?_
        exact X.norm _ hg rfl (sr rfl)
      iterate 2 refine X.q rfl ?_
      refine X.call (ok_hull_within x2.ID 1 1099511627776) rfl rfl rfl (.cons (.shut (n := 9) rfl) (.cons (.shut (n := 9) rfl) (.cons (.shut (n := 9) rfl) .nil))) ?_
      iterate 2 refine X.q rfl ?_
      iterate 2 refine X.opR (X.on_f rfl rfl rfl h_20) rfl rfl ?_
      refine X.call (ok_hull_within x2.Room 0 65536) (X.on_f rfl rfl rfl h_20) rfl rfl (.cons (.shut (n := 9) rfl) (.cons (.shut (n := 9) rfl) (.cons (.shut (n := 9) rfl) .nil))) ?_
      refine X.opR (X.on_f rfl rfl rfl h_20) rfl rfl ?_
      refine X.opR rfl (X.pickor_f (y := !(hull_within x2.Room 0 65536)) rfl h_20 rfl) rfl ?_
      refine X.q rfl ?_
      iterate 4 refine X.opR (X.on_f rfl rfl rfl h_21) rfl rfl ?_
      refine X.call (ok_hull_placed x2.Lever x2.Height) (X.on_f rfl rfl rfl h_21) rfl rfl (.cons (.shut (n := 9) rfl) (.cons (.shut (n := 9) rfl) .nil)) ?_
      refine X.opR (X.on_f rfl rfl rfl h_21) rfl rfl ?_
      refine X.opR rfl (X.pickor_f (y := !(hull_placed x2.Lever x2.Height)) rfl h_21 rfl) rfl ?_
      refine GS.opsNil ?_
      exact X.norm _ hg rfl (sr rfl)
    refine X.cond rfl (fun h_22 => ?_) (fun h_22 => ?_)
    · replace hM := ite_t h_22 hM
      refine X.sq ?_
      refine X.q rfl ?_
      refine GS.opsNil ?_
      have hE := Option.some.inj hM
      replace hE := hr_1 _ hE.symm
      subst hE
      exact GS.ret ⟨_, rfl, ⟨30, rfl⟩⟩
    replace hM := ite_f h_22 hM
    refine GS.skip ?_
    refine GS.seq ?_
    obtain ⟨l, h_23, hM⟩ := bind_of hM
    obtain ⟨y6, h_24, hM⟩ := bind_of hM
    refine GS.region ?_
    iterate 3 refine X.q rfl ?_
    refine X.opR rfl (X.sliceF (f := e_api_Hold) h_23 (fun _ => rfl) rfl rfl rfl rfl rfl rfl (X.boundA_int rfl)) rfl ?_
    refine X.q rfl ?_
    refine X.callF (ok_slices_ContainsFunc_api_Hold__hull_Check_1 h_24) rfl rfl rfl (m := 9) rfl (.cons (.shut (n := 9) rfl) (.cons (FR.arg ⟨30, rfl⟩) .nil)) ?_
    refine GS.opsNil ?_
    refine X.cond rfl (fun h_25 => ?_) (fun h_25 => ?_)
    · replace hM := ite_t h_25 hM
      refine X.sq ?_
      refine X.q rfl ?_
      refine GS.opsNil ?_
      have hE := Option.some.inj hM
      replace hE := hr_1 _ hE.symm
      subst hE
      exact GS.ret ⟨_, rfl, ⟨30, rfl⟩⟩
    replace hM := ite_f h_25 hM
    refine GS.skip ?_
    refine GS.endB ?_
    refine GS.region ?_
    refine X.opR rfl (X.addE rfl rfl) rfl ?_
    refine X.q rfl ?_
    refine GS.opsNil ?_
    have hE := Option.some.inj hM
    exact X.gc [some 0] (hc_4 (w64 (x3 + 1)) hE.symm) rfl rfl rfl (ga rfl rfl) (gb9 rfl rfl rfl gb_nil)
  replace hM := ite_f h_18 hM
  refine GS.exit rfl ?_
  obtain ⟨y_1, hM, hy⟩ := map_of hM
  rw [hr_1 _ hy.symm] at hM
  exact X.gc [some 0] (hj_1 () hM) rfl rfl rfl (ga rfl rfl) (gb9 rfl rfl rfl gb_nil)

theorem ok_hull_loaded {s : api_Ship} {l : (List (List Int))} {r : Int} (hM : hull_loaded s l = some r) : Ct Try.prog 112 [(e_api_Ship s), (V.sl (List.map (fun l => V.sl (List.map V.i l)) l))] (V.i r) := by
  refine ct_of_gs CC_ok rfl ?_
  unfold hull_loaded at hM
  refine X.sq ?_
  refine X.opW rfl rfl rfl rfl ?_
  refine X.q rfl ?_
  refine GS.opsNil ?_
  iterate 2 refine GS.seq ?_
  obtain ⟨y, h_1, hM⟩ := bind_of hM
  refine GS.region ?_
  refine X.q rfl ?_
  refine X.call (ok_hull_Check h_1) rfl rfl rfl (.cons (.shut (n := 9) rfl) .nil) ?_
  refine X.q rfl ?_
  refine X.nq ?_
  iterate 2 refine X.q rfl ?_
  refine GS.opsNil ?_
  refine X.cond rfl (fun h_2 => ?_) (fun h_2 => ?_)
  · replace hM := ite_t h_2 hM
    refine X.sq ?_
    iterate 2 refine X.q rfl ?_
    refine GS.opsNil ?_
    have hE := Option.some.inj hM
    subst hE
    exact GS.ret ⟨_, rfl, ⟨30, rfl⟩⟩
  replace hM := ite_f h_2 hM
  refine GS.skip ?_
  refine GS.seq ?_
  refine X.sq ?_
  refine X.q rfl ?_
  refine X.opR rfl (X.lenF rfl rfl rfl) rfl ?_
  refine X.q rfl ?_
  refine GS.opsNil ?_
  refine X.join (τ := Unit) (fun v => hull_loaded_j1 = some r) (fun v => ⟨[], [], 0, none, 45⟩) ?_ ?_
  · intro _ hM
    replace hM : hull_loaded_j1 = some r := hM
    unfold hull_loaded_j1 at hM
    refine X.sq ?_
    refine X.q rfl ?_
    refine GS.opsNil ?_
    have hE := Option.some.inj hM
    subst hE
    exact GS.ret ⟨_, rfl, ⟨30, rfl⟩⟩
  intro hj_1
  refine GS.block ?_
  refine X.gc [some 0] (X.loop (σ := Int) (fun v => ⟨[(2, (V.ptr 0 0 0)), (15, (V.sl (List.map (fun l => V.sl (List.map V.i l)) l))), (16, (V.i (l.length : Int))), (17, (V.i v))], [.rows 11 [(e_api_Ship s)]], 0, none, 45⟩) hM ?_ rfl) rfl rfl rfl (ga rfl rfl) (gb9 rfl rfl rfl gb_nil)
  intro x4 b_1 hM hc_2 hr_1
  rw [hull_loaded_b2] at hM
  refine X.sq ?_
  refine X.q rfl ?_
  refine GS.opsNil ?_
  refine GS.seq ?_
  refine X.cond rfl (fun h_3 => ?_) (fun h_3 => ?_)
  · replace hM := ite_t h_3 hM
    refine GS.skip ?_
    refine GS.seq ?_
    refine GS.block ?_
    refine GS.seq ?_
    obtain ⟨x, h_4, hM⟩ := bind_of hM
    refine GS.region ?_
    refine X.opR rfl (X.indexF (f := (fun l => V.sl (List.map V.i l))) h_4 (fun _ => rfl) rfl rfl rfl rfl) rfl ?_
    refine X.opR rfl (X.loadF h_4 rfl rfl rfl) rfl ?_
    refine X.q rfl ?_
    refine GS.opsNil ?_
    refine GS.seq ?_
    refine X.sq ?_
    refine X.q rfl ?_
    refine X.opR rfl (X.lenF rfl rfl rfl) rfl ?_
    iterate 2 refine X.q rfl ?_
    refine X.opR rfl (X.lenF rfl rfl rfl) rfl ?_
    refine X.q rfl ?_
    refine GS.opsNil ?_
    refine X.cond rfl (fun h_5 => ?_) (fun h_5 => ?_)
    · replace hM := ite_t h_5 hM
      refine X.sq ?_
      refine X.q rfl ?_
      refine GS.opsNil ?_
      have hE := Option.some.inj hM
      replace hE := hr_1 _ hE.symm
      subst hE
      exact GS.ret ⟨_, rfl, ⟨30, rfl⟩⟩
    replace hM := ite_f h_5 hM
    refine GS.skip ?_
    refine X.sq ?_
    refine X.q rfl ?_
    refine X.opR rfl (X.lenF rfl rfl rfl) rfl ?_
    refine X.q rfl ?_
    refine GS.opsNil ?_
    refine X.join (τ := Unit) (fun v => hull_loaded_j3 x4 = some b_1) (fun v => ⟨[(2, (V.ptr 0 0 0)), (15, (V.sl (List.map (fun l => V.sl (List.map V.i l)) l))), (16, (V.i (l.length : Int))), (17, (V.i x4))], [.rows 11 [(e_api_Ship s)]], 0, none, 45⟩) ?_ ?_
    · intro _ hM
      replace hM : hull_loaded_j3 x4 = some b_1 := hM
      unfold hull_loaded_j3 at hM
      refine GS.endB ?_
      refine GS.region ?_
      refine X.opR rfl (X.addE rfl rfl) rfl ?_
      refine X.q rfl ?_
      refine GS.opsNil ?_
      have hE := Option.some.inj hM
      exact X.gc [some 0] (hc_2 (w64 (x4 + 1)) hE.symm) rfl rfl rfl (ga rfl rfl) (gb9 rfl rfl rfl gb_nil)
    intro hj_3
    refine GS.block ?_
    refine X.gc [some 0] (X.loop (σ := Int) (fun v => ⟨[(2, (V.ptr 0 0 0)), (15, (V.sl (List.map (fun l => V.sl (List.map V.i l)) l))), (16, (V.i (l.length : Int))), (17, (V.i x4)), (27, (V.sl (List.map V.i x))), (28, (V.i (x.length : Int))), (29, (V.i v))], [.rows 11 [(e_api_Ship s)]], 0, none, 45⟩) hM ?_ rfl) rfl rfl rfl (ga rfl rfl) (gb9 rfl rfl rfl gb_nil)
    intro x3 b_2 hM hc_4 hr_2
    rw [hull_loaded_b4] at hM
    refine X.sq ?_
    refine X.q rfl ?_
    refine GS.opsNil ?_
    refine GS.seq ?_
    refine X.cond rfl (fun h_6 => ?_) (fun h_6 => ?_)
    · replace hM := ite_t h_6 hM
      refine GS.skip ?_
      refine GS.seq ?_
      refine GS.block ?_
      refine GS.seq ?_
      obtain ⟨x1, h_7, hM⟩ := bind_of hM
      refine GS.region ?_
      refine X.q rfl ?_
      refine X.opR rfl (X.indexF (f := V.i) h_7 (fun _ => rfl) rfl rfl rfl rfl) rfl ?_
      refine X.opR rfl (X.loadF h_7 rfl rfl rfl) rfl ?_
      iterate 2 refine X.q rfl ?_
      refine GS.opsNil ?_
      refine GS.seq ?_
      obtain ⟨x2, h_8, hM⟩ := bind_of hM
      refine GS.region ?_
      iterate 4 refine X.q rfl ?_
      refine X.opR rfl (X.indexF (f := e_api_Hold) h_8 (fun _ => rfl) rfl rfl rfl rfl) rfl ?_
      refine X.q rfl ?_
      refine X.opR rfl (X.loadF h_8 rfl rfl rfl) rfl ?_
      refine X.call (ok_hull_within x1 0 x2.Room) rfl rfl rfl (.cons (.shut (n := 9) rfl) (.cons (.shut (n := 9) rfl) (.cons (.shut (n := 9) rfl) .nil))) ?_
      refine X.q rfl ?_
      refine GS.opsNil ?_
      refine X.cond rfl (fun h_9 => ?_) (fun h_9 => ?_)
      · replace hM := ite_t h_9 hM
        refine X.sq ?_
        refine X.q rfl ?_
        refine GS.opsNil ?_
        have hE := Option.some.inj hM
        replace hE := hr_2 _ hE.symm
        replace hE := hr_1 _ hE.symm
        subst hE
        exact GS.ret ⟨_, rfl, ⟨30, rfl⟩⟩
      replace hM := ite_f h_9 hM
      refine GS.skip ?_
      refine GS.endB ?_
      refine GS.region ?_
      refine X.opR rfl (X.addE rfl rfl) rfl ?_
      refine X.q rfl ?_
      refine GS.opsNil ?_
      have hE := Option.some.inj hM
      exact X.gc [some 0] (hc_4 (w64 (x3 + 1)) hE.symm) rfl rfl rfl (ga rfl rfl) (gb9 rfl rfl rfl gb_nil)
    replace hM := ite_f h_6 hM
    refine GS.exit rfl ?_
    obtain ⟨y_2, hM, hy⟩ := map_of hM
    rw [hr_2 _ hy.symm] at hM
    exact X.gc [some 0] (hj_3 () hM) rfl rfl rfl (ga rfl rfl) (gb9 rfl rfl rfl gb_nil)
  replace hM := ite_f h_3 hM
  refine GS.exit rfl ?_
  obtain ⟨y_1, hM, hy⟩ := map_of hM
  rw [hr_1 _ hy.symm] at hM
  exact X.gc [] (hj_1 () hM) rfl rfl rfl (gk_nil) (gb_nil)

theorem ok_hull_levers {s : api_Ship} {r : (List Int)} (hM : hull_levers s = some r) : Ct Try.prog 117 [(e_api_Ship s)] (V.sl (List.map V.i r)) := by
  refine ct_of_gs CC_ok rfl ?_
  unfold hull_levers at hM
  refine X.sq ?_
  refine X.opW rfl rfl rfl rfl ?_
  refine X.q rfl ?_
  refine X.nq ?_
  refine X.q rfl ?_
  refine GS.opsNil ?_
  refine GS.seq ?_
  refine X.sq ?_
  iterate 2 refine X.q rfl ?_
  refine X.opR rfl (X.lenF rfl rfl rfl) rfl ?_
  refine X.q rfl ?_
  refine GS.opsNil ?_
  refine X.join (τ := (List Int)) (fun v => hull_levers_j1 v = some r) (fun v => ⟨[(3, (ovl 0 v))], [obl 1 V.i v], 0, none, 20⟩) ?_ ?_
  · intro l hM
    replace hM : hull_levers_j1 l = some r := hM
    unfold hull_levers_j1 at hM
    refine X.sq ?_
    iterate 2 refine X.q rfl ?_
    refine GS.opsNil ?_
    have hE := Option.some.inj hM
    subst hE
    exact GS.ret ⟨_, rfl, FR.ovl (f := V.i) (l := l) 9 rfl rfl (fun _ => rfl)⟩
  intro hj_1
  refine GS.block ?_
  refine X.gc [none] (X.loop (σ := (Int × (List Int))) (fun v => ⟨[(3, (ovl 0 v.2)), (7, (V.sl (List.map e_api_Hold s.Holds))), (8, (V.i (s.Holds.length : Int))), (9, (V.i v.1))], [obl 1 V.i v.2], 0, none, 20⟩) hM ?_ rfl) rfl rfl rfl (ga rfl rfl) (gb_pad' rfl gb_nil)
  rintro ⟨x1, l2⟩ b_1 hM hc_2 hr_1
  rw [hull_levers_b2] at hM
  refine X.sq ?_
  refine X.q rfl ?_
  refine GS.opsNil ?_
  refine GS.seq ?_
  refine X.cond rfl (fun h_1 => ?_) (fun h_1 => ?_)
  · replace hM := ite_t h_1 hM
    refine GS.skip ?_
    refine GS.seq ?_
    refine GS.block ?_
    refine GS.seq ?_
    obtain ⟨x, h_2, hM⟩ := bind_of hM
    refine GS.region ?_
    refine X.opR rfl (X.indexF (f := e_api_Hold) h_2 (fun _ => rfl) rfl rfl rfl rfl) rfl ?_
    refine X.opR rfl (X.loadF h_2 rfl rfl rfl) rfl ?_
    refine X.opW rfl rfl rfl rfl ?_
    refine X.op0W rfl rfl rfl ?_
    refine GS.opsNil ?_
    obtain ⟨l1, h_3, hM⟩ := bind_of hM
    refine GS.region ?_
    iterate 3 refine X.q rfl ?_
    refine X.opW rfl rfl rfl rfl ?_
    refine X.appN (f := V.i) h_3 (fun _ => rfl) (by rfl) (by rfl) (by rfl) (by rfl) (by rfl) (by rfl) (by rfl) (by rfl) (by rfl) (by rfl) (by rfl) (by exact rfl) (by rfl) (by rfl) ?_
    refine X.q rfl ?_
    refine GS.opsNil ?_
    refine GS.endB ?_
    refine GS.region ?_
    refine X.opR rfl (X.addE rfl rfl) rfl ?_
    refine X.q rfl ?_
    refine GS.opsNil ?_
    have hE := Option.some.inj hM
    exact X.gc [some 3] (hc_2 (w64 (x1 + 1), l1) hE.symm) rfl rfl rfl (gk_cons rfl (rv_ne (app_ne h_3) rfl) (ga rfl rfl)) (gb_obl' 9 (app_ne h_3) rfl rfl (fun _ => rfl) gb_nil)
  replace hM := ite_f h_1 hM
  refine GS.exit rfl ?_
  obtain ⟨y_1, hM, hy⟩ := map_of hM
  rw [hr_1 _ hy.symm] at hM
  exact X.gc [some 0] (hj_1 l2 hM) rfl rfl rfl (gk_cons rfl (rn_ovl rfl) gk_nil) (gb_obl 9 rfl rfl (fun _ => rfl) gb_nil)

theorem ok_hull_value {form : (List Int)} {x : (List Int)} {r : Int} (hM : hull_value form x = some r) : Ct Try.prog 93 [(V.sl (List.map V.i form)), (V.sl (List.map V.i x))] (V.i r) := by
  refine ct_of_gs CC_ok rfl ?_
  unfold hull_value at hM
  refine X.sq ?_
  refine X.q rfl ?_
  refine X.nq ?_
  refine X.q rfl ?_
  refine GS.opsNil ?_
  refine GS.seq ?_
  refine X.sq ?_
  refine X.q rfl ?_
  refine X.opR rfl (X.lenF rfl rfl rfl) rfl ?_
  refine X.q rfl ?_
  refine GS.opsNil ?_
  refine X.join (τ := Int) (fun v => hull_value_j1 v = some r) (fun v => ⟨[(5, (V.i v))], [], 0, none, 25⟩) ?_ ?_
  · intro n hM
    replace hM : hull_value_j1 n = some r := hM
    unfold hull_value_j1 at hM
    refine X.sq ?_
    iterate 2 refine X.q rfl ?_
    refine GS.opsNil ?_
    have hE := Option.some.inj hM
    subst hE
    exact GS.ret ⟨_, rfl, ⟨30, rfl⟩⟩
  intro hj_1
  refine GS.block ?_
  refine X.gc [] (X.loop (σ := (Int × Int)) (fun v => ⟨[(1, (V.sl (List.map V.i x))), (5, (V.i v.1)), (8, (V.sl (List.map V.i form))), (9, (V.i (form.length : Int))), (10, (V.i v.2))], [], 0, none, 25⟩) hM ?_ rfl) rfl rfl rfl (ga rfl rfl) (gb_nil)
  rintro ⟨n1, x3⟩ b_1 hM hc_2 hr_1
  rw [hull_value_b2] at hM
  refine X.sq ?_
  refine X.q rfl ?_
  refine GS.opsNil ?_
  refine GS.seq ?_
  refine X.cond rfl (fun h_1 => ?_) (fun h_1 => ?_)
  · replace hM := ite_t h_1 hM
    refine GS.skip ?_
    refine GS.seq ?_
    refine GS.block ?_
    refine GS.seq ?_
    obtain ⟨x1, h_2, hM⟩ := bind_of hM
    refine GS.region ?_
    refine X.q rfl ?_
    refine X.opR rfl (X.indexF (f := V.i) h_2 (fun _ => rfl) rfl rfl rfl rfl) rfl ?_
    refine X.opR rfl (X.loadF h_2 rfl rfl rfl) rfl ?_
    iterate 2 refine X.q rfl ?_
    refine GS.opsNil ?_
    obtain ⟨x2, h_3, hM⟩ := bind_of hM
    refine GS.region ?_
    iterate 4 refine X.q rfl ?_
    refine X.opR rfl (X.indexF (f := V.i) h_3 (fun _ => rfl) rfl rfl rfl rfl) rfl ?_
    refine X.opR rfl (X.loadF h_3 rfl rfl rfl) rfl ?_
    refine X.opR rfl (X.mulE rfl rfl) rfl ?_
    refine X.opR rfl (X.addE rfl rfl) rfl ?_
    refine X.q rfl ?_
    refine GS.opsNil ?_
    refine GS.endB ?_
    refine GS.region ?_
    refine X.opR rfl (X.addE rfl rfl) rfl ?_
    refine X.q rfl ?_
    refine GS.opsNil ?_
    have hE := Option.some.inj hM
    exact X.gc [] (hc_2 (w64 (n1 + (w64 (x1 * x2))), w64 (x3 + 1)) hE.symm) rfl rfl rfl (ga rfl rfl) (gb_nil)
  replace hM := ite_f h_1 hM
  refine GS.exit rfl ?_
  obtain ⟨y_1, hM, hy⟩ := map_of hM
  rw [hr_1 _ hy.symm] at hM
  exact X.gc [] (hj_1 n1 hM) rfl rfl rfl (ga rfl rfl) (gb_nil)

theorem ok_hull_moment {s : api_Ship} {x : (List Int)} {r : Int} (hM : hull_moment s x = some r) : Ct Try.prog 124 [(e_api_Ship s), (V.sl (List.map V.i x))] (V.i r) := by
  refine ct_of_gs CC_ok rfl ?_
  unfold hull_moment at hM
  refine X.sq ?_
  refine X.opW rfl rfl rfl rfl ?_
  refine X.q rfl ?_
  refine GS.opsNil ?_
  refine GS.seq ?_
  obtain ⟨y, h_1, hM⟩ := bind_of hM
  obtain ⟨y1, h_2, hM⟩ := bind_of hM
  refine X.drawc (by kernel_rfl) rfl ?_
  iterate 4 refine X.cop rfl rfl rfl rfl ?_
  refine X.cop rfl (X.mulE rfl rfl) rfl rfl ?_
  refine X.cop rfl rfl rfl rfl ?_
  refine X.ccall (ok_hull_levers h_1) rfl rfl rfl rfl (.cons (.shut (n := 9) rfl) .nil) ?_
  refine X.cop rfl rfl rfl rfl ?_
  refine X.ccall (ok_hull_value h_2) rfl rfl rfl rfl (.cons (.shut (n := 9) rfl) (.cons (.shut (n := 9) rfl) .nil)) ?_
  refine X.cop rfl (X.addE rfl rfl) rfl rfl ?_
  refine X.cop rfl rfl rfl rfl ?_
  refine X.cnil ?_
  refine X.norm [(4, (V.i (w64 ((w64 (s.Light * s.Lever)) + y1))))] ?_ rfl (sr rfl)
  have hE := Option.some.inj hM
  subst hE
  exact GS.ret ⟨_, rfl, ⟨30, rfl⟩⟩

theorem ok_hull_Moment {s : api_Ship} {x : (List Int)} {r : Int × Int} (hM : hull_Moment s x = some r) : Ct Try.prog 64 [(e_api_Ship s), (V.sl (List.map V.i x))] (V.tup [(V.i r.1), (V.i r.2)]) := by
  refine ct_of_gs CC_ok rfl ?_
  unfold hull_Moment at hM
  refine X.sq ?_
  refine X.opW rfl rfl rfl rfl ?_
  iterate 2 refine X.q rfl ?_
  refine GS.opsNil ?_
  iterate 2 refine GS.seq ?_
  obtain ⟨y, h_1, hM⟩ := bind_of hM
  refine GS.region ?_
  iterate 2 refine X.q rfl ?_
  refine GS.bldF rfl rfl rfl rfl ?_
  refine X.call (ok_hull_loaded h_1) rfl rfl rfl (.cons (.shut (n := 9) rfl) (.cons (.shut (n := 9) rfl) .nil)) ?_
  refine X.q rfl ?_
  refine X.nq ?_
  iterate 2 refine X.q rfl ?_
  refine GS.opsNil ?_
  refine X.cond rfl (fun h_2 => ?_) (fun h_2 => ?_)
  · replace hM := ite_t h_2 hM
    refine X.sq ?_
    iterate 3 refine X.q rfl ?_
    refine GS.opsNil ?_
    have hE := Option.some.inj hM
    subst hE
    exact GS.ret ⟨_, rfl, ⟨30, rfl⟩⟩
  replace hM := ite_f h_2 hM
  refine GS.skip ?_
  refine GS.seq ?_
  obtain ⟨y1, h_3, hM⟩ := bind_of hM
  refine GS.region ?_
  iterate 2 refine X.q rfl ?_
  refine X.call (ok_hull_moment h_3) rfl rfl rfl (.cons (.shut (n := 9) rfl) (.cons (.shut (n := 9) rfl) .nil)) ?_
  iterate 2 refine X.q rfl ?_
  refine GS.opsNil ?_
  have hE := Option.some.inj hM
  subst hE
  exact GS.ret ⟨_, rfl, ⟨30, rfl⟩⟩

abbrev e_api_Frac (x : api_Frac) : V := .agg [(V.i x.Num), (V.i x.Den)]

theorem ok_hull_heights {s : api_Ship} {r : (List Int)} (hM : hull_heights s = some r) : Ct Try.prog 121 [(e_api_Ship s)] (V.sl (List.map V.i r)) := by
  refine ct_of_gs CC_ok rfl ?_
  unfold hull_heights at hM
  refine X.sq ?_
  refine X.opW rfl rfl rfl rfl ?_
  refine X.q rfl ?_
  refine X.nq ?_
  refine X.q rfl ?_
  refine GS.opsNil ?_
  refine GS.seq ?_
  refine X.sq ?_
  iterate 2 refine X.q rfl ?_
  refine X.opR rfl (X.lenF rfl rfl rfl) rfl ?_
  refine X.q rfl ?_
  refine GS.opsNil ?_
  refine X.join (τ := (List Int)) (fun v => hull_heights_j1 v = some r) (fun v => ⟨[(3, (ovl 0 v))], [obl 1 V.i v], 0, none, 20⟩) ?_ ?_
  · intro l hM
    replace hM : hull_heights_j1 l = some r := hM
    unfold hull_heights_j1 at hM
    refine X.sq ?_
    iterate 2 refine X.q rfl ?_
    refine GS.opsNil ?_
    have hE := Option.some.inj hM
    subst hE
    exact GS.ret ⟨_, rfl, FR.ovl (f := V.i) (l := l) 9 rfl rfl (fun _ => rfl)⟩
  intro hj_1
  refine GS.block ?_
  refine X.gc [none] (X.loop (σ := (Int × (List Int))) (fun v => ⟨[(3, (ovl 0 v.2)), (7, (V.sl (List.map e_api_Hold s.Holds))), (8, (V.i (s.Holds.length : Int))), (9, (V.i v.1))], [obl 1 V.i v.2], 0, none, 20⟩) hM ?_ rfl) rfl rfl rfl (ga rfl rfl) (gb_pad' rfl gb_nil)
  rintro ⟨x1, l2⟩ b_1 hM hc_2 hr_1
  rw [hull_heights_b2] at hM
  refine X.sq ?_
  refine X.q rfl ?_
  refine GS.opsNil ?_
  refine GS.seq ?_
  refine X.cond rfl (fun h_1 => ?_) (fun h_1 => ?_)
  · replace hM := ite_t h_1 hM
    refine GS.skip ?_
    refine GS.seq ?_
    refine GS.block ?_
    refine GS.seq ?_
    obtain ⟨x, h_2, hM⟩ := bind_of hM
    refine GS.region ?_
    refine X.opR rfl (X.indexF (f := e_api_Hold) h_2 (fun _ => rfl) rfl rfl rfl rfl) rfl ?_
    refine X.opR rfl (X.loadF h_2 rfl rfl rfl) rfl ?_
    refine X.opW rfl rfl rfl rfl ?_
    refine X.op0W rfl rfl rfl ?_
    refine GS.opsNil ?_
    obtain ⟨l1, h_3, hM⟩ := bind_of hM
    refine GS.region ?_
    iterate 3 refine X.q rfl ?_
    refine X.opW rfl rfl rfl rfl ?_
    refine X.appN (f := V.i) h_3 (fun _ => rfl) (by rfl) (by rfl) (by rfl) (by rfl) (by rfl) (by rfl) (by rfl) (by rfl) (by rfl) (by rfl) (by rfl) (by exact rfl) (by rfl) (by rfl) ?_
    refine X.q rfl ?_
    refine GS.opsNil ?_
    refine GS.endB ?_
    refine GS.region ?_
    refine X.opR rfl (X.addE rfl rfl) rfl ?_
    refine X.q rfl ?_
    refine GS.opsNil ?_
    have hE := Option.some.inj hM
    exact X.gc [some 3] (hc_2 (w64 (x1 + 1), l1) hE.symm) rfl rfl rfl (gk_cons rfl (rv_ne (app_ne h_3) rfl) (ga rfl rfl)) (gb_obl' 9 (app_ne h_3) rfl rfl (fun _ => rfl) gb_nil)
  replace hM := ite_f h_1 hM
  refine GS.exit rfl ?_
  obtain ⟨y_1, hM, hy⟩ := map_of hM
  rw [hr_1 _ hy.symm] at hM
  exact X.gc [some 0] (hj_1 l2 hM) rfl rfl rfl (gk_cons rfl (rn_ovl rfl) gk_nil) (gb_obl 9 rfl rfl (fun _ => rfl) gb_nil)

theorem ok_hull_rise {s : api_Ship} {x : (List Int)} {r : Int} (hM : hull_rise s x = some r) : Ct Try.prog 126 [(e_api_Ship s), (V.sl (List.map V.i x))] (V.i r) := by
  refine ct_of_gs CC_ok rfl ?_
  unfold hull_rise at hM
  refine X.sq ?_
  refine X.opW rfl rfl rfl rfl ?_
  refine X.q rfl ?_
  refine GS.opsNil ?_
  refine GS.seq ?_
  obtain ⟨y, h_1, hM⟩ := bind_of hM
  obtain ⟨y1, h_2, hM⟩ := bind_of hM
  refine X.drawc (by kernel_rfl) rfl ?_
  iterate 4 refine X.cop rfl rfl rfl rfl ?_
  refine X.cop rfl (X.mulE rfl rfl) rfl rfl ?_
  refine X.cop rfl rfl rfl rfl ?_
  refine X.ccall (ok_hull_heights h_1) rfl rfl rfl rfl (.cons (.shut (n := 9) rfl) .nil) ?_
  refine X.cop rfl rfl rfl rfl ?_
  refine X.ccall (ok_hull_value h_2) rfl rfl rfl rfl (.cons (.shut (n := 9) rfl) (.cons (.shut (n := 9) rfl) .nil)) ?_
  refine X.cop rfl (X.addE rfl rfl) rfl rfl ?_
  refine X.cop rfl rfl rfl rfl ?_
  refine X.cnil ?_
  refine X.norm [(4, (V.i (w64 ((w64 (s.Light * s.Height)) + y1))))] ?_ rfl (sr rfl)
  have hE := Option.some.inj hM
  subst hE
  exact GS.ret ⟨_, rfl, ⟨30, rfl⟩⟩

theorem ok_hull_sum {x : (List Int)} {r : Int} (hM : hull_sum x = some r) : Ct Try.prog 127 [(V.sl (List.map V.i x))] (V.i r) := by
  refine ct_of_gs CC_ok rfl ?_
  unfold hull_sum at hM
  refine X.sq ?_
  refine X.q rfl ?_
  refine X.nq ?_
  refine X.q rfl ?_
  refine GS.opsNil ?_
  refine GS.seq ?_
  refine X.sq ?_
  refine X.q rfl ?_
  refine X.opR rfl (X.lenF rfl rfl rfl) rfl ?_
  refine X.q rfl ?_
  refine GS.opsNil ?_
  refine X.join (τ := Int) (fun v => hull_sum_j1 v = some r) (fun v => ⟨[(3, (V.i v))], [], 0, none, 17⟩) ?_ ?_
  · intro n hM
    replace hM : hull_sum_j1 n = some r := hM
    unfold hull_sum_j1 at hM
    refine X.sq ?_
    iterate 2 refine X.q rfl ?_
    refine GS.opsNil ?_
    have hE := Option.some.inj hM
    subst hE
    exact GS.ret ⟨_, rfl, ⟨30, rfl⟩⟩
  intro hj_1
  refine GS.block ?_
  refine X.gc [] (X.loop (σ := (Int × Int)) (fun v => ⟨[(3, (V.i v.1)), (6, (V.sl (List.map V.i x))), (7, (V.i (x.length : Int))), (8, (V.i v.2))], [], 0, none, 17⟩) hM ?_ rfl) rfl rfl rfl (ga rfl rfl) (gb_nil)
  rintro ⟨n1, x2⟩ b_1 hM hc_2 hr_1
  rw [hull_sum_b2] at hM
  refine X.sq ?_
  refine X.q rfl ?_
  refine GS.opsNil ?_
  refine GS.seq ?_
  refine X.cond rfl (fun h_1 => ?_) (fun h_1 => ?_)
  · replace hM := ite_t h_1 hM
    refine GS.skip ?_
    refine GS.seq ?_
    refine GS.block ?_
    refine GS.seq ?_
    obtain ⟨x1, h_2, hM⟩ := bind_of hM
    refine GS.region ?_
    refine X.opR rfl (X.indexF (f := V.i) h_2 (fun _ => rfl) rfl rfl rfl rfl) rfl ?_
    refine X.opR rfl (X.loadF h_2 rfl rfl rfl) rfl ?_
    refine X.q rfl ?_
    refine X.mq ?_
    iterate 2 refine X.q rfl ?_
    refine X.opR rfl (X.addE rfl rfl) rfl ?_
    refine X.q rfl ?_
    refine GS.opsNil ?_
    refine GS.endB ?_
    refine GS.region ?_
    refine X.opR rfl (X.addE rfl rfl) rfl ?_
    refine X.q rfl ?_
    refine GS.opsNil ?_
    have hE := Option.some.inj hM
    exact X.gc [] (hc_2 (w64 (n1 + x1), w64 (x2 + 1)) hE.symm) rfl rfl rfl (ga rfl rfl) (gb_nil)
  replace hM := ite_f h_1 hM
  refine GS.exit rfl ?_
  obtain ⟨y_1, hM, hy⟩ := map_of hM
  rw [hr_1 _ hy.symm] at hM
  exact X.gc [] (hj_1 n1 hM) rfl rfl rfl (ga rfl rfl) (gb_nil)

theorem ok_hull_greater_int (a : Int) (b : Int) : Ct Try.prog 68 [(V.i a), (V.i b)] (V.i (hull_greater_int a b)) := by
  refine ct_of_gs CC_ok rfl ?_
  generalize hM : hull_greater_int a b = r
  unfold hull_greater_int at hM
  refine X.sq ?_
  refine X.q rfl ?_
  refine GS.opsNil ?_
  refine GS.seq ?_
  refine X.sq ?_
  iterate 3 refine X.q rfl ?_
  refine GS.opsNil ?_
  refine X.cond rfl (fun h_1 => ?_) (fun h_1 => ?_)
  · replace hM := ite_t h_1 hM
    refine X.sq ?_
    iterate 2 refine X.q rfl ?_
    refine GS.opsNil ?_
    subst hM
    exact GS.ret ⟨_, rfl, ⟨30, rfl⟩⟩
  replace hM := ite_f h_1 hM
  refine GS.skip ?_
  refine X.sq ?_
  iterate 2 refine X.q rfl ?_
  refine GS.opsNil ?_
  subst hM
  exact GS.ret ⟨_, rfl, ⟨30, rfl⟩⟩

theorem ok_hull_low {num : Int} {den : Int} {r : api_Frac} (hM : hull_low num den = some r) : Ct Try.prog 125 [(V.i num), (V.i den)] (e_api_Frac r) := by
  refine ct_of_gs CC_ok rfl ?_
  unfold hull_low at hM
  refine X.sq ?_
  refine X.opW rfl rfl rfl rfl ?_
  refine X.nq ?_
  iterate 2 refine X.q rfl ?_
  refine X.opR rfl (X.negE rfl) rfl ?_
  refine X.call (ok_hull_greater_int num (w64 (0 - num))) rfl rfl rfl (.cons (.shut (n := 9) rfl) (.cons (.shut (n := 9) rfl) .nil)) ?_
  iterate 3 refine X.q rfl ?_
  refine GS.opsNil ?_
  refine GS.seq ?_
  refine X.join (τ := Int) (fun v => hull_low_j1 num den v = some r) (fun v => ⟨[(0, (V.i num)), (1, (V.i den)), (4, (V.ptr 0 0 0)), (5, (V.i v))], [.rows 2 [(V.agg [(V.i 0), (V.i 0)])]], 0, none, 25⟩) ?_ ?_
  · intro a hM
    replace hM : hull_low_j1 num den a = some r := hM
    unfold hull_low_j1 at hM
    refine GS.seq ?_
    obtain ⟨q, h_1, hM⟩ := bind_of hM
    obtain ⟨q1, h_2, hM⟩ := bind_of hM
    refine X.draw (by kernel_rfl) ?_
    iterate 2 refine X.dop rfl rfl rfl rfl (by kernel_rfl) rfl rfl ?_
    refine X.dop rfl (X.quoE h_1 rfl rfl) rfl rfl (by kernel_rfl) rfl rfl ?_
    iterate 2 refine X.dop rfl rfl rfl rfl (by kernel_rfl) rfl rfl ?_
    refine X.dop rfl (X.quoE h_2 rfl rfl) rfl rfl (by kernel_rfl) rfl rfl ?_
    refine X.dop rfl rfl rfl rfl (by kernel_rfl) rfl rfl ?_
    refine X.dop0 rfl rfl rfl rfl (by kernel_rfl) rfl ?_
    refine X.dnil ?_
    refine X.norm [(4, (V.ptr 0 0 0))] ?_ rfl (sr rfl)
    have hE := Option.some.inj hM
    subst hE
    exact GS.ret ⟨_, rfl, ⟨30, rfl⟩⟩
  intro hj_1
  refine GS.block ?_
  refine X.gc [some 0] (X.loop (σ := (Int × Int)) (fun v => ⟨[(0, (V.i num)), (1, (V.i den)), (4, (V.ptr 0 0 0)), (5, (V.i v.1)), (6, (V.i v.2))], [.rows 2 [(V.agg [(V.i 0), (V.i 0)])]], 0, none, 25⟩) hM ?_ rfl) rfl rfl rfl (ga rfl rfl) (gb9 rfl rfl rfl gb_nil)
  rintro ⟨a1, b⟩ b_1 hM hc_2 hr_1
  rw [hull_low_b2] at hM
  refine GS.seq ?_
  refine X.sq ?_
  iterate 2 refine X.q rfl ?_
  refine GS.opsNil ?_
  refine X.cond rfl (fun h_3 => ?_) (fun h_3 => ?_)
  · replace hM := ite_t h_3 hM
    refine GS.skip ?_
    refine GS.block ?_
    obtain ⟨q2, h_4, hM⟩ := bind_of hM
    refine X.drawc (by kernel_rfl) rfl ?_
    iterate 3 refine X.cop rfl rfl rfl rfl ?_
    refine X.cop rfl (X.remE h_4 rfl rfl) rfl rfl ?_
    iterate 2 refine X.cop rfl rfl rfl rfl ?_
    refine X.cnil ?_
    refine X.norm [(0, (V.i num)), (1, (V.i den)), (4, (V.ptr 0 0 0)), (5, (V.i b)), (6, (V.i q2))] ?_ rfl (sr rfl)
    refine GS.endB ?_
    have hE := Option.some.inj hM
    exact X.gc [some 0] (hc_2 (b, q2) hE.symm) rfl rfl rfl (ga rfl rfl) (gb9 rfl rfl rfl gb_nil)
  replace hM := ite_f h_3 hM
  refine GS.exit rfl ?_
  obtain ⟨y_1, hM, hy⟩ := map_of hM
  rw [hr_1 _ hy.symm] at hM
  exact X.gc [some 0] (hj_1 a1 hM) rfl rfl rfl (ga rfl rfl) (gb9 rfl rfl rfl gb_nil)

theorem ok_hull_Gravity {s : api_Ship} {x : (List Int)} {r : api_Frac × Int} (hM : hull_Gravity s x = some r) : Ct Try.prog 65 [(e_api_Ship s), (V.sl (List.map V.i x))] (V.tup [(e_api_Frac r.1), (V.i r.2)]) := by
  refine ct_of_gs CC_ok rfl ?_
  unfold hull_Gravity at hM
  refine X.sq ?_
  iterate 2 refine X.opW rfl rfl rfl rfl ?_
  refine X.q rfl ?_
  refine GS.opsNil ?_
  iterate 2 refine GS.seq ?_
  obtain ⟨y, h_1, hM⟩ := bind_of hM
  refine GS.region ?_
  iterate 2 refine X.q rfl ?_
  refine GS.bldF rfl rfl rfl rfl ?_
  refine X.call (ok_hull_loaded h_1) rfl rfl rfl (.cons (.shut (n := 9) rfl) (.cons (.shut (n := 9) rfl) .nil)) ?_
  refine X.q rfl ?_
  refine X.nq ?_
  iterate 2 refine X.q rfl ?_
  refine GS.opsNil ?_
  refine X.cond rfl (fun h_2 => ?_) (fun h_2 => ?_)
  · replace hM := ite_t h_2 hM
    refine X.sq ?_
    iterate 2 refine X.q rfl ?_
    refine X.op0W rfl rfl rfl ?_
    refine X.q rfl ?_
    refine GS.opsNil ?_
    have hE := Option.some.inj hM
    subst hE
    exact GS.ret ⟨_, rfl, ⟨30, rfl⟩⟩
  replace hM := ite_f h_2 hM
  refine GS.skip ?_
  refine GS.seq ?_
  obtain ⟨y1, h_3, hM⟩ := bind_of hM
  obtain ⟨y2, h_4, hM⟩ := bind_of hM
  obtain ⟨y3, h_5, hM⟩ := bind_of hM
  refine X.draw (by kernel_rfl) ?_
  iterate 2 refine X.dop rfl rfl rfl rfl (by kernel_rfl) rfl rfl ?_
  refine X.dcall (ok_hull_rise h_3) rfl rfl rfl (by kernel_rfl) rfl (.cons (.shut (n := 9) rfl) (.cons (.shut (n := 9) rfl) .nil)) ?_
  iterate 3 refine X.dop rfl rfl rfl rfl (by kernel_rfl) rfl rfl ?_
  refine X.dcall (ok_hull_sum h_4) rfl rfl rfl (by kernel_rfl) rfl (.cons (.shut (n := 9) rfl) .nil) ?_
  refine X.dop rfl (X.addE rfl rfl) rfl rfl (by kernel_rfl) rfl rfl ?_
  refine X.dcall (ok_hull_low h_5) rfl rfl rfl (by kernel_rfl) rfl (.cons (.shut (n := 9) rfl) (.cons (.shut (n := 9) rfl) .nil)) ?_
  refine X.dop0 rfl rfl rfl rfl (by kernel_rfl) rfl ?_
  refine X.dop rfl rfl rfl rfl (by kernel_rfl) rfl rfl ?_
  refine X.dnil ?_
  refine X.norm [(4, (V.ptr 1 0 0)), (5, (V.i 0))] ?_ rfl (sr rfl)
  have hE := Option.some.inj hM
  subst hE
  exact GS.ret ⟨_, rfl, ⟨30, rfl⟩⟩

theorem ok_hull_table_at_1 (k : api_Knot) (c : Int) : Ct Try.prog 157 [(e_api_Knot k), (V.fptr [(V.i c)] 0 0)] (V.b (hull_table_at_1 k c)) := by
  refine ct_of_gs CC_ok rfl ?_
  generalize hM : hull_table_at_1 k c = r
  unfold hull_table_at_1 at hM
  refine X.sq ?_
  refine X.opW rfl rfl rfl rfl ?_
  refine X.q rfl ?_
  refine X.nq ?_
  iterate 2 refine X.q rfl ?_
  refine X.opR rfl (X.mulE rfl rfl) rfl ?_
  iterate 3 refine X.q rfl ?_
  refine GS.opsNil ?_
  subst hM
  exact GS.ret ⟨_, rfl, ⟨30, rfl⟩⟩

theorem ok_slices_IndexFunc_api_Knot__hull_table_at_1 {s : (List api_Knot)} {c : Int} {r : Int} (hM : slices_IndexFunc_api_Knot__hull_table_at_1 s c = some r) : Ct Try.prog 156 [(V.sl (List.map e_api_Knot s)), (V.fn 157 [(V.fptr [(V.i c)] 0 0)])] (V.i r) := by
  refine ct_of_gs CC_ok rfl ?_
  unfold slices_IndexFunc_api_Knot__hull_table_at_1 at hM
  refine X.sq ?_
  refine X.q rfl ?_
  refine GS.opsNil ?_
  refine GS.seq ?_
  refine X.sq ?_
  refine X.q rfl ?_
  refine X.opR rfl (X.lenF rfl rfl rfl) rfl ?_
  refine X.q rfl ?_
  refine GS.opsNil ?_
  refine X.join (τ := Unit) (fun v => slices_IndexFunc_api_Knot__hull_table_at_1_j1 = some r) (fun v => ⟨[], [], 0, none, 19⟩) ?_ ?_
  · intro _ hM
    replace hM : slices_IndexFunc_api_Knot__hull_table_at_1_j1 = some r := hM
    unfold slices_IndexFunc_api_Knot__hull_table_at_1_j1 at hM
    refine X.sq ?_
    refine X.q rfl ?_
    refine GS.opsNil ?_
    have hE := Option.some.inj hM
    subst hE
    exact GS.ret ⟨_, rfl, ⟨30, rfl⟩⟩
  intro hj_1
  refine GS.block ?_
  refine X.gc [] (X.loop (σ := Int) (fun v => ⟨[(0, (V.sl (List.map e_api_Knot s))), (1, (V.fn 157 [(V.fptr [(V.i c)] 0 0)])), (7, (V.i (s.length : Int))), (8, (V.i v))], [], 0, none, 19⟩) hM ?_ rfl) rfl rfl rfl (ga rfl rfl) (gb_nil)
  intro x1 b_1 hM hc_2 hr_1
  rw [slices_IndexFunc_api_Knot__hull_table_at_1_b2] at hM
  refine X.sq ?_
  refine X.q rfl ?_
  refine GS.opsNil ?_
  refine GS.seq ?_
  refine X.cond rfl (fun h_1 => ?_) (fun h_1 => ?_)
  · replace hM := ite_t h_1 hM
    refine GS.skip ?_
    refine GS.seq ?_
    refine GS.block ?_
    refine X.sq ?_
    iterate 2 refine X.q rfl ?_
    refine GS.opsNil ?_
    refine GS.seq ?_
    obtain ⟨x, h_2, hM⟩ := bind_of hM
    refine GS.region ?_
    iterate 3 refine X.q rfl ?_
    refine X.opR rfl (X.indexF (f := e_api_Knot) h_2 (fun _ => rfl) rfl rfl rfl rfl) rfl ?_
    refine X.opR rfl (X.loadF h_2 rfl rfl rfl) rfl ?_
    refine X.call (ok_hull_table_at_1 x c) rfl rfl rfl (.cons (.shut (n := 9) rfl) (.cons (.shut (n := 9) rfl) .nil)) ?_
    refine GS.opsNil ?_
    refine X.cond rfl (fun h_3 => ?_) (fun h_3 => ?_)
    · replace hM := ite_t h_3 hM
      refine X.sq ?_
      iterate 2 refine X.q rfl ?_
      refine GS.opsNil ?_
      have hE := Option.some.inj hM
      replace hE := hr_1 _ hE.symm
      subst hE
      exact GS.ret ⟨_, rfl, ⟨30, rfl⟩⟩
    replace hM := ite_f h_3 hM
    refine GS.skip ?_
    refine GS.endB ?_
    refine GS.region ?_
    refine X.opR rfl (X.addE rfl rfl) rfl ?_
    refine X.q rfl ?_
    refine GS.opsNil ?_
    have hE := Option.some.inj hM
    exact X.gc [] (hc_2 (w64 (x1 + 1)) hE.symm) rfl rfl rfl (ga rfl rfl) (gb_nil)
  replace hM := ite_f h_1 hM
  refine GS.exit rfl ?_
  obtain ⟨y_1, hM, hy⟩ := map_of hM
  rw [hr_1 _ hy.symm] at hM
  exact X.gc [] (hj_1 () hM) rfl rfl rfl (gk_nil) (gb_nil)

theorem ok_hull_table_at {t : hull_table} {mass : Int} {r : Int × Int} (hM : hull_table_at t mass = some r) : Ct Try.prog 128 [(e_hull_table t), (V.i mass)] (V.tup [(V.i r.1), (V.i r.2)]) := by
  refine ct_of_gs CC_ok rfl ?_
  unfold hull_table_at at hM
  refine X.sq ?_
  iterate 2 refine X.opW rfl rfl rfl rfl ?_
  iterate 2 refine X.q rfl ?_
  refine GS.opsNil ?_
  refine GS.seq ?_
  obtain ⟨y, h_1, hM⟩ := bind_of hM
  refine GS.region ?_
  iterate 4 refine X.q rfl ?_
  refine X.callF (ok_slices_IndexFunc_api_Knot__hull_table_at_1 h_1) rfl rfl rfl (m := 9) rfl (.cons (.shut (n := 9) rfl) (.cons (FR.arg ⟨30, rfl⟩) .nil)) ?_
  refine X.q rfl ?_
  refine GS.opsNil ?_
  refine GS.seq ?_
  obtain ⟨x, h_2, hM⟩ := bind_of hM
  refine GS.region ?_
  iterate 4 refine X.q rfl ?_
  refine X.opR rfl (X.indexF (f := e_api_Knot) h_2 (fun _ => rfl) rfl rfl rfl rfl) rfl ?_
  refine X.opR rfl (X.loadF h_2 rfl rfl rfl) rfl ?_
  refine X.opW rfl rfl rfl rfl ?_
  refine X.op0W rfl rfl rfl ?_
  refine GS.opsNil ?_
  refine GS.seq ?_
  refine X.sq ?_
  iterate 2 refine X.q rfl ?_
  refine X.opR rfl (X.mulE rfl rfl) rfl ?_
  iterate 2 refine X.q rfl ?_
  refine GS.opsNil ?_
  refine X.cond rfl (fun h_3 => ?_) (fun h_3 => ?_)
  · replace hM := ite_t h_3 hM
    refine X.sq ?_
    iterate 4 refine X.q rfl ?_
    refine GS.opsNil ?_
    have hE := Option.some.inj hM
    subst hE
    exact GS.ret ⟨_, rfl, ⟨30, rfl⟩⟩
  replace hM := ite_f h_3 hM
  refine GS.skip ?_
  refine GS.seq ?_
  obtain ⟨x1, h_4, hM⟩ := bind_of hM
  refine GS.region ?_
  iterate 4 refine X.q rfl ?_
  refine X.opR rfl (X.subE rfl rfl) rfl ?_
  refine X.opR rfl (X.indexF (f := e_api_Knot) h_4 (fun _ => rfl) rfl rfl rfl rfl) rfl ?_
  refine X.opR rfl (X.loadF h_4 rfl rfl rfl) rfl ?_
  refine X.opW (H' := [.rows 2 [(e_hull_table t)], .rows 1 [(V.i mass)], .rows 2 [(e_api_Knot x)], .rows 2 [(V.agg [(V.i 0), (V.i 0)])]]) rfl rfl rfl rfl ?_
  refine X.op0W (H' := [.rows 2 [(e_hull_table t)], .rows 1 [(V.i mass)], .rows 2 [(e_api_Knot x)], .rows 2 [(e_api_Knot x1)]]) rfl rfl rfl ?_
  refine X.nq ?_
  iterate 4 refine X.q rfl ?_
  refine X.opR rfl (X.subE rfl rfl) rfl ?_
  refine X.opR rfl (X.mulE rfl rfl) rfl ?_
  refine X.q rfl ?_
  refine X.nq ?_
  iterate 3 refine X.q rfl ?_
  refine X.opR rfl (X.mulE rfl rfl) rfl ?_
  iterate 4 refine X.q rfl ?_
  refine X.opR rfl (X.subE rfl rfl) rfl ?_
  iterate 3 refine X.q rfl ?_
  refine X.opR rfl (X.mulE rfl rfl) rfl ?_
  refine X.opR rfl (X.subE rfl rfl) rfl ?_
  refine X.opR rfl (X.mulE rfl rfl) rfl ?_
  refine X.opR rfl (X.addE rfl rfl) rfl ?_
  iterate 3 refine X.q rfl ?_
  refine GS.opsNil ?_
  have hE := Option.some.inj hM
  subst hE
  exact GS.ret ⟨_, rfl, ⟨30, rfl⟩⟩

theorem ok_hull_Stiff {s : api_Ship} {x : (List Int)} {r : api_Frac × Int} (hM : hull_Stiff s x = some r) : Ct Try.prog 66 [(e_api_Ship s), (V.sl (List.map V.i x))] (V.tup [(e_api_Frac r.1), (V.i r.2)]) := by
  refine ct_of_gs CC_ok rfl ?_
  unfold hull_Stiff at hM
  refine X.sq ?_
  iterate 2 refine X.opW rfl rfl rfl rfl ?_
  refine X.q rfl ?_
  refine GS.opsNil ?_
  iterate 2 refine GS.seq ?_
  obtain ⟨y, h_1, hM⟩ := bind_of hM
  refine GS.region ?_
  iterate 2 refine X.q rfl ?_
  refine GS.bldF rfl rfl rfl rfl ?_
  refine X.call (ok_hull_loaded h_1) rfl rfl rfl (.cons (.shut (n := 9) rfl) (.cons (.shut (n := 9) rfl) .nil)) ?_
  refine X.q rfl ?_
  refine X.nq ?_
  iterate 2 refine X.q rfl ?_
  refine GS.opsNil ?_
  refine X.cond rfl (fun h_2 => ?_) (fun h_2 => ?_)
  · replace hM := ite_t h_2 hM
    refine X.sq ?_
    iterate 2 refine X.q rfl ?_
    refine X.op0W rfl rfl rfl ?_
    refine X.q rfl ?_
    refine GS.opsNil ?_
    have hE := Option.some.inj hM
    subst hE
    exact GS.ret ⟨_, rfl, ⟨30, rfl⟩⟩
  replace hM := ite_f h_2 hM
  refine GS.skip ?_
  refine GS.seq ?_
  obtain ⟨y1, h_3, hM⟩ := bind_of hM
  refine X.drawc (by kernel_rfl) rfl ?_
  iterate 3 refine X.cop rfl rfl rfl rfl ?_
  refine X.ccall (ok_hull_sum h_3) rfl rfl rfl rfl (.cons (.shut (n := 9) rfl) .nil) ?_
  refine X.cop rfl (X.addE rfl rfl) rfl rfl ?_
  refine X.cop rfl rfl rfl rfl ?_
  refine X.cnil ?_
  refine X.norm [(1, (V.sl (List.map V.i x))), (2, (V.ptr 0 0 0)), (4, (V.ptr 1 0 0)), (7, (V.i (w64 (s.Light + y1))))] ?_ rfl (sr rfl)
  refine GS.seq ?_
  obtain ⟨y2, h_4, hM⟩ := bind_of hM
  refine GS.region ?_
  iterate 4 refine X.q rfl ?_
  refine X.call (ok_hull_table_at h_4) rfl rfl rfl (.cons (.shut (n := 9) rfl) (.cons (.shut (n := 9) rfl) .nil)) ?_
  iterate 5 refine X.q rfl ?_
  refine GS.opsNil ?_
  refine GS.seq ?_
  obtain ⟨y3, h_5, hM⟩ := bind_of hM
  obtain ⟨y4, h_6, hM⟩ := bind_of hM
  refine X.draw (by kernel_rfl) ?_
  iterate 5 refine X.dop rfl rfl rfl rfl (by kernel_rfl) rfl rfl ?_
  refine X.dop rfl (X.mulE rfl rfl) rfl rfl (by kernel_rfl) rfl rfl ?_
  refine X.dop rfl (X.subE rfl rfl) rfl rfl (by kernel_rfl) rfl rfl ?_
  refine X.dop rfl rfl rfl rfl (by kernel_rfl) rfl rfl ?_
  refine X.dop rfl (X.mulE rfl rfl) rfl rfl (by kernel_rfl) rfl rfl ?_
  iterate 2 refine X.dop rfl rfl rfl rfl (by kernel_rfl) rfl rfl ?_
  refine X.dcall (ok_hull_rise h_5) rfl rfl rfl (by kernel_rfl) rfl (.cons (.shut (n := 9) rfl) (.cons (.shut (n := 9) rfl) .nil)) ?_
  refine X.dop rfl rfl rfl rfl (by kernel_rfl) rfl rfl ?_
  refine X.dop rfl (X.mulE rfl rfl) rfl rfl (by kernel_rfl) rfl rfl ?_
  refine X.dop rfl (X.subE rfl rfl) rfl rfl (by kernel_rfl) rfl rfl ?_
  iterate 2 refine X.dop rfl rfl rfl rfl (by kernel_rfl) rfl rfl ?_
  refine X.dop rfl (X.mulE rfl rfl) rfl rfl (by kernel_rfl) rfl rfl ?_
  refine X.dcall (ok_hull_low h_6) rfl rfl rfl (by kernel_rfl) rfl (.cons (.shut (n := 9) rfl) (.cons (.shut (n := 9) rfl) .nil)) ?_
  refine X.dop0 rfl rfl rfl rfl (by kernel_rfl) rfl ?_
  refine X.dop rfl rfl rfl rfl (by kernel_rfl) rfl rfl ?_
  refine X.dnil ?_
  refine X.norm [(4, (V.ptr 1 0 0)), (5, (V.i 0))] ?_ rfl (sr rfl)
  have hE := Option.some.inj hM
  subst hE
  exact GS.ret ⟨_, rfl, ⟨30, rfl⟩⟩

abbrev e_api_Draughts (x : api_Draughts) : V := .agg [(V.i x.Fore.Lo), (V.i x.Fore.Hi), (V.i x.Aft.Lo), (V.i x.Aft.Hi)]

theorem ok_hull_below {a : Int} {b : Int} {r : Int} (hM : hull_below a b = some r) : Ct Try.prog 153 [(V.i a), (V.i b)] (V.i r) := by
  refine ct_of_gs CC_ok rfl ?_
  unfold hull_below at hM
  refine X.sq ?_
  refine X.q rfl ?_
  refine GS.opsNil ?_
  refine GS.seq ?_
  obtain ⟨q, h_1, hM⟩ := bind_of hM
  obtain ⟨q1, h_2, hM⟩ := bind_of hM
  obtain ⟨q2, h_3, hM⟩ := bind_of hM
  refine GS.region ?_
  iterate 3 refine X.q rfl ?_
  refine X.opR rfl (X.remE h_1 rfl rfl) rfl ?_
  refine X.q rfl ?_
  refine X.opR rfl (X.addE rfl rfl) rfl ?_
  refine X.q rfl ?_
  refine X.opR rfl (X.remE h_2 rfl rfl) rfl ?_
  refine X.opR rfl (X.subE rfl rfl) rfl ?_
  refine X.q rfl ?_
  refine X.opR rfl (X.quoE h_3 rfl rfl) rfl ?_
  refine X.q rfl ?_
  refine GS.opsNil ?_
  have hE := Option.some.inj hM
  subst hE
  exact GS.ret ⟨_, rfl, ⟨30, rfl⟩⟩

theorem ok_hull_afloat_1 {sign : Int} {c : Int} {c1 : api_Ship} {c2 : (List Int)} {c3 : Int} {r : api_Span} (hM : hull_afloat_1 sign c c1 c2 c3 = some r) : Ct Try.prog 152 [(V.i sign), (V.fptr [(V.i c)] 0 0), (V.fptr [(e_api_Ship c1)] 0 0), (V.fptr [(V.sl (List.map V.i c2))] 0 0), (V.fptr [(V.i c3)] 0 0)] (e_api_Span r) := by
  refine ct_of_gs CC_ok rfl ?_
  unfold hull_afloat_1 at hM
  refine X.sq ?_
  refine X.opW rfl rfl rfl rfl ?_
  refine GS.opsNil ?_
  refine GS.seq ?_
  obtain ⟨y, h_1, hM⟩ := bind_of hM
  refine X.drawc (by kernel_rfl) rfl ?_
  refine X.cop rfl rfl rfl rfl ?_
  refine X.cop rfl (X.mulE rfl rfl) rfl rfl ?_
  iterate 2 refine X.cop rfl rfl rfl rfl ?_
  refine X.cop rfl (X.mulE rfl rfl) rfl rfl ?_
  iterate 3 refine X.cop rfl rfl rfl rfl ?_
  refine X.ccall (ok_hull_moment h_1) rfl rfl rfl rfl (.cons (.shut (n := 9) rfl) (.cons (.shut (n := 9) rfl) .nil)) ?_
  refine X.cop rfl (X.mulE rfl rfl) rfl rfl ?_
  refine X.cop rfl rfl rfl rfl ?_
  refine X.cop rfl (X.mulE rfl rfl) rfl rfl ?_
  refine X.cop rfl (X.addE rfl rfl) rfl rfl ?_
  refine X.cop rfl rfl rfl rfl ?_
  refine X.cop rfl (X.mulE rfl rfl) rfl rfl ?_
  iterate 2 refine X.cop rfl rfl rfl rfl ?_
  refine X.cop rfl (X.mulE rfl rfl) rfl rfl ?_
  iterate 2 refine X.cop rfl rfl rfl rfl ?_
  refine X.cnil ?_
  refine X.norm [(2, (V.fptr [(e_api_Ship c1)] 0 0)), (6, (V.ptr 0 0 0)), (7, (V.i (w64 ((w64 ((w64 (c * 2)) * c1.Turn)) + (w64 ((w64 (sign * y)) * c3)))))), (8, (V.i (w64 ((w64 (c3 * 2)) * c1.Turn))))] ?_ rfl (sr rfl)
  refine GS.seq ?_
  obtain ⟨y1, h_2, hM⟩ := bind_of hM
  obtain ⟨y2, h_3, hM⟩ := bind_of hM
  refine X.draw (by kernel_rfl) ?_
  iterate 2 refine X.dop rfl rfl rfl rfl (by kernel_rfl) rfl rfl ?_
  refine X.dcall (ok_hull_below h_2) rfl rfl rfl (by kernel_rfl) rfl (.cons (.shut (n := 9) rfl) (.cons (.shut (n := 9) rfl) .nil)) ?_
  iterate 3 refine X.dop rfl rfl rfl rfl (by kernel_rfl) rfl rfl ?_
  refine X.dop rfl (X.subE rfl rfl) rfl rfl (by kernel_rfl) rfl rfl ?_
  refine X.dop rfl rfl rfl rfl (by kernel_rfl) rfl rfl ?_
  refine X.dop rfl (X.negE rfl) rfl rfl (by kernel_rfl) rfl rfl ?_
  refine X.dop rfl rfl rfl rfl (by kernel_rfl) rfl rfl ?_
  refine X.dcall (ok_hull_below h_3) rfl rfl rfl (by kernel_rfl) rfl (.cons (.shut (n := 9) rfl) (.cons (.shut (n := 9) rfl) .nil)) ?_
  refine X.dop rfl (X.negE rfl) rfl rfl (by kernel_rfl) rfl rfl ?_
  iterate 3 refine X.dop rfl rfl rfl rfl (by kernel_rfl) rfl rfl ?_
  refine X.dop rfl (X.addE rfl rfl) rfl rfl (by kernel_rfl) rfl rfl ?_
  refine X.dop rfl rfl rfl rfl (by kernel_rfl) rfl rfl ?_
  refine X.dop0 rfl rfl rfl rfl (by kernel_rfl) rfl ?_
  refine X.dnil ?_
  refine X.norm [(6, (V.ptr 0 0 0))] ?_ rfl (sr rfl)
  have hE := Option.some.inj hM
  subst hE
  exact GS.ret ⟨_, rfl, ⟨30, rfl⟩⟩

theorem ok_hull_afloat {s : api_Ship} {x : (List Int)} {r : api_Draughts} (hM : hull_afloat s x = some r) : Ct Try.prog 119 [(e_api_Ship s), (V.sl (List.map V.i x))] (e_api_Draughts r) := by
  refine ct_of_gs CC_ok rfl ?_
  unfold hull_afloat at hM
  refine X.sq ?_
  iterate 3 refine X.opW rfl rfl rfl rfl ?_
  refine GS.opsNil ?_
  refine GS.seq ?_
  obtain ⟨y, h_1, hM⟩ := bind_of hM
  obtain ⟨y1, h_2, hM⟩ := bind_of hM
  refine X.draw (by kernel_rfl) ?_
  iterate 6 refine X.dop rfl rfl rfl rfl (by kernel_rfl) rfl rfl ?_
  refine X.dcall (ok_hull_sum h_1) rfl rfl rfl (by kernel_rfl) rfl (.cons (.shut (n := 9) rfl) .nil) ?_
  refine X.dop rfl (X.addE rfl rfl) rfl rfl (by kernel_rfl) rfl rfl ?_
  refine X.dcall (ok_hull_table_at h_2) rfl rfl rfl (by kernel_rfl) rfl (.cons (.shut (n := 9) rfl) (.cons (.shut (n := 9) rfl) .nil)) ?_
  iterate 5 refine X.dop rfl rfl rfl rfl (by kernel_rfl) rfl rfl ?_
  iterate 2 refine X.dop0 rfl rfl rfl rfl (by kernel_rfl) rfl ?_
  refine X.dnil ?_
  refine X.norm [(2, (V.ptr 0 0 0)), (3, (V.ptr 1 0 0)), (4, (V.ptr 2 0 0)), (5, (V.ptr 3 0 0)), (6, (V.ptr 4 0 0))] ?_ rfl (sr rfl)
  refine X.sq ?_
  iterate 2 refine X.q rfl ?_
  refine GS.opsNil ?_
  refine GS.seq ?_
  obtain ⟨y2, h_3, hM⟩ := bind_of hM
  obtain ⟨y3, h_4, hM⟩ := bind_of hM
  refine GS.region ?_
  refine X.q rfl ?_
  refine X.callF (ok_hull_afloat_1 h_3) rfl rfl rfl (m := 9) rfl (.cons (.shut (n := 9) rfl) (.cons (FR.arg ⟨30, rfl⟩) (.cons (FR.arg ⟨30, rfl⟩) (.cons (FR.arg ⟨30, rfl⟩) (.cons (FR.arg ⟨30, rfl⟩) .nil))))) ?_
  refine X.q rfl ?_
  refine X.callF (ok_hull_afloat_1 h_4) rfl rfl rfl (m := 9) rfl (.cons (.shut (n := 9) rfl) (.cons (FR.arg ⟨30, rfl⟩) (.cons (FR.arg ⟨30, rfl⟩) (.cons (FR.arg ⟨30, rfl⟩) (.cons (FR.arg ⟨30, rfl⟩) .nil))))) ?_
  refine X.q rfl ?_
  refine X.op0W (H' := [.rows 11 [(e_api_Ship s)], .rows 1 [(V.sl (List.map V.i x))], .rows 4 [(V.agg [(V.i y2.Lo), (V.i y2.Hi), (V.i y3.Lo), (V.i y3.Hi)])], .rows 1 [(V.i y1.1)], .rows 1 [(V.i y1.2)]]) rfl rfl rfl ?_
  refine GS.opsNil ?_
  have hE := Option.some.inj hM
  subst hE
  exact GS.ret ⟨_, rfl, ⟨30, rfl⟩⟩

theorem ok_hull_Afloat {s : api_Ship} {x : (List Int)} {r : api_Draughts × Int} (hM : hull_Afloat s x = some r) : Ct Try.prog 56 [(e_api_Ship s), (V.sl (List.map V.i x))] (V.tup [(e_api_Draughts r.1), (V.i r.2)]) := by
  refine ct_of_gs CC_ok rfl ?_
  unfold hull_Afloat at hM
  refine X.sq ?_
  iterate 2 refine X.opW rfl rfl rfl rfl ?_
  refine X.q rfl ?_
  refine GS.opsNil ?_
  iterate 2 refine GS.seq ?_
  obtain ⟨y, h_1, hM⟩ := bind_of hM
  refine GS.region ?_
  iterate 2 refine X.q rfl ?_
  refine GS.bldF rfl rfl rfl rfl ?_
  refine X.call (ok_hull_loaded h_1) rfl rfl rfl (.cons (.shut (n := 9) rfl) (.cons (.shut (n := 9) rfl) .nil)) ?_
  refine X.q rfl ?_
  refine X.nq ?_
  iterate 2 refine X.q rfl ?_
  refine GS.opsNil ?_
  refine X.cond rfl (fun h_2 => ?_) (fun h_2 => ?_)
  · replace hM := ite_t h_2 hM
    refine X.sq ?_
    iterate 2 refine X.q rfl ?_
    refine X.op0W rfl rfl rfl ?_
    refine X.q rfl ?_
    refine GS.opsNil ?_
    have hE := Option.some.inj hM
    subst hE
    exact GS.ret ⟨_, rfl, ⟨30, rfl⟩⟩
  replace hM := ite_f h_2 hM
  refine GS.skip ?_
  refine GS.seq ?_
  obtain ⟨y1, h_3, hM⟩ := bind_of hM
  refine GS.region ?_
  iterate 2 refine X.q rfl ?_
  refine X.call (ok_hull_afloat h_3) rfl rfl rfl (.cons (.shut (n := 9) rfl) (.cons (.shut (n := 9) rfl) .nil)) ?_
  refine X.op0W rfl rfl rfl ?_
  refine X.q rfl ?_
  refine GS.opsNil ?_
  have hE := Option.some.inj hM
  subst hE
  exact GS.ret ⟨_, rfl, ⟨30, rfl⟩⟩

theorem ok_law03_of (a : Int) (b : Int) (c : Int) (d : Int) (e : Int) (f : Int) : Ct Try.prog 67 [(V.i a), (V.i b), (V.i c), (V.i d), (V.i e), (V.i f)] (e_api_Load (law03_of a b c d e f)) := by
  refine ct_of_gs CC_ok rfl ?_
  generalize hM : law03_of a b c d e f = r
  unfold law03_of at hM
  refine X.sq ?_
  refine X.opW rfl rfl rfl rfl ?_
  refine X.nq ?_
  iterate 6 refine X.q rfl ?_
  refine X.opW rfl rfl rfl rfl ?_
  iterate 4 refine X.q rfl ?_
  refine X.op0W rfl rfl rfl ?_
  refine GS.opsNil ?_
  subst hM
  exact GS.ret ⟨_, rfl, ⟨30, rfl⟩⟩

theorem ok_hull_sums {l : (List api_Span)} {r : api_Span} (hM : hull_sums l = some r) : Ct Try.prog 69 [(V.sl (List.map e_api_Span l))] (e_api_Span r) := by
  refine ct_of_gs CC_ok rfl ?_
  unfold hull_sums at hM
  refine X.sq ?_
  refine X.opW rfl rfl rfl rfl ?_
  refine X.nq ?_
  refine X.opW rfl rfl rfl rfl ?_
  refine GS.opsNil ?_
  refine GS.seq ?_
  refine X.sq ?_
  refine X.q rfl ?_
  refine X.opR rfl (X.lenF rfl rfl rfl) rfl ?_
  refine X.q rfl ?_
  refine GS.opsNil ?_
  refine X.join (τ := Int × Int) (fun v => hull_sums_j1 v.1 v.2 = some r) (fun v => ⟨[(2, (V.ptr 0 0 0)), (3, (V.ptr 1 0 0))], [.rows 2 [(V.agg [(V.i 0), (V.i 0)])], .rows 2 [(V.agg [(V.i v.1), (V.i v.2)])]], 0, none, 26⟩) ?_ ?_
  · rintro ⟨Lo, Hi⟩ hM
    replace hM : hull_sums_j1 Lo Hi = some r := hM
    unfold hull_sums_j1 at hM
    refine X.sq ?_
    refine X.q rfl ?_
    refine X.op0W rfl rfl rfl ?_
    refine GS.opsNil ?_
    have hE := Option.some.inj hM
    subst hE
    exact GS.ret ⟨_, rfl, ⟨30, rfl⟩⟩
  intro hj_1
  refine GS.block ?_
  refine X.gc [some 0, some 1] (X.loop (σ := (Int × Int × Int)) (fun v => ⟨[(2, (V.ptr 0 0 0)), (3, (V.ptr 1 0 0)), (6, (V.sl (List.map e_api_Span l))), (7, (V.i (l.length : Int))), (8, (V.i v.1))], [.rows 2 [(V.agg [(V.i 0), (V.i 0)])], .rows 2 [(V.agg [(V.i v.2.1), (V.i v.2.2)])]], 0, none, 26⟩) hM ?_ rfl) rfl rfl rfl (ga rfl rfl) (gb9 rfl rfl rfl (gb9 rfl rfl rfl gb_nil))
  rintro ⟨x1, Lo1, Hi1⟩ b_1 hM hc_2 hr_1
  rw [hull_sums_b2] at hM
  refine X.sq ?_
  refine X.q rfl ?_
  refine GS.opsNil ?_
  refine GS.seq ?_
  refine X.cond rfl (fun h_1 => ?_) (fun h_1 => ?_)
  · replace hM := ite_t h_1 hM
    refine GS.skip ?_
    refine GS.seq ?_
    refine GS.block ?_
    refine GS.seq ?_
    obtain ⟨x, h_2, hM⟩ := bind_of hM
    refine GS.region ?_
    refine X.opR rfl (X.indexF (f := e_api_Span) h_2 (fun _ => rfl) rfl rfl rfl rfl) rfl ?_
    refine X.opR rfl (X.loadF h_2 rfl rfl rfl) rfl ?_
    refine X.opW rfl rfl rfl rfl ?_
    refine X.op0W rfl rfl rfl ?_
    refine GS.opsNil ?_
    refine X.draw (by kernel_rfl) ?_
    iterate 4 refine X.dop rfl rfl rfl rfl (by kernel_rfl) rfl rfl ?_
    refine X.dop rfl (X.addE rfl rfl) rfl rfl (by kernel_rfl) rfl rfl ?_
    iterate 4 refine X.dop rfl rfl rfl rfl (by kernel_rfl) rfl rfl ?_
    refine X.dop rfl (X.addE rfl rfl) rfl rfl (by kernel_rfl) rfl rfl ?_
    refine X.dop rfl rfl rfl rfl (by kernel_rfl) rfl rfl ?_
    refine X.dop0 rfl rfl rfl rfl (by kernel_rfl) rfl ?_
    refine X.dop rfl rfl rfl rfl (by kernel_rfl) rfl rfl ?_
    refine X.dop0 rfl rfl rfl rfl (by kernel_rfl) rfl ?_
    refine X.dnil ?_
    refine X.norm [(2, (V.ptr 0 0 0)), (3, (V.ptr 1 0 0)), (6, (V.sl (List.map e_api_Span l))), (7, (V.i (l.length : Int))), (8, (V.i x1))] ?_ rfl (sr rfl)
    refine GS.endB ?_
    refine GS.region ?_
    refine X.opR rfl (X.addE rfl rfl) rfl ?_
    refine X.q rfl ?_
    refine GS.opsNil ?_
    have hE := Option.some.inj hM
    exact X.gc [some 0, some 1] (hc_2 (w64 (x1 + 1), w64 (Lo1 + x.Lo), w64 (Hi1 + x.Hi)) hE.symm) rfl rfl rfl (ga rfl rfl) (gb9 rfl rfl rfl (gb9 rfl rfl rfl gb_nil))
  replace hM := ite_f h_1 hM
  refine GS.exit rfl ?_
  obtain ⟨y_1, hM, hy⟩ := map_of hM
  rw [hr_1 _ hy.symm] at hM
  exact X.gc [some 0, some 1] (hj_1 (Lo1, Hi1) hM) rfl rfl rfl (ga rfl rfl) (gb9 rfl rfl rfl (gb9 rfl rfl rfl gb_nil))

theorem ok_hull_totals {l : api_Load} {r : api_Span} (hM : hull_totals l = some r) : Ct Try.prog 73 [(e_api_Load l)] (e_api_Span r) := by
  refine ct_of_gs CC_ok rfl ?_
  unfold hull_totals at hM
  refine X.sq ?_
  iterate 2 refine X.opW rfl rfl rfl rfl ?_
  refine GS.opsNil ?_
  refine GS.seq ?_
  obtain ⟨y, h_1, hM⟩ := bind_of hM
  refine GS.region ?_
  iterate 2 refine X.q rfl ?_
  refine X.call (ok_hull_sums h_1) rfl rfl rfl (.cons (.shut (n := 9) rfl) .nil) ?_
  refine X.opW rfl rfl rfl rfl ?_
  refine X.op0W rfl rfl rfl ?_
  refine GS.opsNil ?_
  refine GS.seq ?_
  refine X.draw (by kernel_rfl) ?_
  iterate 5 refine X.dop rfl rfl rfl rfl (by kernel_rfl) rfl rfl ?_
  refine X.dcall (ok_hull_greater_int y.Lo l.All.Lo) rfl rfl rfl (by kernel_rfl) rfl (.cons (.shut (n := 9) rfl) (.cons (.shut (n := 9) rfl) .nil)) ?_
  iterate 5 refine X.dop rfl rfl rfl rfl (by kernel_rfl) rfl rfl ?_
  refine X.dop rfl (X.minE rfl rfl) rfl rfl (by kernel_rfl) rfl rfl ?_
  refine X.dop rfl rfl rfl rfl (by kernel_rfl) rfl rfl ?_
  refine X.dop0 rfl rfl rfl rfl (by kernel_rfl) rfl ?_
  refine X.dnil ?_
  refine X.norm [(2, (V.ptr 1 0 0))] ?_ rfl (sr rfl)
  have hE := Option.some.inj hM
  subst hE
  exact GS.ret ⟨_, rfl, ⟨30, rfl⟩⟩

set_option maxHeartbeats 4000000 in
theorem ok_hull_CheckLoad {s : api_Ship} {l : api_Load} {r : Int} (hM : hull_CheckLoad s l = some r) : Ct Try.prog 25 [(e_api_Ship s), (e_api_Load l)] (V.i r) := by
  refine ct_of_gs CC_ok rfl ?_
  unfold hull_CheckLoad at hM
  refine X.sq ?_
  iterate 2 refine X.opW rfl rfl rfl rfl ?_
  refine X.q rfl ?_
  refine GS.opsNil ?_
  iterate 2 refine GS.seq ?_
  obtain ⟨y, h_1, hM⟩ := bind_of hM
  refine GS.region ?_
  refine X.q rfl ?_
  refine X.call (ok_hull_Check h_1) rfl rfl rfl (.cons (.shut (n := 9) rfl) .nil) ?_
  refine X.q rfl ?_
  refine X.nq ?_
  iterate 2 refine X.q rfl ?_
  refine GS.opsNil ?_
  refine X.cond rfl (fun h_2 => ?_) (fun h_2 => ?_)
  · replace hM := ite_t h_2 hM
    refine X.sq ?_
    iterate 2 refine X.q rfl ?_
    refine GS.opsNil ?_
    have hE := Option.some.inj hM
    subst hE
    exact GS.ret ⟨_, rfl, ⟨30, rfl⟩⟩
  replace hM := ite_f h_2 hM
  refine GS.skip ?_
  refine GS.seq ?_
  refine X.sq ?_
  iterate 2 refine X.q rfl ?_
  refine X.opR rfl (X.lenF rfl rfl rfl) rfl ?_
  iterate 2 refine X.q rfl ?_
  refine X.opR rfl (X.lenF rfl rfl rfl) rfl ?_
  refine X.q rfl ?_
  refine GS.opsNil ?_
  refine X.cond rfl (fun h_3 => ?_) (fun h_3 => ?_)
  · replace hM := ite_t h_3 hM
    refine X.sq ?_
    refine X.q rfl ?_
    refine GS.opsNil ?_
    have hE := Option.some.inj hM
    subst hE
    exact GS.ret ⟨_, rfl, ⟨30, rfl⟩⟩
  replace hM := ite_f h_3 hM
  refine GS.skip ?_
  refine GS.seq ?_
  refine X.sq ?_
  iterate 2 refine X.q rfl ?_
  refine X.opR rfl (X.lenF rfl rfl rfl) rfl ?_
  refine X.q rfl ?_
  refine GS.opsNil ?_
  refine X.join (τ := Unit) (fun v => hull_CheckLoad_j1 l = some r) (fun v => ⟨[(3, (V.ptr 0 0 0))], [.rows 3 [(e_api_Load l)]], 0, none, 88⟩) ?_ ?_
  · intro _ hM
    replace hM : hull_CheckLoad_j1 l = some r := hM
    unfold hull_CheckLoad_j1 at hM
    iterate 2 refine GS.seq ?_
    obtain ⟨y1, h_4, hM⟩ := bind_of hM
    refine GS.region ?_
    refine X.q rfl ?_
    refine X.call (ok_hull_totals h_4) rfl rfl rfl (.cons (.shut (n := 9) rfl) .nil) ?_
    refine X.opW rfl rfl rfl rfl ?_
    refine X.op0W rfl rfl rfl ?_
    refine GS.opsNil ?_
    refine GS.block ?_
    refine X.sq ?_
    refine X.mid [(3, (V.ptr 0 0 0)), (8, (V.ptr 1 0 0)), (53, (V.b (((decide (l.All.Lo < 0)) || (decide (l.All.Hi < l.All.Lo))) || (decide (65536 < l.All.Hi)))))] ?_ ?_
    · intro hg
      refine X.split (decide (l.All.Lo < 0)) (fun h_5 => ?_) (fun h_5 => ?_)
      · iterate 5 refine X.q rfl ?_
        iterate 7 refine X.off (X.off_f rfl rfl rfl h_5) rfl ?_
        refine X.opR rfl (X.pickor_t (y := decide (l.All.Hi < l.All.Lo)) rfl h_5 rfl) rfl ?_
        refine X.q rfl ?_
        iterate 4 refine X.off (X.off_f rfl rfl rfl (X.or_tt h_5)) rfl ?_
        refine X.opR rfl (X.pickor_t (y := decide (65536 < l.All.Hi)) rfl (X.or_tt h_5) rfl) rfl ?_
        refine X.q rfl ?_
        refine GS.opsNil ?_
        exact X.norm _ hg rfl (sr rfl)
      refine X.split (((decide (l.All.Lo < 0)) || (decide (l.All.Hi < l.All.Lo)))) (fun h_6 => ?_) (fun h_6 => ?_)
      · iterate 5 refine X.q rfl ?_
        iterate 7 refine X.opR (X.on_f rfl rfl rfl h_5) rfl rfl ?_
        refine X.opR rfl (X.pickor_f (y := decide (l.All.Hi < l.All.Lo)) rfl h_5 rfl) rfl ?_
        refine X.q rfl ?_
        iterate 4 refine X.off (X.off_f rfl rfl rfl h_6) rfl ?_
        refine X.opR rfl (X.pickor_t (y := decide (65536 < l.All.Hi)) rfl h_6 rfl) rfl ?_
        refine X.q rfl ?_
        refine GS.opsNil ?_
        exact X.norm _ hg rfl (sr rfl)
      iterate 5 refine X.q rfl ?_
      iterate 7 refine X.opR (X.on_f rfl rfl rfl h_5) rfl rfl ?_
      refine X.opR rfl (X.pickor_f (y := decide (l.All.Hi < l.All.Lo)) rfl h_5 rfl) rfl ?_
      refine X.q rfl ?_
      iterate 4 refine X.opR (X.on_f rfl rfl rfl h_6) rfl rfl ?_
      refine X.opR rfl (X.pickor_f (y := decide (65536 < l.All.Hi)) rfl h_6 rfl) rfl ?_
      refine X.q rfl ?_
      refine GS.opsNil ?_
      exact X.norm _ hg rfl (sr rfl)
    refine X.cond rfl (fun h_7 => ?_) (fun h_7 => ?_)
    · replace hM := ite_t h_7 hM
      refine X.sq ?_
      refine X.q rfl ?_
      refine GS.opsNil ?_
      have hE := Option.some.inj hM
      subst hE
      exact GS.ret ⟨_, rfl, ⟨30, rfl⟩⟩
    replace hM := ite_f h_7 hM
    refine X.sq ?_
    iterate 6 refine X.q rfl ?_
    refine X.opR rfl (X.subE rfl rfl) rfl ?_
    iterate 2 refine X.q rfl ?_
    refine GS.opsNil ?_
    refine X.cond rfl (fun h_8 => ?_) (fun h_8 => ?_)
    · replace hM := ite_t h_8 hM
      refine X.sq ?_
      refine X.q rfl ?_
      refine GS.opsNil ?_
      have hE := Option.some.inj hM
      subst hE
      exact GS.ret ⟨_, rfl, ⟨30, rfl⟩⟩
    replace hM := ite_f h_8 hM
    refine X.sq ?_
    iterate 6 refine X.q rfl ?_
    refine GS.opsNil ?_
    refine X.cond rfl (fun h_9 => ?_) (fun h_9 => ?_)
    · replace hM := ite_t h_9 hM
      refine X.sq ?_
      refine X.q rfl ?_
      refine GS.opsNil ?_
      have hE := Option.some.inj hM
      subst hE
      exact GS.ret ⟨_, rfl, ⟨30, rfl⟩⟩
    replace hM := ite_f h_9 hM
    refine GS.skip ?_
    refine GS.endB ?_
    refine X.sq ?_
    refine X.q rfl ?_
    refine GS.opsNil ?_
    have hE := Option.some.inj hM
    subst hE
    exact GS.ret ⟨_, rfl, ⟨30, rfl⟩⟩
  intro hj_1
  refine GS.block ?_
  refine X.gc [some 0, some 1] (X.loop (σ := Int) (fun v => ⟨[(2, (V.ptr 0 0 0)), (3, (V.ptr 1 0 0)), (22, (V.sl (List.map e_api_Span l.Holds))), (23, (V.i (l.Holds.length : Int))), (24, (V.i v))], [.rows 11 [(e_api_Ship s)], .rows 3 [(e_api_Load l)]], 0, none, 88⟩) hM ?_ rfl) rfl rfl rfl (ga rfl rfl) (gb9 rfl rfl rfl (gb9 rfl rfl rfl gb_nil))
  intro x2 b_1 hM hc_2 hr_1
  rw [hull_CheckLoad_b2] at hM
  refine X.sq ?_
  refine X.q rfl ?_
  refine GS.opsNil ?_
  refine GS.seq ?_
  refine X.cond rfl (fun h_10 => ?_) (fun h_10 => ?_)
  · replace hM := ite_t h_10 hM
    refine GS.skip ?_
    refine GS.seq ?_
    refine GS.block ?_
    refine GS.seq ?_
    obtain ⟨x, h_11, hM⟩ := bind_of hM
    refine GS.region ?_
    refine X.q rfl ?_
    refine X.opR rfl (X.indexF (f := e_api_Span) h_11 (fun _ => rfl) rfl rfl rfl rfl) rfl ?_
    refine X.opR rfl (X.loadF h_11 rfl rfl rfl) rfl ?_
    refine X.opW rfl rfl rfl rfl ?_
    refine X.q rfl ?_
    refine X.op0W rfl rfl rfl ?_
    refine GS.opsNil ?_
    refine GS.seq ?_
    obtain ⟨x1, h_12, hM⟩ := gb_of hM
    refine X.mid [(2, (V.ptr 0 0 0)), (3, (V.ptr 1 0 0)), (22, (V.sl (List.map e_api_Span l.Holds))), (23, (V.i (l.Holds.length : Int))), (24, (V.i x2)), (49, (V.b (((decide (x.Lo < 0)) || (decide (x.Hi < x.Lo))) || (decide (x1.Room < x.Hi)))))] ?_ ?_
    · intro hg
      refine X.split (decide (x.Lo < 0)) (fun h_13 => ?_) (fun h_13 => ?_)
      · refine X.drawc (by kernel_rfl) rfl ?_
        iterate 4 refine X.cop rfl rfl rfl rfl ?_
        iterate 5 refine X.coff (X.off_f rfl rfl rfl h_13) rfl rfl ?_
        refine X.cop rfl (X.pickor_t (y := decide (x.Hi < x.Lo)) rfl h_13 rfl) rfl rfl ?_
        refine X.cop rfl rfl rfl rfl ?_
        iterate 9 refine X.coff (X.off_f rfl rfl rfl (X.or_tt h_13)) rfl rfl ?_
        refine X.cop rfl (X.pickor_t (y := decide (x1.Room < x.Hi)) rfl (X.or_tt h_13) rfl) rfl rfl ?_
        refine X.cnil ?_
        exact X.norm _ hg rfl (sr rfl)
      refine X.split (((decide (x.Lo < 0)) || (decide (x.Hi < x.Lo)))) (fun h_14 => ?_) (fun h_14 => ?_)
      · refine X.drawc (by kernel_rfl) rfl ?_
        iterate 4 refine X.cop rfl rfl rfl rfl ?_
        iterate 5 refine X.cop (X.on_f rfl rfl rfl h_13) rfl rfl rfl ?_
        refine X.cop rfl (X.pickor_f (y := decide (x.Hi < x.Lo)) rfl h_13 rfl) rfl rfl ?_
        refine X.cop rfl rfl rfl rfl ?_
        iterate 9 refine X.coff (X.off_f rfl rfl rfl h_14) rfl rfl ?_
        refine X.cop rfl (X.pickor_t (y := decide (x1.Room < x.Hi)) rfl h_14 rfl) rfl rfl ?_
        refine X.cnil ?_
        exact X.norm _ hg rfl (sr rfl)
      refine X.drawc (by kernel_rfl) rfl ?_
      iterate 4 refine X.cop rfl rfl rfl rfl ?_
      iterate 5 refine X.cop (X.on_f rfl rfl rfl h_13) rfl rfl rfl ?_
      refine X.cop rfl (X.pickor_f (y := decide (x.Hi < x.Lo)) rfl h_13 rfl) rfl rfl ?_
      refine X.cop rfl rfl rfl rfl ?_
      iterate 5 refine X.cop (X.on_f rfl rfl rfl h_14) rfl rfl rfl ?_
      refine X.cop (X.on_f rfl rfl rfl h_14) (X.indexF (f := e_api_Hold) (h_12 (X.nt h_14)) (fun _ => rfl) rfl rfl rfl rfl) rfl rfl ?_
      refine X.cop (X.on_f rfl rfl rfl h_14) rfl rfl rfl ?_
      refine X.cop (X.on_f rfl rfl rfl h_14) (X.loadF (h_12 (X.nt h_14)) rfl rfl rfl) rfl rfl ?_
      refine X.cop (X.on_f rfl rfl rfl h_14) rfl rfl rfl ?_
      refine X.cop rfl (X.pickor_f (y := decide (x1.Room < x.Hi)) rfl h_14 rfl) rfl rfl ?_
      refine X.cnil ?_
      exact X.norm _ hg rfl (sr rfl)
    refine X.cond rfl (fun h_15 => ?_) (fun h_15 => ?_)
    · replace hM := ite_t h_15 hM
      refine X.sq ?_
      refine X.q rfl ?_
      refine GS.opsNil ?_
      have hE := Option.some.inj hM
      replace hE := hr_1 _ hE.symm
      subst hE
      exact GS.ret ⟨_, rfl, ⟨30, rfl⟩⟩
    replace hM := ite_f h_15 hM
    refine GS.skip ?_
    refine GS.endB ?_
    refine GS.region ?_
    refine X.opR rfl (X.addE rfl rfl) rfl ?_
    refine X.q rfl ?_
    refine GS.opsNil ?_
    have hE := Option.some.inj hM
    exact X.gc [some 0, some 1] (hc_2 (w64 (x2 + 1)) hE.symm) rfl rfl rfl (ga rfl rfl) (gb9 rfl rfl rfl (gb9 rfl rfl rfl gb_nil))
  replace hM := ite_f h_10 hM
  refine GS.exit rfl ?_
  obtain ⟨y_1, hM, hy⟩ := map_of hM
  rw [hr_1 _ hy.symm] at hM
  exact X.gc [some 1] (hj_1 () hM) rfl rfl rfl (ga rfl rfl) (gb9 rfl rfl rfl gb_nil)

theorem ok_hull_asked_1 (w : Int) : Ct Try.prog 137 [(V.i w)] (V.b (hull_asked_1 w)) := by
  refine ct_of_gs CC_ok rfl ?_
  generalize hM : hull_asked_1 w = r
  unfold hull_asked_1 at hM
  refine X.sq ?_
  refine X.q rfl ?_
  refine X.nq ?_
  refine X.q rfl ?_
  refine X.call (ok_hull_within w (-1048576) 1048576) rfl rfl rfl (.cons (.shut (n := 9) rfl) (.cons (.shut (n := 9) rfl) (.cons (.shut (n := 9) rfl) .nil))) ?_
  iterate 2 refine X.q rfl ?_
  refine GS.opsNil ?_
  subst hM
  exact GS.ret ⟨_, rfl, ⟨30, rfl⟩⟩

theorem ok_slices_IndexFunc_int__hull_asked_1 {s : (List Int)} {r : Int} (hM : slices_IndexFunc_int__hull_asked_1 s = some r) : Ct Try.prog 160 [(V.sl (List.map V.i s)), (V.fn 137 [])] (V.i r) := by
  refine ct_of_gs CC_ok rfl ?_
  unfold slices_IndexFunc_int__hull_asked_1 at hM
  refine X.sq ?_
  refine X.q rfl ?_
  refine GS.opsNil ?_
  refine GS.seq ?_
  refine X.sq ?_
  refine X.q rfl ?_
  refine X.opR rfl (X.lenF rfl rfl rfl) rfl ?_
  refine X.q rfl ?_
  refine GS.opsNil ?_
  refine X.join (τ := Unit) (fun v => slices_IndexFunc_int__hull_asked_1_j1 = some r) (fun v => ⟨[], [], 0, none, 19⟩) ?_ ?_
  · intro _ hM
    replace hM : slices_IndexFunc_int__hull_asked_1_j1 = some r := hM
    unfold slices_IndexFunc_int__hull_asked_1_j1 at hM
    refine X.sq ?_
    refine X.q rfl ?_
    refine GS.opsNil ?_
    have hE := Option.some.inj hM
    subst hE
    exact GS.ret ⟨_, rfl, ⟨30, rfl⟩⟩
  intro hj_1
  refine GS.block ?_
  refine X.gc [] (X.loop (σ := Int) (fun v => ⟨[(0, (V.sl (List.map V.i s))), (1, (V.fn 137 [])), (7, (V.i (s.length : Int))), (8, (V.i v))], [], 0, none, 19⟩) hM ?_ rfl) rfl rfl rfl (ga rfl rfl) (gb_nil)
  intro x1 b_1 hM hc_2 hr_1
  rw [slices_IndexFunc_int__hull_asked_1_b2] at hM
  refine X.sq ?_
  refine X.q rfl ?_
  refine GS.opsNil ?_
  refine GS.seq ?_
  refine X.cond rfl (fun h_1 => ?_) (fun h_1 => ?_)
  · replace hM := ite_t h_1 hM
    refine GS.skip ?_
    refine GS.seq ?_
    refine GS.block ?_
    refine X.sq ?_
    iterate 2 refine X.q rfl ?_
    refine GS.opsNil ?_
    refine GS.seq ?_
    obtain ⟨x, h_2, hM⟩ := bind_of hM
    refine GS.region ?_
    iterate 3 refine X.q rfl ?_
    refine X.opR rfl (X.indexF (f := V.i) h_2 (fun _ => rfl) rfl rfl rfl rfl) rfl ?_
    refine X.opR rfl (X.loadF h_2 rfl rfl rfl) rfl ?_
    refine X.call (ok_hull_asked_1 x) rfl rfl rfl (.cons (.shut (n := 9) rfl) .nil) ?_
    refine GS.opsNil ?_
    refine X.cond rfl (fun h_3 => ?_) (fun h_3 => ?_)
    · replace hM := ite_t h_3 hM
      refine X.sq ?_
      iterate 2 refine X.q rfl ?_
      refine GS.opsNil ?_
      have hE := Option.some.inj hM
      replace hE := hr_1 _ hE.symm
      subst hE
      exact GS.ret ⟨_, rfl, ⟨30, rfl⟩⟩
    replace hM := ite_f h_3 hM
    refine GS.skip ?_
    refine GS.endB ?_
    refine GS.region ?_
    refine X.opR rfl (X.addE rfl rfl) rfl ?_
    refine X.q rfl ?_
    refine GS.opsNil ?_
    have hE := Option.some.inj hM
    exact X.gc [] (hc_2 (w64 (x1 + 1)) hE.symm) rfl rfl rfl (ga rfl rfl) (gb_nil)
  replace hM := ite_f h_1 hM
  refine GS.exit rfl ?_
  obtain ⟨y_1, hM, hy⟩ := map_of hM
  rw [hr_1 _ hy.symm] at hM
  exact X.gc [] (hj_1 () hM) rfl rfl rfl (gk_nil) (gb_nil)

theorem ok_slices_ContainsFunc_int__hull_asked_1 {s : (List Int)} {r : Bool} (hM : slices_ContainsFunc_int__hull_asked_1 s = some r) : Ct Try.prog 136 [(V.sl (List.map V.i s)), (V.fn 137 [])] (V.b r) := by
  refine ct_of_gs CC_ok rfl ?_
  unfold slices_ContainsFunc_int__hull_asked_1 at hM
  refine X.sq ?_
  refine X.q rfl ?_
  refine GS.opsNil ?_
  refine GS.seq ?_
  obtain ⟨y, h_1, hM⟩ := bind_of hM
  refine GS.region ?_
  iterate 2 refine X.q rfl ?_
  refine X.call (ok_slices_IndexFunc_int__hull_asked_1 h_1) rfl rfl rfl (.cons (.shut (n := 9) rfl) (.cons (.shut (n := 9) rfl) .nil)) ?_
  iterate 2 refine X.q rfl ?_
  refine GS.opsNil ?_
  have hE := Option.some.inj hM
  subst hE
  exact GS.ret ⟨_, rfl, ⟨30, rfl⟩⟩

theorem ok_hull_asked {s : api_Ship} {l : api_Load} {form : (List Int)} {r : Int} (hM : hull_asked s l form = some r) : Ct Try.prog 91 [(e_api_Ship s), (e_api_Load l), (V.sl (List.map V.i form))] (V.i r) := by
  refine ct_of_gs CC_ok rfl ?_
  unfold hull_asked at hM
  refine X.sq ?_
  iterate 2 refine X.opW rfl rfl rfl rfl ?_
  refine X.q rfl ?_
  refine GS.opsNil ?_
  iterate 2 refine GS.seq ?_
  obtain ⟨y, h_1, hM⟩ := bind_of hM
  refine GS.region ?_
  iterate 2 refine X.q rfl ?_
  refine X.call (ok_hull_CheckLoad h_1) rfl rfl rfl (.cons (.shut (n := 9) rfl) (.cons (.shut (n := 9) rfl) .nil)) ?_
  refine X.q rfl ?_
  refine X.nq ?_
  iterate 2 refine X.q rfl ?_
  refine GS.opsNil ?_
  refine X.cond rfl (fun h_2 => ?_) (fun h_2 => ?_)
  · replace hM := ite_t h_2 hM
    refine X.sq ?_
    iterate 2 refine X.q rfl ?_
    refine GS.opsNil ?_
    have hE := Option.some.inj hM
    subst hE
    exact GS.ret ⟨_, rfl, ⟨30, rfl⟩⟩
  replace hM := ite_f h_2 hM
  refine GS.skip ?_
  iterate 2 refine GS.seq ?_
  obtain ⟨y1, h_3, hM⟩ := gb_of hM
  refine GS.region ?_
  refine X.mid [(23, (V.b ((!decide ((form.length : Int) = (s.Holds.length : Int))) || y1)))] ?_ ?_
  · intro hg
    refine X.split (!decide ((form.length : Int) = (s.Holds.length : Int))) (fun h_4 => ?_) (fun h_4 => ?_)
    · refine X.q rfl ?_
      refine X.opR rfl (X.lenF rfl rfl rfl) rfl ?_
      iterate 2 refine X.q rfl ?_
      refine X.opR rfl (X.lenF rfl rfl rfl) rfl ?_
      iterate 2 refine X.q rfl ?_
      iterate 2 refine X.off (X.off_f rfl rfl rfl h_4) rfl ?_
      refine X.opR rfl (X.pickor_t (y := y1) rfl h_4 rfl) rfl ?_
      refine GS.opsNil ?_
      exact X.norm _ hg rfl (sr rfl)
    refine X.q rfl ?_
    refine X.opR rfl (X.lenF rfl rfl rfl) rfl ?_
    iterate 2 refine X.q rfl ?_
    refine X.opR rfl (X.lenF rfl rfl rfl) rfl ?_
    iterate 2 refine X.q rfl ?_
    refine X.opR (X.on_f rfl rfl rfl h_4) rfl rfl ?_
    refine X.call (ok_slices_ContainsFunc_int__hull_asked_1 (h_3 (X.nt h_4))) (X.on_f rfl rfl rfl h_4) rfl rfl (.cons (.shut (n := 9) rfl) (.cons (.shut (n := 9) rfl) .nil)) ?_
    refine X.opR rfl (X.pickor_f (y := y1) rfl h_4 rfl) rfl ?_
    refine GS.opsNil ?_
    exact X.norm _ hg rfl (sr rfl)
  refine X.cond rfl (fun h_5 => ?_) (fun h_5 => ?_)
  · replace hM := ite_t h_5 hM
    refine X.sq ?_
    refine X.q rfl ?_
    refine GS.opsNil ?_
    have hE := Option.some.inj hM
    subst hE
    exact GS.ret ⟨_, rfl, ⟨30, rfl⟩⟩
  replace hM := ite_f h_5 hM
  refine GS.skip ?_
  refine X.sq ?_
  refine X.q rfl ?_
  refine GS.opsNil ?_
  have hE := Option.some.inj hM
  subst hE
  exact GS.ret ⟨_, rfl, ⟨30, rfl⟩⟩

abbrev e_api_Price (x : api_Price) : V := .agg [(V.i x.Value), (V.sl (List.map V.i x.Loading)), (V.i x.Price)]

theorem ok_cmp_isNaN_int (x : Int) : Ct Try.prog 162 [(V.i x)] (V.b (cmp_isNaN_int x)) := by
  refine ct_of_gs CC_ok rfl ?_
  generalize hM : cmp_isNaN_int x = r
  unfold cmp_isNaN_int at hM
  refine X.sq ?_
  refine X.q rfl ?_
  refine X.nq ?_
  iterate 4 refine X.q rfl ?_
  refine GS.opsNil ?_
  subst hM
  exact GS.ret ⟨_, rfl, ⟨30, rfl⟩⟩

theorem ok_cmp_Compare_int (x : Int) (y : Int) : Ct Try.prog 140 [(V.i x), (V.i y)] (V.i (cmp_Compare_int x y)) := by
  refine ct_of_gs CC_ok rfl ?_
  generalize hM : cmp_Compare_int x y = r
  unfold cmp_Compare_int at hM
  refine X.sq ?_
  refine X.q rfl ?_
  refine X.nq ?_
  refine X.q rfl ?_
  refine X.call (ok_cmp_isNaN_int x) rfl rfl rfl (.cons (.shut (n := 9) rfl) .nil) ?_
  refine X.q rfl ?_
  refine X.nq ?_
  refine X.q rfl ?_
  refine X.call (ok_cmp_isNaN_int y) rfl rfl rfl (.cons (.shut (n := 9) rfl) .nil) ?_
  refine X.q rfl ?_
  refine GS.opsNil ?_
  refine GS.seq ?_
  refine X.sq ?_
  refine X.q rfl ?_
  refine GS.opsNil ?_
  refine X.cond rfl (fun h_1 => ?_) (fun h_1 => ?_)
  · replace hM := ite_t h_1 hM
    refine GS.seq ?_
    refine X.sq ?_
    refine X.q rfl ?_
    refine GS.opsNil ?_
    refine X.cond rfl (fun h_2 => ?_) (fun h_2 => ?_)
    · replace hM := ite_t h_2 hM
      refine X.sq ?_
      refine X.q rfl ?_
      refine GS.opsNil ?_
      subst hM
      exact GS.ret ⟨_, rfl, ⟨30, rfl⟩⟩
    replace hM := ite_f h_2 hM
    refine GS.skip ?_
    refine X.sq ?_
    refine X.q rfl ?_
    refine GS.opsNil ?_
    subst hM
    exact GS.ret ⟨_, rfl, ⟨30, rfl⟩⟩
  replace hM := ite_f h_1 hM
  refine GS.skip ?_
  refine GS.seq ?_
  refine X.sq ?_
  refine X.q rfl ?_
  refine GS.opsNil ?_
  refine X.cond rfl (fun h_3 => ?_) (fun h_3 => ?_)
  · replace hM := ite_t h_3 hM
    refine X.sq ?_
    refine X.q rfl ?_
    refine GS.opsNil ?_
    subst hM
    exact GS.ret ⟨_, rfl, ⟨30, rfl⟩⟩
  replace hM := ite_f h_3 hM
  refine GS.skip ?_
  refine GS.seq ?_
  refine X.sq ?_
  iterate 3 refine X.q rfl ?_
  refine GS.opsNil ?_
  refine X.cond rfl (fun h_4 => ?_) (fun h_4 => ?_)
  · replace hM := ite_t h_4 hM
    refine X.sq ?_
    refine X.q rfl ?_
    refine GS.opsNil ?_
    subst hM
    exact GS.ret ⟨_, rfl, ⟨30, rfl⟩⟩
  replace hM := ite_f h_4 hM
  refine GS.skip ?_
  refine GS.seq ?_
  refine X.sq ?_
  iterate 3 refine X.q rfl ?_
  refine GS.opsNil ?_
  refine X.cond rfl (fun h_5 => ?_) (fun h_5 => ?_)
  · replace hM := ite_t h_5 hM
    refine X.sq ?_
    refine X.q rfl ?_
    refine GS.opsNil ?_
    subst hM
    exact GS.ret ⟨_, rfl, ⟨30, rfl⟩⟩
  replace hM := ite_f h_5 hM
  refine GS.skip ?_
  refine X.sq ?_
  refine X.q rfl ?_
  refine GS.opsNil ?_
  subst hM
  exact GS.ret ⟨_, rfl, ⟨30, rfl⟩⟩

theorem ok_hull_best_1 {a : Int} {b : Int} {c : (List Int)} {r : Int} (hM : hull_best_1 a b c = some r) : Ct Try.prog 139 [(V.i a), (V.i b), (V.fptr [(V.sl (List.map V.i c))] 0 0)] (V.i r) := by
  refine ct_of_gs CC_ok rfl ?_
  unfold hull_best_1 at hM
  refine X.sq ?_
  refine X.q rfl ?_
  refine GS.opsNil ?_
  refine GS.seq ?_
  obtain ⟨x, h_1, hM⟩ := bind_of hM
  obtain ⟨x1, h_2, hM⟩ := bind_of hM
  refine X.drawc (by kernel_rfl) rfl ?_
  iterate 2 refine X.cop rfl rfl rfl rfl ?_
  refine X.cop rfl (X.indexF (f := V.i) h_1 (fun _ => rfl) rfl rfl rfl rfl) rfl rfl ?_
  refine X.cop rfl (X.loadF h_1 rfl rfl rfl) rfl rfl ?_
  iterate 2 refine X.cop rfl rfl rfl rfl ?_
  refine X.cop rfl (X.indexF (f := V.i) h_2 (fun _ => rfl) rfl rfl rfl rfl) rfl rfl ?_
  refine X.cop rfl (X.loadF h_2 rfl rfl rfl) rfl rfl ?_
  refine X.ccall (ok_cmp_Compare_int x x1) rfl rfl rfl rfl (.cons (.shut (n := 9) rfl) (.cons (.shut (n := 9) rfl) .nil)) ?_
  refine X.cop rfl rfl rfl rfl ?_
  refine X.cnil ?_
  refine X.norm [(5, (V.i (cmp_Compare_int x x1)))] ?_ rfl (sr rfl)
  have hE := Option.some.inj hM
  subst hE
  exact GS.ret ⟨_, rfl, ⟨30, rfl⟩⟩

set_option maxHeartbeats 4000000 in
theorem ok_hull_best {l : api_Load} {form : (List Int)} {total : Int} {r : (List Int)} (hM : hull_best l form total = some r) : Ct Try.prog 92 [(e_api_Load l), (V.sl (List.map V.i form)), (V.i total)] (V.sl (List.map V.i r)) := by
  refine ct_of_gs CC_ok rfl ?_
  unfold hull_best at hM
  refine X.sq ?_
  iterate 2 refine X.opW rfl rfl rfl rfl ?_
  refine X.q rfl ?_
  refine X.nq ?_
  refine X.opW rfl rfl rfl rfl ?_
  refine X.q rfl ?_
  refine GS.opsNil ?_
  refine GS.seq ?_
  refine X.sq ?_
  iterate 2 refine X.q rfl ?_
  refine X.opR rfl (X.lenF rfl rfl rfl) rfl ?_
  refine X.q rfl ?_
  refine GS.opsNil ?_
  refine X.join (τ := (List Int) × (List Int)) (fun v => hull_best_j1 l form total v.1 v.2 = some r) (fun v => ⟨[(2, (V.i total)), (3, (V.ptr 0 0 0)), (4, (V.ptr 1 0 0)), (7, (V.ptr 2 0 0)), (8, (ovl 3 v.1))], [.rows 3 [(e_api_Load l)], .rows 1 [(V.sl (List.map V.i form))], .rows 1 [(ovl 4 v.2)], obl 1 V.i v.1, obl 1 V.i v.2], 0, none, 52⟩) ?_ ?_
  · rintro ⟨l1, l2⟩ hM
    replace hM : hull_best_j1 l form total l1 l2 = some r := hM
    unfold hull_best_j1 at hM
    refine X.sq ?_
    iterate 2 refine X.q rfl ?_
    refine X.inl rfl rfl rfl rfl ?_
    refine GS.region ?_
    iterate 2 refine X.q rfl ?_
    refine X.opR rfl (X.lenN (l := l1) rfl rfl rfl) rfl ?_
    refine X.q rfl ?_
    refine X.joinO (τ := (List Int)) (fun v => hull_best_j2 l total l1 l2 v = some r) (fun v => ⟨[], [.rows 3 [(e_api_Load l)], .dead, .rows 1 [(ovl 4 l2)], obl 1 V.i v, obl 1 V.i l2], 0, none, 9⟩) ?_ ?_
    · intro l3 hM
      replace hM : hull_best_j2 l total l1 l2 l3 = some r := hM
      unfold hull_best_j2 at hM
      refine GS.opsNil ?_
      obtain ⟨_, h_1, hM⟩ := bind_of hM
      replace h_1 := sameO_of h_1
      refine GS.nil ⟨_, rfl, ?_⟩
      refine X.norm (H' := [.rows 3 [(e_api_Load l)], .dead, .rows 1 [(ovl 4 l2)], obl 1 V.i l3, obl 1 V.i l2]) [(2, (V.i total)), (3, (V.ptr 0 0 0)), (7, (V.ptr 2 0 0)), (8, (ovl 3 l3))] ?_ rfl (W.sub_cons rfl (W.sub_cons rfl (W.sub_cons rfl (X.sub_eq rfl (X.ovlz_len h_1) W.sub_nil))))
      refine GS.opsNil ?_
      refine GS.seq ?_
      obtain ⟨y, h_2, hM⟩ := bind_of hM
      refine GS.region ?_
      refine X.q rfl ?_
      refine X.opR rfl (v := (ovl 4 l2)) (by rcases X.ovl_or (z := true) 4 l2 with h0 | ⟨n0, h0⟩ <;> simp only [h0] <;> rfl) rfl ?_
      refine X.callF (ok_hull_sum h_2) rfl rfl rfl (m := 9) rfl (.cons (FR.arg (FR.ovl (f := V.i) (l := l2) 9 rfl rfl (fun _ => rfl))) .nil) ?_
      refine X.opR rfl (X.subE rfl rfl) rfl ?_
      refine X.opW (H' := [.rows 3 [(e_api_Load l)], .dead, .rows 1 [(ovl 4 l2)], obl 1 V.i l3, obl 1 V.i l2, .rows 1 [(V.i 0)]]) rfl rfl rfl rfl ?_
      refine X.op0W (H' := [.rows 3 [(e_api_Load l)], .dead, .rows 1 [(ovl 4 l2)], obl 1 V.i l3, obl 1 V.i l2, .rows 1 [(V.i (w64 (total - y)))]]) rfl rfl rfl ?_
      refine X.nq ?_
      iterate 2 refine X.q rfl ?_
      refine GS.opsNil ?_
      refine GS.seq ?_
      refine X.sq ?_
      refine X.q rfl ?_
      refine X.opR rfl (X.lenN (l := l3) rfl rfl rfl) rfl ?_
      refine X.q rfl ?_
      refine GS.opsNil ?_
      refine X.join (τ := (List Int)) (fun v => hull_best_j3 v = some r) (fun v => ⟨[(7, (V.ptr 0 0 0))], [.rows 1 [(ovl 1 v)], obl 1 V.i v], 0, none, 52⟩) ?_ ?_
      · intro l4 hM
        replace hM : hull_best_j3 l4 = some r := hM
        unfold hull_best_j3 at hM
        refine X.sq ?_
        refine X.opR rfl (v := (ovl 1 l4)) (by rcases X.ovl_or (z := true) 1 l4 with h0 | ⟨n0, h0⟩ <;> simp only [h0] <;> rfl) rfl ?_
        refine X.q rfl ?_
        refine GS.opsNil ?_
        have hE := Option.some.inj hM
        subst hE
        exact GS.ret ⟨_, rfl, FR.ovl (f := V.i) (l := l4) 9 rfl rfl (fun _ => rfl)⟩
      intro hj_3
      refine GS.block ?_
      refine X.gc [some 2, some 5, some 0, some 3, some 4] (X.loop (σ := (Int × Int × (List Int))) (fun v => ⟨[(7, (V.ptr 0 0 0)), (12, (V.fn 141 [(V.ptr 1 0 0), (V.ptr 2 0 0), (V.ptr 0 0 0)])), (41, (ovl 3 l3)), (42, (V.i (l3.length : Int))), (43, (V.i v.1))], [.rows 1 [(ovl 4 v.2.2)], .rows 1 [(V.i v.2.1)], .rows 3 [(e_api_Load l)], obl 1 V.i l3, obl 1 V.i v.2.2], 0, none, 52⟩) hM ?_ rfl) rfl rfl rfl (gk_cons rfl ⟨9, rfl⟩ (gk_cons rfl ⟨9, rfl⟩ (gk_cons rfl (rn_ovl rfl) (ga rfl rfl)))) (gb_box rfl rfl (rn_ovl rfl) (gb9 rfl rfl rfl (gb9 rfl rfl rfl (gb_obl 9 rfl rfl (fun _ => rfl) (gb_obl 9 rfl rfl (fun _ => rfl) gb_nil)))))
      rintro ⟨x5, left, l5⟩ b_1 hM hc_4 hr_1
      rw [hull_best_b4] at hM
      refine X.sq ?_
      refine X.q rfl ?_
      refine GS.opsNil ?_
      refine GS.seq ?_
      refine X.cond rfl (fun h_3 => ?_) (fun h_3 => ?_)
      · replace hM := ite_t h_3 hM
        refine GS.skip ?_
        refine GS.seq ?_
        refine GS.block ?_
        refine GS.seq ?_
        obtain ⟨x, h_4, hM⟩ := bind_of hM
        refine GS.region ?_
        refine X.opR rfl (X.indexN h_4 rfl rfl rfl rfl rfl) rfl ?_
        refine X.opR rfl (X.loadN h_4 rfl rfl rfl rfl) rfl ?_
        refine X.q rfl ?_
        refine X.mq ?_
        iterate 2 refine X.q rfl ?_
        refine X.inl rfl rfl rfl rfl ?_
        refine GS.seq ?_
        obtain ⟨x1, h_5, hM⟩ := bind_of hM
        obtain ⟨x2, h_6, hM⟩ := bind_of hM
        refine X.drawc (by kernel_rfl) rfl ?_
        iterate 4 refine X.cop rfl rfl rfl rfl ?_
        refine X.cop rfl (X.indexF (f := e_api_Span) h_5 (fun _ => rfl) rfl rfl rfl rfl) rfl rfl ?_
        refine X.cop rfl rfl rfl rfl ?_
        refine X.cop rfl (X.loadF h_5 rfl rfl rfl) rfl rfl ?_
        iterate 3 refine X.cop rfl rfl rfl rfl ?_
        refine X.cop rfl (X.indexF (f := e_api_Span) h_6 (fun _ => rfl) rfl rfl rfl rfl) rfl rfl ?_
        refine X.cop rfl rfl rfl rfl ?_
        refine X.cop rfl (X.loadF h_6 rfl rfl rfl) rfl rfl ?_
        refine X.cop rfl (X.subE rfl rfl) rfl rfl ?_
        refine X.cop rfl (X.minE rfl rfl) rfl rfl ?_
        refine X.cop rfl rfl rfl rfl ?_
        refine X.cnil ?_
        refine X.norm [(0, (V.i x)), (1, (V.ptr 1 0 0)), (3, (V.ptr 0 0 0)), (5, (V.i (min left (w64 (x1.Hi - x2.Lo)))))] ?_ rfl (sr rfl)
        refine GS.seq ?_
        obtain ⟨x3, h_7, hM⟩ := bind_of hM
        obtain ⟨x4, h_8, hM⟩ := bind_of hM
        refine GS.region ?_
        refine X.opR rfl (v := (ovl 4 l5)) (by rcases X.ovl_or (z := true) 4 l5 with h0 | ⟨n0, h0⟩ <;> simp only [h0] <;> rfl) rfl ?_
        refine X.q rfl ?_
        refine X.opR rfl (X.indexN h_7 rfl rfl rfl rfl rfl) rfl ?_
        refine X.opR rfl (X.loadN h_7 rfl rfl rfl rfl) rfl ?_
        refine X.q rfl ?_
        refine X.opR rfl (X.addE rfl rfl) rfl ?_
        refine X.opR rfl (X.indexN h_8 rfl rfl rfl rfl rfl) rfl ?_
        refine X.op0W (H' := [.rows 1 [(ovl 4 l5)], .rows 1 [(V.i left)], .rows 3 [(e_api_Load l)], obl 1 V.i l3, obl 1 V.i (put l5 x (w64 (x3 + (min left (w64 (x1.Hi - x2.Lo))))))]) rfl (X.storeN (b := w64 (x3 + (min left (w64 (x1.Hi - x2.Lo))))) h_8 rfl rfl rfl rfl rfl rfl rfl) rfl ?_
        refine X.mq ?_
        iterate 2 refine X.q rfl ?_
        refine X.opR rfl (X.subE rfl rfl) rfl ?_
        refine X.op0W (H' := [.rows 1 [(ovl 4 l5)], .rows 1 [(V.i (w64 (left - (min left (w64 (x1.Hi - x2.Lo))))))], .rows 3 [(e_api_Load l)], obl 1 V.i l3, obl 1 V.i (put l5 x (w64 (x3 + (min left (w64 (x1.Hi - x2.Lo))))))]) rfl rfl rfl ?_
        refine GS.opsNil ?_
        refine GS.nil ⟨_, rfl, ?_⟩
        refine X.norm (H' := [.rows 1 [(ovl 4 l5)], .rows 1 [(V.i (w64 (left - (min left (w64 (x1.Hi - x2.Lo))))))], .rows 3 [(e_api_Load l)], obl 1 V.i l3, obl 1 V.i (put l5 x (w64 (x3 + (min left (w64 (x1.Hi - x2.Lo))))))]) [(7, (V.ptr 0 0 0)), (12, (V.fn 141 [(V.ptr 1 0 0), (V.ptr 2 0 0), (V.ptr 0 0 0)])), (41, (ovl 3 l3)), (42, (V.i (l3.length : Int))), (43, (V.i x5))] ?_ rfl (sr rfl)
        refine GS.opsNil ?_
        refine GS.endB ?_
        refine GS.region ?_
        refine X.opR rfl (X.addE rfl rfl) rfl ?_
        refine X.q rfl ?_
        refine GS.opsNil ?_
        have hE := Option.some.inj hM
        exact X.gc [some 0, some 1, some 2, some 3, some 4] (hc_4 (w64 (x5 + 1), w64 (left - (min left (w64 (x1.Hi - x2.Lo)))), (put l5 x (w64 (x3 + (min left (w64 (x1.Hi - x2.Lo))))))) hE.symm) rfl rfl rfl (gk_cons rfl ⟨9, rfl⟩ (gk_cons rfl ⟨9, rfl⟩ (gk_cons rfl (rn_ovl rfl) (ga rfl rfl)))) (gb_box rfl rfl (rv_eq X.ovl_put (rn_ovl rfl)) (gb9 rfl rfl rfl (gb9 rfl rfl rfl (gb_obl 9 rfl rfl (fun _ => rfl) (gb_obl 9 rfl rfl (fun _ => rfl) gb_nil)))))
      replace hM := ite_f h_3 hM
      refine GS.exit rfl ?_
      obtain ⟨y_1, hM, hy⟩ := map_of hM
      rw [hr_1 _ hy.symm] at hM
      exact X.gc [some 0, some 4] (hj_3 l5 hM) rfl rfl rfl (ga rfl rfl) (gb_box rfl rfl (rn_ovl rfl) (gb_obl 9 rfl rfl (fun _ => rfl) gb_nil))
    intro hj_2
    refine X.inl rfl rfl rfl rfl ?_
    refine X.sq ?_
    refine X.q rfl ?_
    refine X.nq ?_
    iterate 3 refine X.q rfl ?_
    refine GS.opsNil ?_
    refine GS.seq ?_
    refine X.join (τ := Int × (List Int)) (fun v => hull_best_j5 l form total l1 l2 v.1 v.2 = some r) (fun v => ⟨[(0, (ovl 3 v.2)), (1, (V.i (l1.length : Int))), (2, (V.fn 139 [(V.ptr 1 0 0)])), (6, (V.i 20)), (7, (V.i v.1))], [.rows 3 [(e_api_Load l)], .rows 1 [(V.sl (List.map V.i form))], .rows 1 [(ovl 4 l2)], obl 1 V.i v.2, obl 1 V.i l2], 0, none, 63⟩) ?_ ?_
    · rintro ⟨a, l6⟩ hM
      replace hM : hull_best_j5 l form total l1 l2 a l6 = some r := hM
      unfold hull_best_j5 at hM
      refine X.sq ?_
      iterate 4 refine X.q rfl ?_
      refine X.joinO (τ := (List Int)) (fun v => hull_best_j6 l total l1 l2 v = some r) (fun v => ⟨[(0, (ovl 3 v)), (1, (V.i (l1.length : Int))), (2, (V.fn 139 [(V.ptr 1 0 0)])), (6, (V.i 20))], [.rows 3 [(e_api_Load l)], .rows 1 [(V.sl (List.map V.i form))], .rows 1 [(ovl 4 l2)], obl 1 V.i v, obl 1 V.i l2], 0, none, 63⟩) ?_ ?_
      · intro l7 hM
        replace hM : hull_best_j6 l total l1 l2 l7 = some r := hM
        unfold hull_best_j6 at hM
        refine GS.opsNil ?_
        refine GS.block ?_
        refine X.gc [] (X.loop (σ := Int) (fun v => ⟨[(0, (ovl 3 l7)), (1, (V.i (l1.length : Int))), (2, (V.fn 139 [(V.ptr 1 0 0)])), (6, (V.i v))], [.rows 3 [(e_api_Load l)], .rows 1 [(V.sl (List.map V.i form))], .rows 1 [(ovl 4 l2)], obl 1 V.i l7, obl 1 V.i l2], 0, none, 63⟩) hM ?_ rfl) rfl rfl rfl (gk_cons rfl (rn_ovl rfl) (ga rfl rfl)) (gb9 rfl rfl rfl (gb9 rfl rfl rfl (gb_box rfl rfl (rn_ovl rfl) (gb_obl 9 rfl rfl (fun _ => rfl) (gb_obl 9 rfl rfl (fun _ => rfl) gb_nil)))))
        intro blockSize b_1 hM hc_7 hr_1
        rw [hull_best_b7] at hM
        refine GS.seq ?_
        refine X.sq ?_
        iterate 3 refine X.q rfl ?_
        refine GS.opsNil ?_
        refine X.cond rfl (fun h_9 => ?_) (fun h_9 => ?_)
        · replace hM := ite_t h_9 hM
          refine GS.skip ?_
          refine GS.block ?_
          refine X.sq ?_
          refine X.q rfl ?_
          refine X.opR rfl (X.mulE rfl rfl) rfl ?_
          iterate 2 refine X.q rfl ?_
          refine GS.opsNil ?_
          refine GS.seq ?_
          refine X.join (τ := Unit) (fun v => hull_best_j8 l1 blockSize = some b_1) (fun v => ⟨[(0, (ovl 3 l7)), (1, (V.i (l1.length : Int))), (2, (V.fn 139 [(V.ptr 1 0 0)])), (6, (V.i blockSize)), (7, (V.i 0))], [.rows 3 [(e_api_Load l)], .rows 1 [(V.sl (List.map V.i form))], .rows 1 [(ovl 4 l2)], obl 1 V.i l7, obl 1 V.i l2], 0, none, 63⟩) ?_ ?_
          · intro _ hM
            replace hM : hull_best_j8 l1 blockSize = some b_1 := hM
            unfold hull_best_j8 at hM
            refine GS.seq ?_
            refine X.sq ?_
            iterate 2 refine X.q rfl ?_
            refine X.opR rfl (X.addE rfl rfl) rfl ?_
            refine X.q rfl ?_
            refine X.nq ?_
            iterate 3 refine X.q rfl ?_
            refine GS.opsNil ?_
            refine X.cond rfl (fun h_10 => ?_) (fun h_10 => ?_)
            · replace hM := ite_t h_10 hM
              cases hM
            replace hM := ite_f h_10 hM
            refine GS.skip ?_
            refine GS.region ?_
            refine X.q rfl ?_
            refine X.opR rfl (X.mulE rfl rfl) rfl ?_
            refine X.q rfl ?_
            refine GS.opsNil ?_
            refine GS.endB ?_
            have hE := Option.some.inj hM
            exact X.gc [] (hc_7 (w64 (blockSize * 2)) hE.symm) rfl rfl rfl (gk_cons rfl (rn_ovl rfl) (ga rfl rfl)) (gb9 rfl rfl rfl (gb9 rfl rfl rfl (gb_box rfl rfl (rn_ovl rfl) (gb_obl 9 rfl rfl (fun _ => rfl) (gb_obl 9 rfl rfl (fun _ => rfl) gb_nil)))))
          intro hj_8
          refine GS.block ?_
          refine X.gc [] (X.loop (σ := Unit) (fun v => ⟨[(0, (ovl 3 l7)), (1, (V.i (l1.length : Int))), (2, (V.fn 139 [(V.ptr 1 0 0)])), (6, (V.i blockSize)), (7, (V.i 0)), (8, (V.i (w64 (2 * blockSize))))], [.rows 3 [(e_api_Load l)], .rows 1 [(V.sl (List.map V.i form))], .rows 1 [(ovl 4 l2)], obl 1 V.i l7, obl 1 V.i l2], 0, none, 63⟩) hM ?_ rfl) rfl rfl rfl (gk_cons rfl (rn_ovl rfl) (ga rfl rfl)) (gb9 rfl rfl rfl (gb9 rfl rfl rfl (gb_box rfl rfl (rn_ovl rfl) (gb_obl 9 rfl rfl (fun _ => rfl) (gb_obl 9 rfl rfl (fun _ => rfl) gb_nil)))))
          intro _ b_2 hM hc_9 hr_2
          rw [hull_best_b9] at hM
          refine GS.seq ?_
          refine X.sq ?_
          iterate 3 refine X.q rfl ?_
          refine GS.opsNil ?_
          refine X.cond rfl (fun h_11 => ?_) (fun h_11 => ?_)
          · replace hM := ite_t h_11 hM
            refine GS.skip ?_
            refine GS.block ?_
            refine GS.seq ?_
            cases hM
          replace hM := ite_f h_11 hM
          refine GS.exit rfl ?_
          obtain ⟨y_2, hM, hy⟩ := map_of hM
          rw [hr_2 _ hy.symm] at hM
          exact X.gc [] (hj_8 () hM) rfl rfl rfl (gk_cons rfl (rn_ovl rfl) (ga rfl rfl)) (gb9 rfl rfl rfl (gb9 rfl rfl rfl (gb_box rfl rfl (rn_ovl rfl) (gb_obl 9 rfl rfl (fun _ => rfl) (gb_obl 9 rfl rfl (fun _ => rfl) gb_nil)))))
        replace hM := ite_f h_9 hM
        refine GS.exit rfl ?_
        refine GS.nil ⟨_, rfl, ?_⟩
        refine X.norm (H' := [.rows 3 [(e_api_Load l)], .rows 1 [(V.sl (List.map V.i form))], .rows 1 [(ovl 4 l2)], obl 1 V.i l7, obl 1 V.i l2]) [] ?_ rfl W.sub_nil
        obtain ⟨y_1, hM, hy⟩ := map_of hM
        rw [hr_1 _ hy.symm] at hM
        exact X.gc [] (hj_2 l7 hM) rfl rfl rfl (gk_nil) (gb9 rfl rfl rfl (gb_pad (gb_box rfl rfl (rn_ovl rfl) (gb_obl 9 rfl rfl (fun _ => rfl) (gb_obl 9 rfl rfl (fun _ => rfl) gb_nil)))))
      intro hj_6
      refine X.inl rfl rfl rfl rfl ?_
      refine X.sq ?_
      refine X.q rfl ?_
      refine X.opR rfl (X.addE rfl rfl) rfl ?_
      refine X.q rfl ?_
      refine GS.opsNil ?_
      refine GS.block ?_
      refine X.gc [] (X.loop (σ := (Int × (List Int))) (fun v => ⟨[(0, (ovl 3 v.2)), (1, (V.i a)), (2, (V.i (l1.length : Int))), (3, (V.fn 139 [(V.ptr 1 0 0)])), (8, (V.i v.1))], [.rows 3 [(e_api_Load l)], .rows 1 [(V.sl (List.map V.i form))], .rows 1 [(ovl 4 l2)], obl 1 V.i v.2, obl 1 V.i l2], 0, none, 53⟩) hM ?_ rfl) rfl rfl rfl (gk_cons rfl (rn_ovl rfl) (ga rfl rfl)) (gb9 rfl rfl rfl (gb9 rfl rfl rfl (gb_box rfl rfl (rn_ovl rfl) (gb_obl 9 rfl rfl (fun _ => rfl) (gb_obl 9 rfl rfl (fun _ => rfl) gb_nil)))))
      rintro ⟨i, l10⟩ b_1 hM hc_10 hr_1
      rw [hull_best_b10] at hM
      refine GS.seq ?_
      refine X.sq ?_
      iterate 3 refine X.q rfl ?_
      refine GS.opsNil ?_
      refine X.cond rfl (fun h_12 => ?_) (fun h_12 => ?_)
      · replace hM := ite_t h_12 hM
        refine GS.skip ?_
        refine GS.seq ?_
        refine GS.block ?_
        refine X.sq ?_
        iterate 2 refine X.q rfl ?_
        refine GS.opsNil ?_
        refine X.join (τ := (List Int)) (fun v => hull_best_j11 i v = some b_1) (fun v => ⟨[(0, (ovl 3 v)), (1, (V.i a)), (2, (V.i (l1.length : Int))), (3, (V.fn 139 [(V.ptr 1 0 0)])), (8, (V.i i))], [.rows 3 [(e_api_Load l)], .rows 1 [(V.sl (List.map V.i form))], .rows 1 [(ovl 4 l2)], obl 1 V.i v, obl 1 V.i l2], 0, none, 53⟩) ?_ ?_
        · intro l8 hM
          replace hM : hull_best_j11 i l8 = some b_1 := hM
          unfold hull_best_j11 at hM
          refine GS.endB ?_
          refine GS.region ?_
          refine X.q rfl ?_
          refine X.opR rfl (X.addE rfl rfl) rfl ?_
          refine X.q rfl ?_
          refine GS.opsNil ?_
          have hE := Option.some.inj hM
          exact X.gc [] (hc_10 (w64 (i + 1), l8) hE.symm) rfl rfl rfl (gk_cons rfl (rn_ovl rfl) (ga rfl rfl)) (gb9 rfl rfl rfl (gb9 rfl rfl rfl (gb_box rfl rfl (rn_ovl rfl) (gb_obl 9 rfl rfl (fun _ => rfl) (gb_obl 9 rfl rfl (fun _ => rfl) gb_nil)))))
        intro hj_11
        refine GS.block ?_
        refine X.gc [] (X.loop (σ := (Int × (List Int))) (fun v => ⟨[(0, (ovl 3 v.2)), (1, (V.i a)), (2, (V.i (l1.length : Int))), (3, (V.fn 139 [(V.ptr 1 0 0)])), (8, (V.i i)), (9, (V.i v.1))], [.rows 3 [(e_api_Load l)], .rows 1 [(V.sl (List.map V.i form))], .rows 1 [(ovl 4 l2)], obl 1 V.i v.2, obl 1 V.i l2], 0, none, 53⟩) hM ?_ rfl) rfl rfl rfl (gk_cons rfl (rn_ovl rfl) (ga rfl rfl)) (gb9 rfl rfl rfl (gb9 rfl rfl rfl (gb_box rfl rfl (rn_ovl rfl) (gb_obl 9 rfl rfl (fun _ => rfl) (gb_obl 9 rfl rfl (fun _ => rfl) gb_nil)))))
        rintro ⟨j, l9⟩ b_2 hM hc_12 hr_2
        rw [hull_best_b12] at hM
        iterate 2 refine GS.seq ?_
        obtain ⟨x6, h_13, hM⟩ := gb_of hM
        obtain ⟨x7, h_14, hM⟩ := gb_of hM
        obtain ⟨y1, h_15, hM⟩ := gb_of hM
        refine X.mid [(0, (ovl 3 l9)), (1, (V.i a)), (2, (V.i (l1.length : Int))), (3, (V.fn 139 [(V.ptr 1 0 0)])), (8, (V.i i)), (9, (V.i j)), (34, (V.b ((decide (a < j)) && (decide (y1 < 0)))))] ?_ ?_
        · intro hg
          refine X.split (decide (a < j)) (fun h_16 => ?_) (fun h_16 => ?_)
          · refine X.drawc (by kernel_rfl) rfl ?_
            iterate 4 refine X.cop rfl rfl rfl rfl ?_
            iterate 3 refine X.cop (X.on_t rfl rfl rfl h_16) rfl rfl rfl ?_
            refine X.cop (X.on_t rfl rfl rfl h_16) (X.indexN (h_13 h_16) rfl rfl rfl rfl rfl) rfl rfl ?_
            refine X.cop (X.on_t rfl rfl rfl h_16) (X.loadN (h_13 h_16) rfl rfl rfl rfl) rfl rfl ?_
            iterate 2 refine X.cop (X.on_t rfl rfl rfl h_16) rfl rfl rfl ?_
            refine X.cop (X.on_t rfl rfl rfl h_16) (X.subE rfl rfl) rfl rfl ?_
            refine X.cop (X.on_t rfl rfl rfl h_16) (X.indexN (h_14 h_16) rfl rfl rfl rfl rfl) rfl rfl ?_
            refine X.cop (X.on_t rfl rfl rfl h_16) (X.loadN (h_14 h_16) rfl rfl rfl rfl) rfl rfl ?_
            refine X.ccallF (ok_hull_best_1 (h_15 h_16)) (X.on_t rfl rfl rfl h_16) rfl rfl rfl (m := 9) rfl (.cons (.shut (n := 9) rfl) (.cons (.shut (n := 9) rfl) (.cons (FR.arg ⟨30, rfl⟩) .nil))) ?_
            refine X.cop (X.on_t rfl rfl rfl h_16) rfl rfl rfl ?_
            refine X.cop rfl (X.pickand_t (y := decide (y1 < 0)) rfl h_16 rfl) rfl rfl ?_
            refine X.cnil ?_
            exact X.norm _ hg rfl (sr rfl)
          refine X.drawc (by kernel_rfl) rfl ?_
          iterate 4 refine X.cop rfl rfl rfl rfl ?_
          iterate 12 refine X.coff (X.off_t rfl rfl rfl h_16) rfl rfl ?_
          refine X.cop rfl (X.pickand_f (y := decide (y1 < 0)) rfl h_16 rfl) rfl rfl ?_
          refine X.cnil ?_
          exact X.norm _ hg rfl (sr rfl)
        refine X.cond rfl (fun h_17 => ?_) (fun h_17 => ?_)
        · replace hM := ite_t h_17 hM
          refine GS.skip ?_
          refine GS.seq ?_
          refine GS.block ?_
          obtain ⟨x8, h_18, hM⟩ := bind_of hM
          obtain ⟨x9, h_19, hM⟩ := bind_of hM
          obtain ⟨x10, h_20, hM⟩ := bind_of hM
          obtain ⟨x11, h_21, hM⟩ := bind_of hM
          refine X.draw (by kernel_rfl) ?_
          iterate 4 refine X.dop rfl rfl rfl rfl (by kernel_rfl) rfl rfl ?_
          refine X.dop rfl (X.subE rfl rfl) rfl rfl (by kernel_rfl) rfl rfl ?_
          iterate 2 refine X.dop rfl rfl rfl rfl (by kernel_rfl) rfl rfl ?_
          refine X.dop rfl (X.subE rfl rfl) rfl rfl (by kernel_rfl) rfl rfl ?_
          refine X.dop rfl (X.indexN h_18 rfl rfl rfl rfl rfl) rfl rfl (by kernel_rfl) rfl rfl ?_
          refine X.dop rfl (X.loadN h_18 rfl rfl rfl rfl) rfl rfl (by kernel_rfl) rfl rfl ?_
          iterate 2 refine X.dop rfl rfl rfl rfl (by kernel_rfl) rfl rfl ?_
          refine X.dop rfl (X.indexN h_19 rfl rfl rfl rfl rfl) rfl rfl (by kernel_rfl) rfl rfl ?_
          refine X.dop rfl (X.loadN h_19 rfl rfl rfl rfl) rfl rfl (by kernel_rfl) rfl rfl ?_
          refine X.dop rfl (X.indexN h_20 rfl rfl rfl rfl rfl) rfl rfl (by kernel_rfl) rfl rfl ?_
          refine X.dop0 rfl (X.storeN (b := x8) h_20 rfl rfl rfl rfl rfl rfl rfl) rfl rfl (by kernel_rfl) rfl ?_
          refine X.dop rfl (X.indexN h_21 rfl rfl (X.kev_eq rfl X.ovl_put) rfl rfl) rfl rfl (by kernel_rfl) rfl rfl ?_
          refine X.dop0 rfl (X.storeN (b := x9) h_21 rfl rfl rfl rfl rfl rfl rfl) rfl rfl (by kernel_rfl) rfl ?_
          refine X.dnil ?_
          refine X.norm [(0, (ovl 3 l9)), (1, (V.i a)), (2, (V.i (l1.length : Int))), (3, (V.fn 139 [(V.ptr 1 0 0)])), (8, (V.i i)), (9, (V.i j))] ?_ rfl (sr rfl)
          refine GS.endB ?_
          refine GS.region ?_
          refine X.q rfl ?_
          refine X.opR rfl (X.subE rfl rfl) rfl ?_
          refine X.q rfl ?_
          refine GS.opsNil ?_
          have hE := Option.some.inj hM
          exact X.gc [] (hc_12 (w64 (j - 1), (put (put l9 j x8) (w64 (j - 1)) x9)) hE.symm) rfl rfl rfl (gk_cons rfl (rv_eq (Eq.trans X.ovl_put X.ovl_put) (rn_ovl rfl)) (ga rfl rfl)) (gb9 rfl rfl rfl (gb9 rfl rfl rfl (gb_box rfl rfl (rn_ovl rfl) (gb_obl 9 rfl rfl (fun _ => rfl) (gb_obl 9 rfl rfl (fun _ => rfl) gb_nil)))))
        replace hM := ite_f h_17 hM
        refine GS.exit rfl ?_
        obtain ⟨y_2, hM, hy⟩ := map_of hM
        rw [hr_2 _ hy.symm] at hM
        exact X.gc [] (hj_11 l9 hM) rfl rfl rfl (gk_cons rfl (rn_ovl rfl) (ga rfl rfl)) (gb9 rfl rfl rfl (gb9 rfl rfl rfl (gb_box rfl rfl (rn_ovl rfl) (gb_obl 9 rfl rfl (fun _ => rfl) (gb_obl 9 rfl rfl (fun _ => rfl) gb_nil)))))
      replace hM := ite_f h_12 hM
      refine GS.exit rfl ?_
      obtain ⟨_, h_22, hM⟩ := bind_of hM
      replace h_22 := sameO_of h_22
      refine GS.nil ⟨_, rfl, ?_⟩
      refine X.norm (H' := [.rows 3 [(e_api_Load l)], .rows 1 [(V.sl (List.map V.i form))], .rows 1 [(ovl 4 l2)], obl 1 V.i l10, obl 1 V.i l2]) [(0, (ovl 3 l10)), (1, (V.i (l1.length : Int))), (2, (V.fn 139 [(V.ptr 1 0 0)])), (6, (V.i 20))] ?_ rfl (X.sub_eq rfl (X.ovlz_len h_22) (sr rfl))
      obtain ⟨y_1, hM, hy⟩ := map_of hM
      rw [hr_1 _ hy.symm] at hM
      exact X.gc [] (hj_6 l10 hM) rfl rfl rfl (gk_cons rfl (rn_ovl rfl) (ga rfl rfl)) (gb9 rfl rfl rfl (gb9 rfl rfl rfl (gb_box rfl rfl (rn_ovl rfl) (gb_obl 9 rfl rfl (fun _ => rfl) (gb_obl 9 rfl rfl (fun _ => rfl) gb_nil)))))
    intro hj_5
    refine GS.block ?_
    refine X.gc [] (X.loop (σ := (Int × Int × (List Int))) (fun v => ⟨[(0, (ovl 3 v.2.2)), (1, (V.i (l1.length : Int))), (2, (V.fn 139 [(V.ptr 1 0 0)])), (6, (V.i 20)), (7, (V.i v.1)), (8, (V.i v.2.1))], [.rows 3 [(e_api_Load l)], .rows 1 [(V.sl (List.map V.i form))], .rows 1 [(ovl 4 l2)], obl 1 V.i v.2.2, obl 1 V.i l2], 0, none, 63⟩) hM ?_ rfl) rfl rfl rfl (gk_cons rfl (rn_ovl rfl) (ga rfl rfl)) (gb9 rfl rfl rfl (gb9 rfl rfl rfl (gb_box rfl rfl (rn_ovl rfl) (gb_obl 9 rfl rfl (fun _ => rfl) (gb_obl 9 rfl rfl (fun _ => rfl) gb_nil)))))
    rintro ⟨a1, b, l15⟩ b_1 hM hc_13 hr_1
    rw [hull_best_b13] at hM
    refine GS.seq ?_
    refine X.sq ?_
    iterate 3 refine X.q rfl ?_
    refine GS.opsNil ?_
    refine X.cond rfl (fun h_23 => ?_) (fun h_23 => ?_)
    · replace hM := ite_t h_23 hM
      refine GS.skip ?_
      refine GS.block ?_
      refine X.sq ?_
      iterate 4 refine X.q rfl ?_
      refine X.joinO (τ := (List Int)) (fun v => hull_best_j14 b v = some b_1) (fun v => ⟨[(0, (ovl 3 v)), (1, (V.i (l1.length : Int))), (2, (V.fn 139 [(V.ptr 1 0 0)])), (6, (V.i 20)), (8, (V.i b))], [.rows 3 [(e_api_Load l)], .rows 1 [(V.sl (List.map V.i form))], .rows 1 [(ovl 4 l2)], obl 1 V.i v, obl 1 V.i l2], 0, none, 63⟩) ?_ ?_
      · intro l11 hM
        replace hM : hull_best_j14 b l11 = some b_1 := hM
        unfold hull_best_j14 at hM
        refine X.nq ?_
        iterate 2 refine X.q rfl ?_
        refine X.mq ?_
        iterate 2 refine X.q rfl ?_
        refine X.opR rfl (X.addE rfl rfl) rfl ?_
        refine X.q rfl ?_
        refine GS.opsNil ?_
        refine GS.endB ?_
        have hE := Option.some.inj hM
        exact X.gc [] (hc_13 (b, w64 (b + 20), l11) hE.symm) rfl rfl rfl (gk_cons rfl (rn_ovl rfl) (ga rfl rfl)) (gb9 rfl rfl rfl (gb9 rfl rfl rfl (gb_box rfl rfl (rn_ovl rfl) (gb_obl 9 rfl rfl (fun _ => rfl) (gb_obl 9 rfl rfl (fun _ => rfl) gb_nil)))))
      intro hj_14
      refine X.inl rfl rfl rfl rfl ?_
      refine X.sq ?_
      refine X.q rfl ?_
      refine X.opR rfl (X.addE rfl rfl) rfl ?_
      refine X.q rfl ?_
      refine GS.opsNil ?_
      refine GS.block ?_
      refine X.gc [] (X.loop (σ := (Int × (List Int))) (fun v => ⟨[(0, (ovl 3 v.2)), (1, (V.i a1)), (2, (V.i b)), (3, (V.fn 139 [(V.ptr 1 0 0)])), (8, (V.i v.1))], [.rows 3 [(e_api_Load l)], .rows 1 [(V.sl (List.map V.i form))], .rows 1 [(ovl 4 l2)], obl 1 V.i v.2, obl 1 V.i l2], 0, none, 53⟩) hM ?_ rfl) rfl rfl rfl (gk_cons rfl (rn_ovl rfl) (ga rfl rfl)) (gb9 rfl rfl rfl (gb9 rfl rfl rfl (gb_box rfl rfl (rn_ovl rfl) (gb_obl 9 rfl rfl (fun _ => rfl) (gb_obl 9 rfl rfl (fun _ => rfl) gb_nil)))))
      rintro ⟨i1, l14⟩ b_2 hM hc_15 hr_2
      rw [hull_best_b15] at hM
      refine GS.seq ?_
      refine X.sq ?_
      iterate 3 refine X.q rfl ?_
      refine GS.opsNil ?_
      refine X.cond rfl (fun h_24 => ?_) (fun h_24 => ?_)
      · replace hM := ite_t h_24 hM
        refine GS.skip ?_
        refine GS.seq ?_
        refine GS.block ?_
        refine X.sq ?_
        iterate 2 refine X.q rfl ?_
        refine GS.opsNil ?_
        refine X.join (τ := (List Int)) (fun v => hull_best_j16 i1 v = some b_2) (fun v => ⟨[(0, (ovl 3 v)), (1, (V.i a1)), (2, (V.i b)), (3, (V.fn 139 [(V.ptr 1 0 0)])), (8, (V.i i1))], [.rows 3 [(e_api_Load l)], .rows 1 [(V.sl (List.map V.i form))], .rows 1 [(ovl 4 l2)], obl 1 V.i v, obl 1 V.i l2], 0, none, 53⟩) ?_ ?_
        · intro l12 hM
          replace hM : hull_best_j16 i1 l12 = some b_2 := hM
          unfold hull_best_j16 at hM
          refine GS.endB ?_
          refine GS.region ?_
          refine X.q rfl ?_
          refine X.opR rfl (X.addE rfl rfl) rfl ?_
          refine X.q rfl ?_
          refine GS.opsNil ?_
          have hE := Option.some.inj hM
          exact X.gc [] (hc_15 (w64 (i1 + 1), l12) hE.symm) rfl rfl rfl (gk_cons rfl (rn_ovl rfl) (ga rfl rfl)) (gb9 rfl rfl rfl (gb9 rfl rfl rfl (gb_box rfl rfl (rn_ovl rfl) (gb_obl 9 rfl rfl (fun _ => rfl) (gb_obl 9 rfl rfl (fun _ => rfl) gb_nil)))))
        intro hj_16
        refine GS.block ?_
        refine X.gc [] (X.loop (σ := (Int × (List Int))) (fun v => ⟨[(0, (ovl 3 v.2)), (1, (V.i a1)), (2, (V.i b)), (3, (V.fn 139 [(V.ptr 1 0 0)])), (8, (V.i i1)), (9, (V.i v.1))], [.rows 3 [(e_api_Load l)], .rows 1 [(V.sl (List.map V.i form))], .rows 1 [(ovl 4 l2)], obl 1 V.i v.2, obl 1 V.i l2], 0, none, 53⟩) hM ?_ rfl) rfl rfl rfl (gk_cons rfl (rn_ovl rfl) (ga rfl rfl)) (gb9 rfl rfl rfl (gb9 rfl rfl rfl (gb_box rfl rfl (rn_ovl rfl) (gb_obl 9 rfl rfl (fun _ => rfl) (gb_obl 9 rfl rfl (fun _ => rfl) gb_nil)))))
        rintro ⟨j1, l13⟩ b_3 hM hc_17 hr_3
        rw [hull_best_b17] at hM
        iterate 2 refine GS.seq ?_
        obtain ⟨x12, h_25, hM⟩ := gb_of hM
        obtain ⟨x13, h_26, hM⟩ := gb_of hM
        obtain ⟨y2, h_27, hM⟩ := gb_of hM
        refine X.mid [(0, (ovl 3 l13)), (1, (V.i a1)), (2, (V.i b)), (3, (V.fn 139 [(V.ptr 1 0 0)])), (8, (V.i i1)), (9, (V.i j1)), (34, (V.b ((decide (a1 < j1)) && (decide (y2 < 0)))))] ?_ ?_
        · intro hg
          refine X.split (decide (a1 < j1)) (fun h_28 => ?_) (fun h_28 => ?_)
          · refine X.drawc (by kernel_rfl) rfl ?_
            iterate 4 refine X.cop rfl rfl rfl rfl ?_
            iterate 3 refine X.cop (X.on_t rfl rfl rfl h_28) rfl rfl rfl ?_
            refine X.cop (X.on_t rfl rfl rfl h_28) (X.indexN (h_25 h_28) rfl rfl rfl rfl rfl) rfl rfl ?_
            refine X.cop (X.on_t rfl rfl rfl h_28) (X.loadN (h_25 h_28) rfl rfl rfl rfl) rfl rfl ?_
            iterate 2 refine X.cop (X.on_t rfl rfl rfl h_28) rfl rfl rfl ?_
            refine X.cop (X.on_t rfl rfl rfl h_28) (X.subE rfl rfl) rfl rfl ?_
            refine X.cop (X.on_t rfl rfl rfl h_28) (X.indexN (h_26 h_28) rfl rfl rfl rfl rfl) rfl rfl ?_
            refine X.cop (X.on_t rfl rfl rfl h_28) (X.loadN (h_26 h_28) rfl rfl rfl rfl) rfl rfl ?_
            refine X.ccallF (ok_hull_best_1 (h_27 h_28)) (X.on_t rfl rfl rfl h_28) rfl rfl rfl (m := 9) rfl (.cons (.shut (n := 9) rfl) (.cons (.shut (n := 9) rfl) (.cons (FR.arg ⟨30, rfl⟩) .nil))) ?_
            refine X.cop (X.on_t rfl rfl rfl h_28) rfl rfl rfl ?_
            refine X.cop rfl (X.pickand_t (y := decide (y2 < 0)) rfl h_28 rfl) rfl rfl ?_
            refine X.cnil ?_
            exact X.norm _ hg rfl (sr rfl)
          refine X.drawc (by kernel_rfl) rfl ?_
          iterate 4 refine X.cop rfl rfl rfl rfl ?_
          iterate 12 refine X.coff (X.off_t rfl rfl rfl h_28) rfl rfl ?_
          refine X.cop rfl (X.pickand_f (y := decide (y2 < 0)) rfl h_28 rfl) rfl rfl ?_
          refine X.cnil ?_
          exact X.norm _ hg rfl (sr rfl)
        refine X.cond rfl (fun h_29 => ?_) (fun h_29 => ?_)
        · replace hM := ite_t h_29 hM
          refine GS.skip ?_
          refine GS.seq ?_
          refine GS.block ?_
          obtain ⟨x14, h_30, hM⟩ := bind_of hM
          obtain ⟨x15, h_31, hM⟩ := bind_of hM
          obtain ⟨x16, h_32, hM⟩ := bind_of hM
          obtain ⟨x17, h_33, hM⟩ := bind_of hM
          refine X.draw (by kernel_rfl) ?_
          iterate 4 refine X.dop rfl rfl rfl rfl (by kernel_rfl) rfl rfl ?_
          refine X.dop rfl (X.subE rfl rfl) rfl rfl (by kernel_rfl) rfl rfl ?_
          iterate 2 refine X.dop rfl rfl rfl rfl (by kernel_rfl) rfl rfl ?_
          refine X.dop rfl (X.subE rfl rfl) rfl rfl (by kernel_rfl) rfl rfl ?_
          refine X.dop rfl (X.indexN h_30 rfl rfl rfl rfl rfl) rfl rfl (by kernel_rfl) rfl rfl ?_
          refine X.dop rfl (X.loadN h_30 rfl rfl rfl rfl) rfl rfl (by kernel_rfl) rfl rfl ?_
          iterate 2 refine X.dop rfl rfl rfl rfl (by kernel_rfl) rfl rfl ?_
          refine X.dop rfl (X.indexN h_31 rfl rfl rfl rfl rfl) rfl rfl (by kernel_rfl) rfl rfl ?_
          refine X.dop rfl (X.loadN h_31 rfl rfl rfl rfl) rfl rfl (by kernel_rfl) rfl rfl ?_
          refine X.dop rfl (X.indexN h_32 rfl rfl rfl rfl rfl) rfl rfl (by kernel_rfl) rfl rfl ?_
          refine X.dop0 rfl (X.storeN (b := x14) h_32 rfl rfl rfl rfl rfl rfl rfl) rfl rfl (by kernel_rfl) rfl ?_
          refine X.dop rfl (X.indexN h_33 rfl rfl (X.kev_eq rfl X.ovl_put) rfl rfl) rfl rfl (by kernel_rfl) rfl rfl ?_
          refine X.dop0 rfl (X.storeN (b := x15) h_33 rfl rfl rfl rfl rfl rfl rfl) rfl rfl (by kernel_rfl) rfl ?_
          refine X.dnil ?_
          refine X.norm [(0, (ovl 3 l13)), (1, (V.i a1)), (2, (V.i b)), (3, (V.fn 139 [(V.ptr 1 0 0)])), (8, (V.i i1)), (9, (V.i j1))] ?_ rfl (sr rfl)
          refine GS.endB ?_
          refine GS.region ?_
          refine X.q rfl ?_
          refine X.opR rfl (X.subE rfl rfl) rfl ?_
          refine X.q rfl ?_
          refine GS.opsNil ?_
          have hE := Option.some.inj hM
          exact X.gc [] (hc_17 (w64 (j1 - 1), (put (put l13 j1 x14) (w64 (j1 - 1)) x15)) hE.symm) rfl rfl rfl (gk_cons rfl (rv_eq (Eq.trans X.ovl_put X.ovl_put) (rn_ovl rfl)) (ga rfl rfl)) (gb9 rfl rfl rfl (gb9 rfl rfl rfl (gb_box rfl rfl (rn_ovl rfl) (gb_obl 9 rfl rfl (fun _ => rfl) (gb_obl 9 rfl rfl (fun _ => rfl) gb_nil)))))
        replace hM := ite_f h_29 hM
        refine GS.exit rfl ?_
        obtain ⟨y_3, hM, hy⟩ := map_of hM
        rw [hr_3 _ hy.symm] at hM
        exact X.gc [] (hj_16 l13 hM) rfl rfl rfl (gk_cons rfl (rn_ovl rfl) (ga rfl rfl)) (gb9 rfl rfl rfl (gb9 rfl rfl rfl (gb_box rfl rfl (rn_ovl rfl) (gb_obl 9 rfl rfl (fun _ => rfl) (gb_obl 9 rfl rfl (fun _ => rfl) gb_nil)))))
      replace hM := ite_f h_24 hM
      refine GS.exit rfl ?_
      obtain ⟨_, h_34, hM⟩ := bind_of hM
      replace h_34 := sameO_of h_34
      refine GS.nil ⟨_, rfl, ?_⟩
      refine X.norm (H' := [.rows 3 [(e_api_Load l)], .rows 1 [(V.sl (List.map V.i form))], .rows 1 [(ovl 4 l2)], obl 1 V.i l14, obl 1 V.i l2]) [(0, (ovl 3 l14)), (1, (V.i (l1.length : Int))), (2, (V.fn 139 [(V.ptr 1 0 0)])), (6, (V.i 20)), (8, (V.i b))] ?_ rfl (X.sub_eq rfl (X.ovlz_len h_34) (sr rfl))
      obtain ⟨y_2, hM, hy⟩ := map_of hM
      rw [hr_2 _ hy.symm] at hM
      exact X.gc [] (hj_14 l14 hM) rfl rfl rfl (gk_cons rfl (rn_ovl rfl) (ga rfl rfl)) (gb9 rfl rfl rfl (gb9 rfl rfl rfl (gb_box rfl rfl (rn_ovl rfl) (gb_obl 9 rfl rfl (fun _ => rfl) (gb_obl 9 rfl rfl (fun _ => rfl) gb_nil)))))
    replace hM := ite_f h_23 hM
    refine GS.exit rfl ?_
    obtain ⟨y_1, hM, hy⟩ := map_of hM
    rw [hr_1 _ hy.symm] at hM
    exact X.gc [] (hj_5 (a1, l15) hM) rfl rfl rfl (gk_cons rfl (rn_ovl rfl) (ga rfl rfl)) (gb9 rfl rfl rfl (gb9 rfl rfl rfl (gb_box rfl rfl (rn_ovl rfl) (gb_obl 9 rfl rfl (fun _ => rfl) (gb_obl 9 rfl rfl (fun _ => rfl) gb_nil)))))
  intro hj_1
  refine GS.block ?_
  refine X.gc [some 0, some 1, some 2, none, none] (X.loop (σ := (Int × (List Int) × (List Int))) (fun v => ⟨[(2, (V.i total)), (3, (V.ptr 0 0 0)), (4, (V.ptr 1 0 0)), (7, (V.ptr 2 0 0)), (8, (ovl 3 v.2.1)), (16, (V.sl (List.map e_api_Span l.Holds))), (17, (V.i (l.Holds.length : Int))), (18, (V.i v.1))], [.rows 3 [(e_api_Load l)], .rows 1 [(V.sl (List.map V.i form))], .rows 1 [(ovl 4 v.2.2)], obl 1 V.i v.2.1, obl 1 V.i v.2.2], 0, none, 52⟩) hM ?_ rfl) rfl rfl rfl (ga rfl rfl) (gb9 rfl rfl rfl (gb9 rfl rfl rfl (gb9 rfl rfl rfl (gb_pad' rfl (gb_pad' rfl gb_nil)))))
  rintro ⟨x19, l18, l19⟩ b_1 hM hc_18 hr_1
  rw [hull_best_b18] at hM
  refine X.sq ?_
  refine X.q rfl ?_
  refine GS.opsNil ?_
  refine GS.seq ?_
  refine X.cond rfl (fun h_35 => ?_) (fun h_35 => ?_)
  · replace hM := ite_t h_35 hM
    refine GS.skip ?_
    refine GS.seq ?_
    refine GS.block ?_
    refine GS.seq ?_
    obtain ⟨x18, h_36, hM⟩ := bind_of hM
    refine GS.region ?_
    refine X.q rfl ?_
    refine X.opR rfl (X.indexF (f := e_api_Span) h_36 (fun _ => rfl) rfl rfl rfl rfl) rfl ?_
    refine X.opR rfl (X.loadF h_36 rfl rfl rfl) rfl ?_
    refine X.opW (H' := [.rows 3 [(e_api_Load l)], .rows 1 [(V.sl (List.map V.i form))], .rows 1 [(ovl 4 l19)], obl 1 V.i l18, obl 1 V.i l19, .rows 2 [(V.agg [(V.i 0), (V.i 0)])]]) rfl rfl rfl rfl ?_
    refine X.q rfl ?_
    refine X.op0W (H' := [.rows 3 [(e_api_Load l)], .rows 1 [(V.sl (List.map V.i form))], .rows 1 [(ovl 4 l19)], obl 1 V.i l18, obl 1 V.i l19, .rows 2 [(e_api_Span x18)]]) rfl rfl rfl ?_
    refine GS.opsNil ?_
    obtain ⟨l16, h_37, hM⟩ := bind_of hM
    obtain ⟨l17, h_38, hM⟩ := bind_of hM
    refine GS.region ?_
    refine X.opR rfl (v := (ovl 4 l19)) (by rcases X.ovl_or (z := true) 4 l19 with h0 | ⟨n0, h0⟩ <;> simp only [h0] <;> rfl) rfl ?_
    iterate 2 refine X.q rfl ?_
    refine X.opW (H' := [.rows 3 [(e_api_Load l)], .rows 1 [(V.sl (List.map V.i form))], .rows 1 [(ovl 4 l19)], obl 1 V.i l18, obl 1 V.i l19, .rows 2 [(e_api_Span x18)], .rows 1 (List.map V.i ([x18.Lo]))]) rfl rfl rfl rfl ?_
    refine X.appN (f := V.i) h_37 (fun _ => rfl) (by rfl) (by rfl) (by rfl) (by rfl) (by rfl) (by rfl) (by rfl) (by rfl) (by rfl) (by rfl) (by rfl) (by exact rfl) (by rfl) (by rfl) ?_
    iterate 2 refine X.q rfl ?_
    refine X.opW (H' := [.rows 3 [(e_api_Load l)], .rows 1 [(V.sl (List.map V.i form))], .rows 1 [(ovl 4 l19)], obl 1 V.i l18, .dead, .rows 2 [(e_api_Span x18)], .rows 1 (List.map V.i ([x18.Lo])), .rows 1 (List.map V.i l16), .rows 1 (List.map V.i ([x19]))]) rfl rfl rfl rfl ?_
    refine X.appN (f := V.i) h_38 (fun _ => rfl) (by rfl) (by rfl) (by rfl) (by rfl) (by rfl) (by rfl) (by rfl) (by rfl) (by rfl) (by rfl) (by rfl) (by exact rfl) (by rfl) (by rfl) ?_
    refine X.op0W (H' := [.rows 3 [(e_api_Load l)], .rows 1 [(V.sl (List.map V.i form))], .rows 1 [(V.osl 7 0 (List.length l16))], .dead, .dead, .rows 2 [(e_api_Span x18)], .rows 1 (List.map V.i ([x18.Lo])), .rows 1 (List.map V.i l16), .rows 1 (List.map V.i ([x19])), .rows 1 (List.map V.i l17)]) rfl (v := undefV) (wr := [(2, .rows 1 [(V.osl 7 0 (List.length l16))])]) (by rcases X.ovl_or (z := true) 4 l19 with h0 | ⟨n0, h0⟩ <;> simp only [h0] <;> rfl) rfl ?_
    refine X.q rfl ?_
    refine GS.opsNil ?_
    refine GS.endB ?_
    refine GS.region ?_
    refine X.opR rfl (X.addE rfl rfl) rfl ?_
    refine X.q rfl ?_
    refine GS.opsNil ?_
    have hE := Option.some.inj hM
    exact X.gc [some 0, some 1, some 2, some 9, some 7] (hc_18 (w64 (x19 + 1), l17, l16) hE.symm) rfl rfl rfl (gk_cons rfl ⟨9, rfl⟩ (gk_cons rfl ⟨9, rfl⟩ (gk_cons rfl ⟨9, rfl⟩ (gk_cons rfl ⟨9, rfl⟩ (gk_cons rfl (rv_ne (app_ne h_38) rfl) (ga rfl rfl)))))) (gb9 rfl rfl rfl (gb9 rfl rfl rfl (gb_box rfl rfl (rv_ne (app_ne h_37) rfl) (gb_obl' 9 (app_ne h_38) rfl rfl (fun _ => rfl) (gb_obl' 9 (app_ne h_37) rfl rfl (fun _ => rfl) gb_nil)))))
  replace hM := ite_f h_35 hM
  refine GS.exit rfl ?_
  obtain ⟨y_1, hM, hy⟩ := map_of hM
  rw [hr_1 _ hy.symm] at hM
  exact X.gc [some 0, some 1, some 2, some 3, some 4] (hj_1 (l18, l19) hM) rfl rfl rfl (gk_cons rfl ⟨9, rfl⟩ (gk_cons rfl ⟨9, rfl⟩ (gk_cons rfl ⟨9, rfl⟩ (gk_cons rfl ⟨9, rfl⟩ (gk_cons rfl (rn_ovl rfl) gk_nil))))) (gb9 rfl rfl rfl (gb9 rfl rfl rfl (gb_box rfl rfl (rn_ovl rfl) (gb_obl 9 rfl rfl (fun _ => rfl) (gb_obl 9 rfl rfl (fun _ => rfl) gb_nil)))))

theorem ok_hull_bound {l : api_Load} {form : (List Int)} {price : Int} {t : api_Span} {r : Int} (hM : hull_bound l form price t = some r) : Ct Try.prog 99 [(e_api_Load l), (V.sl (List.map V.i form)), (V.i price), (e_api_Span t)] (V.i r) := by
  refine ct_of_gs CC_ok rfl ?_
  unfold hull_bound at hM
  refine X.sq ?_
  iterate 2 refine X.opW rfl rfl rfl rfl ?_
  refine X.q rfl ?_
  refine X.nq ?_
  iterate 3 refine X.q rfl ?_
  refine X.opR rfl (X.mulE rfl rfl) rfl ?_
  iterate 3 refine X.q rfl ?_
  refine X.opR rfl (X.mulE rfl rfl) rfl ?_
  refine X.call (ok_hull_greater_int (w64 (price * t.Lo)) (w64 (price * t.Hi))) rfl rfl rfl (.cons (.shut (n := 9) rfl) (.cons (.shut (n := 9) rfl) .nil)) ?_
  refine X.q rfl ?_
  refine GS.opsNil ?_
  refine GS.seq ?_
  refine X.sq ?_
  refine X.q rfl ?_
  refine X.opR rfl (X.lenF rfl rfl rfl) rfl ?_
  refine X.q rfl ?_
  refine GS.opsNil ?_
  refine X.join (τ := Int) (fun v => hull_bound_j1 v = some r) (fun v => ⟨[(9, (V.i v))], [], 0, none, 53⟩) ?_ ?_
  · intro n hM
    replace hM : hull_bound_j1 n = some r := hM
    unfold hull_bound_j1 at hM
    refine X.sq ?_
    iterate 2 refine X.q rfl ?_
    refine GS.opsNil ?_
    have hE := Option.some.inj hM
    subst hE
    exact GS.ret ⟨_, rfl, ⟨30, rfl⟩⟩
  intro hj_1
  refine GS.block ?_
  refine X.gc [some 0] (X.loop (σ := (Int × Int)) (fun v => ⟨[(2, (V.i price)), (4, (V.ptr 0 0 0)), (9, (V.i v.1)), (21, (V.sl (List.map V.i form))), (22, (V.i (form.length : Int))), (23, (V.i v.2))], [.rows 3 [(e_api_Load l)]], 0, none, 53⟩) hM ?_ rfl) rfl rfl rfl (ga rfl rfl) (gb9 rfl rfl rfl gb_nil)
  rintro ⟨n1, x3⟩ b_1 hM hc_2 hr_1
  rw [hull_bound_b2] at hM
  refine X.sq ?_
  refine X.q rfl ?_
  refine GS.opsNil ?_
  refine GS.seq ?_
  refine X.cond rfl (fun h_1 => ?_) (fun h_1 => ?_)
  · replace hM := ite_t h_1 hM
    refine GS.skip ?_
    refine GS.seq ?_
    refine GS.block ?_
    refine GS.seq ?_
    obtain ⟨x, h_2, hM⟩ := bind_of hM
    refine GS.region ?_
    refine X.q rfl ?_
    refine X.opR rfl (X.indexF (f := V.i) h_2 (fun _ => rfl) rfl rfl rfl rfl) rfl ?_
    refine X.opR rfl (X.loadF h_2 rfl rfl rfl) rfl ?_
    iterate 2 refine X.q rfl ?_
    refine GS.opsNil ?_
    obtain ⟨x1, h_3, hM⟩ := bind_of hM
    obtain ⟨x2, h_4, hM⟩ := bind_of hM
    refine X.drawc (by kernel_rfl) rfl ?_
    iterate 3 refine X.cop rfl rfl rfl rfl ?_
    refine X.cop rfl (X.subE rfl rfl) rfl rfl ?_
    iterate 3 refine X.cop rfl rfl rfl rfl ?_
    refine X.cop rfl (X.indexF (f := e_api_Span) h_3 (fun _ => rfl) rfl rfl rfl rfl) rfl rfl ?_
    refine X.cop rfl rfl rfl rfl ?_
    refine X.cop rfl (X.loadF h_3 rfl rfl rfl) rfl rfl ?_
    refine X.cop rfl (X.mulE rfl rfl) rfl rfl ?_
    iterate 2 refine X.cop rfl rfl rfl rfl ?_
    refine X.cop rfl (X.subE rfl rfl) rfl rfl ?_
    iterate 3 refine X.cop rfl rfl rfl rfl ?_
    refine X.cop rfl (X.indexF (f := e_api_Span) h_4 (fun _ => rfl) rfl rfl rfl rfl) rfl rfl ?_
    refine X.cop rfl rfl rfl rfl ?_
    refine X.cop rfl (X.loadF h_4 rfl rfl rfl) rfl rfl ?_
    refine X.cop rfl (X.mulE rfl rfl) rfl rfl ?_
    refine X.ccall (ok_hull_greater_int (w64 ((w64 (x - price)) * x1.Lo)) (w64 ((w64 (x - price)) * x2.Hi))) rfl rfl rfl rfl (.cons (.shut (n := 9) rfl) (.cons (.shut (n := 9) rfl) .nil)) ?_
    refine X.cop rfl (X.addE rfl rfl) rfl rfl ?_
    refine X.cop rfl rfl rfl rfl ?_
    refine X.cnil ?_
    refine X.norm [(2, (V.i price)), (4, (V.ptr 0 0 0)), (9, (V.i (w64 (n1 + (hull_greater_int (w64 ((w64 (x - price)) * x1.Lo)) (w64 ((w64 (x - price)) * x2.Hi))))))), (21, (V.sl (List.map V.i form))), (22, (V.i (form.length : Int))), (23, (V.i x3))] ?_ rfl (sr rfl)
    refine GS.endB ?_
    refine GS.region ?_
    refine X.opR rfl (X.addE rfl rfl) rfl ?_
    refine X.q rfl ?_
    refine GS.opsNil ?_
    have hE := Option.some.inj hM
    exact X.gc [some 0] (hc_2 (w64 (n1 + (hull_greater_int (w64 ((w64 (x - price)) * x1.Lo)) (w64 ((w64 (x - price)) * x2.Hi)))), w64 (x3 + 1)) hE.symm) rfl rfl rfl (ga rfl rfl) (gb9 rfl rfl rfl gb_nil)
  replace hM := ite_f h_1 hM
  refine GS.exit rfl ?_
  obtain ⟨y_1, hM, hy⟩ := map_of hM
  rw [hr_1 _ hy.symm] at hM
  exact X.gc [] (hj_1 n1 hM) rfl rfl rfl (ga rfl rfl) (gb_nil)

theorem ok_hull_priced {l : api_Load} {form : (List Int)} {t : api_Span} {r : Int} (hM : hull_priced l form t = some r) : Ct Try.prog 94 [(e_api_Load l), (V.sl (List.map V.i form)), (e_api_Span t)] (V.i r) := by
  refine ct_of_gs CC_ok rfl ?_
  unfold hull_priced at hM
  refine X.sq ?_
  iterate 2 refine X.opW rfl rfl rfl rfl ?_
  refine X.q rfl ?_
  refine X.nq ?_
  refine X.q rfl ?_
  refine GS.opsNil ?_
  refine GS.seq ?_
  refine X.sq ?_
  refine X.q rfl ?_
  refine X.opR rfl (X.lenF rfl rfl rfl) rfl ?_
  refine X.q rfl ?_
  refine GS.opsNil ?_
  refine X.join (τ := Int) (fun v => hull_priced_j1 v = some r) (fun v => ⟨[(7, (V.i v))], [], 0, none, 30⟩) ?_ ?_
  · intro p hM
    replace hM : hull_priced_j1 p = some r := hM
    unfold hull_priced_j1 at hM
    refine X.sq ?_
    iterate 2 refine X.q rfl ?_
    refine GS.opsNil ?_
    have hE := Option.some.inj hM
    subst hE
    exact GS.ret ⟨_, rfl, ⟨30, rfl⟩⟩
  intro hj_1
  refine GS.block ?_
  refine X.gc [some 0, some 1] (X.loop (σ := (Int × Int)) (fun v => ⟨[(1, (V.sl (List.map V.i form))), (3, (V.ptr 0 0 0)), (5, (V.ptr 1 0 0)), (7, (V.i v.1)), (10, (V.sl (List.map V.i form))), (11, (V.i (form.length : Int))), (12, (V.i v.2))], [.rows 3 [(e_api_Load l)], .rows 2 [(e_api_Span t)]], 0, none, 30⟩) hM ?_ rfl) rfl rfl rfl (ga rfl rfl) (gb9 rfl rfl rfl (gb9 rfl rfl rfl gb_nil))
  rintro ⟨p2, x1⟩ b_1 hM hc_2 hr_1
  rw [hull_priced_b2] at hM
  refine X.sq ?_
  refine X.q rfl ?_
  refine GS.opsNil ?_
  refine GS.seq ?_
  refine X.cond rfl (fun h_1 => ?_) (fun h_1 => ?_)
  · replace hM := ite_t h_1 hM
    refine GS.skip ?_
    refine GS.seq ?_
    refine X.join (τ := Int) (fun v => hull_priced_j3 x1 v = some b_1) (fun v => ⟨[(1, (V.sl (List.map V.i form))), (3, (V.ptr 0 0 0)), (5, (V.ptr 1 0 0)), (7, (V.i v)), (10, (V.sl (List.map V.i form))), (11, (V.i (form.length : Int))), (12, (V.i x1))], [.rows 3 [(e_api_Load l)], .rows 2 [(e_api_Span t)]], 0, none, 30⟩) ?_ ?_
    · intro p1 hM
      replace hM : hull_priced_j3 x1 p1 = some b_1 := hM
      unfold hull_priced_j3 at hM
      refine GS.region ?_
      refine X.opR rfl (X.addE rfl rfl) rfl ?_
      refine X.q rfl ?_
      refine GS.opsNil ?_
      have hE := Option.some.inj hM
      exact X.gc [some 0, some 1] (hc_2 (p1, w64 (x1 + 1)) hE.symm) rfl rfl rfl (ga rfl rfl) (gb9 rfl rfl rfl (gb9 rfl rfl rfl gb_nil))
    intro hj_3
    refine GS.block ?_
    refine GS.seq ?_
    obtain ⟨x, h_2, hM⟩ := bind_of hM
    refine GS.region ?_
    refine X.opR rfl (X.indexF (f := V.i) h_2 (fun _ => rfl) rfl rfl rfl rfl) rfl ?_
    refine X.opR rfl (X.loadF h_2 rfl rfl rfl) rfl ?_
    refine X.q rfl ?_
    refine GS.opsNil ?_
    refine GS.seq ?_
    obtain ⟨y, h_3, hM⟩ := bind_of hM
    obtain ⟨y1, h_4, hM⟩ := bind_of hM
    refine X.drawc (by kernel_rfl) rfl ?_
    iterate 4 refine X.cop rfl rfl rfl rfl ?_
    refine X.ccall (ok_hull_bound h_3) rfl rfl rfl rfl (.cons (.shut (n := 9) rfl) (.cons (.shut (n := 9) rfl) (.cons (.shut (n := 9) rfl) (.cons (.shut (n := 9) rfl) .nil)))) ?_
    iterate 4 refine X.cop rfl rfl rfl rfl ?_
    refine X.ccall (ok_hull_bound h_4) rfl rfl rfl rfl (.cons (.shut (n := 9) rfl) (.cons (.shut (n := 9) rfl) (.cons (.shut (n := 9) rfl) (.cons (.shut (n := 9) rfl) .nil)))) ?_
    refine X.cop rfl rfl rfl rfl ?_
    refine X.cnil ?_
    refine X.norm [(1, (V.sl (List.map V.i form))), (3, (V.ptr 0 0 0)), (5, (V.ptr 1 0 0)), (7, (V.i p2)), (9, (V.i x)), (10, (V.sl (List.map V.i form))), (11, (V.i (form.length : Int))), (12, (V.i x1)), (26, (V.b (decide (y < y1))))] ?_ rfl (sr rfl)
    refine X.cond rfl (fun h_5 => ?_) (fun h_5 => ?_)
    · replace hM := ite_t h_5 hM
      refine GS.region ?_
      iterate 2 refine X.q rfl ?_
      refine GS.opsNil ?_
      refine GS.endB ?_
      exact X.gc [some 0, some 1] (hj_3 x hM) rfl rfl rfl (ga rfl rfl) (gb9 rfl rfl rfl (gb9 rfl rfl rfl gb_nil))
    replace hM := ite_f h_5 hM
    refine GS.skip ?_
    refine GS.endB ?_
    exact X.gc [some 0, some 1] (hj_3 p2 hM) rfl rfl rfl (ga rfl rfl) (gb9 rfl rfl rfl (gb9 rfl rfl rfl gb_nil))
  replace hM := ite_f h_1 hM
  refine GS.exit rfl ?_
  obtain ⟨y_1, hM, hy⟩ := map_of hM
  rw [hr_1 _ hy.symm] at hM
  exact X.gc [] (hj_1 p2 hM) rfl rfl rfl (ga rfl rfl) (gb_nil)

theorem ok_hull_Most {s : api_Ship} {l : api_Load} {form : (List Int)} {r : api_Price × Int} (hM : hull_Most s l form = some r) : Ct Try.prog 29 [(e_api_Ship s), (e_api_Load l), (V.sl (List.map V.i form))] (V.tup [(e_api_Price r.1), (V.i r.2)]) := by
  refine ct_of_gs CC_ok rfl ?_
  unfold hull_Most at hM
  refine X.sq ?_
  iterate 3 refine X.opW rfl rfl rfl rfl ?_
  refine X.q rfl ?_
  refine GS.opsNil ?_
  iterate 2 refine GS.seq ?_
  obtain ⟨y, h_1, hM⟩ := bind_of hM
  refine GS.region ?_
  iterate 3 refine X.q rfl ?_
  refine X.call (ok_hull_asked h_1) rfl rfl rfl (.cons (.shut (n := 9) rfl) (.cons (.shut (n := 9) rfl) (.cons (.shut (n := 9) rfl) .nil))) ?_
  refine X.q rfl ?_
  refine X.nq ?_
  iterate 2 refine X.q rfl ?_
  refine GS.opsNil ?_
  refine X.cond rfl (fun h_2 => ?_) (fun h_2 => ?_)
  · replace hM := ite_t h_2 hM
    refine X.sq ?_
    iterate 2 refine X.q rfl ?_
    refine X.op0W rfl rfl rfl ?_
    refine X.q rfl ?_
    refine GS.opsNil ?_
    have hE := Option.some.inj hM
    subst hE
    exact GS.ret ⟨_, rfl, ⟨30, rfl⟩⟩
  replace hM := ite_f h_2 hM
  refine GS.skip ?_
  refine GS.seq ?_
  obtain ⟨y1, h_3, hM⟩ := bind_of hM
  refine GS.region ?_
  refine X.q rfl ?_
  refine X.call (ok_hull_totals h_3) rfl rfl rfl (.cons (.shut (n := 9) rfl) .nil) ?_
  iterate 2 refine X.q rfl ?_
  refine GS.opsNil ?_
  refine GS.seq ?_
  refine X.sq ?_
  refine X.q rfl ?_
  refine X.opR rfl (X.lenF rfl rfl rfl) rfl ?_
  refine X.q rfl ?_
  refine GS.opsNil ?_
  refine X.join (τ := Int) (fun v => hull_Most_j1 l form v = some r) (fun v => ⟨[(2, (V.sl (List.map V.i form))), (4, (V.ptr 0 0 0)), (6, (V.ptr 1 0 0)), (9, (V.i v))], [.rows 3 [(e_api_Load l)], .rows 3 [(V.agg [(V.i 0), V.nil, (V.i 0)])]], 0, none, 70⟩) ?_ ?_
  · intro up hM
    replace hM : hull_Most_j1 l form up = some r := hM
    unfold hull_Most_j1 at hM
    refine GS.seq ?_
    obtain ⟨y2, h_4, hM⟩ := bind_of hM
    obtain ⟨y3, h_5, hM⟩ := bind_of hM
    refine X.drawc (by kernel_rfl) rfl ?_
    iterate 4 refine X.cop rfl rfl rfl rfl ?_
    refine X.ccall (ok_hull_totals h_4) rfl rfl rfl rfl (.cons (.shut (n := 9) rfl) .nil) ?_
    refine X.cop rfl rfl rfl rfl ?_
    refine X.cop rfl (X.minE rfl rfl) rfl rfl ?_
    refine X.ccall (ok_hull_best h_5) rfl rfl rfl rfl (.cons (.shut (n := 9) rfl) (.cons (.shut (n := 9) rfl) (.cons (.shut (n := 9) rfl) .nil))) ?_
    refine X.cop rfl rfl rfl rfl ?_
    refine X.cnil ?_
    refine X.norm [(2, (V.sl (List.map V.i form))), (4, (V.ptr 0 0 0)), (6, (V.ptr 1 0 0)), (12, (V.sl (List.map V.i y3)))] ?_ rfl (sr rfl)
    refine GS.seq ?_
    obtain ⟨y4, h_6, hM⟩ := bind_of hM
    obtain ⟨y5, h_7, hM⟩ := bind_of hM
    refine X.draw (by kernel_rfl) ?_
    iterate 2 refine X.dop rfl rfl rfl rfl (by kernel_rfl) rfl rfl ?_
    refine X.dcall (ok_hull_value h_6) rfl rfl rfl (by kernel_rfl) rfl (.cons (.shut (n := 9) rfl) (.cons (.shut (n := 9) rfl) .nil)) ?_
    iterate 5 refine X.dop rfl rfl rfl rfl (by kernel_rfl) rfl rfl ?_
    refine X.dcall (ok_hull_priced h_7) rfl rfl rfl (by kernel_rfl) rfl (.cons (.shut (n := 9) rfl) (.cons (.shut (n := 9) rfl) (.cons (.shut (n := 9) rfl) .nil))) ?_
    refine X.dop rfl rfl rfl rfl (by kernel_rfl) rfl rfl ?_
    refine X.dop0 rfl rfl rfl rfl (by kernel_rfl) rfl ?_
    refine X.dop rfl rfl rfl rfl (by kernel_rfl) rfl rfl ?_
    refine X.dnil ?_
    refine X.norm [(6, (V.ptr 1 0 0)), (7, (V.i 0))] ?_ rfl (sr rfl)
    have hE := Option.some.inj hM
    subst hE
    exact GS.ret ⟨_, rfl, ⟨30, rfl⟩⟩
  intro hj_1
  refine GS.block ?_
  refine X.gc [some 1, some 2] (X.loop (σ := (Int × Int)) (fun v => ⟨[(2, (V.sl (List.map V.i form))), (4, (V.ptr 0 0 0)), (6, (V.ptr 1 0 0)), (9, (V.i v.1)), (24, (V.sl (List.map V.i form))), (25, (V.i (form.length : Int))), (26, (V.i v.2))], [.rows 3 [(e_api_Load l)], .rows 3 [(V.agg [(V.i 0), V.nil, (V.i 0)])]], 0, none, 70⟩) hM ?_ rfl) rfl rfl rfl (ga rfl rfl) (gb9 rfl rfl rfl (gb9 rfl rfl rfl gb_nil))
  rintro ⟨up2, x3⟩ b_1 hM hc_2 hr_1
  rw [hull_Most_b2] at hM
  refine X.sq ?_
  refine X.q rfl ?_
  refine GS.opsNil ?_
  refine GS.seq ?_
  refine X.cond rfl (fun h_8 => ?_) (fun h_8 => ?_)
  · replace hM := ite_t h_8 hM
    refine GS.skip ?_
    refine GS.seq ?_
    refine X.join (τ := Int) (fun v => hull_Most_j3 x3 v = some b_1) (fun v => ⟨[(2, (V.sl (List.map V.i form))), (4, (V.ptr 0 0 0)), (6, (V.ptr 1 0 0)), (9, (V.i v)), (24, (V.sl (List.map V.i form))), (25, (V.i (form.length : Int))), (26, (V.i x3))], [.rows 3 [(e_api_Load l)], .rows 3 [(V.agg [(V.i 0), V.nil, (V.i 0)])]], 0, none, 70⟩) ?_ ?_
    · intro up1 hM
      replace hM : hull_Most_j3 x3 up1 = some b_1 := hM
      unfold hull_Most_j3 at hM
      refine GS.region ?_
      refine X.opR rfl (X.addE rfl rfl) rfl ?_
      refine X.q rfl ?_
      refine GS.opsNil ?_
      have hE := Option.some.inj hM
      exact X.gc [some 0, some 1] (hc_2 (up1, w64 (x3 + 1)) hE.symm) rfl rfl rfl (ga rfl rfl) (gb9 rfl rfl rfl (gb9 rfl rfl rfl gb_nil))
    intro hj_3
    refine GS.block ?_
    refine GS.seq ?_
    obtain ⟨x, h_9, hM⟩ := bind_of hM
    refine GS.region ?_
    refine X.q rfl ?_
    refine X.opR rfl (X.indexF (f := V.i) h_9 (fun _ => rfl) rfl rfl rfl rfl) rfl ?_
    refine X.opR rfl (X.loadF h_9 rfl rfl rfl) rfl ?_
    iterate 2 refine X.q rfl ?_
    refine X.nq ?_
    iterate 2 refine X.q rfl ?_
    refine GS.opsNil ?_
    refine X.cond rfl (fun h_10 => ?_) (fun h_10 => ?_)
    · replace hM := ite_t h_10 hM
      obtain ⟨x1, h_11, hM⟩ := bind_of hM
      obtain ⟨y6, h_12, hM⟩ := bind_of hM
      obtain ⟨y7, h_13, hM⟩ := bind_of hM
      obtain ⟨x2, h_14, hM⟩ := bind_of hM
      refine X.drawc (by kernel_rfl) rfl ?_
      iterate 4 refine X.cop rfl rfl rfl rfl ?_
      refine X.cop rfl (X.indexF (f := e_api_Span) h_11 (fun _ => rfl) rfl rfl rfl rfl) rfl rfl ?_
      refine X.cop rfl rfl rfl rfl ?_
      refine X.cop rfl (X.loadF h_11 rfl rfl rfl) rfl rfl ?_
      iterate 3 refine X.cop rfl rfl rfl rfl ?_
      refine X.ccall (ok_hull_totals h_12) rfl rfl rfl rfl (.cons (.shut (n := 9) rfl) .nil) ?_
      refine X.cop rfl rfl rfl rfl ?_
      refine X.ccall (ok_hull_best h_13) rfl rfl rfl rfl (.cons (.shut (n := 9) rfl) (.cons (.shut (n := 9) rfl) (.cons (.shut (n := 9) rfl) .nil))) ?_
      refine X.cop rfl rfl rfl rfl ?_
      refine X.cop rfl (X.indexF (f := V.i) h_14 (fun _ => rfl) rfl rfl rfl rfl) rfl rfl ?_
      refine X.cop rfl (X.loadF h_14 rfl rfl rfl) rfl rfl ?_
      refine X.cop rfl (X.subE rfl rfl) rfl rfl ?_
      refine X.cop rfl (X.addE rfl rfl) rfl rfl ?_
      refine X.cop rfl rfl rfl rfl ?_
      refine X.cnil ?_
      refine X.norm [(2, (V.sl (List.map V.i form))), (4, (V.ptr 0 0 0)), (6, (V.ptr 1 0 0)), (9, (V.i (w64 (up2 + (w64 (x1.Hi - x2)))))), (24, (V.sl (List.map V.i form))), (25, (V.i (form.length : Int))), (26, (V.i x3))] ?_ rfl (sr rfl)
      refine GS.endB ?_
      exact X.gc [some 0, some 1] (hj_3 (w64 (up2 + (w64 (x1.Hi - x2)))) hM) rfl rfl rfl (ga rfl rfl) (gb9 rfl rfl rfl (gb9 rfl rfl rfl gb_nil))
    replace hM := ite_f h_10 hM
    refine GS.skip ?_
    refine GS.endB ?_
    exact X.gc [some 0, some 1] (hj_3 up2 hM) rfl rfl rfl (ga rfl rfl) (gb9 rfl rfl rfl (gb9 rfl rfl rfl gb_nil))
  replace hM := ite_f h_8 hM
  refine GS.exit rfl ?_
  obtain ⟨y_1, hM, hy⟩ := map_of hM
  rw [hr_1 _ hy.symm] at hM
  exact X.gc [some 0, some 1] (hj_1 up2 hM) rfl rfl rfl (ga rfl rfl) (gb9 rfl rfl rfl (gb9 rfl rfl rfl gb_nil))

theorem ok_hull_Narrow {s : api_Ship} {l : api_Load} {r : api_Load × Int} (hM : hull_Narrow s l = some r) : Ct Try.prog 21 [(e_api_Ship s), (e_api_Load l)] (V.tup [(e_api_Load r.1), (V.i r.2)]) := by
  refine ct_of_gs CC_ok rfl ?_
  unfold hull_Narrow at hM
  refine X.sq ?_
  iterate 3 refine X.opW rfl rfl rfl rfl ?_
  refine X.q rfl ?_
  refine GS.opsNil ?_
  iterate 2 refine GS.seq ?_
  obtain ⟨y, h_1, hM⟩ := bind_of hM
  refine GS.region ?_
  iterate 2 refine X.q rfl ?_
  refine X.call (ok_hull_CheckLoad h_1) rfl rfl rfl (.cons (.shut (n := 9) rfl) (.cons (.shut (n := 9) rfl) .nil)) ?_
  refine X.q rfl ?_
  refine X.nq ?_
  iterate 2 refine X.q rfl ?_
  refine GS.opsNil ?_
  refine X.cond rfl (fun h_2 => ?_) (fun h_2 => ?_)
  · replace hM := ite_t h_2 hM
    refine X.sq ?_
    iterate 2 refine X.q rfl ?_
    refine X.op0W rfl rfl rfl ?_
    refine X.q rfl ?_
    refine GS.opsNil ?_
    have hE := Option.some.inj hM
    subst hE
    exact GS.ret ⟨_, rfl, ⟨30, rfl⟩⟩
  replace hM := ite_f h_2 hM
  refine GS.skip ?_
  refine GS.seq ?_
  obtain ⟨y1, h_3, hM⟩ := bind_of hM
  refine GS.region ?_
  iterate 2 refine X.q rfl ?_
  refine X.call (ok_hull_sums h_3) rfl rfl rfl (.cons (.shut (n := 9) rfl) .nil) ?_
  refine X.opW (H' := [.rows 11 [(e_api_Ship s)], .rows 3 [(e_api_Load l)], .rows 3 [(V.agg [V.nil, (V.i 0), (V.i 0)])], .rows 2 [(V.agg [(V.i 0), (V.i 0)])]]) rfl rfl rfl rfl ?_
  refine X.op0W (H' := [.rows 11 [(e_api_Ship s)], .rows 3 [(e_api_Load l)], .rows 3 [(V.agg [V.nil, (V.i 0), (V.i 0)])], .rows 2 [(e_api_Span y1)]]) rfl rfl rfl ?_
  refine GS.opsNil ?_
  refine GS.seq ?_
  obtain ⟨y2, h_4, hM⟩ := bind_of hM
  refine GS.region ?_
  refine X.q rfl ?_
  refine X.call (ok_hull_totals h_4) rfl rfl rfl (.cons (.shut (n := 9) rfl) .nil) ?_
  refine X.q rfl ?_
  refine X.opW (H' := [.rows 11 [(e_api_Ship s)], .rows 3 [(e_api_Load l)], .rows 3 [(V.agg [V.nil, (V.i 0), (V.i 0)])], .rows 2 [(e_api_Span y1)], .rows 3 [(V.agg [V.nil, (V.i 0), (V.i 0)])]]) rfl rfl rfl rfl ?_
  refine X.op0W (H' := [.rows 11 [(e_api_Ship s)], .rows 3 [(e_api_Load l)], .rows 3 [(V.agg [V.nil, (V.i 0), (V.i 0)])], .rows 2 [(e_api_Span y1)], .rows 3 [(V.agg [V.nil, (V.i y2.Lo), (V.i y2.Hi)])]]) rfl rfl rfl ?_
  refine GS.opsNil ?_
  refine GS.seq ?_
  refine X.sq ?_
  iterate 2 refine X.q rfl ?_
  refine X.opR rfl (X.lenF rfl rfl rfl) rfl ?_
  refine X.q rfl ?_
  refine GS.opsNil ?_
  refine X.join (τ := (List api_Span)) (fun v => hull_Narrow_j1 y2 v = some r) (fun v => ⟨[(4, (V.ptr 0 0 0)), (8, (V.ptr 1 0 0))], [.rows 3 [(V.agg [V.nil, (V.i 0), (V.i 0)])], .rows 3 [(V.agg [(ovl 2 v), (V.i y2.Lo), (V.i y2.Hi)])], obl 2 e_api_Span v], 0, none, 63⟩) ?_ ?_
  · intro l1 hM
    replace hM : hull_Narrow_j1 y2 l1 = some r := hM
    unfold hull_Narrow_j1 at hM
    refine X.sq ?_
    refine X.q rfl ?_
    refine X.op0W rfl (v := undefV) (wr := [(0, .rows 3 [(V.agg [(ovl 2 l1), (V.i y2.Lo), (V.i y2.Hi)])])]) (by rcases X.ovl_or (z := true) 2 l1 with h0 | ⟨n0, h0⟩ <;> simp only [h0] <;> rfl) rfl ?_
    refine X.q rfl ?_
    refine GS.opsNil ?_
    have hE := Option.some.inj hM
    subst hE
    exact GS.ret ⟨_, rfl, FR.tup (.cons (FR.agg (.cons (FR.ovl (f := e_api_Span) (l := l1) 9 rfl rfl (fun _ => rfl)) (.cons ⟨30, rfl⟩ (.cons ⟨30, rfl⟩ .nil)))) (.cons ⟨30, rfl⟩ .nil))⟩
  intro hj_1
  refine GS.block ?_
  refine X.gc [some 1, some 2, some 3, some 4, none] (X.loop (σ := (Int × (List api_Span))) (fun v => ⟨[(3, (V.ptr 0 0 0)), (4, (V.ptr 1 0 0)), (7, (V.ptr 2 0 0)), (8, (V.ptr 3 0 0)), (25, (V.sl (List.map e_api_Span l.Holds))), (26, (V.i (l.Holds.length : Int))), (27, (V.i v.1))], [.rows 3 [(e_api_Load l)], .rows 3 [(V.agg [V.nil, (V.i 0), (V.i 0)])], .rows 2 [(e_api_Span y1)], .rows 3 [(V.agg [(ovl 4 v.2), (V.i y2.Lo), (V.i y2.Hi)])], obl 2 e_api_Span v.2], 0, none, 63⟩) hM ?_ rfl) rfl rfl rfl (ga rfl rfl) (gb9 rfl rfl rfl (gb9 rfl rfl rfl (gb9 rfl rfl rfl (gb9 rfl rfl rfl (gb_pad' rfl gb_nil)))))
  rintro ⟨x1, l3⟩ b_1 hM hc_2 hr_1
  rw [hull_Narrow_b2] at hM
  refine X.sq ?_
  refine X.q rfl ?_
  refine GS.opsNil ?_
  refine GS.seq ?_
  refine X.cond rfl (fun h_5 => ?_) (fun h_5 => ?_)
  · replace hM := ite_t h_5 hM
    refine GS.skip ?_
    refine GS.seq ?_
    refine GS.block ?_
    refine GS.seq ?_
    obtain ⟨x, h_6, hM⟩ := bind_of hM
    refine GS.region ?_
    refine X.opR rfl (X.indexF (f := e_api_Span) h_6 (fun _ => rfl) rfl rfl rfl rfl) rfl ?_
    refine X.opR rfl (X.loadF h_6 rfl rfl rfl) rfl ?_
    refine X.opW (H' := [.rows 3 [(e_api_Load l)], .rows 3 [(V.agg [V.nil, (V.i 0), (V.i 0)])], .rows 2 [(e_api_Span y1)], .rows 3 [(V.agg [(ovl 4 l3), (V.i y2.Lo), (V.i y2.Hi)])], obl 2 e_api_Span l3, .rows 2 [(V.agg [(V.i 0), (V.i 0)])]]) rfl rfl rfl rfl ?_
    refine X.op0W (H' := [.rows 3 [(e_api_Load l)], .rows 3 [(V.agg [V.nil, (V.i 0), (V.i 0)])], .rows 2 [(e_api_Span y1)], .rows 3 [(V.agg [(ovl 4 l3), (V.i y2.Lo), (V.i y2.Hi)])], obl 2 e_api_Span l3, .rows 2 [(e_api_Span x)]]) rfl rfl rfl ?_
    refine GS.opsNil ?_
    obtain ⟨l2, h_7, hM⟩ := bind_of hM
    refine X.draw (by kernel_rfl) ?_
    iterate 11 refine X.dop rfl rfl rfl rfl (by kernel_rfl) rfl rfl ?_
    iterate 2 refine X.dop rfl (X.subE rfl rfl) rfl rfl (by kernel_rfl) rfl rfl ?_
    refine X.dcall (ok_hull_greater_int x.Lo (w64 (l.All.Lo - (w64 (y1.Hi - x.Hi))))) rfl rfl rfl (by kernel_rfl) rfl (.cons (.shut (n := 9) rfl) (.cons (.shut (n := 9) rfl) .nil)) ?_
    iterate 9 refine X.dop rfl rfl rfl rfl (by kernel_rfl) rfl rfl ?_
    iterate 2 refine X.dop rfl (X.subE rfl rfl) rfl rfl (by kernel_rfl) rfl rfl ?_
    refine X.dop rfl (X.minE rfl rfl) rfl rfl (by kernel_rfl) rfl rfl ?_
    iterate 2 refine X.dop rfl rfl rfl rfl (by kernel_rfl) rfl rfl ?_
    refine X.dappN (f := e_api_Span) h_7 (fun _ => rfl) (by rfl) (by rfl) (by rfl) (by rfl) (by rfl) (by rfl) (by rfl) (by rfl) (by rfl) (by rfl) (by rfl) (by exact rfl) (by rfl) (by rfl) (by kernel_rfl) (by rfl) (by rfl) ?_
    refine X.dop rfl rfl rfl rfl (by kernel_rfl) rfl rfl ?_
    refine X.dop0 rfl rfl rfl rfl (by kernel_rfl) rfl ?_
    refine X.dnil ?_
    refine X.norm [(3, (V.ptr 0 0 0)), (4, (V.ptr 1 0 0)), (7, (V.ptr 2 0 0)), (8, (V.ptr 3 0 0)), (25, (V.sl (List.map e_api_Span l.Holds))), (26, (V.i (l.Holds.length : Int))), (27, (V.i x1))] ?_ rfl (sr rfl)
    refine GS.endB ?_
    refine GS.region ?_
    refine X.opR rfl (X.addE rfl rfl) rfl ?_
    refine X.q rfl ?_
    refine GS.opsNil ?_
    have hE := Option.some.inj hM
    exact X.gc [some 0, some 1, some 2, some 3, some 7] (hc_2 (w64 (x1 + 1), l2) hE.symm) rfl rfl rfl (ga rfl rfl) (gb9 rfl rfl rfl (gb9 rfl rfl rfl (gb9 rfl rfl rfl (gb_box rfl rfl (rn_agg (.cons (rv_ne (app_ne h_7) rfl) (.cons ⟨9, rfl⟩ (.cons ⟨9, rfl⟩ .nil)))) (gb_obl' 9 (app_ne h_7) rfl rfl (fun _ => rfl) gb_nil)))))
  replace hM := ite_f h_5 hM
  refine GS.exit rfl ?_
  obtain ⟨y_1, hM, hy⟩ := map_of hM
  rw [hr_1 _ hy.symm] at hM
  exact X.gc [some 1, some 3, some 4] (hj_1 l3 hM) rfl rfl rfl (ga rfl rfl) (gb9 rfl rfl rfl (gb_box rfl rfl (rn_agg (.cons (rn_ovl rfl) (.cons ⟨9, rfl⟩ (.cons ⟨9, rfl⟩ .nil)))) (gb_obl 9 rfl rfl (fun _ => rfl) gb_nil)))

theorem ok_hull_each (l : api_Load) : Ct Try.prog 118 [(e_api_Load l)] (V.fn 151 [(V.fptr [(e_api_Load (hull_each l))] 0 0)]) := by
  refine ct_of_gs CC_ok rfl ?_
  generalize hM : hull_each l = r
  unfold hull_each at hM
  refine X.sq ?_
  refine X.opW rfl rfl rfl rfl ?_
  refine X.q rfl ?_
  refine X.nq ?_
  iterate 2 refine X.q rfl ?_
  refine GS.opsNil ?_
  subst hM
  exact GS.ret ⟨_, rfl, ⟨30, rfl⟩⟩

theorem ok_hull_spare {s : api_Ship} {total : Int} {r : Int × Int} (hM : hull_spare s total = some r) : Ct Try.prog 148 [(e_api_Ship s), (V.i total)] (V.tup [(V.i r.1), (V.i r.2)]) := by
  refine ct_of_gs CC_ok rfl ?_
  unfold hull_spare at hM
  refine X.sq ?_
  refine X.opW rfl rfl rfl rfl ?_
  iterate 2 refine X.q rfl ?_
  refine X.nq ?_
  iterate 3 refine X.q rfl ?_
  refine X.opR rfl (X.addE rfl rfl) rfl ?_
  refine X.q rfl ?_
  refine GS.opsNil ?_
  refine GS.seq ?_
  obtain ⟨y, h_1, hM⟩ := bind_of hM
  refine GS.region ?_
  iterate 4 refine X.q rfl ?_
  refine X.call (ok_hull_table_at h_1) rfl rfl rfl (.cons (.shut (n := 9) rfl) (.cons (.shut (n := 9) rfl) .nil)) ?_
  iterate 5 refine X.q rfl ?_
  refine X.nq ?_
  iterate 6 refine X.q rfl ?_
  refine X.opR rfl (X.addE rfl rfl) rfl ?_
  refine X.q rfl ?_
  refine X.opR rfl (X.mulE rfl rfl) rfl ?_
  refine X.opR rfl (X.subE rfl rfl) rfl ?_
  refine X.q rfl ?_
  refine X.opR rfl (X.mulE rfl rfl) rfl ?_
  iterate 3 refine X.q rfl ?_
  refine GS.opsNil ?_
  have hE := Option.some.inj hM
  subst hE
  exact GS.ret ⟨_, rfl, ⟨30, rfl⟩⟩

theorem ok_hull_steady {s : api_Ship} {x : (List Int)} {r : Bool} (hM : hull_steady s x = some r) : Ct Try.prog 114 [(e_api_Ship s), (V.sl (List.map V.i x))] (V.b r) := by
  refine ct_of_gs CC_ok rfl ?_
  unfold hull_steady at hM
  refine X.sq ?_
  refine X.opW rfl rfl rfl rfl ?_
  refine X.q rfl ?_
  refine GS.opsNil ?_
  refine GS.seq ?_
  obtain ⟨y, h_1, hM⟩ := bind_of hM
  obtain ⟨y1, h_2, hM⟩ := bind_of hM
  refine X.drawc (by kernel_rfl) rfl ?_
  iterate 2 refine X.cop rfl rfl rfl rfl ?_
  refine X.ccall (ok_hull_sum h_1) rfl rfl rfl rfl (.cons (.shut (n := 9) rfl) .nil) ?_
  refine X.ccall (ok_hull_spare h_2) rfl rfl rfl rfl (.cons (.shut (n := 9) rfl) (.cons (.shut (n := 9) rfl) .nil)) ?_
  iterate 5 refine X.cop rfl rfl rfl rfl ?_
  refine X.cnil ?_
  refine X.norm [(1, (V.sl (List.map V.i x))), (2, (V.ptr 0 0 0)), (5, (V.i y1.1)), (6, (V.i y1.2))] ?_ rfl (sr rfl)
  refine GS.seq ?_
  obtain ⟨y2, h_3, hM⟩ := bind_of hM
  refine GS.region ?_
  iterate 3 refine X.q rfl ?_
  refine X.call (ok_hull_rise h_3) rfl rfl rfl (.cons (.shut (n := 9) rfl) (.cons (.shut (n := 9) rfl) .nil)) ?_
  refine X.q rfl ?_
  refine X.opR rfl (X.mulE rfl rfl) rfl ?_
  iterate 2 refine X.q rfl ?_
  refine GS.opsNil ?_
  have hE := Option.some.inj hM
  subst hE
  exact GS.ret ⟨_, rfl, ⟨30, rfl⟩⟩

theorem ok_hull_shaky {s : api_Ship} {l : api_Load} {r : (List Int) × Bool} (hM : hull_shaky s l = some r) : Ct Try.prog 120 [(e_api_Ship s), (e_api_Load l)] (V.tup [(V.sl (List.map V.i r.1)), (V.b r.2)]) := by
  refine ct_of_gs CC_ok rfl ?_
  unfold hull_shaky at hM
  refine X.sq ?_
  iterate 3 refine X.opW rfl rfl rfl rfl ?_
  refine X.opW (H' := [.rows 11 [(e_api_Ship s)], .rows 3 [(e_api_Load l)], .rows 1 [V.nil], .rows 1 [(V.b false)]]) rfl rfl rfl rfl ?_
  refine GS.opsNil ?_
  refine GS.seq ?_
  refine X.sq ?_
  refine X.q rfl ?_
  refine X.call (ok_hull_each l) rfl rfl rfl (.cons (.shut (n := 9) rfl) .nil) ?_
  refine GS.opsNil ?_
  refine GS.block ?_
  refine X.gc [some 0, some 1, some 2, some 3] (H' := [.rows 11 [(e_api_Ship s)], .rows 3 [(e_api_Load l)], .rows 1 [V.nil], .rows 1 [(V.b false)]]) (K' := [(2, (V.ptr 0 0 0)), (3, (V.ptr 1 0 0)), (4, (V.ptr 2 0 0)), (5, (V.ptr 3 0 0)), (9, (V.fn 151 [(V.fptr [(e_api_Load (hull_each l))] 0 0)]))]) ?_ rfl rfl rfl (ga rfl rfl) (gb9 rfl rfl rfl (gb9 rfl rfl rfl (gb9 rfl rfl rfl (gb9 rfl rfl rfl gb_nil))))
  refine X.range rfl rfl (lowK_cons ⟨9, rfl⟩ (lowK_cons ⟨9, rfl⟩ (lowK_cons ⟨9, rfl⟩ (lowK_cons ⟨9, rfl⟩ (lowK_cons ⟨9, rfl⟩ lowK_nil))))) rfl ?_
  intro R_1 hrn_1 hrK_1 hrp_1 hra_1 hrb_1 hlow_1
  refine GS.seq ?_
  obtain ⟨y, h_2, hM⟩ := bind_of hM
  refine GS.region ?_
  refine X.q rfl ?_
  refine X.call (ok_hull_totals h_2) rfl rfl rfl (.cons (.shut (n := 9) rfl) .nil) ?_
  refine X.opW (H' := [.rows 11 [(e_api_Ship s)], .rows 3 [(e_api_Load l)], .rows 1 [V.nil], .rows 1 [(V.b false)], lr R_1 .ready none, .rows 2 [(V.agg [(V.i 0), (V.i 0)])]]) rfl rfl rfl rfl ?_
  refine X.op0W (H' := [.rows 11 [(e_api_Ship s)], .rows 3 [(e_api_Load l)], .rows 1 [V.nil], .rows 1 [(V.b false)], lr R_1 .ready none, .rows 2 [(e_api_Span y)]]) rfl rfl rfl ?_
  refine X.nq ?_
  iterate 3 refine X.q rfl ?_
  refine GS.opsNil ?_
  refine GS.block ?_
  refine X.gc [some 5] (X.loop (σ := Int) (fun v => ⟨[(0, (V.yld 4)), (3, (V.ptr 5 0 0)), (4, (V.i v))], [.rows 11 [(e_api_Ship s)], .rows 3 [(e_api_Load l)], .rows 1 [V.nil], .rows 1 [(V.b false)], lr R_1 .ready none, .rows 2 [(e_api_Span y)]], 0, none, 19⟩) hM ?_ rfl) rfl rfl rfl (ga rfl rfl) (gb9 rfl rfl rfl (gb9 rfl rfl rfl (gb9 rfl rfl rfl (gb9 rfl rfl rfl (gb_loop hlow_1 rfl rfl rfl (gb9 rfl rfl rfl gb_nil))))))
  intro t b_1 hM hc_1 hr_1
  rw [hull_shaky_b1] at hM
  refine GS.seq ?_
  refine X.sq ?_
  iterate 4 refine X.q rfl ?_
  refine GS.opsNil ?_
  refine X.cond rfl (fun h_3 => ?_) (fun h_3 => ?_)
  · replace hM := ite_t h_3 hM
    refine GS.skip ?_
    refine GS.seq ?_
    refine GS.block ?_
    refine X.sq ?_
    iterate 2 refine X.q rfl ?_
    refine X.yld hrn_1 hrK_1 hrp_1 hra_1 hrb_1 rfl rfl rfl rfl rfl rfl ?_
    refine GS.region ?_
    refine X.q rfl ?_
    refine GS.opsNil ?_
    refine GS.nil (X.begin' rfl rfl ?_ rfl)
    refine GS.block ?_
    refine GS.seq ?_
    obtain ⟨y1, h_4, hM⟩ := bind_of hM
    obtain ⟨y2, h_5, hM⟩ := bind_of hM
    refine X.drawc (by kernel_rfl) rfl ?_
    iterate 2 refine X.cop rfl rfl rfl rfl ?_
    refine X.ccall (ok_hull_heights h_4) rfl rfl rfl rfl (.cons (.shut (n := 9) rfl) .nil) ?_
    refine X.cop rfl rfl rfl rfl ?_
    refine X.ccall (ok_hull_best h_5) rfl rfl rfl rfl (.cons (.shut (n := 9) rfl) (.cons (.shut (n := 9) rfl) (.cons (.shut (n := 9) rfl) .nil))) ?_
    refine X.cop rfl rfl rfl rfl ?_
    refine X.cnil ?_
    refine X.norm [(2, (V.ptr 0 0 0)), (4, (V.ptr 2 0 0)), (5, (V.ptr 3 0 0)), (7, (V.sl (List.map V.i y2)))] ?_ rfl (sr rfl)
    refine GS.seq ?_
    obtain ⟨y3, h_6, hM⟩ := bind_of hM
    refine GS.region ?_
    iterate 2 refine X.q rfl ?_
    refine X.call (ok_hull_steady h_6) rfl rfl rfl (.cons (.shut (n := 9) rfl) (.cons (.shut (n := 9) rfl) .nil)) ?_
    refine X.q rfl ?_
    refine GS.opsNil ?_
    refine X.cond rfl (fun h_7 => ?_) (fun h_7 => ?_)
    · replace hM := ite_t h_7 hM
      refine X.sq ?_
      refine X.q rfl ?_
      refine X.op0W (H' := [.rows 11 [(e_api_Ship s)], .rows 3 [(e_api_Load l)], .rows 1 [(V.sl (List.map V.i y2))], .rows 1 [(V.b false)], lr R_1 .busy none, .rows 2 [(e_api_Span y)]]) rfl rfl rfl ?_
      refine X.op0W (H' := [.rows 11 [(e_api_Ship s)], .rows 3 [(e_api_Load l)], .rows 1 [(V.sl (List.map V.i y2))], .rows 1 [(V.b true)], lr R_1 .busy none, .rows 2 [(e_api_Span y)]]) rfl rfl rfl ?_
      refine GS.opsNil ?_
      refine GS.ret ⟨_, rfl, ?_⟩
      refine X.norm (H' := [.rows 11 [(e_api_Ship s)], .rows 3 [(e_api_Load l)], .rows 1 [(V.sl (List.map V.i y2))], .rows 1 [(V.b true)], lr R_1 .done (some .ret), .rows 2 [(e_api_Span y)]]) [(0, (V.yld 4)), (3, (V.ptr 5 0 0)), (4, (V.i t)), (17, (V.b false))] ?_ rfl (sr rfl)
      refine X.q rfl ?_
      refine GS.opsNil ?_
      refine GS.condT rfl ?_
      refine GS.ret ⟨_, _, rfl, rfl, ?_⟩
      refine X.norm (H' := [.rows 11 [(e_api_Ship s)], .rows 3 [(e_api_Load l)], .rows 1 [(V.sl (List.map V.i y2))], .rows 1 [(V.b true)], .dead, .rows 2 [(e_api_Span y)]]) [(2, (V.ptr 0 0 0)), (3, (V.ptr 1 0 0)), (4, (V.ptr 2 0 0)), (5, (V.ptr 3 0 0)), (9, (V.fn 151 [(V.fptr [(e_api_Load (hull_each l))] 0 0)]))] ?_ rfl (sr rfl)
      have hE := Option.some.inj hM
      replace hE := hr_1 _ hE.symm
      subst hE
      exact GS.ret ⟨_, rfl, ⟨30, rfl⟩⟩
    replace hM := ite_f h_7 hM
    refine GS.skip ?_
    refine GS.endB ?_
    refine GS.nil ⟨_, rfl, ?_⟩
    refine X.norm (H' := [.rows 11 [(e_api_Ship s)], .rows 3 [(e_api_Load l)], .rows 1 [V.nil], .rows 1 [(V.b false)], lr R_1 .ready none, .rows 2 [(e_api_Span y)]]) [(0, (V.yld 4)), (3, (V.ptr 5 0 0)), (4, (V.i t)), (17, (V.b true))] ?_ rfl (sr rfl)
    refine X.q rfl ?_
    refine GS.opsNil ?_
    refine GS.condF rfl ?_
    refine GS.skip ?_
    refine GS.endB ?_
    refine GS.region ?_
    refine X.q rfl ?_
    refine X.opR rfl (X.addE rfl rfl) rfl ?_
    refine X.q rfl ?_
    refine GS.opsNil ?_
    have hE := Option.some.inj hM
    exact X.gc [some 5] (hc_1 (w64 (t + 1)) hE.symm) rfl rfl rfl (ga rfl rfl) (gb9 rfl rfl rfl (gb9 rfl rfl rfl (gb9 rfl rfl rfl (gb9 rfl rfl rfl (gb_loop hlow_1 rfl rfl rfl (gb9 rfl rfl rfl gb_nil))))))
  replace hM := ite_f h_3 hM
  refine GS.exit rfl ?_
  refine GS.nil ⟨_, _, rfl, rfl, ?_⟩
  refine X.norm (H' := [.rows 11 [(e_api_Ship s)], .rows 3 [(e_api_Load l)], .rows 1 [V.nil], .rows 1 [(V.b false)], .dead, .rows 2 [(e_api_Span y)]]) [(2, (V.ptr 0 0 0)), (3, (V.ptr 1 0 0)), (4, (V.ptr 2 0 0)), (5, (V.ptr 3 0 0)), (9, (V.fn 151 [(V.fptr [(e_api_Load (hull_each l))] 0 0)]))] ?_ rfl (sr rfl)
  refine GS.endB ?_
  refine X.sq ?_
  iterate 2 refine X.op0W (H' := [.rows 11 [(e_api_Ship s)], .rows 3 [(e_api_Load l)], .rows 1 [V.nil], .rows 1 [(V.b false)], .dead, .rows 2 [(e_api_Span y)]]) rfl rfl rfl ?_
  refine GS.opsNil ?_
  have hE := Option.some.inj hM
  replace hE := hr_1 _ hE.symm
  subst hE
  exact GS.ret ⟨_, rfl, ⟨30, rfl⟩⟩

theorem ok_hull_Steady {s : api_Ship} {l : api_Load} {r : (List Int) × Bool × Int} (hM : hull_Steady s l = some r) : Ct Try.prog 59 [(e_api_Ship s), (e_api_Load l)] (V.tup [(V.sl (List.map V.i r.1)), (V.b r.2.1), (V.i r.2.2)]) := by
  refine ct_of_gs CC_ok rfl ?_
  unfold hull_Steady at hM
  refine X.sq ?_
  iterate 2 refine X.opW rfl rfl rfl rfl ?_
  iterate 3 refine X.q rfl ?_
  refine GS.opsNil ?_
  iterate 2 refine GS.seq ?_
  obtain ⟨y, h_1, hM⟩ := bind_of hM
  refine GS.region ?_
  iterate 2 refine X.q rfl ?_
  refine X.call (ok_hull_CheckLoad h_1) rfl rfl rfl (.cons (.shut (n := 9) rfl) (.cons (.shut (n := 9) rfl) .nil)) ?_
  refine X.q rfl ?_
  refine X.nq ?_
  iterate 2 refine X.q rfl ?_
  refine GS.opsNil ?_
  refine X.cond rfl (fun h_2 => ?_) (fun h_2 => ?_)
  · replace hM := ite_t h_2 hM
    refine X.sq ?_
    iterate 4 refine X.q rfl ?_
    refine GS.opsNil ?_
    have hE := Option.some.inj hM
    subst hE
    exact GS.ret ⟨_, rfl, ⟨30, rfl⟩⟩
  replace hM := ite_f h_2 hM
  refine GS.skip ?_
  refine GS.seq ?_
  obtain ⟨y1, h_3, hM⟩ := bind_of hM
  refine GS.region ?_
  iterate 2 refine X.q rfl ?_
  refine X.call (ok_hull_shaky h_3) rfl rfl rfl (.cons (.shut (n := 9) rfl) (.cons (.shut (n := 9) rfl) .nil)) ?_
  iterate 5 refine X.q rfl ?_
  refine X.nq ?_
  iterate 6 refine X.q rfl ?_
  refine GS.opsNil ?_
  have hE := Option.some.inj hM
  subst hE
  exact GS.ret ⟨_, rfl, ⟨30, rfl⟩⟩

abbrev e_api_Drop (x : api_Drop) : V := .agg [(V.i x.Hold), (V.i x.Mass)]

abbrev e_hull_done (x : hull_done) : V := .agg [(V.i x.a0), (V.i x.a1), (V.i x.a2), (V.i x.a3), (V.i x.a4), (V.i x.a5), (V.i x.a6), (V.i x.a7)]

abbrev e_hull_unloading (x : hull_unloading) : V := .agg [(V.i x.ship.ID), (V.i x.ship.Light), (V.i x.ship.Lever), (V.i x.ship.Height), (V.sl (List.map e_api_Hold x.ship.Holds)), (V.sl (List.map e_api_Knot x.ship.Mean.Knots)), (V.i x.ship.Mean.Err), (V.sl (List.map e_api_Knot x.ship.Mtac.Knots)), (V.i x.ship.Mtac.Err), (V.i x.ship.Turn), (V.i x.ship.Least), (V.sl (List.map V.i x.from_)), (V.sl (List.map V.i x.to)), (V.i x.step)]

theorem ok_hull_unloading_steps {u : hull_unloading} {hold : Int} {r : Int} (hM : hull_unloading_steps u hold = some r) : Ct Try.prog 113 [(e_hull_unloading u), (V.i hold)] (V.i r) := by
  refine ct_of_gs CC_ok rfl ?_
  unfold hull_unloading_steps at hM
  refine X.sq ?_
  refine X.opW rfl rfl rfl rfl ?_
  refine X.q rfl ?_
  refine GS.opsNil ?_
  refine GS.seq ?_
  obtain ⟨x, h_1, hM⟩ := bind_of hM
  obtain ⟨x1, h_2, hM⟩ := bind_of hM
  obtain ⟨q, h_3, hM⟩ := bind_of hM
  refine X.drawc (by kernel_rfl) rfl ?_
  iterate 3 refine X.cop rfl rfl rfl rfl ?_
  refine X.cop rfl (X.indexF (f := V.i) h_1 (fun _ => rfl) rfl rfl rfl rfl) rfl rfl ?_
  refine X.cop rfl (X.loadF h_1 rfl rfl rfl) rfl rfl ?_
  iterate 3 refine X.cop rfl rfl rfl rfl ?_
  refine X.cop rfl (X.indexF (f := V.i) h_2 (fun _ => rfl) rfl rfl rfl rfl) rfl rfl ?_
  refine X.cop rfl (X.loadF h_2 rfl rfl rfl) rfl rfl ?_
  refine X.cop rfl (X.subE rfl rfl) rfl rfl ?_
  iterate 2 refine X.cop rfl rfl rfl rfl ?_
  refine X.cop rfl (X.addE rfl rfl) rfl rfl ?_
  refine X.cop rfl (X.subE rfl rfl) rfl rfl ?_
  iterate 2 refine X.cop rfl rfl rfl rfl ?_
  refine X.cop rfl (X.quoE h_3 rfl rfl) rfl rfl ?_
  refine X.cop rfl rfl rfl rfl ?_
  refine X.cnil ?_
  refine X.norm [(4, (V.i q))] ?_ rfl (sr rfl)
  have hE := Option.some.inj hM
  subst hE
  exact GS.ret ⟨_, rfl, ⟨30, rfl⟩⟩

theorem key_hull_done (a b : hull_done) : keyEq (e_hull_done a) (e_hull_done b) = some (decide (a = b)) := by
  have h : keyEq (e_hull_done a) (e_hull_done b) = some (decide ([(IntKind.i64, a.a0), (IntKind.i64, a.a1), (IntKind.i64, a.a2), (IntKind.i64, a.a3), (IntKind.i64, a.a4), (IntKind.i64, a.a5), (IntKind.i64, a.a6), (IntKind.i64, a.a7)] = [(IntKind.i64, b.a0), (IntKind.i64, b.a1), (IntKind.i64, b.a2), (IntKind.i64, b.a3), (IntKind.i64, b.a4), (IntKind.i64, b.a5), (IntKind.i64, b.a6), (IntKind.i64, b.a7)])) := rfl
  rw [h]
  congr 1
  cases a
  cases b
  simp

theorem ok_hull_unloading_behind {u : hull_unloading} {d : hull_done} {r : (List Int)} (hM : hull_unloading_behind u d = some r) : Ct Try.prog 149 [(e_hull_unloading u), (e_hull_done d)] (V.sl (List.map V.i r)) := by
  refine ct_of_gs CC_ok rfl ?_
  unfold hull_unloading_behind at hM
  refine X.sq ?_
  iterate 2 refine X.opW rfl rfl rfl rfl ?_
  refine X.q rfl ?_
  refine X.nq ?_
  refine X.q rfl ?_
  refine GS.opsNil ?_
  refine GS.seq ?_
  refine X.sq ?_
  iterate 2 refine X.q rfl ?_
  refine X.opR rfl (X.lenF rfl rfl rfl) rfl ?_
  refine X.q rfl ?_
  refine GS.opsNil ?_
  refine X.join (τ := (List Int)) (fun v => hull_unloading_behind_j1 v = some r) (fun v => ⟨[(5, (ovl 0 v))], [obl 1 V.i v], 0, none, 35⟩) ?_ ?_
  · intro l hM
    replace hM : hull_unloading_behind_j1 l = some r := hM
    unfold hull_unloading_behind_j1 at hM
    refine X.sq ?_
    iterate 2 refine X.q rfl ?_
    refine GS.opsNil ?_
    have hE := Option.some.inj hM
    subst hE
    exact GS.ret ⟨_, rfl, FR.ovl (f := V.i) (l := l) 9 rfl rfl (fun _ => rfl)⟩
  intro hj_1
  refine GS.block ?_
  refine X.gc [some 0, some 1, none] (X.loop (σ := (Int × (List Int))) (fun v => ⟨[(2, (V.ptr 0 0 0)), (3, (V.ptr 1 0 0)), (5, (ovl 2 v.2)), (9, (V.sl (List.map V.i u.from_))), (10, (V.i (u.from_.length : Int))), (11, (V.i v.1))], [.rows 14 [(e_hull_unloading u)], .rows 8 [(e_hull_done d)], obl 1 V.i v.2], 0, none, 35⟩) hM ?_ rfl) rfl rfl rfl (ga rfl rfl) (gb9 rfl rfl rfl (gb9 rfl rfl rfl (gb_pad' rfl gb_nil)))
  rintro ⟨x2, l2⟩ b_1 hM hc_2 hr_1
  rw [hull_unloading_behind_b2] at hM
  refine X.sq ?_
  refine X.q rfl ?_
  refine GS.opsNil ?_
  refine GS.seq ?_
  refine X.cond rfl (fun h_1 => ?_) (fun h_1 => ?_)
  · replace hM := ite_t h_1 hM
    refine GS.skip ?_
    refine GS.seq ?_
    refine GS.block ?_
    refine GS.seq ?_
    obtain ⟨x, h_2, hM⟩ := bind_of hM
    refine GS.region ?_
    refine X.q rfl ?_
    refine X.opR rfl (X.indexF (f := V.i) h_2 (fun _ => rfl) rfl rfl rfl rfl) rfl ?_
    refine X.opR rfl (X.loadF h_2 rfl rfl rfl) rfl ?_
    iterate 2 refine X.q rfl ?_
    refine GS.opsNil ?_
    obtain ⟨y, h_3, hM⟩ := bind_of hM
    obtain ⟨x1, h_4, hM⟩ := bind_of hM
    obtain ⟨l1, h_5, hM⟩ := bind_of hM
    refine X.draw (by kernel_rfl) ?_
    iterate 3 refine X.dop rfl rfl rfl rfl (by kernel_rfl) rfl rfl ?_
    refine X.dop rfl (X.indexArr (k := 8) (l := hull_done.toL d) h_3 rfl rfl rfl rfl rfl) rfl rfl (by kernel_rfl) rfl rfl ?_
    refine X.dop rfl (X.loadArr (l := hull_done.toL d) (pre := []) (post := []) h_3 rfl rfl rfl rfl rfl rfl rfl) rfl rfl (by kernel_rfl) rfl rfl ?_
    iterate 2 refine X.dop rfl rfl rfl rfl (by kernel_rfl) rfl rfl ?_
    refine X.dop rfl (X.mulE rfl rfl) rfl rfl (by kernel_rfl) rfl rfl ?_
    refine X.dop rfl (X.subE rfl rfl) rfl rfl (by kernel_rfl) rfl rfl ?_
    iterate 3 refine X.dop rfl rfl rfl rfl (by kernel_rfl) rfl rfl ?_
    refine X.dop rfl (X.indexF (f := V.i) h_4 (fun _ => rfl) rfl rfl rfl rfl) rfl rfl (by kernel_rfl) rfl rfl ?_
    refine X.dop rfl (X.loadF h_4 rfl rfl rfl) rfl rfl (by kernel_rfl) rfl rfl ?_
    refine X.dcall (ok_hull_greater_int (w64 (x - (w64 (y * u.step)))) x1) rfl rfl rfl (by kernel_rfl) rfl (.cons (.shut (n := 9) rfl) (.cons (.shut (n := 9) rfl) .nil)) ?_
    refine X.dop rfl rfl rfl rfl (by kernel_rfl) rfl rfl ?_
    refine X.dappN (f := V.i) h_5 (fun _ => rfl) (by rfl) (by rfl) (by rfl) (by rfl) (by rfl) (by rfl) (by rfl) (by rfl) (by rfl) (by rfl) (by rfl) (by exact rfl) (by rfl) (by rfl) (by kernel_rfl) (by rfl) (by rfl) ?_
    refine X.dop rfl rfl rfl rfl (by kernel_rfl) rfl rfl ?_
    refine X.dnil ?_
    refine X.norm [(2, (V.ptr 0 0 0)), (3, (V.ptr 1 0 0)), (5, (V.osl 4 0 (List.length l1))), (9, (V.sl (List.map V.i u.from_))), (10, (V.i (u.from_.length : Int))), (11, (V.i x2))] ?_ rfl (sr rfl)
    refine GS.endB ?_
    refine GS.region ?_
    refine X.opR rfl (X.addE rfl rfl) rfl ?_
    refine X.q rfl ?_
    refine GS.opsNil ?_
    have hE := Option.some.inj hM
    exact X.gc [some 0, some 1, some 4] (hc_2 (w64 (x2 + 1), l1) hE.symm) rfl rfl rfl (gk_cons rfl ⟨9, rfl⟩ (gk_cons rfl ⟨9, rfl⟩ (gk_cons rfl (rv_ne (app_ne h_5) rfl) (ga rfl rfl)))) (gb9 rfl rfl rfl (gb9 rfl rfl rfl (gb_obl' 9 (app_ne h_5) rfl rfl (fun _ => rfl) gb_nil)))
  replace hM := ite_f h_1 hM
  refine GS.exit rfl ?_
  obtain ⟨y_1, hM, hy⟩ := map_of hM
  rw [hr_1 _ hy.symm] at hM
  exact X.gc [some 2] (hj_1 l2 hM) rfl rfl rfl (gk_cons rfl (rn_ovl rfl) gk_nil) (gb_obl 9 rfl rfl (fun _ => rfl) gb_nil)

theorem eq_hull_done (a b : hull_done) : eqA CC.ty 170 (e_hull_done a) (e_hull_done b) = some (decide (a = b)) := by
  refine (X.eqArr rfl rfl (X.eqel rfl rfl rfl (X.eqel rfl rfl rfl (X.eqel rfl rfl rfl (X.eqel rfl rfl rfl (X.eqel rfl rfl rfl (X.eqel rfl rfl rfl (X.eqel rfl rfl rfl (X.eqel rfl rfl rfl X.eqel_nil))))))))).trans ?_
  congr 1
  rw [Bool.eq_iff_iff]
  simp only [Bool.and_eq_true, decide_eq_true_eq, beq_iff_eq, and_true]
  constructor
  · intro h
    obtain ⟨a1, a2, a3, a4, a5, a6, a7, a8⟩ := a
    obtain ⟨b9, b10, b11, b12, b13, b14, b15, b16⟩ := b
    simp at h
    simp [h]
  · rintro rfl
    simp

end Go.Proofs.Ythfnbjoecocfaaa
