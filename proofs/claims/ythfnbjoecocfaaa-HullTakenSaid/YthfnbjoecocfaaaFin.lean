/- HullTaken. The given statement HullTakenSaid is proved: What is left of a loading after masses within spans are taken out is a loading of Behind. Conditions: none. Printed by a program (wip/tools/lawgen.py). -/
import Derived.Test.YthfnbjoecocfaaaRows
import Derived.Test.YthfnbjoecocfaaaFct
import Derived.Test.YthfnbjoecocfaaaP
import Derived.Test.YthfnbjoecocfaaaOpn
import Derived.Test.YthfnbjoecocfaaaOkp
import Derived.Test.YthfnbjoecocfaaaLawHullTaken
import Derived.WalkKit
import Derived.ProofKit
import Derived.OpenShut
import Derived.ChangeOld
import Derived.Below
set_option linter.unusedVariables false
namespace Go.Proofs.Ythfnbjoecocfaaa.HullTaken
open Go Go.ChangeShapes Go.WideShapes Go.ChangeAt Go.RowKit Go.Am Go.Mx

theorem own : ownKnob Try.prog.godebug = none := by kernel_rfl
theorem laidOut : laidOutB Try.prog = true := by kernel_rfl
theorem okI {k : IntKind} {n : Int} (h : (Lit.int k n).wf = true) : OkI k n := (by simpa [Lit.wf] using h : k.min ≤ n ∧ n ≤ k.max)

theorem o_126 : OpnC Try.prog 126 api_Hold (fun x => [.lit (.int .i64 x.ID), .lit (.int .i64 x.Room), .lit (.int .i64 x.Lever), .lit (.int .i64 x.Height)]) (fun x => ok_api_Hold x) := by
  have h := opn_struct Try.underlying126 (by kernel_rfl : _ = 4) (opnF_cons rfl (by kernel_rfl : _ = 1) (opn_int Try.underlying3) (opnF_cons rfl (by kernel_rfl : _ = 1) (opn_int Try.underlying3) (opnF_cons rfl (by kernel_rfl : _ = 1) (opn_int Try.underlying3) (opnF_cons rfl (by kernel_rfl : _ = 1) (opn_int Try.underlying3) opnF_nil))))
  exact OpnC.map (α := Int × Int × Int × Int × Unit) (fun a => ⟨a.1, a.2.1, a.2.2.1, a.2.2.2.1⟩) h (fun _ => rfl) (fun _ h => h)
theorem o_22 : OpnC Try.prog 22 (List api_Hold) (fun l => [.sl (l.map e_api_Hold)]) (fun l => ok_22 l) := opn_slice (f := e_api_Hold) Try.underlying22 (by kernel_rfl) (by decide : 0 < 4) o_126 (.inl fun _ => rfl)
theorem o_142 : OpnC Try.prog 142 api_Knot (fun x => [.lit (.int .i64 x.X), .lit (.int .i64 x.Y)]) (fun x => ok_api_Knot x) := by
  have h := opn_struct Try.underlying142 (by kernel_rfl : _ = 2) (opnF_cons rfl (by kernel_rfl : _ = 1) (opn_int Try.underlying3) (opnF_cons rfl (by kernel_rfl : _ = 1) (opn_int Try.underlying3) opnF_nil))
  exact OpnC.map (α := Int × Int × Unit) (fun a => ⟨a.1, a.2.1⟩) h (fun _ => rfl) (fun _ h => h)
theorem o_23 : OpnC Try.prog 23 (List api_Knot) (fun l => [.sl (l.map e_api_Knot)]) (fun l => ok_23 l) := opn_slice (f := e_api_Knot) Try.underlying23 (by kernel_rfl) (by decide : 0 < 2) o_142 (.inl fun _ => rfl)
theorem o_25 : OpnC Try.prog 25 api_Curve (fun x => [.sl (x.Knots.map e_api_Knot), .lit (.int .i64 x.Err)]) (fun x => ok_api_Curve x) := by
  have h := opn_struct Try.underlying25 (by kernel_rfl : _ = 2) (opnF_cons rfl (by kernel_rfl : _ = 1) o_23 (opnF_cons rfl (by kernel_rfl : _ = 1) (opn_int Try.underlying3) opnF_nil))
  exact OpnC.map (α := (List api_Knot) × Int × Unit) (fun a => ⟨a.1, a.2.1⟩) h (fun _ => rfl) (fun _ h => h)
theorem o_27 : OpnC Try.prog 27 api_Ship (fun x => [.lit (.int .i64 x.ID), .lit (.int .i64 x.Light), .lit (.int .i64 x.Lever), .lit (.int .i64 x.Height), .sl (x.Holds.map e_api_Hold), .sl (x.Mean.Knots.map e_api_Knot), .lit (.int .i64 x.Mean.Err), .sl (x.Mtac.Knots.map e_api_Knot), .lit (.int .i64 x.Mtac.Err), .lit (.int .i64 x.Turn), .lit (.int .i64 x.Least)]) (fun x => ok_api_Ship x) := by
  have h := opn_struct Try.underlying27 (by kernel_rfl : _ = 11) (opnF_cons rfl (by kernel_rfl : _ = 1) (opn_int Try.underlying3) (opnF_cons rfl (by kernel_rfl : _ = 1) (opn_int Try.underlying3) (opnF_cons rfl (by kernel_rfl : _ = 1) (opn_int Try.underlying3) (opnF_cons rfl (by kernel_rfl : _ = 1) (opn_int Try.underlying3) (opnF_cons rfl (by kernel_rfl : _ = 1) o_22 (opnF_cons rfl (by kernel_rfl : _ = 2) o_25 (opnF_cons rfl (by kernel_rfl : _ = 2) o_25 (opnF_cons rfl (by kernel_rfl : _ = 1) (opn_int Try.underlying3) (opnF_cons rfl (by kernel_rfl : _ = 1) (opn_int Try.underlying3) opnF_nil)))))))))
  exact OpnC.map (α := Int × Int × Int × Int × (List api_Hold) × api_Curve × api_Curve × Int × Int × Unit) (fun a => ⟨a.1, a.2.1, a.2.2.1, a.2.2.2.1, a.2.2.2.2.1, a.2.2.2.2.2.1, a.2.2.2.2.2.2.1, a.2.2.2.2.2.2.2.1, a.2.2.2.2.2.2.2.2.1⟩) h (fun _ => rfl) (fun _ h => h)
theorem o_30 : OpnC Try.prog 30 api_Span (fun x => [.lit (.int .i64 x.Lo), .lit (.int .i64 x.Hi)]) (fun x => ok_api_Span x) := by
  have h := opn_struct Try.underlying30 (by kernel_rfl : _ = 2) (opnF_cons rfl (by kernel_rfl : _ = 1) (opn_int Try.underlying3) (opnF_cons rfl (by kernel_rfl : _ = 1) (opn_int Try.underlying3) opnF_nil))
  exact OpnC.map (α := Int × Int × Unit) (fun a => ⟨a.1, a.2.1⟩) h (fun _ => rfl) (fun _ h => h)
theorem o_28 : OpnC Try.prog 28 (List api_Span) (fun l => [.sl (l.map e_api_Span)]) (fun l => ok_28 l) := opn_slice (f := e_api_Span) Try.underlying28 (by kernel_rfl) (by decide : 0 < 2) o_30 (.inl fun _ => rfl)
theorem o_32 : OpnC Try.prog 32 api_Load (fun x => [.sl (x.Holds.map e_api_Span), .lit (.int .i64 x.All.Lo), .lit (.int .i64 x.All.Hi)]) (fun x => ok_api_Load x) := by
  have h := opn_struct Try.underlying32 (by kernel_rfl : _ = 3) (opnF_cons rfl (by kernel_rfl : _ = 1) o_28 (opnF_cons rfl (by kernel_rfl : _ = 2) o_30 opnF_nil))
  exact OpnC.map (α := (List api_Span) × api_Span × Unit) (fun a => ⟨a.1, a.2.1⟩) h (fun _ => rfl) (fun _ h => h)
theorem o_50 : OpnC Try.prog 50 (List Int) (fun l => [.sl (l.map (fun x : Int => V.lit (.int .u16 x)))]) (fun l => ok_50 l) := opn_slice (f := (fun x : Int => V.lit (.int .u16 x))) Try.underlying50 (by kernel_rfl) (by decide : 0 < 1) (opn_int Try.underlying53) (.inr fun _ => rfl)

set_option maxRecDepth 100000 in
theorem lifted (os : Os) (started : os.Started) (H : Type) (enc : TypeId × Value → H) :
    ReturnsInHanded {} Try.checked os 6 .any (Rows.hullTakenSpec.pre6 enc Try.prog Try.f6 Rows.hullTakenRow.domain false) (Rows.hullTakenSpec.post enc Try.prog Try.f6 false true false false) := by
  refine returnsInHanded_of_change (C := Try.checked) own started (by kernel_rfl) Try.func6
    (ChangeSpec.witness6 (enc := enc) (C := Try.checked) false ⟨#[], #[.agg #[.int .i64 0, .int .i64 0, .int .i64 0, .int .i64 0, .slice none 0 0, .slice none 0 0, .int .i64 0, .slice none 0 0, .int .i64 0, .int .i64 0, .int .i64 0], .agg #[.slice none 0 0, .int .i64 0, .int .i64 0], .slice none 0 0, .slice none 0 0, .slice none 0 0], []⟩ 8 (by kernel_rfl) (by kernel_rfl) (by kernel_rfl) (by kernel_rfl)) ?_
  intro W base args ds gs before hval0 hW hcnd _
  have hval : ∀ (j : Nat) t v, Try.f6.params[j]? = some t → args[j]? = some v → Value.okWide Try.prog W .any base t v := hval0
  have hW' := hW
  obtain ⟨p, q, hA0, hV, rfl, hfz, hnd⟩ := hW
  have hA : DataW.TrodAll enc Try.prog W 0 (fun _ => true) true Try.f6.params.toList args.toList ds p := hA0
  rw [Try.params6] at hA hval
  obtain ⟨v0, vs0, d0, ds0, p0, q0, hargs, rfl, rfl, h0, r0⟩ := trodAll_cons hA
  obtain ⟨v1, vs1, d1, ds1, p1, q1, rfl, rfl, rfl, h1, r1⟩ := trodAll_cons r0
  obtain ⟨v2, vs2, d2, ds2, p2, q2, rfl, rfl, rfl, h2, r2⟩ := trodAll_cons r1
  obtain ⟨v3, vs3, d3, ds3, p3, q3, rfl, rfl, rfl, h3, r3⟩ := trodAll_cons r2
  obtain ⟨v4, vs4, d4, ds4, p4, q4, rfl, rfl, rfl, h4, r4⟩ := trodAll_cons r3
  obtain ⟨rfl, rfl, rfl⟩ := trodAll_nil r4
  obtain rfl : args = #[v0, v1, v2, v3, v4] := by cases args; simp_all
  obtain ⟨rfl, rfl⟩ := trodVars_none hV
  have k0 := h0
  have lt0 : ∀ x ∈ p0, x.block < W.heap.size := by obtain ⟨m, hm⟩ := k0; exact DataW.trod_lt m _ _ _ hm
  obtain ⟨a0, ok0, e0⟩ := arg_struct Try.underlying27 o_27 (.inr ⟨_, hval 0 27 v0 rfl rfl⟩) h0
  have k1 := h1
  have lt1 : ∀ x ∈ p1, x.block < W.heap.size := by obtain ⟨m, hm⟩ := k1; exact DataW.trod_lt m _ _ _ hm
  obtain ⟨a1, ok1, e1⟩ := arg_struct Try.underlying32 o_32 (.inr ⟨_, hval 1 32 v1 rfl rfl⟩) h1
  have k2 := h2
  have lt2 : ∀ x ∈ p2, x.block < W.heap.size := by obtain ⟨m, hm⟩ := k2; exact DataW.trod_lt m _ _ _ hm
  obtain ⟨a2, ok2, e2⟩ := arg_slice Try.underlying50 o_50 (hval 2 50 v2 rfl rfl) h2
  have k3 := h3
  have lt3 : ∀ x ∈ p3, x.block < W.heap.size := by obtain ⟨m, hm⟩ := k3; exact DataW.trod_lt m _ _ _ hm
  obtain ⟨a3, ok3, e3⟩ := arg_slice Try.underlying28 o_28 (hval 3 28 v3 rfl rfl) h3
  have k4 := h4
  have lt4 : ∀ x ∈ p4, x.block < W.heap.size := by obtain ⟨m, hm⟩ := k4; exact DataW.trod_lt m _ _ _ hm
  obtain ⟨a4, ok4, e4⟩ := arg_slice Try.underlying50 o_50 (hval 4 50 v4 rfl rfl) h4
  clear hA0 hval0
  have hlaw : law03_HullTaken a0 a1 a2 a3 a4 = some true := holds_HullTaken ok0 ok1 ok2 ok3 ok4
  refine (law_calls (ok_law03_HullTaken hlaw) (us := [v0, v1, v2, v3, v4]) (repL_cons e0 (repL_cons e1 (repL_cons e2 (repL_cons e3 (repL_cons e4 repL_nil)))))).mono fun e W' ⟨he, bel⟩ => ?_
  subst he
  exact ⟨_, rfl, _, _, _, [], _, [], hW', trodAll_mk1 (shut_bool Try.underlying4 _), (trodAll_cons_mk (Below.trod laidOut (by kernel_rfl) (of_decide_eq_true (by kernel_rfl)) k0 bel lt0) (trodAll_cons_mk (Below.trod laidOut (by kernel_rfl) (of_decide_eq_true (by kernel_rfl)) k1 bel lt1) (trodAll_cons_mk (Below.trod laidOut (by kernel_rfl) (of_decide_eq_true (by kernel_rfl)) k2 bel lt2) (trodAll_cons_mk (Below.trod laidOut (by kernel_rfl) (of_decide_eq_true (by kernel_rfl)) k3 bel lt3) (trodAll_cons_mk (Below.trod laidOut (by kernel_rfl) (of_decide_eq_true (by kernel_rfl)) k4 bel lt4) trodAll_mk0))))), rfl, bel.frame _, fun h => by cases h⟩

theorem holds : Rows.HullTakenSaid :=
  OpenClaim.holds_of_wide 6 Try.f6 rfl rfl rfl rfl rfl rfl rfl ⟨rfl, rfl, rfl, rfl, rfl⟩ rfl rfl rfl rfl rfl named Try.func6 closed inst wrap (fun os started H enc _ => lifted os started H enc)
end Go.Proofs.Ythfnbjoecocfaaa.HullTaken
