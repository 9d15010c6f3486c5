/- HullSteady. The given statement HullSteadySaid is proved: Steady and Prove answer as the specification asks. Conditions: none. Printed by a program (wip/tools/lawgen.py). -/
import Derived.Test.YthfnbjoecocfaaaGreatRows
import Derived.Test.YthfnbjoecocfaaaGreatFct
import Derived.Test.YthfnbjoecocfaaaGreatP
import Derived.Test.YthfnbjoecocfaaaGreatOpn
import Derived.Test.YthfnbjoecocfaaaGreatOkp
import Derived.Test.YthfnbjoecocfaaaGreatLawHullSteady
import Derived.WalkKit
import Derived.ProofKit
import Derived.OpenShut
import Derived.ChangeOld
import Derived.Below
set_option linter.unusedVariables false
namespace Go.Proofs.YthfnbjoecocfaaaGreat.HullSteady
open Go Go.ChangeShapes Go.WideShapes Go.ChangeAt Go.RowKit Go.Am Go.Mx

theorem own : ownKnob Tryz.prog.godebug = none := by kernel_rfl
theorem laidOut : laidOutB Tryz.prog = true := by kernel_rfl
theorem okI {k : IntKind} {n : Int} (h : (Lit.int k n).wf = true) : OkI k n := (by simpa [Lit.wf] using h : k.min ≤ n ∧ n ≤ k.max)

theorem o_143 : OpnC Tryz.prog 143 api_Hold (fun x => [.lit (.int .i64 x.ID), .lit (.int .i64 x.Room), .lit (.int .i64 x.Lever), .lit (.int .i64 x.Height)]) (fun x => ok_api_Hold x) := by
 have h := opn_struct Tryz.underlying143 (by kernel_rfl : _ = 4) (opnF_cons rfl (by kernel_rfl : _ = 1) (opn_int Tryz.underlying3) (opnF_cons rfl (by kernel_rfl : _ = 1) (opn_int Tryz.underlying3) (opnF_cons rfl (by kernel_rfl : _ = 1) (opn_int Tryz.underlying3) (opnF_cons rfl (by kernel_rfl : _ = 1) (opn_int Tryz.underlying3) opnF_nil))))
 exact OpnC.map (α := Int × Int × Int × Int × Unit) (fun a => ⟨a.1, a.2.1, a.2.2.1, a.2.2.2.1⟩) h (fun _ => rfl) (fun _ h => h)
theorem o_22 : OpnC Tryz.prog 22 (List api_Hold) (fun l => [.sl (l.map e_api_Hold)]) (fun l => ok_22 l) := opn_slice (f := e_api_Hold) Tryz.underlying22 (by kernel_rfl) (by decide : 0 < 4) o_143 (.inl fun _ => rfl)
theorem o_145 : OpnC Tryz.prog 145 api_Knot (fun x => [.lit (.int .i64 x.X), .lit (.int .i64 x.Y)]) (fun x => ok_api_Knot x) := by
 have h := opn_struct Tryz.underlying145 (by kernel_rfl : _ = 2) (opnF_cons rfl (by kernel_rfl : _ = 1) (opn_int Tryz.underlying3) (opnF_cons rfl (by kernel_rfl : _ = 1) (opn_int Tryz.underlying3) opnF_nil))
 exact OpnC.map (α := Int × Int × Unit) (fun a => ⟨a.1, a.2.1⟩) h (fun _ => rfl) (fun _ h => h)
theorem o_23 : OpnC Tryz.prog 23 (List api_Knot) (fun l => [.sl (l.map e_api_Knot)]) (fun l => ok_23 l) := opn_slice (f := e_api_Knot) Tryz.underlying23 (by kernel_rfl) (by decide : 0 < 2) o_145 (.inl fun _ => rfl)
theorem o_25 : OpnC Tryz.prog 25 api_Curve (fun x => [.sl (x.Knots.map e_api_Knot), .lit (.int .i64 x.Err)]) (fun x => ok_api_Curve x) := by
 have h := opn_struct Tryz.underlying25 (by kernel_rfl : _ = 2) (opnF_cons rfl (by kernel_rfl : _ = 1) o_23 (opnF_cons rfl (by kernel_rfl : _ = 1) (opn_int Tryz.underlying3) opnF_nil))
 exact OpnC.map (α := (List api_Knot) × Int × Unit) (fun a => ⟨a.1, a.2.1⟩) h (fun _ => rfl) (fun _ h => h)
theorem o_27 : OpnC Tryz.prog 27 api_Ship (fun x => [.lit (.int .i64 x.ID), .lit (.int .i64 x.Light), .lit (.int .i64 x.Lever), .lit (.int .i64 x.Height), .sl (x.Holds.map e_api_Hold), .sl (x.Mean.Knots.map e_api_Knot), .lit (.int .i64 x.Mean.Err), .sl (x.Mtac.Knots.map e_api_Knot), .lit (.int .i64 x.Mtac.Err), .lit (.int .i64 x.Turn), .lit (.int .i64 x.Least)]) (fun x => ok_api_Ship x) := by
 have h := opn_struct Tryz.underlying27 (by kernel_rfl : _ = 11) (opnF_cons rfl (by kernel_rfl : _ = 1) (opn_int Tryz.underlying3) (opnF_cons rfl (by kernel_rfl : _ = 1) (opn_int Tryz.underlying3) (opnF_cons rfl (by kernel_rfl : _ = 1) (opn_int Tryz.underlying3) (opnF_cons rfl (by kernel_rfl : _ = 1) (opn_int Tryz.underlying3) (opnF_cons rfl (by kernel_rfl : _ = 1) o_22 (opnF_cons rfl (by kernel_rfl : _ = 2) o_25 (opnF_cons rfl (by kernel_rfl : _ = 2) o_25 (opnF_cons rfl (by kernel_rfl : _ = 1) (opn_int Tryz.underlying3) (opnF_cons rfl (by kernel_rfl : _ = 1) (opn_int Tryz.underlying3) opnF_nil)))))))))
 exact OpnC.map (α := Int × Int × Int × Int × (List api_Hold) × api_Curve × api_Curve × Int × Int × Unit) (fun a => ⟨a.1, a.2.1, a.2.2.1, a.2.2.2.1, a.2.2.2.2.1, a.2.2.2.2.2.1, a.2.2.2.2.2.2.1, a.2.2.2.2.2.2.2.1, a.2.2.2.2.2.2.2.2.1⟩) h (fun _ => rfl) (fun _ h => h)
theorem o_32 : OpnC Tryz.prog 32 api_Span (fun x => [.lit (.int .i64 x.Lo), .lit (.int .i64 x.Hi)]) (fun x => ok_api_Span x) := by
 have h := opn_struct Tryz.underlying32 (by kernel_rfl : _ = 2) (opnF_cons rfl (by kernel_rfl : _ = 1) (opn_int Tryz.underlying3) (opnF_cons rfl (by kernel_rfl : _ = 1) (opn_int Tryz.underlying3) opnF_nil))
 exact OpnC.map (α := Int × Int × Unit) (fun a => ⟨a.1, a.2.1⟩) h (fun _ => rfl) (fun _ h => h)
theorem o_30 : OpnC Tryz.prog 30 (List api_Span) (fun l => [.sl (l.map e_api_Span)]) (fun l => ok_30 l) := opn_slice (f := e_api_Span) Tryz.underlying30 (by kernel_rfl) (by decide : 0 < 2) o_32 (.inl fun _ => rfl)
theorem o_34 : OpnC Tryz.prog 34 api_Load (fun x => [.sl (x.Holds.map e_api_Span), .lit (.int .i64 x.All.Lo), .lit (.int .i64 x.All.Hi)]) (fun x => ok_api_Load x) := by
 have h := opn_struct Tryz.underlying34 (by kernel_rfl : _ = 3) (opnF_cons rfl (by kernel_rfl : _ = 1) o_30 (opnF_cons rfl (by kernel_rfl : _ = 2) o_32 opnF_nil))
 exact OpnC.map (α := (List api_Span) × api_Span × Unit) (fun a => ⟨a.1, a.2.1⟩) h (fun _ => rfl) (fun _ h => h)

set_option maxRecDepth 100000 in
theorem lifted (os : Os) (started : os.Started) (H : Type) (enc : TypeId × Value → H) :
  ReturnsInHanded {} Tryz.checked os 6 .any (Rows.hullSteadySpec.pre6 enc Tryz.prog Tryz.f6 Rows.hullSteadyRow.domain false) (Rows.hullSteadySpec.post enc Tryz.prog Tryz.f6 false true false false) := by
 refine returnsInHanded_of_change (C := Tryz.checked) own started (by kernel_rfl) Tryz.func6
  (ChangeSpec.witness6 (enc := enc) (C := Tryz.checked) false ⟨#[], #[.agg #[.int .i64 0, .int .i64 0, .int .i64 0, .int .i64 0, .slice none 0 0, .slice none 0 0, .int .i64 0, .slice none 0 0, .int .i64 0, .int .i64 0, .int .i64 0], .agg #[.slice none 0 0, .int .i64 0, .int .i64 0]], []⟩ 8 (by kernel_rfl) (by kernel_rfl) (by kernel_rfl) (by kernel_rfl)) ?_
 intro W base args ds gs before hval0 hW hcnd _
 have hval : ∀ (j : Nat) t v, Tryz.f6.params[j]? = some t → args[j]? = some v → Value.okWide Tryz.prog W .any base t v := hval0
 have hW' := hW
 obtain ⟨p, q, hA0, hV, rfl, hfz, hnd⟩ := hW
 have hA : DataW.TrodAll enc Tryz.prog W 0 (fun _ => true) true Tryz.f6.params.toList args.toList ds p := hA0
 rw [Tryz.params6] at hA hval
 obtain ⟨v0, vs0, d0, ds0, p0, q0, hargs, rfl, rfl, h0, r0⟩ := trodAll_cons hA
 obtain ⟨v1, vs1, d1, ds1, p1, q1, rfl, rfl, rfl, h1, r1⟩ := trodAll_cons r0
 obtain ⟨rfl, rfl, rfl⟩ := trodAll_nil r1
 obtain rfl : args = #[v0, v1] := by cases args; simp_all
 obtain ⟨rfl, rfl⟩ := trodVars_none hV
 have k0 := h0
 have lt0 : ∀ x ∈ p0, x.block < W.heap.size := by obtain ⟨m, hm⟩ := k0; exact DataW.trod_lt m _ _ _ hm
 obtain ⟨a0, ok0, e0⟩ := arg_struct Tryz.underlying27 o_27 (.inr ⟨_, hval 0 27 v0 rfl rfl⟩) h0
 have k1 := h1
 have lt1 : ∀ x ∈ p1, x.block < W.heap.size := by obtain ⟨m, hm⟩ := k1; exact DataW.trod_lt m _ _ _ hm
 obtain ⟨a1, ok1, e1⟩ := arg_struct Tryz.underlying34 o_34 (.inr ⟨_, hval 1 34 v1 rfl rfl⟩) h1
 clear hA0 hval0
 have hlaw : law03_HullSteady a0 a1 = some true := holds_HullSteady ok0 ok1
 refine (law_calls (ok_law03_HullSteady hlaw) (us := [v0, v1]) (repL_cons e0 (repL_cons e1 repL_nil))).mono fun e W' ⟨he, bel⟩ => ?_
 subst he
 exact ⟨_, rfl, _, _, _, [], _, [], hW', trodAll_mk1 (shut_bool Tryz.underlying4 _), (trodAll_cons_mk (Below.trod laidOut (by kernel_rfl) (of_decide_eq_true (by kernel_rfl)) k0 bel lt0) (trodAll_cons_mk (Below.trod laidOut (by kernel_rfl) (of_decide_eq_true (by kernel_rfl)) k1 bel lt1) trodAll_mk0)), rfl, bel.frame _, fun h => by cases h⟩

theorem holds : Rows.HullSteadySaid :=
 OpenClaim.holds_of_wide 6 Tryz.f6 rfl rfl rfl rfl rfl rfl rfl ⟨rfl, rfl, rfl, rfl, rfl⟩ rfl rfl rfl rfl rfl named Tryz.func6 closed inst wrap (fun os started H enc _ => lifted os started H enc)
end Go.Proofs.YthfnbjoecocfaaaGreat.HullSteady
