/- BerthLighters. The given statement BerthLightersSaid is proved: CheckLeases, Lighters, CheckLighters, Busiest, Clashes and Queue answer as the specification does. Conditions: none. Printed by a program (wip/tools/lawgen.py). -/
import Derived.Test.YthfnbjoecocfaaaRows
import Derived.Test.YthfnbjoecocfaaaFct
import Derived.Test.YthfnbjoecocfaaaP
import Derived.Test.YthfnbjoecocfaaaOpn
import Derived.Test.YthfnbjoecocfaaaOkp
import Derived.Test.YthfnbjoecocfaaaLawBerthLighters
import Derived.WalkKit
import Derived.ProofKit
import Derived.OpenShut
import Derived.ChangeOld
import Derived.Below
set_option linter.unusedVariables false
namespace Go.Proofs.Ythfnbjoecocfaaa.BerthLighters
open Go Go.ChangeShapes Go.WideShapes Go.ChangeAt Go.RowKit Go.Am Go.Mx

theorem own : ownKnob Try.prog.godebug = none := by kernel_rfl
theorem laidOut : laidOutB Try.prog = true := by kernel_rfl
theorem okI {k : IntKind} {n : Int} (h : (Lit.int k n).wf = true) : OkI k n := (by simpa [Lit.wf] using h : k.min ≤ n ∧ n ≤ k.max)

theorem o_30 : OpnC Try.prog 30 api_Span (fun x => [.lit (.int .i64 x.Lo), .lit (.int .i64 x.Hi)]) (fun x => ok_api_Span x) := by
  have h := opn_struct Try.underlying30 (by kernel_rfl : _ = 2) (opnF_cons rfl (by kernel_rfl : _ = 1) (opn_int Try.underlying3) (opnF_cons rfl (by kernel_rfl : _ = 1) (opn_int Try.underlying3) opnF_nil))
  exact OpnC.map (α := Int × Int × Unit) (fun a => ⟨a.1, a.2.1⟩) h (fun _ => rfl) (fun _ h => h)
theorem o_88 : OpnC Try.prog 88 api_Lease (fun x => [.lit (.int .i64 x.ID), .lit (.int .i64 x.Heap), .lit (.int .i64 x.Span.Lo), .lit (.int .i64 x.Span.Hi)]) (fun x => ok_api_Lease x) := by
  have h := opn_struct Try.underlying88 (by kernel_rfl : _ = 4) (opnF_cons rfl (by kernel_rfl : _ = 1) (opn_int Try.underlying3) (opnF_cons rfl (by kernel_rfl : _ = 1) (opn_int Try.underlying3) (opnF_cons rfl (by kernel_rfl : _ = 2) o_30 opnF_nil)))
  exact OpnC.map (α := Int × Int × api_Span × Unit) (fun a => ⟨a.1, a.2.1, a.2.2.1⟩) h (fun _ => rfl) (fun _ h => h)
theorem o_62 : OpnC Try.prog 62 (List api_Lease) (fun l => [.sl (l.map e_api_Lease)]) (fun l => ok_62 l) := opn_slice (f := e_api_Lease) Try.underlying62 (by kernel_rfl) (by decide : 0 < 4) o_88 (.inl fun _ => rfl)
theorem o_40 : OpnC Try.prog 40 (List Int) (fun l => [.sl (l.map V.i)]) (fun l => ok_40 l) := opn_slice (f := V.i) Try.underlying40 (by kernel_rfl) (by decide : 0 < 1) (opn_int Try.underlying3) (.inr fun _ => rfl)

set_option maxRecDepth 100000 in
theorem lifted (os : Os) (started : os.Started) (H : Type) (enc : TypeId × Value → H) :
    ReturnsInHanded {} Try.checked os 10 .any (Rows.berthLightersSpec.pre6 enc Try.prog Try.f10 Rows.berthLightersRow.domain false) (Rows.berthLightersSpec.post enc Try.prog Try.f10 false true false false) := by
  refine returnsInHanded_of_change (C := Try.checked) own started (by kernel_rfl) Try.func10
    (ChangeSpec.witness6 (enc := enc) (C := Try.checked) false ⟨#[], #[.slice none 0 0, .slice none 0 0], []⟩ 8 (by kernel_rfl) (by kernel_rfl) (by kernel_rfl) (by kernel_rfl)) ?_
  intro W base args ds gs before hval0 hW hcnd _
  have hval : ∀ (j : Nat) t v, Try.f10.params[j]? = some t → args[j]? = some v → Value.okWide Try.prog W .any base t v := hval0
  have hW' := hW
  obtain ⟨p, q, hA0, hV, rfl, hfz, hnd⟩ := hW
  have hA : DataW.TrodAll enc Try.prog W 0 (fun _ => true) true Try.f10.params.toList args.toList ds p := hA0
  rw [Try.params10] at hA hval
  obtain ⟨v0, vs0, d0, ds0, p0, q0, hargs, rfl, rfl, h0, r0⟩ := trodAll_cons hA
  obtain ⟨v1, vs1, d1, ds1, p1, q1, rfl, rfl, rfl, h1, r1⟩ := trodAll_cons r0
  obtain ⟨rfl, rfl, rfl⟩ := trodAll_nil r1
  obtain rfl : args = #[v0, v1] := by cases args; simp_all
  obtain ⟨rfl, rfl⟩ := trodVars_none hV
  have k0 := h0
  have lt0 : ∀ x ∈ p0, x.block < W.heap.size := by obtain ⟨m, hm⟩ := k0; exact DataW.trod_lt m _ _ _ hm
  obtain ⟨a0, ok0, e0⟩ := arg_slice Try.underlying62 o_62 (hval 0 62 v0 rfl rfl) h0
  have k1 := h1
  have lt1 : ∀ x ∈ p1, x.block < W.heap.size := by obtain ⟨m, hm⟩ := k1; exact DataW.trod_lt m _ _ _ hm
  obtain ⟨a1, ok1, e1⟩ := arg_slice Try.underlying40 o_40 (hval 1 40 v1 rfl rfl) h1
  clear hA0 hval0
  have hlaw : law06_BerthLighters a0 a1 = some true := holds_BerthLighters ok0 ok1
  refine (law_calls (ok_law06_BerthLighters hlaw) (us := [v0, v1]) (repL_cons e0 (repL_cons e1 repL_nil))).mono fun e W' ⟨he, bel⟩ => ?_
  subst he
  exact ⟨_, rfl, _, _, _, [], _, [], hW', trodAll_mk1 (shut_bool Try.underlying4 _), (trodAll_cons_mk (Below.trod laidOut (by kernel_rfl) (of_decide_eq_true (by kernel_rfl)) k0 bel lt0) (trodAll_cons_mk (Below.trod laidOut (by kernel_rfl) (of_decide_eq_true (by kernel_rfl)) k1 bel lt1) trodAll_mk0)), rfl, bel.frame _, fun h => by cases h⟩

theorem holds : Rows.BerthLightersSaid :=
  OpenClaim.holds_of_wide 10 Try.f10 rfl rfl rfl rfl rfl rfl rfl ⟨rfl, rfl, rfl, rfl, rfl⟩ rfl rfl rfl rfl rfl named Try.func10 closed inst wrap (fun os started H enc _ => lifted os started H enc)
end Go.Proofs.Ythfnbjoecocfaaa.BerthLighters
