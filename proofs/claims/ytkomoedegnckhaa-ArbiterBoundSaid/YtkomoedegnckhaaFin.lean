/- ArbiterBound: the statement. Conditions: none. Printed by a program (wip/tools/lawgen.py). -/
import Derived.Test.YtkomoedegnckhaaRows
import Derived.Test.YtkomoedegnckhaaFct
import Derived.Test.YtkomoedegnckhaaP
import Derived.Test.YtkomoedegnckhaaOpn
import Derived.Test.YtkomoedegnckhaaOkp
import Derived.Test.YtkomoedegnckhaaLawArbiterBound
import Derived.WalkKit
import Derived.ProofKit
import Derived.OpenShut
import Derived.ChangeOld
import Derived.Below
set_option linter.unusedVariables false
namespace Go.Proofs.Ytkomoedegnckhaa.ArbiterBound
open Go Go.ChangeShapes Go.WideShapes Go.ChangeAt Go.RowKit Go.Am Go.Mx

theorem own : ownKnob Try.prog.godebug = none := by kernel_rfl
theorem laidOut : laidOutB Try.prog = true := by kernel_rfl
theorem okI {k : IntKind} {n : Int} (h : (Lit.int k n).wf = true) : OkI k n := (by simpa [Lit.wf] using h : k.min ≤ n ∧ n ≤ k.max)

theorem o_23 : OpnC Try.prog 23 api_Court (fun x => [.lit (.int .i64 x.Arbiters)]) (fun x => ok_api_Court x) := by
 have h := opn_struct Try.underlying23 (by kernel_rfl : _ = 1) (opnF_cons rfl (by kernel_rfl : _ = 1) (opn_int Try.underlying3) opnF_nil)
 exact OpnC.map (α := Int × Unit) (fun a => ⟨a.1⟩) h (fun _ => rfl) (fun _ h => h)
theorem o_37 : OpnC Try.prog 37 api_Letter (fun x => [.lit (.int .i64 x.ID), .lit (.int .i64 x.Case), .lit (.int .i64 x.Kind), .lit (.int .i64 x.Round), .lit (.int .i64 x.From), .lit (.int .i64 x.To), .lit (.int .i64 x.Voted), .lit (.int .i64 x.Finding)]) (fun x => ok_api_Letter x) := by
 have h := opn_struct Try.underlying37 (by kernel_rfl : _ = 8) (opnF_cons rfl (by kernel_rfl : _ = 1) (opn_int Try.underlying3) (opnF_cons rfl (by kernel_rfl : _ = 1) (opn_int Try.underlying3) (opnF_cons rfl (by kernel_rfl : _ = 1) (opn_int Try.underlying3) (opnF_cons rfl (by kernel_rfl : _ = 1) (opn_int Try.underlying3) (opnF_cons rfl (by kernel_rfl : _ = 1) (opn_int Try.underlying3) (opnF_cons rfl (by kernel_rfl : _ = 1) (opn_int Try.underlying3) (opnF_cons rfl (by kernel_rfl : _ = 1) (opn_int Try.underlying3) (opnF_cons rfl (by kernel_rfl : _ = 1) (opn_int Try.underlying3) opnF_nil))))))))
 exact OpnC.map (α := Int × Int × Int × Int × Int × Int × Int × Int × Unit) (fun a => ⟨a.1, a.2.1, a.2.2.1, a.2.2.2.1, a.2.2.2.2.1, a.2.2.2.2.2.1, a.2.2.2.2.2.2.1, a.2.2.2.2.2.2.2.1⟩) h (fun _ => rfl) (fun _ h => h)
theorem o_24 : OpnC Try.prog 24 (List api_Letter) (fun l => [.sl (l.map e_api_Letter)]) (fun l => ok_24 l) := opn_slice (f := e_api_Letter) Try.underlying24 (by kernel_rfl) (by decide : 0 < 8) o_37 (.inl fun _ => rfl)

set_option maxRecDepth 100000 in
theorem lifted (os : Os) (started : os.Started) (H : Type) (enc : TypeId × Value → H) :
  ReturnsInHanded {} Try.checked os 6 .any (Rows.arbiterBoundSpec.pre6 enc Try.prog Try.f6 Rows.arbiterBoundRow.domain false) (Rows.arbiterBoundSpec.post enc Try.prog Try.f6 false true false false) := by
 refine returnsInHanded_of_change (C := Try.checked) own started (by kernel_rfl) Try.func6
  (ChangeSpec.witness6 (enc := enc) (C := Try.checked) false ⟨#[], #[.agg #[.int .i64 0], .slice none 0 0], []⟩ 8 (by kernel_rfl) (by kernel_rfl) (by kernel_rfl) (by kernel_rfl)) ?_
 intro W base args ds gs before hval0 hW hcnd _
 have hval : ∀ (j : Nat) t v, Try.f6.params[j]? = some t → args[j]? = some v → Value.okWide Try.prog W .any base t v := hval0
 have hW' := hW
 obtain ⟨p, q, hA0, hV, rfl, hfz, hnd⟩ := hW
 have hA : DataW.TrodAll enc Try.prog W 0 (fun _ => true) true Try.f6.params.toList args.toList ds p := hA0
 rw [Try.params6] at hA hval
 obtain ⟨v0, vs0, d0, ds0, p0, q0, hargs, rfl, rfl, h0, r0⟩ := trodAll_cons hA
 obtain ⟨v1, vs1, d1, ds1, p1, q1, rfl, rfl, rfl, h1, r1⟩ := trodAll_cons r0
 obtain ⟨rfl, rfl, rfl⟩ := trodAll_nil r1
 obtain rfl : args = #[v0, v1] := by cases args; simp_all
 obtain ⟨rfl, rfl⟩ := trodVars_none hV
 have k0 := h0
 have lt0 : ∀ x ∈ p0, x.block < W.heap.size := by obtain ⟨m, hm⟩ := k0; exact DataW.trod_lt m _ _ _ hm
 obtain ⟨a0, ok0, e0⟩ := arg_struct Try.underlying23 o_23 (.inr ⟨_, hval 0 23 v0 rfl rfl⟩) h0
 have k1 := h1
 have lt1 : ∀ x ∈ p1, x.block < W.heap.size := by obtain ⟨m, hm⟩ := k1; exact DataW.trod_lt m _ _ _ hm
 obtain ⟨a1, ok1, e1⟩ := arg_slice Try.underlying24 o_24 (hval 1 24 v1 rfl rfl) h1
 clear hA0 hval0
 have hlaw : law09_ArbiterBound a0 a1 = some true := holds_ArbiterBound ok0 ok1
 refine (law_calls (ok_law09_ArbiterBound hlaw) (us := [v0, v1]) (repL_cons e0 (repL_cons e1 repL_nil))).mono fun e W' ⟨he, bel⟩ => ?_
 subst he
 exact ⟨_, rfl, _, _, _, [], _, [], hW', trodAll_mk1 (shut_bool Try.underlying4 _), (trodAll_cons_mk (Below.trod laidOut (by kernel_rfl) (of_decide_eq_true (by kernel_rfl)) k0 bel lt0) (trodAll_cons_mk (Below.trod laidOut (by kernel_rfl) (of_decide_eq_true (by kernel_rfl)) k1 bel lt1) trodAll_mk0)), rfl, bel.frame _, fun h => by cases h⟩

theorem holds : Rows.ArbiterBoundSaid :=
 OpenClaim.holds_of_wide 6 Try.f6 rfl rfl rfl rfl rfl rfl rfl ⟨rfl, rfl, rfl, rfl, rfl⟩ rfl rfl rfl rfl rfl named Try.func6 closed inst wrap (fun os started H enc _ => lifted os started H enc)
end Go.Proofs.Ytkomoedegnckhaa.ArbiterBound
