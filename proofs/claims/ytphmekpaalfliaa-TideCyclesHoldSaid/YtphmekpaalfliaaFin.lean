/- TideCyclesHold. The given statement TideCyclesHoldSaid is proved: Shortest and Apart keep a cycle's values, Together adds two, and Shortest is shortest and stays as it is. Conditions: none. Printed by a program (wip/tools/lawgen.py). -/
import Derived.Test.YtphmekpaalfliaaRows
import Derived.Test.YtphmekpaalfliaaFct
import Derived.Test.YtphmekpaalfliaaP
import Derived.Test.YtphmekpaalfliaaOpn
import Derived.Test.YtphmekpaalfliaaOkp
import Derived.Test.YtphmekpaalfliaaLawTideCyclesHold
import Derived.WalkKit
import Derived.ProofKit
import Derived.OpenShut
import Derived.ChangeOld
import Derived.Below
set_option linter.unusedVariables false
namespace Go.Proofs.Ytphmekpaalfliaa.TideCyclesHold
open Go Go.ChangeShapes Go.WideShapes Go.ChangeAt Go.RowKit Go.Am Go.Mx

theorem own : ownKnob Try.prog.godebug = none := by kernel_rfl
theorem laidOut : laidOutB Try.prog = true := by kernel_rfl
theorem okI {k : IntKind} {n : Int} (h : (Lit.int k n).wf = true) : OkI k n := (by simpa [Lit.wf] using h : k.min ≤ n ∧ n ≤ k.max)

theorem o_26 : OpnC Try.prog 26 (List Int) (fun l => [.sl (l.map V.i)]) (fun l => ok_26 l) := opn_slice (f := V.i) Try.underlying26 (by kernel_rfl) (by decide : 0 < 1) (opn_int Try.underlying3) (.inr fun _ => rfl)
theorem o_28 : OpnC Try.prog 28 api_Cycle (fun x => [.lit (.int .i64 x.ID), .lit (.int .i64 x.Begin), .lit (.int .i64 x.Every), .sl (x.Heights.map V.i)]) (fun x => ok_api_Cycle x) := by
  have h := opn_struct Try.underlying28 (by kernel_rfl : _ = 4) (opnF_cons rfl (by kernel_rfl : _ = 1) (opn_int Try.underlying3) (opnF_cons rfl (by kernel_rfl : _ = 1) (opn_int Try.underlying3) (opnF_cons rfl (by kernel_rfl : _ = 1) (opn_int Try.underlying3) (opnF_cons rfl (by kernel_rfl : _ = 1) o_26 opnF_nil))))
  exact OpnC.map (α := Int × Int × Int × (List Int) × Unit) (fun a => ⟨a.1, a.2.1, a.2.2.1, a.2.2.2.1⟩) h (fun _ => rfl) (fun _ h => h)

set_option maxRecDepth 100000 in
theorem lifted (os : Os) (started : os.Started) (H : Type) (enc : TypeId × Value → H) :
    ReturnsInHanded {} Try.checked os 15 .any (Rows.tideCyclesHoldSpec.pre6 enc Try.prog Try.f15 Rows.tideCyclesHoldRow.domain false) (Rows.tideCyclesHoldSpec.post enc Try.prog Try.f15 false true false false) := by
  refine returnsInHanded_of_change (C := Try.checked) own started (by kernel_rfl) Try.func15
    (ChangeSpec.witness6 (enc := enc) (C := Try.checked) false ⟨#[], #[.agg #[.int .i64 0, .int .i64 0, .int .i64 0, .slice none 0 0], .agg #[.int .i64 0, .int .i64 0, .int .i64 0, .slice none 0 0], .int .i64 0, .int .u8 0], []⟩ 8 (by kernel_rfl) (by kernel_rfl) (by kernel_rfl) (by kernel_rfl)) ?_
  intro W base args ds gs before hval0 hW hcnd _
  have hval : ∀ (j : Nat) t v, Try.f15.params[j]? = some t → args[j]? = some v → Value.okWide Try.prog W .any base t v := hval0
  have hW' := hW
  obtain ⟨p, q, hA0, hV, rfl, hfz, hnd⟩ := hW
  have hA : DataW.TrodAll enc Try.prog W 0 (fun _ => true) true Try.f15.params.toList args.toList ds p := hA0
  rw [Try.params15] at hA hval
  obtain ⟨v0, vs0, d0, ds0, p0, q0, hargs, rfl, rfl, h0, r0⟩ := trodAll_cons hA
  obtain ⟨v1, vs1, d1, ds1, p1, q1, rfl, rfl, rfl, h1, r1⟩ := trodAll_cons r0
  obtain ⟨v2, vs2, d2, ds2, p2, q2, rfl, rfl, rfl, h2, r2⟩ := trodAll_cons r1
  obtain ⟨v3, vs3, d3, ds3, p3, q3, rfl, rfl, rfl, h3, r3⟩ := trodAll_cons r2
  obtain ⟨rfl, rfl, rfl⟩ := trodAll_nil r3
  obtain rfl : args = #[v0, v1, v2, v3] := by cases args; simp_all
  obtain ⟨rfl, rfl⟩ := trodVars_none hV
  have k0 := h0
  have lt0 : ∀ x ∈ p0, x.block < W.heap.size := by obtain ⟨m, hm⟩ := k0; exact DataW.trod_lt m _ _ _ hm
  obtain ⟨a0, ok0, e0⟩ := arg_struct Try.underlying28 o_28 (.inr ⟨_, hval 0 28 v0 rfl rfl⟩) h0
  have k1 := h1
  have lt1 : ∀ x ∈ p1, x.block < W.heap.size := by obtain ⟨m, hm⟩ := k1; exact DataW.trod_lt m _ _ _ hm
  obtain ⟨a1, ok1, e1⟩ := arg_struct Try.underlying28 o_28 (.inr ⟨_, hval 1 28 v1 rfl rfl⟩) h1
  obtain ⟨a2, rfl, rfl, rfl, w2⟩ := open_int Try.underlying3 (hval 2 3 v2 rfl rfl) h2
  obtain ⟨a3, rfl, rfl, rfl, w3⟩ := open_int Try.underlying5 (hval 3 5 v3 rfl rfl) h3
  clear hA0 hval0
  have hlaw : law02_TideCyclesHold a0 a1 a2 a3 = some true := holds_TideCyclesHold ok0 ok1 (okI w2) (okI w3)
  refine (law_calls (ok_law02_TideCyclesHold hlaw) (us := [v0, v1, .int .i64 a2, .int .u8 a3]) (repL_cons e0 (repL_cons e1 (repL_cons arg_int (repL_cons arg_int repL_nil))))).mono fun e W' ⟨he, bel⟩ => ?_
  subst he
  exact ⟨_, rfl, _, _, _, [], _, [], hW', trodAll_mk1 (shut_bool Try.underlying4 _), (trodAll_cons_mk (Below.trod laidOut (by kernel_rfl) (of_decide_eq_true (by kernel_rfl)) k0 bel lt0) (trodAll_cons_mk (Below.trod laidOut (by kernel_rfl) (of_decide_eq_true (by kernel_rfl)) k1 bel lt1) (trodAll_cons_mk (shut_int Try.underlying3 w2) (trodAll_cons_mk (shut_int Try.underlying5 w3) trodAll_mk0)))), rfl, bel.frame _, fun h => by cases h⟩

theorem holds : Rows.TideCyclesHoldSaid :=
  OpenClaim.holds_of_wide 15 Try.f15 rfl rfl rfl rfl rfl rfl rfl ⟨rfl, rfl, rfl, rfl, rfl⟩ rfl rfl rfl rfl rfl named Try.func15 closed inst wrap (fun os started H enc _ => lifted os started H enc)

end Go.Proofs.Ytphmekpaalfliaa.TideCyclesHold
