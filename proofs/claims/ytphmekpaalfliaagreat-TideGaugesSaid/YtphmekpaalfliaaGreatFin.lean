/- TideGauges. The given statement TideGaugesSaid is proved: Levels, Rests, Clashes and Suspects answer as the specification does. Conditions: none. Printed by a program (wip/tools/lawgen.py). -/
import Derived.Test.YtphmekpaalfliaaGreatRows
import Derived.Test.YtphmekpaalfliaaGreatFct
import Derived.Test.YtphmekpaalfliaaGreatP
import Derived.Test.YtphmekpaalfliaaGreatOpn
import Derived.Test.YtphmekpaalfliaaGreatOkp
import Derived.Test.YtphmekpaalfliaaGreatLawTideGauges
import Derived.WalkKit
import Derived.ProofKit
import Derived.OpenShut
import Derived.ChangeOld
import Derived.Below
set_option linter.unusedVariables false
namespace Go.Proofs.YtphmekpaalfliaaGreat.TideGauges
open Go Go.ChangeShapes Go.WideShapes Go.ChangeAt Go.RowKit Go.Am Go.Mx

theorem own : ownKnob Tryz.prog.godebug = none := by kernel_rfl
theorem laidOut : laidOutB Tryz.prog = true := by kernel_rfl
theorem okI {k : IntKind} {n : Int} (h : (Lit.int k n).wf = true) : OkI k n := (by simpa [Lit.wf] using h : k.min ≤ n ∧ n ≤ k.max)

theorem o_29 : OpnC Tryz.prog 29 (List Int) (fun l => [.sl (l.map V.i)]) (fun l => ok_29 l) := opn_slice (f := V.i) Tryz.underlying29 (by kernel_rfl) (by decide : 0 < 1) (opn_int Tryz.underlying3) (.inr fun _ => rfl)
theorem o_55 : OpnC Tryz.prog 55 api_Cycle (fun x => [.lit (.int .i64 x.ID), .lit (.int .i64 x.Begin), .lit (.int .i64 x.Every), .sl (x.Heights.map V.i)]) (fun x => ok_api_Cycle x) := by
  have h := opn_struct Tryz.underlying55 (by kernel_rfl : _ = 4) (opnF_cons rfl (by kernel_rfl : _ = 1) (opn_int Tryz.underlying3) (opnF_cons rfl (by kernel_rfl : _ = 1) (opn_int Tryz.underlying3) (opnF_cons rfl (by kernel_rfl : _ = 1) (opn_int Tryz.underlying3) (opnF_cons rfl (by kernel_rfl : _ = 1) o_29 opnF_nil))))
  exact OpnC.map (α := Int × Int × Int × (List Int) × Unit) (fun a => ⟨a.1, a.2.1, a.2.2.1, a.2.2.2.1⟩) h (fun _ => rfl) (fun _ h => h)
theorem o_22 : OpnC Tryz.prog 22 (List api_Cycle) (fun l => [.sl (l.map e_api_Cycle)]) (fun l => ok_22 l) := opn_slice (f := e_api_Cycle) Tryz.underlying22 (by kernel_rfl) (by decide : 0 < 4) o_55 (.inl fun _ => rfl)
theorem o_103 : OpnC Tryz.prog 103 api_Shift (fun x => [.lit (.int .i64 x.From), .lit (.int .i64 x.To), .lit (.int .i64 x.Add)]) (fun x => ok_api_Shift x) := by
  have h := opn_struct Tryz.underlying103 (by kernel_rfl : _ = 3) (opnF_cons rfl (by kernel_rfl : _ = 1) (opn_int Tryz.underlying3) (opnF_cons rfl (by kernel_rfl : _ = 1) (opn_int Tryz.underlying3) (opnF_cons rfl (by kernel_rfl : _ = 1) (opn_int Tryz.underlying3) opnF_nil)))
  exact OpnC.map (α := Int × Int × Int × Unit) (fun a => ⟨a.1, a.2.1, a.2.2.1⟩) h (fun _ => rfl) (fun _ h => h)
theorem o_23 : OpnC Tryz.prog 23 (List api_Shift) (fun l => [.sl (l.map e_api_Shift)]) (fun l => ok_23 l) := opn_slice (f := e_api_Shift) Tryz.underlying23 (by kernel_rfl) (by decide : 0 < 3) o_103 (.inl fun _ => rfl)
theorem o_25 : OpnC Tryz.prog 25 api_Water (fun x => [.lit (.int .i64 x.Level), .sl (x.Cycles.map e_api_Cycle), .sl (x.Shifts.map e_api_Shift)]) (fun x => ok_api_Water x) := by
  have h := opn_struct Tryz.underlying25 (by kernel_rfl : _ = 3) (opnF_cons rfl (by kernel_rfl : _ = 1) (opn_int Tryz.underlying3) (opnF_cons rfl (by kernel_rfl : _ = 1) o_22 (opnF_cons rfl (by kernel_rfl : _ = 1) o_23 opnF_nil)))
  exact OpnC.map (α := Int × (List api_Cycle) × (List api_Shift) × Unit) (fun a => ⟨a.1, a.2.1, a.2.2.1⟩) h (fun _ => rfl) (fun _ h => h)
theorem o_39 : OpnC Tryz.prog 39 api_Span (fun x => [.lit (.int .i64 x.Lo), .lit (.int .i64 x.Hi)]) (fun x => ok_api_Span x) := by
  have h := opn_struct Tryz.underlying39 (by kernel_rfl : _ = 2) (opnF_cons rfl (by kernel_rfl : _ = 1) (opn_int Tryz.underlying3) (opnF_cons rfl (by kernel_rfl : _ = 1) (opn_int Tryz.underlying3) opnF_nil))
  exact OpnC.map (α := Int × Int × Unit) (fun a => ⟨a.1, a.2.1⟩) h (fun _ => rfl) (fun _ h => h)
theorem o_75 : OpnC Tryz.prog 75 api_Gauge (fun x => [.lit (.int .i64 x.ID), .lit (.int .i64 x.Tick), .lit (.int .i64 x.Read.Lo), .lit (.int .i64 x.Read.Hi)]) (fun x => ok_api_Gauge x) := by
  have h := opn_struct Tryz.underlying75 (by kernel_rfl : _ = 4) (opnF_cons rfl (by kernel_rfl : _ = 1) (opn_int Tryz.underlying3) (opnF_cons rfl (by kernel_rfl : _ = 1) (opn_int Tryz.underlying3) (opnF_cons rfl (by kernel_rfl : _ = 2) o_39 opnF_nil)))
  exact OpnC.map (α := Int × Int × api_Span × Unit) (fun a => ⟨a.1, a.2.1, a.2.2.1⟩) h (fun _ => rfl) (fun _ h => h)
theorem o_26 : OpnC Tryz.prog 26 (List api_Gauge) (fun l => [.sl (l.map e_api_Gauge)]) (fun l => ok_26 l) := opn_slice (f := e_api_Gauge) Tryz.underlying26 (by kernel_rfl) (by decide : 0 < 4) o_75 (.inl fun _ => rfl)

set_option maxRecDepth 100000 in
theorem lifted (os : Os) (started : os.Started) (H : Type) (enc : TypeId × Value → H) :
    ReturnsInHanded {} Tryz.checked os 4 .any (Rows.tideGaugesSpec.pre6 enc Tryz.prog Tryz.f4 Rows.tideGaugesRow.domain false) (Rows.tideGaugesSpec.post enc Tryz.prog Tryz.f4 false true false false) := by
  refine returnsInHanded_of_change (C := Tryz.checked) own started (by kernel_rfl) Tryz.func4
    (ChangeSpec.witness6 (enc := enc) (C := Tryz.checked) false ⟨#[], #[.agg #[.int .i64 0, .slice none 0 0, .slice none 0 0], .slice none 0 0], []⟩ 8 (by kernel_rfl) (by kernel_rfl) (by kernel_rfl) (by kernel_rfl)) ?_
  intro W base args ds gs before hval0 hW hcnd _
  have hval : ∀ (j : Nat) t v, Tryz.f4.params[j]? = some t → args[j]? = some v → Value.okWide Tryz.prog W .any base t v := hval0
  have hW' := hW
  obtain ⟨p, q, hA0, hV, rfl, hfz, hnd⟩ := hW
  have hA : DataW.TrodAll enc Tryz.prog W 0 (fun _ => true) true Tryz.f4.params.toList args.toList ds p := hA0
  rw [Tryz.params4] at hA hval
  obtain ⟨v0, vs0, d0, ds0, p0, q0, hargs, rfl, rfl, h0, r0⟩ := trodAll_cons hA
  obtain ⟨v1, vs1, d1, ds1, p1, q1, rfl, rfl, rfl, h1, r1⟩ := trodAll_cons r0
  obtain ⟨rfl, rfl, rfl⟩ := trodAll_nil r1
  obtain rfl : args = #[v0, v1] := by cases args; simp_all
  obtain ⟨rfl, rfl⟩ := trodVars_none hV
  have k0 := h0
  have lt0 : ∀ x ∈ p0, x.block < W.heap.size := by obtain ⟨m, hm⟩ := k0; exact DataW.trod_lt m _ _ _ hm
  obtain ⟨a0, ok0, e0⟩ := arg_struct Tryz.underlying25 o_25 (.inr ⟨_, hval 0 25 v0 rfl rfl⟩) h0
  have k1 := h1
  have lt1 : ∀ x ∈ p1, x.block < W.heap.size := by obtain ⟨m, hm⟩ := k1; exact DataW.trod_lt m _ _ _ hm
  obtain ⟨a1, ok1, e1⟩ := arg_slice Tryz.underlying26 o_26 (hval 1 26 v1 rfl rfl) h1
  clear hA0 hval0
  have hlaw : law02_TideGauges a0 a1 = some true := holds_TideGauges ok0 ok1
  refine (law_calls (ok_law02_TideGauges hlaw) (us := [v0, v1]) (repL_cons e0 (repL_cons e1 repL_nil))).mono fun e W' ⟨he, bel⟩ => ?_
  subst he
  exact ⟨_, rfl, _, _, _, [], _, [], hW', trodAll_mk1 (shut_bool Tryz.underlying4 _), (trodAll_cons_mk (Below.trod laidOut (by kernel_rfl) (of_decide_eq_true (by kernel_rfl)) k0 bel lt0) (trodAll_cons_mk (Below.trod laidOut (by kernel_rfl) (of_decide_eq_true (by kernel_rfl)) k1 bel lt1) trodAll_mk0)), rfl, bel.frame _, fun h => by cases h⟩

theorem holds : Rows.TideGaugesSaid :=
  OpenClaim.holds_of_wide 4 Tryz.f4 rfl rfl rfl rfl rfl rfl rfl ⟨rfl, rfl, rfl, rfl, rfl⟩ rfl rfl rfl rfl rfl named Tryz.func4 closed inst wrap (fun os started H enc _ => lifted os started H enc)
end Go.Proofs.YtphmekpaalfliaaGreat.TideGauges
