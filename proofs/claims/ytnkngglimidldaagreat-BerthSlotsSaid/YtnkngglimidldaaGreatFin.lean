/- BerthSlots: the statement. Conditions: none. Printed by a program (wip/tools/lawgen.py). -/
import Derived.Test.YtnkngglimidldaaGreatRows
import Derived.Test.YtnkngglimidldaaGreatFct
import Derived.Test.YtnkngglimidldaaGreatP
import Derived.Test.YtnkngglimidldaaGreatOpn
import Derived.Test.YtnkngglimidldaaGreatOkp
import Derived.Test.YtnkngglimidldaaGreatLawBerthSlots
import Derived.WalkKit
import Derived.ProofKit
import Derived.OpenShut
import Derived.ChangeOld
import Derived.Below
set_option linter.unusedVariables false
namespace Go.Proofs.YtnkngglimidldaaGreat.BerthSlots
open Go Go.ChangeShapes Go.WideShapes Go.ChangeAt Go.RowKit Go.Am Go.Mx

theorem own : ownKnob Tryz.prog.godebug = none := by kernel_rfl
theorem laidOut : laidOutB Tryz.prog = true := by kernel_rfl
theorem okI {k : IntKind} {n : Int} (h : (Lit.int k n).wf = true) : OkI k n := (by simpa [Lit.wf] using h : k.min ≤ n ∧ n ≤ k.max)

theorem o_58 : OpnC Tryz.prog 58 (List Int) (fun l => [.sl (l.map V.i)]) (fun l => ok_58 l) := opn_slice (f := V.i) Tryz.underlying58 (by kernel_rfl) (by decide : 0 < 1) (opn_int Tryz.underlying3) (.inr fun _ => rfl)
theorem o_144 : OpnC Tryz.prog 144 api_Cycle (fun x => [.lit (.int .i64 x.ID), .lit (.int .i64 x.Begin), .lit (.int .i64 x.Every), .sl (x.Heights.map V.i)]) (fun x => ok_api_Cycle x) := by
 have h := opn_struct Tryz.underlying144 (by kernel_rfl : _ = 4) (opnF_cons rfl (by kernel_rfl : _ = 1) (opn_int Tryz.underlying3) (opnF_cons rfl (by kernel_rfl : _ = 1) (opn_int Tryz.underlying3) (opnF_cons rfl (by kernel_rfl : _ = 1) (opn_int Tryz.underlying3) (opnF_cons rfl (by kernel_rfl : _ = 1) o_58 opnF_nil))))
 exact OpnC.map (α := Int × Int × Int × (List Int) × Unit) (fun a => ⟨a.1, a.2.1, a.2.2.1, a.2.2.2.1⟩) h (fun _ => rfl) (fun _ h => h)
theorem o_22 : OpnC Tryz.prog 22 (List api_Cycle) (fun l => [.sl (l.map e_api_Cycle)]) (fun l => ok_22 l) := opn_slice (f := e_api_Cycle) Tryz.underlying22 (by kernel_rfl) (by decide : 0 < 4) o_144 (.inl fun _ => rfl)
theorem o_159 : OpnC Tryz.prog 159 api_Shift (fun x => [.lit (.int .i64 x.From), .lit (.int .i64 x.To), .lit (.int .i64 x.Add)]) (fun x => ok_api_Shift x) := by
 have h := opn_struct Tryz.underlying159 (by kernel_rfl : _ = 3) (opnF_cons rfl (by kernel_rfl : _ = 1) (opn_int Tryz.underlying3) (opnF_cons rfl (by kernel_rfl : _ = 1) (opn_int Tryz.underlying3) (opnF_cons rfl (by kernel_rfl : _ = 1) (opn_int Tryz.underlying3) opnF_nil)))
 exact OpnC.map (α := Int × Int × Int × Unit) (fun a => ⟨a.1, a.2.1, a.2.2.1⟩) h (fun _ => rfl) (fun _ h => h)
theorem o_23 : OpnC Tryz.prog 23 (List api_Shift) (fun l => [.sl (l.map e_api_Shift)]) (fun l => ok_23 l) := opn_slice (f := e_api_Shift) Tryz.underlying23 (by kernel_rfl) (by decide : 0 < 3) o_159 (.inl fun _ => rfl)
theorem o_25 : OpnC Tryz.prog 25 api_Water (fun x => [.lit (.int .i64 x.Level), .sl (x.Cycles.map e_api_Cycle), .sl (x.Shifts.map e_api_Shift)]) (fun x => ok_api_Water x) := by
 have h := opn_struct Tryz.underlying25 (by kernel_rfl : _ = 3) (opnF_cons rfl (by kernel_rfl : _ = 1) (opn_int Tryz.underlying3) (opnF_cons rfl (by kernel_rfl : _ = 1) o_22 (opnF_cons rfl (by kernel_rfl : _ = 1) o_23 opnF_nil)))
 exact OpnC.map (α := Int × (List api_Cycle) × (List api_Shift) × Unit) (fun a => ⟨a.1, a.2.1, a.2.2.1⟩) h (fun _ => rfl) (fun _ h => h)
theorem o_90 : OpnC Tryz.prog 90 api_Berth (fun x => [.lit (.int .i64 x.ID), .lit (.int .i64 x.Depth)]) (fun x => ok_api_Berth x) := by
 have h := opn_struct Tryz.underlying90 (by kernel_rfl : _ = 2) (opnF_cons rfl (by kernel_rfl : _ = 1) (opn_int Tryz.underlying3) (opnF_cons rfl (by kernel_rfl : _ = 1) (opn_int Tryz.underlying3) opnF_nil))
 exact OpnC.map (α := Int × Int × Unit) (fun a => ⟨a.1, a.2.1⟩) h (fun _ => rfl) (fun _ h => h)
theorem o_26 : OpnC Tryz.prog 26 (List api_Berth) (fun l => [.sl (l.map e_api_Berth)]) (fun l => ok_26 l) := opn_slice (f := e_api_Berth) Tryz.underlying26 (by kernel_rfl) (by decide : 0 < 2) o_90 (.inl fun _ => rfl)
theorem o_32 : OpnC Tryz.prog 32 api_Span (fun x => [.lit (.int .i64 x.Lo), .lit (.int .i64 x.Hi)]) (fun x => ok_api_Span x) := by
 have h := opn_struct Tryz.underlying32 (by kernel_rfl : _ = 2) (opnF_cons rfl (by kernel_rfl : _ = 1) (opn_int Tryz.underlying3) (opnF_cons rfl (by kernel_rfl : _ = 1) (opn_int Tryz.underlying3) opnF_nil))
 exact OpnC.map (α := Int × Int × Unit) (fun a => ⟨a.1, a.2.1⟩) h (fun _ => rfl) (fun _ h => h)
theorem o_27 : OpnC Tryz.prog 27 (List api_Span) (fun l => [.sl (l.map e_api_Span)]) (fun l => ok_27 l) := opn_slice (f := e_api_Span) Tryz.underlying27 (by kernel_rfl) (by decide : 0 < 2) o_32 (.inl fun _ => rfl)
theorem o_29 : OpnC Tryz.prog 29 api_Harbour (fun x => [.lit (.int .i64 x.Water.Level), .sl (x.Water.Cycles.map e_api_Cycle), .sl (x.Water.Shifts.map e_api_Shift), .sl (x.Berths.map e_api_Berth), .sl (x.Tides.map e_api_Span), .lit (.int .i64 x.Keel)]) (fun x => ok_api_Harbour x) := by
 have h := opn_struct Tryz.underlying29 (by kernel_rfl : _ = 6) (opnF_cons rfl (by kernel_rfl : _ = 3) o_25 (opnF_cons rfl (by kernel_rfl : _ = 1) o_26 (opnF_cons rfl (by kernel_rfl : _ = 1) o_27 (opnF_cons rfl (by kernel_rfl : _ = 1) (opn_int Tryz.underlying3) opnF_nil))))
 exact OpnC.map (α := api_Water × (List api_Berth) × (List api_Span) × Int × Unit) (fun a => ⟨a.1, a.2.1, a.2.2.1, a.2.2.2.1⟩) h (fun _ => rfl) (fun _ h => h)
theorem o_44 : OpnC Tryz.prog 44 api_Call (fun x => [.lit (.int .i64 x.ID), .lit (.int .i64 x.Draught), .lit (.int .i64 x.From), .lit (.int .i64 x.To), .lit (.int .i64 x.Long)]) (fun x => ok_api_Call x) := by
 have h := opn_struct Tryz.underlying44 (by kernel_rfl : _ = 5) (opnF_cons rfl (by kernel_rfl : _ = 1) (opn_int Tryz.underlying3) (opnF_cons rfl (by kernel_rfl : _ = 1) (opn_int Tryz.underlying3) (opnF_cons rfl (by kernel_rfl : _ = 1) (opn_int Tryz.underlying3) (opnF_cons rfl (by kernel_rfl : _ = 1) (opn_int Tryz.underlying3) (opnF_cons rfl (by kernel_rfl : _ = 1) (opn_int Tryz.underlying3) opnF_nil)))))
 exact OpnC.map (α := Int × Int × Int × Int × Int × Unit) (fun a => ⟨a.1, a.2.1, a.2.2.1, a.2.2.2.1, a.2.2.2.2.1⟩) h (fun _ => rfl) (fun _ h => h)
theorem o_46 : OpnC Tryz.prog 46 api_Slot (fun x => [.lit (.int .i64 x.Tide), .lit (.int .i64 x.Berth)]) (fun x => ok_api_Slot x) := by
 have h := opn_struct Tryz.underlying46 (by kernel_rfl : _ = 2) (opnF_cons rfl (by kernel_rfl : _ = 1) (opn_int Tryz.underlying3) (opnF_cons rfl (by kernel_rfl : _ = 1) (opn_int Tryz.underlying3) opnF_nil))
 exact OpnC.map (α := Int × Int × Unit) (fun a => ⟨a.1, a.2.1⟩) h (fun _ => rfl) (fun _ h => h)

set_option maxRecDepth 100000 in
theorem lifted (os : Os) (started : os.Started) (H : Type) (enc : TypeId × Value → H) :
  ReturnsInHanded {} Tryz.checked os 4 .any (Rows.berthSlotsSpec.pre6 enc Tryz.prog Tryz.f4 Rows.berthSlotsRow.domain false) (Rows.berthSlotsSpec.post enc Tryz.prog Tryz.f4 false true false false) := by
 refine returnsInHanded_of_change (C := Tryz.checked) own started (by kernel_rfl) Tryz.func4
  (ChangeSpec.witness6 (enc := enc) (C := Tryz.checked) false ⟨#[], #[.agg #[.int .i64 0, .slice none 0 0, .slice none 0 0, .slice none 0 0, .slice none 0 0, .int .i64 0], .agg #[.int .i64 0, .int .i64 0, .int .i64 0, .int .i64 0, .int .i64 0], .agg #[.int .i64 0, .int .i64 0], .int .i64 0], []⟩ 8 (by kernel_rfl) (by kernel_rfl) (by kernel_rfl) (by kernel_rfl)) ?_
 intro W base args ds gs before hval0 hW hcnd _
 have hval : ∀ (j : Nat) t v, Tryz.f4.params[j]? = some t → args[j]? = some v → Value.okWide Tryz.prog W .any base t v := hval0
 have hW' := hW
 obtain ⟨p, q, hA0, hV, rfl, hfz, hnd⟩ := hW
 have hA : DataW.TrodAll enc Tryz.prog W 0 (fun _ => true) true Tryz.f4.params.toList args.toList ds p := hA0
 rw [Tryz.params4] at hA hval
 obtain ⟨v0, vs0, d0, ds0, p0, q0, hargs, rfl, rfl, h0, r0⟩ := trodAll_cons hA
 obtain ⟨v1, vs1, d1, ds1, p1, q1, rfl, rfl, rfl, h1, r1⟩ := trodAll_cons r0
 obtain ⟨v2, vs2, d2, ds2, p2, q2, rfl, rfl, rfl, h2, r2⟩ := trodAll_cons r1
 obtain ⟨v3, vs3, d3, ds3, p3, q3, rfl, rfl, rfl, h3, r3⟩ := trodAll_cons r2
 obtain ⟨rfl, rfl, rfl⟩ := trodAll_nil r3
 obtain rfl : args = #[v0, v1, v2, v3] := by cases args; simp_all
 obtain ⟨rfl, rfl⟩ := trodVars_none hV
 have k0 := h0
 have lt0 : ∀ x ∈ p0, x.block < W.heap.size := by obtain ⟨m, hm⟩ := k0; exact DataW.trod_lt m _ _ _ hm
 obtain ⟨a0, ok0, e0⟩ := arg_struct Tryz.underlying29 o_29 (.inr ⟨_, hval 0 29 v0 rfl rfl⟩) h0
 have k1 := h1
 have lt1 : ∀ x ∈ p1, x.block < W.heap.size := by obtain ⟨m, hm⟩ := k1; exact DataW.trod_lt m _ _ _ hm
 obtain ⟨a1, ok1, e1⟩ := arg_struct Tryz.underlying44 o_44 (.inr ⟨_, hval 1 44 v1 rfl rfl⟩) h1
 have k2 := h2
 have lt2 : ∀ x ∈ p2, x.block < W.heap.size := by obtain ⟨m, hm⟩ := k2; exact DataW.trod_lt m _ _ _ hm
 obtain ⟨a2, ok2, e2⟩ := arg_struct Tryz.underlying46 o_46 (.inr ⟨_, hval 2 46 v2 rfl rfl⟩) h2
 obtain ⟨a3, rfl, rfl, rfl, w3⟩ := open_int Tryz.underlying3 (hval 3 3 v3 rfl rfl) h3
 clear hA0 hval0
 have hlaw : law06_BerthSlots a0 a1 a2 a3 = some true := holds_BerthSlots ok0 ok1 ok2 (okI w3)
 refine (law_calls (ok_law06_BerthSlots hlaw) (us := [v0, v1, v2, .int .i64 a3]) (repL_cons e0 (repL_cons e1 (repL_cons e2 (repL_cons arg_int repL_nil))))).mono fun e W' ⟨he, bel⟩ => ?_
 subst he
 exact ⟨_, rfl, _, _, _, [], _, [], hW', trodAll_mk1 (shut_bool Tryz.underlying4 _), (trodAll_cons_mk (Below.trod laidOut (by kernel_rfl) (of_decide_eq_true (by kernel_rfl)) k0 bel lt0) (trodAll_cons_mk (Below.trod laidOut (by kernel_rfl) (of_decide_eq_true (by kernel_rfl)) k1 bel lt1) (trodAll_cons_mk (Below.trod laidOut (by kernel_rfl) (of_decide_eq_true (by kernel_rfl)) k2 bel lt2) (trodAll_cons_mk (shut_int Tryz.underlying3 w3) trodAll_mk0)))), rfl, bel.frame _, fun h => by cases h⟩

theorem holds : Rows.BerthSlotsSaid :=
 OpenClaim.holds_of_wide 4 Tryz.f4 rfl rfl rfl rfl rfl rfl rfl ⟨rfl, rfl, rfl, rfl, rfl⟩ rfl rfl rfl rfl rfl named Tryz.func4 closed inst wrap (fun os started H enc _ => lifted os started H enc)
end Go.Proofs.YtnkngglimidldaaGreat.BerthSlots
