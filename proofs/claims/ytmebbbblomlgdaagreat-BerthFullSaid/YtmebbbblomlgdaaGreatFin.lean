/- BerthFull. The given statement BerthFullSaid is proved: Full, Sure and CheckFull answer as the specification asks. Conditions: none. Printed by a program (wip/tools/lawgen.py). -/
import Derived.Test.YtmebbbblomlgdaaGreatRows
import Derived.Test.YtmebbbblomlgdaaGreatFct
import Derived.Test.YtmebbbblomlgdaaGreatP
import Derived.Test.YtmebbbblomlgdaaGreatOpn
import Derived.Test.YtmebbbblomlgdaaGreatOkp
import Derived.Test.YtmebbbblomlgdaaGreatLawBerthFull
import Derived.WalkKit
import Derived.ProofKit
import Derived.OpenShut
import Derived.ChangeOld
import Derived.Below
set_option linter.unusedVariables false
namespace Go.Proofs.YtmebbbblomlgdaaGreat.BerthFull
open Go Go.ChangeShapes Go.WideShapes Go.ChangeAt Go.RowKit Go.Am Go.Mx

theorem own : ownKnob Tryz.prog.godebug = none := by kernel_rfl
theorem laidOut : laidOutB Tryz.prog = true := by kernel_rfl
theorem okI {k : IntKind} {n : Int} (h : (Lit.int k n).wf = true) : OkI k n := (by simpa [Lit.wf] using h : k.min ≤ n ∧ n ≤ k.max)

theorem o_31 : OpnC Tryz.prog 31 (List Int) (fun l => [.sl (l.map V.i)]) (fun l => zN8 l) := zAi (f := V.i) Tryz.underlying31 (by kernel_rfl) (by decide : 0 < 1) (JL Tryz.underlying3) (.inr fun _ => rfl)
theorem o_101 : OpnC Tryz.prog 101 zX (fun x => [.lit (.int .i64 x.ID), .lit (.int .i64 x.Begin), .lit (.int .i64 x.Every), .sl (x.Heights.map V.i)]) (fun x => zFT x) := by
 have h := YT Tryz.underlying101 (by kernel_rfl : _ = 4) (Zb rfl (by kernel_rfl : _ = 1) (JL Tryz.underlying3) (Zb rfl (by kernel_rfl : _ = 1) (JL Tryz.underlying3) (Zb rfl (by kernel_rfl : _ = 1) (JL Tryz.underlying3) (Zb rfl (by kernel_rfl : _ = 1) o_31 zAH))))
 exact OpnC.map (α := Int × Int × Int × (List Int) × Unit) (fun a => ⟨a.1, a.2.1, a.2.2.1, a.2.2.2.1⟩) h (fun _ => rfl) (fun _ h => h)
theorem o_22 : OpnC Tryz.prog 22 (List zX) (fun l => [.sl (l.map zk)]) (fun l => ok_22 l) := zAi (f := zk) Tryz.underlying22 (by kernel_rfl) (by decide : 0 < 4) o_101 (.inl fun _ => rfl)
theorem o_172 : OpnC Tryz.prog 172 jP (fun x => [.lit (.int .i64 x.From), .lit (.int .i64 x.To), .lit (.int .i64 x.Add)]) (fun x => zFS x) := by
 have h := YT Tryz.underlying172 (by kernel_rfl : _ = 3) (Zb rfl (by kernel_rfl : _ = 1) (JL Tryz.underlying3) (Zb rfl (by kernel_rfl : _ = 1) (JL Tryz.underlying3) (Zb rfl (by kernel_rfl : _ = 1) (JL Tryz.underlying3) zAH)))
 exact OpnC.map (α := Int × Int × Int × Unit) (fun a => ⟨a.1, a.2.1, a.2.2.1⟩) h (fun _ => rfl) (fun _ h => h)
theorem o_23 : OpnC Tryz.prog 23 (List jP) (fun l => [.sl (l.map ZN)]) (fun l => ok_23 l) := zAi (f := ZN) Tryz.underlying23 (by kernel_rfl) (by decide : 0 < 3) o_172 (.inl fun _ => rfl)
theorem o_25 : OpnC Tryz.prog 25 zO (fun x => [.lit (.int .i64 x.Level), .sl (x.Cycles.map zk), .sl (x.Shifts.map ZN)]) (fun x => zC8 x) := by
 have h := YT Tryz.underlying25 (by kernel_rfl : _ = 3) (Zb rfl (by kernel_rfl : _ = 1) (JL Tryz.underlying3) (Zb rfl (by kernel_rfl : _ = 1) o_22 (Zb rfl (by kernel_rfl : _ = 1) o_23 zAH)))
 exact OpnC.map (α := Int × (List zX) × (List jP) × Unit) (fun a => ⟨a.1, a.2.1, a.2.2.1⟩) h (fun _ => rfl) (fun _ h => h)
theorem o_103 : OpnC Tryz.prog 103 zT (fun x => [.lit (.int .i64 x.ID), .lit (.int .i64 x.Depth)]) (fun x => zFV x) := by
 have h := YT Tryz.underlying103 (by kernel_rfl : _ = 2) (Zb rfl (by kernel_rfl : _ = 1) (JL Tryz.underlying3) (Zb rfl (by kernel_rfl : _ = 1) (JL Tryz.underlying3) zAH))
 exact OpnC.map (α := Int × Int × Unit) (fun a => ⟨a.1, a.2.1⟩) h (fun _ => rfl) (fun _ h => h)
theorem o_26 : OpnC Tryz.prog 26 (List zT) (fun l => [.sl (l.map zQ)]) (fun l => ok_26 l) := zAi (f := zQ) Tryz.underlying26 (by kernel_rfl) (by decide : 0 < 2) o_103 (.inl fun _ => rfl)
theorem o_54 : OpnC Tryz.prog 54 zC (fun x => [.lit (.int .i64 x.Lo), .lit (.int .i64 x.Hi)]) (fun x => zGX x) := by
 have h := YT Tryz.underlying54 (by kernel_rfl : _ = 2) (Zb rfl (by kernel_rfl : _ = 1) (JL Tryz.underlying3) (Zb rfl (by kernel_rfl : _ = 1) (JL Tryz.underlying3) zAH))
 exact OpnC.map (α := Int × Int × Unit) (fun a => ⟨a.1, a.2.1⟩) h (fun _ => rfl) (fun _ h => h)
theorem o_27 : OpnC Tryz.prog 27 (List zC) (fun l => [.sl (l.map zI)]) (fun l => ok_27 l) := zAi (f := zI) Tryz.underlying27 (by kernel_rfl) (by decide : 0 < 2) o_54 (.inl fun _ => rfl)
theorem o_29 : OpnC Tryz.prog 29 zG (fun x => [.lit (.int .i64 x.Water.Level), .sl (x.Water.Cycles.map zk), .sl (x.Water.Shifts.map ZN), .sl (x.Berths.map zQ), .sl (x.Tides.map zI), .lit (.int .i64 x.Keel)]) (fun x => zB3 x) := by
 have h := YT Tryz.underlying29 (by kernel_rfl : _ = 6) (Zb rfl (by kernel_rfl : _ = 3) o_25 (Zb rfl (by kernel_rfl : _ = 1) o_26 (Zb rfl (by kernel_rfl : _ = 1) o_27 (Zb rfl (by kernel_rfl : _ = 1) (JL Tryz.underlying3) zAH))))
 exact OpnC.map (α := zO × (List zT) × (List zC) × Int × Unit) (fun a => ⟨a.1, a.2.1, a.2.2.1, a.2.2.2.1⟩) h (fun _ => rfl) (fun _ h => h)
theorem o_62 : OpnC Tryz.prog 62 zJ (fun x => [.lit (.int .i64 x.ID), .lit (.int .i64 x.Draught), .lit (.int .i64 x.From), .lit (.int .i64 x.To), .lit (.int .i64 x.Long)]) (fun x => zGZ x) := by
 have h := YT Tryz.underlying62 (by kernel_rfl : _ = 5) (Zb rfl (by kernel_rfl : _ = 1) (JL Tryz.underlying3) (Zb rfl (by kernel_rfl : _ = 1) (JL Tryz.underlying3) (Zb rfl (by kernel_rfl : _ = 1) (JL Tryz.underlying3) (Zb rfl (by kernel_rfl : _ = 1) (JL Tryz.underlying3) (Zb rfl (by kernel_rfl : _ = 1) (JL Tryz.underlying3) zAH)))))
 exact OpnC.map (α := Int × Int × Int × Int × Int × Unit) (fun a => ⟨a.1, a.2.1, a.2.2.1, a.2.2.2.1, a.2.2.2.2.1⟩) h (fun _ => rfl) (fun _ h => h)
theorem o_30 : OpnC Tryz.prog 30 (List zJ) (fun l => [.sl (l.map zH)]) (fun l => ok_30 l) := zAi (f := zH) Tryz.underlying30 (by kernel_rfl) (by decide : 0 < 5) o_62 (.inl fun _ => rfl)
theorem o_65 : OpnC Tryz.prog 65 zB (fun x => [.lit (.int .i64 x.Tide), .lit (.int .i64 x.Berth)]) (fun x => zGY x) := by
 have h := YT Tryz.underlying65 (by kernel_rfl : _ = 2) (Zb rfl (by kernel_rfl : _ = 1) (JL Tryz.underlying3) (Zb rfl (by kernel_rfl : _ = 1) (JL Tryz.underlying3) zAH))
 exact OpnC.map (α := Int × Int × Unit) (fun a => ⟨a.1, a.2.1⟩) h (fun _ => rfl) (fun _ h => h)
theorem o_32 : OpnC Tryz.prog 32 (List zB) (fun l => [.sl (l.map zA)]) (fun l => ok_32 l) := zAi (f := zA) Tryz.underlying32 (by kernel_rfl) (by decide : 0 < 2) o_65 (.inl fun _ => rfl)
theorem o_34 : OpnC Tryz.prog 34 zZ (fun x => [.sl (x.Calls.map V.i), .sl (x.Slots.map zA)]) (fun x => zFU x) := by
 have h := YT Tryz.underlying34 (by kernel_rfl : _ = 2) (Zb rfl (by kernel_rfl : _ = 1) o_31 (Zb rfl (by kernel_rfl : _ = 1) o_32 zAH))
 exact OpnC.map (α := (List Int) × (List zB) × Unit) (fun a => ⟨a.1, a.2.1⟩) h (fun _ => rfl) (fun _ h => h)

set_option maxRecDepth 100000 in
theorem lifted (os : Os) (started : os.Started) (H : Type) (enc : TypeId × Value → H) :
  ReturnsInHanded {} Tryz.checked os 3 .any (Rows.berthFullSpec.pre6 enc Tryz.prog Tryz.f3 Rows.berthFullRow.domain false) (Rows.berthFullSpec.post enc Tryz.prog Tryz.f3 false true false false) := by
 refine returnsInHanded_of_change (C := Tryz.checked) own started (by kernel_rfl) Tryz.func3
  (ChangeSpec.witness6 (enc := enc) (C := Tryz.checked) false ⟨#[], #[.agg #[.int .i64 0, .slice none 0 0, .slice none 0 0, .slice none 0 0, .slice none 0 0, .int .i64 0], .slice none 0 0, .agg #[.slice none 0 0, .slice none 0 0]], []⟩ 8 (by kernel_rfl) (by kernel_rfl) (by kernel_rfl) (by kernel_rfl)) ?_
 intro W base args ds gs before hval0 hW hcnd _
 have hval : ∀ (j : Nat) t v, Tryz.f3.params[j]? = some t → args[j]? = some v → Value.okWide Tryz.prog W .any base t v := hval0
 have hW' := hW
 obtain ⟨p, q, hA0, hV, rfl, hfz, hnd⟩ := hW
 have hA : DataW.TrodAll enc Tryz.prog W 0 (fun _ => true) true Tryz.f3.params.toList args.toList ds p := hA0
 rw [Tryz.params3] at hA hval
 obtain ⟨v0, vs0, d0, ds0, p0, q0, hargs, rfl, rfl, h0, r0⟩ := trodAll_cons hA
 obtain ⟨v1, vs1, d1, ds1, p1, q1, rfl, rfl, rfl, h1, r1⟩ := trodAll_cons r0
 obtain ⟨v2, vs2, d2, ds2, p2, q2, rfl, rfl, rfl, h2, r2⟩ := trodAll_cons r1
 obtain ⟨rfl, rfl, rfl⟩ := trodAll_nil r2
 obtain rfl : args = #[v0, v1, v2] := by cases args; simp_all
 obtain ⟨rfl, rfl⟩ := trodVars_none hV
 have k0 := h0
 have lt0 : ∀ x ∈ p0, x.block < W.heap.size := by obtain ⟨m, hm⟩ := k0; exact DataW.trod_lt m _ _ _ hm
 obtain ⟨a0, ok0, e0⟩ := zIc Tryz.underlying29 o_29 (.inr ⟨_, hval 0 29 v0 rfl rfl⟩) h0
 have k1 := h1
 have lt1 : ∀ x ∈ p1, x.block < W.heap.size := by obtain ⟨m, hm⟩ := k1; exact DataW.trod_lt m _ _ _ hm
 obtain ⟨a1, ok1, e1⟩ := zNX Tryz.underlying30 o_30 (hval 1 30 v1 rfl rfl) h1
 have k2 := h2
 have lt2 : ∀ x ∈ p2, x.block < W.heap.size := by obtain ⟨m, hm⟩ := k2; exact DataW.trod_lt m _ _ _ hm
 obtain ⟨a2, ok2, e2⟩ := zIc Tryz.underlying34 o_34 (.inr ⟨_, hval 2 34 v2 rfl rfl⟩) h2
 clear hA0 hval0
 have hlaw : Yf a0 a1 a2 = some true := holds_BerthFull ok0 ok1 ok2
 refine (zNK (zEx hlaw) (us := [v0, v1, v2]) (zGB e0 (zGB e1 (zGB e2 zNv)))).mono fun e W' ⟨he, bel⟩ => ?_
 subst he
 exact ⟨_, rfl, _, _, _, [], _, [], hW', trodAll_mk1 (shut_bool Tryz.underlying4 _), (trodAll_cons_mk (Below.trod laidOut (by kernel_rfl) (of_decide_eq_true (by kernel_rfl)) k0 bel lt0) (trodAll_cons_mk (Below.trod laidOut (by kernel_rfl) (of_decide_eq_true (by kernel_rfl)) k1 bel lt1) (trodAll_cons_mk (Below.trod laidOut (by kernel_rfl) (of_decide_eq_true (by kernel_rfl)) k2 bel lt2) trodAll_mk0))), rfl, bel.frame _, fun h => by cases h⟩

theorem holds : Rows.BerthFullSaid :=
 OpenClaim.holds_of_wide 3 Tryz.f3 rfl rfl rfl rfl rfl rfl rfl ⟨rfl, rfl, rfl, rfl, rfl⟩ rfl rfl rfl rfl rfl named Tryz.func3 closed inst wrap (fun os started H enc _ => lifted os started H enc)
end Go.Proofs.YtmebbbblomlgdaaGreat.BerthFull
