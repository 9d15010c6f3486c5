/- ArbiterWorldsAreLawful. The given statement ArbiterWorldsAreLawfulSaid is proved: What a world has sent is lawful, known rulings are rulings of it and agree, and each book says what its arbiter has voted. Conditions: none. Printed by a program (wip/tools/lawgen.py). -/
import Derived.Test.YtfoafeaplgmhmaaGreatRows
import Derived.Test.YtfoafeaplgmhmaaGreatFct
import Derived.Test.YtfoafeaplgmhmaaGreatW5
import Derived.Test.YtfoafeaplgmhmaaGreatOpn
import Derived.Test.YtfoafeaplgmhmaaGreatOkp
import Derived.Test.YtfoafeaplgmhmaaGreatLawWn
import Derived.WalkKit
import Derived.ProofKit
import Derived.OpenShut
import Derived.ChangeOld
import Derived.Below
set_option linter.unusedVariables false
namespace Go.Proofs.YtfoafeaplgmhmaaGreat.ArbiterWorldsAreLawful
open Go Go.ChangeShapes Go.WideShapes Go.ChangeAt Go.RowKit Go.Am Go.Mx

theorem own : ownKnob Tryz.prog.godebug = none := by kernel_rfl
theorem laidOut : laidOutB Tryz.prog = true := by kernel_rfl
theorem okI {k : IntKind} {n : Int} (h : (Lit.int k n).wf = true) : OkI k n := (by simpa [Lit.wf] using h : k.min ≤ n ∧ n ≤ k.max)

theorem o_23 : OpnC Tryz.prog 23 zG (fun x => [.lit (.int .i64 x.Arbiters)]) (fun x => zIt x) := by
 have h := zGb Tryz.underlying23 (by kernel_rfl : _ = 1) (qi rfl (by kernel_rfl : _ = 1) (zC8 Tryz.underlying3) zJi)
 exact OpnC.map (α := Int × Unit) (fun a => ⟨a.1⟩) h (fun _ => rfl) (fun _ h => h)
theorem o_39 : OpnC Tryz.prog 39 Zn (fun x => [.lit (.int .i64 x.Kind), .lit (.int .i64 x.A), .lit (.int .i64 x.Case), .lit (.int .i64 x.Finding), .lit (.int .i64 x.N)]) (fun x => zGd x) := by
 have h := zGb Tryz.underlying39 (by kernel_rfl : _ = 5) (qi rfl (by kernel_rfl : _ = 1) (zC8 Tryz.underlying3) (qi rfl (by kernel_rfl : _ = 1) (zC8 Tryz.underlying3) (qi rfl (by kernel_rfl : _ = 1) (zC8 Tryz.underlying3) (qi rfl (by kernel_rfl : _ = 1) (zC8 Tryz.underlying3) (qi rfl (by kernel_rfl : _ = 1) (zC8 Tryz.underlying3) zJi)))))
 exact OpnC.map (α := Int × Int × Int × Int × Int × Unit) (fun a => ⟨a.1, a.2.1, a.2.2.1, a.2.2.2.1, a.2.2.2.2.1⟩) h (fun _ => rfl) (fun _ h => h)
theorem o_24 : OpnC Tryz.prog 24 (List Zn) (fun l => [.sl (l.map zL)]) (fun l => ok_24 l) := zMc (f := zL) Tryz.underlying24 (by kernel_rfl) (by decide : 0 < 5) o_39 (.inl fun _ => rfl)

set_option maxRecDepth 100000 in
theorem lifted (os : Os) (started : os.Started) (H : Type) (enc : TypeId × Value → H) :
  ReturnsInHanded {} Tryz.checked os 4 .any (Rows.arbiterWorldsAreLawfulSpec.pre6 enc Tryz.prog Tryz.f4 Rows.arbiterWorldsAreLawfulRow.domain false) (Rows.arbiterWorldsAreLawfulSpec.post enc Tryz.prog Tryz.f4 false true false false) := by
 refine returnsInHanded_of_change (C := Tryz.checked) own started (by kernel_rfl) Tryz.func4
  (ChangeSpec.witness6 (enc := enc) (C := Tryz.checked) false ⟨#[], #[.agg #[.int .i64 0], .slice none 0 0], []⟩ 8 (by kernel_rfl) (by kernel_rfl) (by kernel_rfl) (by kernel_rfl)) ?_
 intro W base args ds gs before hval0 hW hcnd _
 have hval : ∀ (j : Nat) t v, Tryz.f4.params[j]? = some t → args[j]? = some v → Value.okWide Tryz.prog W .any base t v := hval0
 have hW' := hW
 obtain ⟨p, q, hA0, hV, rfl, hfz, hnd⟩ := hW
 have hA : DataW.TrodAll enc Tryz.prog W 0 (fun _ => true) true Tryz.f4.params.toList args.toList ds p := hA0
 rw [Tryz.params4] at hA hval
 obtain ⟨v0, vs0, d0, ds0, p0, q0, hargs, rfl, rfl, h0, r0⟩ := trodAll_cons hA
 obtain ⟨v1, vs1, d1, ds1, p1, q1, rfl, rfl, rfl, h1, r1⟩ := trodAll_cons r0
 obtain ⟨rfl, rfl, rfl⟩ := trodAll_nil r1
 obtain rfl : args = #[v0, v1] := by cases args; simp_all
 obtain ⟨rfl, rfl⟩ := trodVars_none hV
 have k0 := h0
 have lt0 : ∀ x ∈ p0, x.block < W.heap.size := by obtain ⟨m, hm⟩ := k0; exact DataW.trod_lt m _ _ _ hm
 obtain ⟨a0, ok0, e0⟩ := zLV Tryz.underlying23 o_23 (.inr ⟨_, hval 0 23 v0 rfl rfl⟩) h0
 have k1 := h1
 have lt1 : ∀ x ∈ p1, x.block < W.heap.size := by obtain ⟨m, hm⟩ := k1; exact DataW.trod_lt m _ _ _ hm
 obtain ⟨a1, ok1, e1⟩ := zM8 Tryz.underlying24 o_24 (hval 1 24 v1 rfl rfl) h1
 clear hA0 hval0
 refine (zMp (zAe (zJv a0 a1)) (us := [v0, v1]) (zHq e0 (zHq e1 zNO))).mono fun e W' ⟨he, bel⟩ => ?_
 subst he
 exact ⟨_, rfl, _, _, _, [], _, [], hW', trodAll_mk1 (shut_bool Tryz.underlying4 _), (trodAll_cons_mk (Below.trod laidOut (by kernel_rfl) (of_decide_eq_true (by kernel_rfl)) k0 bel lt0) (trodAll_cons_mk (Below.trod laidOut (by kernel_rfl) (of_decide_eq_true (by kernel_rfl)) k1 bel lt1) trodAll_mk0)), rfl, bel.frame _, fun h => by cases h⟩

theorem holds : Rows.ArbiterWorldsAreLawfulSaid :=
 OpenClaim.holds_of_wide 4 Tryz.f4 rfl rfl rfl rfl rfl rfl rfl ⟨rfl, rfl, rfl, rfl, rfl⟩ rfl rfl rfl rfl rfl named Tryz.func4 closed inst wrap (fun os started H enc _ => lifted os started H enc)
end Go.Proofs.YtfoafeaplgmhmaaGreat.ArbiterWorldsAreLawful
