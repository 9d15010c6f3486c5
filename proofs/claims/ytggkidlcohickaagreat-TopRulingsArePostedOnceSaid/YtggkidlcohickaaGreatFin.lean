/- TopRulingsArePostedOnce. The given statement TopRulingsArePostedOnceSaid is proved: Whatever was lost, doubled or forgotten, the merged books of the arbiters' offices are one book in which each ruled bill is corrected once, and each such ruling has an accepted proof. Conditions: none. Printed by a program (wip/tools/lawgen.py). -/
import Derived.Test.YtggkidlcohickaaGreatRows
import Derived.Test.YtggkidlcohickaaGreatFct
import Derived.Test.YtggkidlcohickaaGreatW8
import Derived.Test.YtggkidlcohickaaGreatOpn
import Derived.Test.YtggkidlcohickaaGreatOkp
import Derived.Test.YtggkidlcohickaaGreatLawRe
import Derived.WalkKit
import Derived.ProofKit
import Derived.OpenShut
import Derived.ChangeOld
import Derived.Below
set_option linter.unusedVariables false
namespace Go.Proofs.YtggkidlcohickaaGreat.TopRulingsArePostedOnce
open Go Go.ChangeShapes Go.WideShapes Go.ChangeAt Go.RowKit Go.Am Go.Mx

theorem own : ownKnob Tryz.prog.godebug = none := by kernel_rfl
theorem laidOut : laidOutB Tryz.prog = true := by kernel_rfl
theorem okI {k : IntKind} {n : Int} (h : (Lit.int k n).wf = true) : OkI k n := (by simpa [Lit.wf] using h : k.min ≤ n ∧ n ≤ k.max)

theorem o_23 : OpnC Tryz.prog 23 zD (fun x => [.lit (.int .i64 x.Arbiters)]) (fun x => zIc x) := by
 have h := zGS Tryz.underlying23 (by kernel_rfl : _ = 1) (qI rfl (by kernel_rfl : _ = 1) (zCq Tryz.underlying3) zJW)
 exact OpnC.map (α := Int × Unit) (fun a => ⟨a.1⟩) h (fun _ => rfl) (fun _ h => h)
theorem o_32 : OpnC Tryz.prog 32 ZO (fun x => [.lit (.int .i64 x.Kind), .lit (.int .i64 x.A), .lit (.int .i64 x.Case), .lit (.int .i64 x.Finding), .lit (.int .i64 x.N)]) (fun x => zGU x) := by
 have h := zGS Tryz.underlying32 (by kernel_rfl : _ = 5) (qI rfl (by kernel_rfl : _ = 1) (zCq Tryz.underlying3) (qI rfl (by kernel_rfl : _ = 1) (zCq Tryz.underlying3) (qI rfl (by kernel_rfl : _ = 1) (zCq Tryz.underlying3) (qI rfl (by kernel_rfl : _ = 1) (zCq Tryz.underlying3) (qI rfl (by kernel_rfl : _ = 1) (zCq Tryz.underlying3) zJW)))))
 exact OpnC.map (α := Int × Int × Int × Int × Int × Unit) (fun a => ⟨a.1, a.2.1, a.2.2.1, a.2.2.2.1, a.2.2.2.2.1⟩) h (fun _ => rfl) (fun _ h => h)
theorem o_24 : OpnC Tryz.prog 24 (List ZO) (fun l => [.sl (l.map zL)]) (fun l => ok_24 l) := zMs (f := zL) Tryz.underlying24 (by kernel_rfl) (by decide : 0 < 5) o_32 (.inl fun _ => rfl)

set_option maxRecDepth 100000 in
theorem lifted (os : Os) (started : os.Started) (H : Type) (enc : TypeId × Value → H) :
  ReturnsInHanded {} Tryz.checked os 3 .any (Rows.topRulingsArePostedOnceSpec.pre6 enc Tryz.prog Tryz.f3 Rows.topRulingsArePostedOnceRow.domain false) (Rows.topRulingsArePostedOnceSpec.post enc Tryz.prog Tryz.f3 false true false false) := by
 refine returnsInHanded_of_change (C := Tryz.checked) own started (by kernel_rfl) Tryz.func3
  (ChangeSpec.witness6 (enc := enc) (C := Tryz.checked) false ⟨#[], #[.agg #[.int .i64 0], .slice none 0 0, .int .u16 0, .int .u8 0], []⟩ 8 (by kernel_rfl) (by kernel_rfl) (by kernel_rfl) (by kernel_rfl)) ?_
 intro W base args ds gs before hval0 hW hcnd _
 have hval : ∀ (j : Nat) t v, Tryz.f3.params[j]? = some t → args[j]? = some v → Value.okWide Tryz.prog W .any base t v := hval0
 have hW' := hW
 obtain ⟨p, q, hA0, hV, rfl, hfz, hnd⟩ := hW
 have hA : DataW.TrodAll enc Tryz.prog W 0 (fun _ => true) true Tryz.f3.params.toList args.toList ds p := hA0
 rw [Tryz.params3] at hA hval
 obtain ⟨v0, vs0, d0, ds0, p0, q0, hargs, rfl, rfl, h0, r0⟩ := trodAll_cons hA
 obtain ⟨v1, vs1, d1, ds1, p1, q1, rfl, rfl, rfl, h1, r1⟩ := trodAll_cons r0
 obtain ⟨v2, vs2, d2, ds2, p2, q2, rfl, rfl, rfl, h2, r2⟩ := trodAll_cons r1
 obtain ⟨v3, vs3, d3, ds3, p3, q3, rfl, rfl, rfl, h3, r3⟩ := trodAll_cons r2
 obtain ⟨rfl, rfl, rfl⟩ := trodAll_nil r3
 obtain rfl : args = #[v0, v1, v2, v3] := by cases args; simp_all
 obtain ⟨rfl, rfl⟩ := trodVars_none hV
 have k0 := h0
 have lt0 : ∀ x ∈ p0, x.block < W.heap.size := by obtain ⟨m, hm⟩ := k0; exact DataW.trod_lt m _ _ _ hm
 obtain ⟨a0, ok0, e0⟩ := zLT Tryz.underlying23 o_23 (.inr ⟨_, hval 0 23 v0 rfl rfl⟩) h0
 have k1 := h1
 have lt1 : ∀ x ∈ p1, x.block < W.heap.size := by obtain ⟨m, hm⟩ := k1; exact DataW.trod_lt m _ _ _ hm
 obtain ⟨a1, ok1, e1⟩ := zNK Tryz.underlying24 o_24 (hval 1 24 v1 rfl rfl) h1
 obtain ⟨a2, rfl, rfl, rfl, w2⟩ := open_int Tryz.underlying25 (hval 2 25 v2 rfl rfl) h2
 obtain ⟨a3, rfl, rfl, rfl, w3⟩ := open_int Tryz.underlying5 (hval 3 5 v3 rfl rfl) h3
 clear hA0 hval0
 refine (zM3 (zNw (zKk a0 a1 (OkI.u16 (okI w2)) (OkI.u8 (okI w3)))) (us := [v0, v1, .int .u16 a2, .int .u8 a3]) (zCm e0 (zCm e1 (zCm zMJ (zCm zMJ zNa))))).mono fun e W' ⟨he, bel⟩ => ?_
 subst he
 exact ⟨_, rfl, _, _, _, [], _, [], hW', trodAll_mk1 (shut_bool Tryz.underlying4 _), (trodAll_cons_mk (Below.trod laidOut (by kernel_rfl) (of_decide_eq_true (by kernel_rfl)) k0 bel lt0) (trodAll_cons_mk (Below.trod laidOut (by kernel_rfl) (of_decide_eq_true (by kernel_rfl)) k1 bel lt1) (trodAll_cons_mk (shut_int Tryz.underlying25 w2) (trodAll_cons_mk (shut_int Tryz.underlying5 w3) trodAll_mk0)))), rfl, bel.frame _, fun h => by cases h⟩

theorem holds : Rows.TopRulingsArePostedOnceSaid :=
 OpenClaim.holds_of_wide 3 Tryz.f3 rfl rfl rfl rfl rfl rfl rfl ⟨rfl, rfl, rfl, rfl, rfl⟩ rfl rfl rfl rfl rfl named Tryz.func3 closed inst wrap (fun os started H enc _ => lifted os started H enc)
end Go.Proofs.YtggkidlcohickaaGreat.TopRulingsArePostedOnce
