/- BerthKeeps: the statement. Conditions: none. Printed by a program (wip/tools/lawgen.py). -/
import Derived.Test.YtnkngglimidldaaGreatRows
import Derived.Test.YtnkngglimidldaaGreatFct
import Derived.Test.YtnkngglimidldaaGreatP
import Derived.Test.YtnkngglimidldaaGreatOpn
import Derived.Test.YtnkngglimidldaaGreatOkp
import Derived.Test.YtnkngglimidldaaGreatLawBerthKeeps
import Derived.WalkKit
import Derived.ProofKit
import Derived.OpenShut
import Derived.ChangeOld
import Derived.Below
set_option linter.unusedVariables false
namespace Go.Proofs.YtnkngglimidldaaGreat.BerthKeeps
open Go Go.ChangeShapes Go.WideShapes Go.ChangeAt Go.RowKit Go.Am Go.Mx

theorem own : ownKnob Tryz.prog.godebug = none := by kernel_rfl
theorem laidOut : laidOutB Tryz.prog = true := by kernel_rfl
theorem okI {k : IntKind} {n : Int} (h : (Lit.int k n).wf = true) : OkI k n := (by simpa [Lit.wf] using h : k.min ≤ n ∧ n ≤ k.max)

theorem o_58 : OpnC Tryz.prog 58 (List Int) (fun l => [.sl (l.map V.i)]) (fun l => ok_58 l) := qf (f := V.i) Tryz.underlying58 (by kernel_rfl) (by decide : 0 < 1) (JE Tryz.underlying3) (.inr fun _ => rfl)
theorem o_144 : OpnC Tryz.prog 144 zw (fun x => [.lit (.int .i64 x.ID), .lit (.int .i64 x.Begin), .lit (.int .i64 x.Every), .sl (x.Heights.map V.i)]) (fun x => zD6 x) := by
 have h := yz Tryz.underlying144 (by kernel_rfl : _ = 4) (Zg rfl (by kernel_rfl : _ = 1) (JE Tryz.underlying3) (Zg rfl (by kernel_rfl : _ = 1) (JE Tryz.underlying3) (Zg rfl (by kernel_rfl : _ = 1) (JE Tryz.underlying3) (Zg rfl (by kernel_rfl : _ = 1) o_58 qC))))
 exact OpnC.map (α := Int × Int × Int × (List Int) × Unit) (fun a => ⟨a.1, a.2.1, a.2.2.1, a.2.2.2.1⟩) h (fun _ => rfl) (fun _ h => h)
theorem o_22 : OpnC Tryz.prog 22 (List zw) (fun l => [.sl (l.map ZC)]) (fun l => ok_22 l) := qf (f := ZC) Tryz.underlying22 (by kernel_rfl) (by decide : 0 < 4) o_144 (.inl fun _ => rfl)
theorem o_159 : OpnC Tryz.prog 159 yf (fun x => [.lit (.int .i64 x.From), .lit (.int .i64 x.To), .lit (.int .i64 x.Add)]) (fun x => zD5 x) := by
 have h := yz Tryz.underlying159 (by kernel_rfl : _ = 3) (Zg rfl (by kernel_rfl : _ = 1) (JE Tryz.underlying3) (Zg rfl (by kernel_rfl : _ = 1) (JE Tryz.underlying3) (Zg rfl (by kernel_rfl : _ = 1) (JE Tryz.underlying3) qC)))
 exact OpnC.map (α := Int × Int × Int × Unit) (fun a => ⟨a.1, a.2.1, a.2.2.1⟩) h (fun _ => rfl) (fun _ h => h)
theorem o_23 : OpnC Tryz.prog 23 (List yf) (fun l => [.sl (l.map JH)]) (fun l => ok_23 l) := qf (f := JH) Tryz.underlying23 (by kernel_rfl) (by decide : 0 < 3) o_159 (.inl fun _ => rfl)
theorem o_25 : OpnC Tryz.prog 25 zY (fun x => [.lit (.int .i64 x.Level), .sl (x.Cycles.map ZC), .sl (x.Shifts.map JH)]) (fun x => zBs x) := by
 have h := yz Tryz.underlying25 (by kernel_rfl : _ = 3) (Zg rfl (by kernel_rfl : _ = 1) (JE Tryz.underlying3) (Zg rfl (by kernel_rfl : _ = 1) o_22 (Zg rfl (by kernel_rfl : _ = 1) o_23 qC)))
 exact OpnC.map (α := Int × (List zw) × (List yf) × Unit) (fun a => ⟨a.1, a.2.1, a.2.2.1⟩) h (fun _ => rfl) (fun _ h => h)
theorem o_90 : OpnC Tryz.prog 90 zm (fun x => [.lit (.int .i64 x.ID), .lit (.int .i64 x.Depth)]) (fun x => zD7 x) := by
 have h := yz Tryz.underlying90 (by kernel_rfl : _ = 2) (Zg rfl (by kernel_rfl : _ = 1) (JE Tryz.underlying3) (Zg rfl (by kernel_rfl : _ = 1) (JE Tryz.underlying3) qC))
 exact OpnC.map (α := Int × Int × Unit) (fun a => ⟨a.1, a.2.1⟩) h (fun _ => rfl) (fun _ h => h)
theorem o_26 : OpnC Tryz.prog 26 (List zm) (fun l => [.sl (l.map zU)]) (fun l => ok_26 l) := qf (f := zU) Tryz.underlying26 (by kernel_rfl) (by decide : 0 < 2) o_90 (.inl fun _ => rfl)
theorem o_32 : OpnC Tryz.prog 32 zD (fun x => [.lit (.int .i64 x.Lo), .lit (.int .i64 x.Hi)]) (fun x => zCa x) := by
 have h := yz Tryz.underlying32 (by kernel_rfl : _ = 2) (Zg rfl (by kernel_rfl : _ = 1) (JE Tryz.underlying3) (Zg rfl (by kernel_rfl : _ = 1) (JE Tryz.underlying3) qC))
 exact OpnC.map (α := Int × Int × Unit) (fun a => ⟨a.1, a.2.1⟩) h (fun _ => rfl) (fun _ h => h)
theorem o_27 : OpnC Tryz.prog 27 (List zD) (fun l => [.sl (l.map zJ)]) (fun l => ok_27 l) := qf (f := zJ) Tryz.underlying27 (by kernel_rfl) (by decide : 0 < 2) o_32 (.inl fun _ => rfl)
theorem o_29 : OpnC Tryz.prog 29 zL (fun x => [.lit (.int .i64 x.Water.Level), .sl (x.Water.Cycles.map ZC), .sl (x.Water.Shifts.map JH), .sl (x.Berths.map zU), .sl (x.Tides.map zJ), .lit (.int .i64 x.Keel)]) (fun x => zAz x) := by
 have h := yz Tryz.underlying29 (by kernel_rfl : _ = 6) (Zg rfl (by kernel_rfl : _ = 3) o_25 (Zg rfl (by kernel_rfl : _ = 1) o_26 (Zg rfl (by kernel_rfl : _ = 1) o_27 (Zg rfl (by kernel_rfl : _ = 1) (JE Tryz.underlying3) qC))))
 exact OpnC.map (α := zY × (List zm) × (List zD) × Int × Unit) (fun a => ⟨a.1, a.2.1, a.2.2.1, a.2.2.2.1⟩) h (fun _ => rfl) (fun _ h => h)
theorem o_44 : OpnC Tryz.prog 44 zN (fun x => [.lit (.int .i64 x.ID), .lit (.int .i64 x.Draught), .lit (.int .i64 x.From), .lit (.int .i64 x.To), .lit (.int .i64 x.Long)]) (fun x => zFG x) := by
 have h := yz Tryz.underlying44 (by kernel_rfl : _ = 5) (Zg rfl (by kernel_rfl : _ = 1) (JE Tryz.underlying3) (Zg rfl (by kernel_rfl : _ = 1) (JE Tryz.underlying3) (Zg rfl (by kernel_rfl : _ = 1) (JE Tryz.underlying3) (Zg rfl (by kernel_rfl : _ = 1) (JE Tryz.underlying3) (Zg rfl (by kernel_rfl : _ = 1) (JE Tryz.underlying3) qC)))))
 exact OpnC.map (α := Int × Int × Int × Int × Int × Unit) (fun a => ⟨a.1, a.2.1, a.2.2.1, a.2.2.2.1, a.2.2.2.2.1⟩) h (fun _ => rfl) (fun _ h => h)
theorem o_30 : OpnC Tryz.prog 30 (List zN) (fun l => [.sl (l.map zG)]) (fun l => ok_30 l) := qf (f := zG) Tryz.underlying30 (by kernel_rfl) (by decide : 0 < 5) o_44 (.inl fun _ => rfl)
theorem o_46 : OpnC Tryz.prog 46 zF (fun x => [.lit (.int .i64 x.Tide), .lit (.int .i64 x.Berth)]) (fun x => zFF x) := by
 have h := yz Tryz.underlying46 (by kernel_rfl : _ = 2) (Zg rfl (by kernel_rfl : _ = 1) (JE Tryz.underlying3) (Zg rfl (by kernel_rfl : _ = 1) (JE Tryz.underlying3) qC))
 exact OpnC.map (α := Int × Int × Unit) (fun a => ⟨a.1, a.2.1⟩) h (fun _ => rfl) (fun _ h => h)
theorem o_87 : OpnC Tryz.prog 87 zP (fun x => [.lit (.int .i64 x.Call), .lit (.int .i64 x.Slot.Tide), .lit (.int .i64 x.Slot.Berth), .lit (.int .i64 x.Span.Lo), .lit (.int .i64 x.Span.Hi)]) (fun x => zCZ x) := by
 have h := yz Tryz.underlying87 (by kernel_rfl : _ = 5) (Zg rfl (by kernel_rfl : _ = 1) (JE Tryz.underlying3) (Zg rfl (by kernel_rfl : _ = 2) o_46 (Zg rfl (by kernel_rfl : _ = 2) o_32 qC)))
 exact OpnC.map (α := Int × zF × zD × Unit) (fun a => ⟨a.1, a.2.1, a.2.2.1⟩) h (fun _ => rfl) (fun _ h => h)
theorem o_75 : OpnC Tryz.prog 75 (List zP) (fun l => [.sl (l.map zS)]) (fun l => ok_75 l) := qf (f := zS) Tryz.underlying75 (by kernel_rfl) (by decide : 0 < 5) o_87 (.inl fun _ => rfl)

set_option maxRecDepth 100000 in
theorem lifted (os : Os) (started : os.Started) (H : Type) (enc : TypeId × Value → H) :
  ReturnsInHanded {} Tryz.checked os 6 .any (Rows.berthKeepsSpec.pre6 enc Tryz.prog Tryz.f6 Rows.berthKeepsRow.domain false) (Rows.berthKeepsSpec.post enc Tryz.prog Tryz.f6 false true false false) := by
 refine returnsInHanded_of_change (C := Tryz.checked) own started (by kernel_rfl) Tryz.func6
  (ChangeSpec.witness6 (enc := enc) (C := Tryz.checked) false ⟨#[], #[.agg #[.int .i64 0, .slice none 0 0, .slice none 0 0, .slice none 0 0, .slice none 0 0, .int .i64 0], .slice none 0 0, .slice none 0 0], []⟩ 8 (by kernel_rfl) (by kernel_rfl) (by kernel_rfl) (by kernel_rfl)) ?_
 intro W base args ds gs before hval0 hW hcnd _
 have hval : ∀ (j : Nat) t v, Tryz.f6.params[j]? = some t → args[j]? = some v → Value.okWide Tryz.prog W .any base t v := hval0
 have hW' := hW
 obtain ⟨p, q, hA0, hV, rfl, hfz, hnd⟩ := hW
 have hA : DataW.TrodAll enc Tryz.prog W 0 (fun _ => true) true Tryz.f6.params.toList args.toList ds p := hA0
 rw [Tryz.params6] at hA hval
 obtain ⟨v0, vs0, d0, ds0, p0, q0, hargs, rfl, rfl, h0, r0⟩ := trodAll_cons hA
 obtain ⟨v1, vs1, d1, ds1, p1, q1, rfl, rfl, rfl, h1, r1⟩ := trodAll_cons r0
 obtain ⟨v2, vs2, d2, ds2, p2, q2, rfl, rfl, rfl, h2, r2⟩ := trodAll_cons r1
 obtain ⟨rfl, rfl, rfl⟩ := trodAll_nil r2
 obtain rfl : args = #[v0, v1, v2] := by cases args; simp_all
 obtain ⟨rfl, rfl⟩ := trodVars_none hV
 have k0 := h0
 have lt0 : ∀ x ∈ p0, x.block < W.heap.size := by obtain ⟨m, hm⟩ := k0; exact DataW.trod_lt m _ _ _ hm
 obtain ⟨a0, ok0, e0⟩ := zKJ Tryz.underlying29 o_29 (.inr ⟨_, hval 0 29 v0 rfl rfl⟩) h0
 have k1 := h1
 have lt1 : ∀ x ∈ p1, x.block < W.heap.size := by obtain ⟨m, hm⟩ := k1; exact DataW.trod_lt m _ _ _ hm
 obtain ⟨a1, ok1, e1⟩ := zHw Tryz.underlying30 o_30 (hval 1 30 v1 rfl rfl) h1
 have k2 := h2
 have lt2 : ∀ x ∈ p2, x.block < W.heap.size := by obtain ⟨m, hm⟩ := k2; exact DataW.trod_lt m _ _ _ hm
 obtain ⟨a2, ok2, e2⟩ := zHw Tryz.underlying75 o_75 (hval 2 75 v2 rfl rfl) h2
 clear hA0 hval0
 have hlaw : yU a0 a1 a2 = some true := holds_BerthKeeps ok0 ok1 ok2
 refine (zLG (zDB hlaw) (us := [v0, v1, v2]) (zEo e0 (zEo e1 (zEo e2 zLi)))).mono fun e W' ⟨he, bel⟩ => ?_
 subst he
 exact ⟨_, rfl, _, _, _, [], _, [], hW', trodAll_mk1 (shut_bool Tryz.underlying4 _), (trodAll_cons_mk (Below.trod laidOut (by kernel_rfl) (of_decide_eq_true (by kernel_rfl)) k0 bel lt0) (trodAll_cons_mk (Below.trod laidOut (by kernel_rfl) (of_decide_eq_true (by kernel_rfl)) k1 bel lt1) (trodAll_cons_mk (Below.trod laidOut (by kernel_rfl) (of_decide_eq_true (by kernel_rfl)) k2 bel lt2) trodAll_mk0))), rfl, bel.frame _, fun h => by cases h⟩

theorem holds : Rows.BerthKeepsSaid :=
 OpenClaim.holds_of_wide 6 Tryz.f6 rfl rfl rfl rfl rfl rfl rfl ⟨rfl, rfl, rfl, rfl, rfl⟩ rfl rfl rfl rfl rfl named Tryz.func6 closed inst wrap (fun os started H enc _ => lifted os started H enc)
end Go.Proofs.YtnkngglimidldaaGreat.BerthKeeps
