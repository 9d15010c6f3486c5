/- BerthKeeps: the statement. Conditions: none. Printed by a program (wip/tools/lawgen.py). -/
import Derived.Test.YtnkngglimidldaaGreatRows
import Derived.Test.YtnkngglimidldaaGreatFct
import Derived.Test.YtnkngglimidldaaGreatP
import Derived.Test.YtnkngglimidldaaGreatOpn
import Derived.Test.YtnkngglimidldaaGreatOkp
import Derived.Test.YtnkngglimidldaaGreatLawBerthKeeps
import Derived.WalkKit
import Derived.ProofKit
import Derived.OpenShut
import Derived.ChangeOld
import Derived.Below
set_option linter.unusedVariables false
namespace Go.Proofs.YtnkngglimidldaaGreat.BerthKeeps
open Go Go.ChangeShapes Go.WideShapes Go.ChangeAt Go.RowKit Go.Am Go.Mx

theorem own : ownKnob Tryz.prog.godebug = none := by kernel_rfl
theorem zHx : laidOutB Tryz.prog = true := by kernel_rfl
theorem okI {k : IntKind} {n : Int} (h : (Lit.int k n).wf = true) : OkI k n := (by simpa [Lit.wf] using h : k.min ≤ n ∧ n ≤ k.max)

theorem o_58 : OpnC Tryz.prog 58 (List Int) (fun l => [.sl (l.map V.i)]) (fun l => ok_58 l) := Q6 (f := V.i) Tryz.underlying58 (by kernel_rfl) (by decide : 0 < 1) (jr Tryz.underlying3) (.inr fun _ => rfl)
theorem o_144 : OpnC Tryz.prog 144 zp (fun x => [.lit (.int .i64 x.ID), .lit (.int .i64 x.Begin), .lit (.int .i64 x.Every), .sl (x.Heights.map V.i)]) (fun x => zDY x) := by
 have h := yO Tryz.underlying144 (by kernel_rfl : _ = 4) (ZZ rfl (by kernel_rfl : _ = 1) (jr Tryz.underlying3) (ZZ rfl (by kernel_rfl : _ = 1) (jr Tryz.underlying3) (ZZ rfl (by kernel_rfl : _ = 1) (jr Tryz.underlying3) (ZZ rfl (by kernel_rfl : _ = 1) o_58 Qf))))
 exact OpnC.map (α := Int × Int × Int × (List Int) × Unit) (fun a => ⟨a.1, a.2.1, a.2.2.1, a.2.2.2.1⟩) h (fun _ => rfl) (fun _ h => h)
theorem o_22 : OpnC Tryz.prog 22 (List zp) (fun l => [.sl (l.map zw)]) (fun l => ok_22 l) := Q6 (f := zw) Tryz.underlying22 (by kernel_rfl) (by decide : 0 < 4) o_144 (.inl fun _ => rfl)
theorem o_159 : OpnC Tryz.prog 159 yD (fun x => [.lit (.int .i64 x.From), .lit (.int .i64 x.To), .lit (.int .i64 x.Add)]) (fun x => zDX x) := by
 have h := yO Tryz.underlying159 (by kernel_rfl : _ = 3) (ZZ rfl (by kernel_rfl : _ = 1) (jr Tryz.underlying3) (ZZ rfl (by kernel_rfl : _ = 1) (jr Tryz.underlying3) (ZZ rfl (by kernel_rfl : _ = 1) (jr Tryz.underlying3) Qf)))
 exact OpnC.map (α := Int × Int × Int × Unit) (fun a => ⟨a.1, a.2.1, a.2.2.1⟩) h (fun _ => rfl) (fun _ h => h)
theorem o_23 : OpnC Tryz.prog 23 (List yD) (fun l => [.sl (l.map jv)]) (fun l => ok_23 l) := Q6 (f := jv) Tryz.underlying23 (by kernel_rfl) (by decide : 0 < 3) o_159 (.inl fun _ => rfl)
theorem o_25 : OpnC Tryz.prog 25 zX (fun x => [.lit (.int .i64 x.Level), .sl (x.Cycles.map zw), .sl (x.Shifts.map jv)]) (fun x => zBF x) := by
 have h := yO Tryz.underlying25 (by kernel_rfl : _ = 3) (ZZ rfl (by kernel_rfl : _ = 1) (jr Tryz.underlying3) (ZZ rfl (by kernel_rfl : _ = 1) o_22 (ZZ rfl (by kernel_rfl : _ = 1) o_23 Qf)))
 exact OpnC.map (α := Int × (List zp) × (List yD) × Unit) (fun a => ⟨a.1, a.2.1, a.2.2.1⟩) h (fun _ => rfl) (fun _ h => h)
theorem o_90 : OpnC Tryz.prog 90 zj (fun x => [.lit (.int .i64 x.ID), .lit (.int .i64 x.Depth)]) (fun x => zDZ x) := by
 have h := yO Tryz.underlying90 (by kernel_rfl : _ = 2) (ZZ rfl (by kernel_rfl : _ = 1) (jr Tryz.underlying3) (ZZ rfl (by kernel_rfl : _ = 1) (jr Tryz.underlying3) Qf))
 exact OpnC.map (α := Int × Int × Unit) (fun a => ⟨a.1, a.2.1⟩) h (fun _ => rfl) (fun _ h => h)
theorem o_26 : OpnC Tryz.prog 26 (List zj) (fun l => [.sl (l.map zT)]) (fun l => ok_26 l) := Q6 (f := zT) Tryz.underlying26 (by kernel_rfl) (by decide : 0 < 2) o_90 (.inl fun _ => rfl)
theorem o_32 : OpnC Tryz.prog 32 zD (fun x => [.lit (.int .i64 x.Lo), .lit (.int .i64 x.Hi)]) (fun x => zB0 x) := by
 have h := yO Tryz.underlying32 (by kernel_rfl : _ = 2) (ZZ rfl (by kernel_rfl : _ = 1) (jr Tryz.underlying3) (ZZ rfl (by kernel_rfl : _ = 1) (jr Tryz.underlying3) Qf))
 exact OpnC.map (α := Int × Int × Unit) (fun a => ⟨a.1, a.2.1⟩) h (fun _ => rfl) (fun _ h => h)
theorem o_27 : OpnC Tryz.prog 27 (List zD) (fun l => [.sl (l.map zI)]) (fun l => ok_27 l) := Q6 (f := zI) Tryz.underlying27 (by kernel_rfl) (by decide : 0 < 2) o_32 (.inl fun _ => rfl)
theorem o_29 : OpnC Tryz.prog 29 zK (fun x => [.lit (.int .i64 x.Water.Level), .sl (x.Water.Cycles.map zw), .sl (x.Water.Shifts.map jv), .sl (x.Berths.map zT), .sl (x.Tides.map zI), .lit (.int .i64 x.Keel)]) (fun x => zAK x) := by
 have h := yO Tryz.underlying29 (by kernel_rfl : _ = 6) (ZZ rfl (by kernel_rfl : _ = 3) o_25 (ZZ rfl (by kernel_rfl : _ = 1) o_26 (ZZ rfl (by kernel_rfl : _ = 1) o_27 (ZZ rfl (by kernel_rfl : _ = 1) (jr Tryz.underlying3) Qf))))
 exact OpnC.map (α := zX × (List zj) × (List zD) × Int × Unit) (fun a => ⟨a.1, a.2.1, a.2.2.1, a.2.2.2.1⟩) h (fun _ => rfl) (fun _ h => h)
theorem o_44 : OpnC Tryz.prog 44 zM (fun x => [.lit (.int .i64 x.ID), .lit (.int .i64 x.Draught), .lit (.int .i64 x.From), .lit (.int .i64 x.To), .lit (.int .i64 x.Long)]) (fun x => zEl x) := by
 have h := yO Tryz.underlying44 (by kernel_rfl : _ = 5) (ZZ rfl (by kernel_rfl : _ = 1) (jr Tryz.underlying3) (ZZ rfl (by kernel_rfl : _ = 1) (jr Tryz.underlying3) (ZZ rfl (by kernel_rfl : _ = 1) (jr Tryz.underlying3) (ZZ rfl (by kernel_rfl : _ = 1) (jr Tryz.underlying3) (ZZ rfl (by kernel_rfl : _ = 1) (jr Tryz.underlying3) Qf)))))
 exact OpnC.map (α := Int × Int × Int × Int × Int × Unit) (fun a => ⟨a.1, a.2.1, a.2.2.1, a.2.2.2.1, a.2.2.2.2.1⟩) h (fun _ => rfl) (fun _ h => h)
theorem o_30 : OpnC Tryz.prog 30 (List zM) (fun l => [.sl (l.map zF)]) (fun l => ok_30 l) := Q6 (f := zF) Tryz.underlying30 (by kernel_rfl) (by decide : 0 < 5) o_44 (.inl fun _ => rfl)
theorem o_46 : OpnC Tryz.prog 46 zE (fun x => [.lit (.int .i64 x.Tide), .lit (.int .i64 x.Berth)]) (fun x => zEk x) := by
 have h := yO Tryz.underlying46 (by kernel_rfl : _ = 2) (ZZ rfl (by kernel_rfl : _ = 1) (jr Tryz.underlying3) (ZZ rfl (by kernel_rfl : _ = 1) (jr Tryz.underlying3) Qf))
 exact OpnC.map (α := Int × Int × Unit) (fun a => ⟨a.1, a.2.1⟩) h (fun _ => rfl) (fun _ h => h)
theorem o_87 : OpnC Tryz.prog 87 zO (fun x => [.lit (.int .i64 x.Call), .lit (.int .i64 x.Slot.Tide), .lit (.int .i64 x.Slot.Berth), .lit (.int .i64 x.Span.Lo), .lit (.int .i64 x.Span.Hi)]) (fun x => zBz x) := by
 have h := yO Tryz.underlying87 (by kernel_rfl : _ = 5) (ZZ rfl (by kernel_rfl : _ = 1) (jr Tryz.underlying3) (ZZ rfl (by kernel_rfl : _ = 2) o_46 (ZZ rfl (by kernel_rfl : _ = 2) o_32 Qf)))
 exact OpnC.map (α := Int × zE × zD × Unit) (fun a => ⟨a.1, a.2.1, a.2.2.1⟩) h (fun _ => rfl) (fun _ h => h)
theorem o_75 : OpnC Tryz.prog 75 (List zO) (fun l => [.sl (l.map zR)]) (fun l => ok_75 l) := Q6 (f := zR) Tryz.underlying75 (by kernel_rfl) (by decide : 0 < 5) o_87 (.inl fun _ => rfl)

set_option maxRecDepth 100000 in
theorem lifted (os : Os) (started : os.Started) (H : Type) (enc : TypeId × Value → H) :
  ReturnsInHanded {} Tryz.checked os 6 .any (Rows.berthKeepsSpec.pre6 enc Tryz.prog Tryz.f6 Rows.berthKeepsRow.domain false) (Rows.berthKeepsSpec.post enc Tryz.prog Tryz.f6 false true false false) := by
 refine returnsInHanded_of_change (C := Tryz.checked) own started (by kernel_rfl) Tryz.func6
  (ChangeSpec.witness6 (enc := enc) (C := Tryz.checked) false ⟨#[], #[.agg #[.int .i64 0, .slice none 0 0, .slice none 0 0, .slice none 0 0, .slice none 0 0, .int .i64 0], .slice none 0 0, .slice none 0 0], []⟩ 8 (by kernel_rfl) (by kernel_rfl) (by kernel_rfl) (by kernel_rfl)) ?_
 intro W base args ds gs before hval0 hW hcnd _
 have hval : ∀ (j : Nat) t v, Tryz.f6.params[j]? = some t → args[j]? = some v → Value.okWide Tryz.prog W .any base t v := hval0
 have hW' := hW
 obtain ⟨p, q, hA0, hV, rfl, hfz, hnd⟩ := hW
 have hA : DataW.TrodAll enc Tryz.prog W 0 (fun _ => true) true Tryz.f6.params.toList args.toList ds p := hA0
 rw [Tryz.params6] at hA hval
 obtain ⟨v0, vs0, d0, ds0, p0, q0, hargs, rfl, rfl, h0, r0⟩ := trodAll_cons hA
 obtain ⟨v1, vs1, d1, ds1, p1, q1, rfl, rfl, rfl, h1, r1⟩ := trodAll_cons r0
 obtain ⟨v2, vs2, d2, ds2, p2, q2, rfl, rfl, rfl, h2, r2⟩ := trodAll_cons r1
 obtain ⟨rfl, rfl, rfl⟩ := trodAll_nil r2
 obtain rfl : args = #[v0, v1, v2] := by cases args; simp_all
 obtain ⟨rfl, rfl⟩ := trodVars_none hV
 have k0 := h0
 have lt0 : ∀ x ∈ p0, x.block < W.heap.size := by obtain ⟨m, hm⟩ := k0; exact DataW.trod_lt m _ _ _ hm
 obtain ⟨a0, ok0, e0⟩ := zJy Tryz.underlying29 o_29 (.inr ⟨_, hval 0 29 v0 rfl rfl⟩) h0
 have k1 := h1
 have lt1 : ∀ x ∈ p1, x.block < W.heap.size := by obtain ⟨m, hm⟩ := k1; exact DataW.trod_lt m _ _ _ hm
 obtain ⟨a1, ok1, e1⟩ := zHV Tryz.underlying30 o_30 (hval 1 30 v1 rfl rfl) h1
 have k2 := h2
 have lt2 : ∀ x ∈ p2, x.block < W.heap.size := by obtain ⟨m, hm⟩ := k2; exact DataW.trod_lt m _ _ _ hm
 obtain ⟨a2, ok2, e2⟩ := zHV Tryz.underlying75 o_75 (hval 2 75 v2 rfl rfl) h2
 clear hA0 hval0
 have hlaw : J7 a0 a1 a2 = some true := holds_BerthKeeps ok0 ok1 ok2
 refine (zKw (zCd hlaw) (us := [v0, v1, v2]) (zEH e0 (zEH e1 (zEH e2 zLR)))).mono fun e W' ⟨he, bel⟩ => ?_
 subst he
 exact ⟨_, rfl, _, _, _, [], _, [], hW', trodAll_mk1 (shut_bool Tryz.underlying4 _), (trodAll_cons_mk (Below.trod zHx (by kernel_rfl) (of_decide_eq_true (by kernel_rfl)) k0 bel lt0) (trodAll_cons_mk (Below.trod zHx (by kernel_rfl) (of_decide_eq_true (by kernel_rfl)) k1 bel lt1) (trodAll_cons_mk (Below.trod zHx (by kernel_rfl) (of_decide_eq_true (by kernel_rfl)) k2 bel lt2) trodAll_mk0))), rfl, bel.frame _, fun h => by cases h⟩

theorem holds : Rows.BerthKeepsSaid :=
 OpenClaim.holds_of_wide 6 Tryz.f6 rfl rfl rfl rfl rfl rfl rfl ⟨rfl, rfl, rfl, rfl, rfl⟩ rfl rfl rfl rfl rfl named Tryz.func6 closed inst wrap (fun os started H enc _ => lifted os started H enc)
end Go.Proofs.YtnkngglimidldaaGreat.BerthKeeps
