/- Plain laws, berths: the cheapest places (all rows; that they are the cheapest). Conditions: none. -/
import Derived.Test.YtnkngglimidldaaGreatLawYe
set_option linter.unusedVariables false
set_option linter.unusedSimpArgs false
namespace Go.Mx
structure Aug (cost : List (List Int)) (p i : Nat) (u v of fr : List Int) (L : List Nat) (a : Nat) (L' : List Nat) (o : List Int) : Prop where
 l : o.length = p + 1
 ap : a ≤ p
 ch : Chain fr (a :: L')
 sub : ∀ x ∈ L', x ∈ L
 te : a ≠ 0 → ∀ c : Nat, gI fr a = (c : Int) → gI u (Of of i c) + gI v a = cC cost (Of of i c) a
 same : ∀ k ∈ L', gI o k = (Of of i k : Int)
 rg : ∀ k, k ≤ p → 0 ≤ gI o k ∧ gI o k ≤ i
 inj : ∀ k l, k ≤ p → l ≤ p → k ≠ a → l ≠ a → gI o k ≠ 0 → gI o k = gI o l → k = l
 sur : ∀ r : Nat, 1 ≤ r → r ≤ i → ∃ k, k ≤ p ∧ k ≠ a ∧ gI o k = (r : Int)
 ti : ∀ k, 1 ≤ k → k ≤ p → k ≠ a → gI o k ≠ 0 → gI u (gI o k).toNat + gI v k = cC cost (gI o k).toNat k
 vz : ∀ k, 1 ≤ k → k ≤ p → k ≠ a → gI o k = 0 → gI v k = 0
theorem start {cost : List (List Int)} {p i : Nat} {u v of least : List Int} (hc : CostOK cost p) (hi1 : 1 ≤ i) (hi2 : i ≤ cost.length) (hA : AInv cost p i u v of) (hl : least.length = p + 1) (hls : ∀ k, k ≤ p → gI least k = 4294967296) :
  SInv cost p i u v of (Of of i) 0 [] u v least (List.replicate (p + 1) 0) (List.replicate (p + 1) false) := by
 have hu := hA.uz i (Nat.le_refl _)
 refine ⟨hA.lu, hA.lv, hl, by simp, by simp, .inl ⟨rfl, rfl⟩, fun k => by rw [gB_rep]; simp, fun k hk => by rw [List.mem_singleton] at hk; omega, fun k hk => (by cases hk), hA.vz, hA.fe, hA.ti, fun h => absurd rfl h, fun k hk h0 => by rw [List.mem_singleton] at hk; exact absurd hk h0, fun j hj => (by cases hj), fun k h1 h2 _ => .inr (by rw [hls k h2, hu]; rfl), fun h => absurd rfl h, fun k h1 h2 _ => by rw [hls k h2, hu]; decide, ⟨by omega, by omega, fun _ => hu⟩, fun r h1 h2 => by omega, fun r _ => rfl, fun k h1 h2 => by omega, by omega, fun _ => ⟨fun _ _ _ => rfl, fun _ _ _ => rfl⟩⟩
structure Asg (n p : Nat) (s : Nat → Nat) : Prop where
 lt : ∀ r, r < n → s r < p
 inj : ∀ r q, r < n → q < n → s r = s q → r = q
end Go.Mx
