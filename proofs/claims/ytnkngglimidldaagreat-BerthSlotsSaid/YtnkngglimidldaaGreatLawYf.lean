/- Plain laws, berths: the cheapest places (all rows; that they are the cheapest). Conditions: none. -/
import Derived.Test.YtnkngglimidldaaGreatLawYe
set_option linter.unusedVariables false
set_option linter.unusedSimpArgs false
namespace Go.Mx
structure Aug (cost : List (List Int)) (p i : Nat) (u v of fr : List Int) (L : List Nat) (a : Nat) (L' : List Nat) (o : List Int) : Prop where
 l : o.length = p + 1
 ap : a ≤ p
 ch : Chain fr (a :: L')
 sub : ∀ x ∈ L', x ∈ L
 te : a ≠ 0 → ∀ c : Nat, gI fr a = (c : Int) → gI u (Of of i c) + gI v a = cC cost (Of of i c) a
 same : ∀ k ∈ L', gI o k = (Of of i k : Int)
 rg : ∀ k, k ≤ p → 0 ≤ gI o k ∧ gI o k ≤ i
 inj : ∀ k l, k ≤ p → l ≤ p → k ≠ a → l ≠ a → gI o k ≠ 0 → gI o k = gI o l → k = l
 sur : ∀ r : Nat, 1 ≤ r → r ≤ i → ∃ k, k ≤ p ∧ k ≠ a ∧ gI o k = (r : Int)
 ti : ∀ k, 1 ≤ k → k ≤ p → k ≠ a → gI o k ≠ 0 → gI u (gI o k).toNat + gI v k = cC cost (gI o k).toNat k
 vz : ∀ k, 1 ≤ k → k ≤ p → k ≠ a → gI o k = 0 → gI v k = 0
structure Asg (n p : Nat) (s : Nat → Nat) : Prop where
 lt : ∀ r, r < n → s r < p
 inj : ∀ r q, r < n → q < n → s r = s q → r = q
end Go.Mx
