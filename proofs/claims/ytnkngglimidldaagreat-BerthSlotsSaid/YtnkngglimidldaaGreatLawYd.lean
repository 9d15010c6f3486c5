/- Plain laws, berths: the cheapest places (the loops of the search). Conditions: none. -/
import Derived.Test.YtnkngglimidldaaGreatLawYa
set_option linter.unusedVariables false
set_option linter.unusedSimpArgs false
namespace Go.Mx
def gB (l : List Bool) (i : Nat) : Bool := l.getD i false
def cC (cost : List (List Int)) (r k : Nat) : Int := gI (cost.getD (r - 1) []) (k - 1)
structure CostOK (cost : List (List Int)) (p : Nat) : Prop where
 hn : cost.length ≤ p
 hp : p ≤ 1000
 r : ∀ row ∈ cost, row.length = p ∧ ∀ x ∈ row, -1001 ≤ x ∧ x ≤ 1073741824
theorem CostOK.row {cost : List (List Int)} {p : Nat} (h : CostOK cost p) {r : Nat} (h1 : 1 ≤ r) (h2 : r ≤ cost.length) : ix cost (w64 ((r : Int) - 1)) = some (cost.getD (r - 1) []) ∧ (cost.getD (r - 1) []).length = p := by
 have hp := h.hp; have hn := h.hn
 have hl : r - 1 < cost.length := by omega
 rw [w64_id (by omega) (by omega), show (r : Int) - 1 = ((r - 1 : Nat) : Int) by omega, ix_lt hl]
 have e : cost.getD (r - 1) [] = cost[r - 1] := by simp [List.getD_eq_getElem?_getD, hl]
 rw [e]
 exact ⟨rfl, (h.r _ (List.getElem_mem hl)).1⟩
theorem CostOK.at {cost : List (List Int)} {p : Nat} (h : CostOK cost p) {r k : Nat} (h1 : 1 ≤ r) (h2 : r ≤ cost.length) (h3 : 1 ≤ k) (h4 : k ≤ p) : ix (cost.getD (r - 1) []) (w64 ((k : Int) - 1)) = some (cC cost r k) ∧ -1001 ≤ cC cost r k ∧ cC cost r k ≤ 1073741824 := by
 have hp := h.hp
 obtain ⟨q1, q2⟩ := h.row h1 h2
 have hl : k - 1 < (cost.getD (r - 1) []).length := by omega
 have hm : cost.getD (r - 1) [] ∈ cost := by
  have : r - 1 < cost.length := by omega
  rw [show cost.getD (r - 1) [] = cost[r - 1] by simp [List.getD_eq_getElem?_getD, this]]
  exact List.getElem_mem this
 rw [w64_id (by omega) (by omega), show (k : Int) - 1 = ((k - 1 : Nat) : Int) by omega, ix_gI hl]
 refine ⟨rfl, ?_⟩
 have := (h.r _ hm).2 _ (List.getElem_mem hl)
 rw [← gI_get hl] at this
 exact this
structure ScanI (cost : List (List Int)) (p : Nat) (at_ x : Nat) (row col : List Int) (U : Nat → Bool) (least fr : List Int) (k : Nat) (next step : Int) (least' fr' : List Int) : Prop where
 l1 : least'.length = p + 1
 l2 : fr'.length = p + 1
 lo : ∀ j, 1 ≤ j → j < k → U j = false → gI least' j ≤ gI least j ∧ gI least' j ≤ cC cost x j - gI row x - gI col j ∧ ((gI least' j = gI least j ∧ gI fr' j = gI fr j) ∨ (gI least' j = cC cost x j - gI row x - gI col j ∧ gI fr' j = at_)) ∧ step ≤ gI least' j
 no : ∀ j, ¬ (1 ≤ j ∧ j < k ∧ U j = false) → gI least' j = gI least j ∧ gI fr' j = gI fr j
 nx : (next = 0 ∧ step = 4294967296) ∨ ∃ m : Nat, next = (m : Int) ∧ 1 ≤ m ∧ m < k ∧ U m = false ∧ step = gI least' m ∧ step < 4294967296
structure UpdI (n p : Nat) (O : Nat → Nat) (U : Nat → Bool) (step : Int) (row col least : List Int) (k : Nat) (row' col' least' : List Int) : Prop where
 l1 : row'.length = n + 1
 l2 : col'.length = p + 1
 l3 : least'.length = p + 1
 u1 : ∀ j, j < k → U j = true → gI row' (O j) = gI row (O j) + step
 u2 : ∀ r, (∀ j, j < k → U j = true → O j ≠ r) → gI row' r = gI row r
 v1 : ∀ j, gI col' j = if j < k ∧ U j = true then gI col j - step else gI col j
 m1 : ∀ j, gI least' j = if j < k ∧ U j = false then gI least j - step else gI least j
end Go.Mx
