/- Plain laws of ships, eighth part: the program's loading and the specification's are filled by weights. Conditions: none. -/
import Derived.Test.YthfnbjoecocfaaaGreatLawHj
set_option linter.unusedVariables false
set_option linter.unusedSimpArgs false
namespace Go.Mx

/-! The specification's loading. -/
/-- Spans of holds of a right ship. -/
structure Spn (l : List api_Span) : Prop where
 n : l.length ≤ 8
 b : ∀ i, i < l.length → 0 ≤ (gS l i).Lo ∧ (gS l i).Lo ≤ (gS l i).Hi ∧ (gS l i).Hi ≤ 65536
theorem Spn.sums {l : List api_Span} (h : Spn l) : 0 ≤ loSum l ∧ loSum l ≤ hiSum l ∧ hiSum l ≤ 524288 := by
 have h1 := sums_bd l fun x hx => by obtain ⟨j, hj, rfl⟩ := List.getElem_of_mem hx; have := h.b j hj; rw [gS_get hj] at this; exact this
 have := h.n
 omega
theorem InS.lo {l : List api_Span} (h : Spn l) : InS l (l.map (·.Lo)) := InS.of_g (by simp) fun i hi => by
 have e : gI (l.map (·.Lo)) i = (gS l i).Lo := by rw [gI_get (by simpa using hi), gS_get hi, List.getElem_map]
 rw [e]; have := h.b i hi; omega
theorem sum_setg {x : List Int} {k : Nat} (h : k < x.length) (v : Int) : (x.set k v).sum = x.sum - gI x k + v := by rw [sum_set x k h, gI_get h]
end Go.Mx
