/- Plain laws of ships, eighth part: the program's loading and the specification's are filled by weights. Conditions: none. -/
import Derived.Test.YtbmojhkipnnmlaaGreatLawHj
set_option linter.unusedVariables false
set_option linter.unusedSimpArgs false
namespace Go.Mx
structure Spn (l : List api_Span) : Prop where
 n : l.length ≤ 8
 b : ∀ i, i < l.length → 0 ≤ (gS l i).Lo ∧ (gS l i).Lo ≤ (gS l i).Hi ∧ (gS l i).Hi ≤ 65536
theorem GoodL.spn {s : api_Ship} {l : api_Load} (h : GoodL s l) : Spn l.Holds := ⟨h.lenL, fun i hi => by rw [gS_get hi]; exact h.mem _ (List.getElem_mem hi)⟩
theorem Spn.sums {l : List api_Span} (h : Spn l) : 0 ≤ loSum l ∧ loSum l ≤ hiSum l ∧ hiSum l ≤ 524288 := by
 have h1 := sums_bd l fun x hx => by obtain ⟨j, hj, rfl⟩ := List.getElem_of_mem hx; have := h.b j hj; rw [gS_get hj] at this; exact this
 have := h.n
 omega
theorem InS.lo {l : List api_Span} (h : Spn l) : InS l (l.map (·.Lo)) := InS.of_g (by simp) fun i hi => by
 have e : gI (l.map (·.Lo)) i = (gS l i).Lo := by rw [gI_get (by simpa using hi), gS_get hi, List.getElem_map]
 rw [e]; have := h.b i hi; omega
theorem gI_lo {l : List api_Span} {i : Nat} (hi : i < l.length) : gI (l.map (·.Lo)) i = (gS l i).Lo := by rw [gI_get (by simpa using hi), gS_get hi, List.getElem_map]
theorem sum_setg {x : List Int} {k : Nat} (h : k < x.length) (v : Int) : (x.set k v).sum = x.sum - gI x k + v := by rw [sum_set x k h, gI_get h]
theorem InS.full {l : List api_Span} {x : List Int} (h : InS l x) (hh : ∀ i, i < l.length → ¬ gI x i < (gS l i).Hi) : x.sum = hiSum l := h.of_all fun i h1 h2 => by
 have := h.2 i h1 h2
 have := hh i h2
 rw [gI_get h1, gS_get h2] at this
 omega
theorem InS.x_bd {l : List api_Span} (h : Spn l) {x : List Int} (hx : InS l x) (i : Nat) (hi : i < l.length) : 0 ≤ gI x i ∧ gI x i ≤ 65536 := by have := hx.g i hi; have := h.b i hi; omega
end Go.Mx
