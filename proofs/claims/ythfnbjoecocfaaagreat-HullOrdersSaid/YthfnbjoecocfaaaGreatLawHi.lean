/- Plain laws of ships, sixth part: a loading of a load, by numbers. Conditions: none. -/
import Derived.Test.YthfnbjoecocfaaaGreatLawHe
set_option linter.unusedVariables false
set_option linter.unusedSimpArgs false
namespace Go.Mx
theorem LoadW.ok {l : api_Load} (h : ok_api_Load l) : LoadW l := ⟨w64_id h.2.1.2.1.1 h.2.1.2.1.2, w64_id h.2.1.1.1 h.2.1.1.2⟩
theorem sum_set : ∀ (l : List Int) (i : Nat) (h : i < l.length) (n : Int), (l.set i n).sum = l.sum - l[i] + n
 | [], i, h, n => by simp at h
 | x :: r, 0, h, n => by simp only [List.set_cons_zero, List.sum_cons, List.getElem_cons_zero]; omega
 | x :: r, i + 1, h, n => by
  have := sum_set r i (by simpa using h) n
  simp only [List.set_cons_succ, List.sum_cons, List.getElem_cons_succ]; omega
theorem put_nat {α : Type} (l : List α) (i : Nat) (x : α) : put l (i : Int) x = l.set i x := by unfold put; simp
theorem w64_u {a : Int} (h : -4611686018427387904 ≤ a ∧ a ≤ 4611686018427387904) : w64 a = a := w64_id (by omega) (by omega)
/-- Masses within the spans. -/
def InS (l : List api_Span) (x : List Int) : Prop := x.length = l.length ∧ ∀ i (h1 : i < x.length) (h2 : i < l.length), l[i].Lo ≤ x[i] ∧ x[i] ≤ l[i].Hi
theorem InS.sum {l : List api_Span} {x : List Int} (h : InS l x) : loSum l ≤ x.sum ∧ x.sum ≤ hiSum l := sum_fit l x h.1 h.2
end Go.Mx
