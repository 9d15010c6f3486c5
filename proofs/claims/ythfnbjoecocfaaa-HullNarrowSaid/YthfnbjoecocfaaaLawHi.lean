/- Plain laws of ships, sixth part: a loading of a load, by numbers. Conditions: none. -/
import Derived.Test.YthfnbjoecocfaaaLawHe
set_option linter.unusedVariables false
set_option linter.unusedSimpArgs false
namespace Go.Mx
theorem LoadW.ok {l : api_Load} (h : ok_api_Load l) : LoadW l := ⟨w64_id h.2.1.2.1.1 h.2.1.2.1.2, w64_id h.2.1.1.1 h.2.1.1.2⟩
theorem sum_set : ∀ (l : List Int) (i : Nat) (h : i < l.length) (n : Int), (l.set i n).sum = l.sum - l[i] + n
 | [], i, h, n => by simp at h
 | x :: r, 0, h, n => by simp only [List.set_cons_zero, List.sum_cons, List.getElem_cons_zero]; omega
 | x :: r, i + 1, h, n => by
  have := sum_set r i (by simpa using h) n
  simp only [List.set_cons_succ, List.sum_cons, List.getElem_cons_succ]; omega
theorem rem_rng {a b : Int} (h0 : 0 ≤ a) (h1 : a ≤ 65535) (hb : 1 ≤ b) : ∃ q, rem (w64 a) b = some q ∧ 0 ≤ q ∧ q < b := by
 rw [w64_id (by omega) (by omega)]
 refine ⟨a.tmod b, by unfold rem; rw [if_neg (by omega)], ?_, Int.tmod_lt_of_pos a (by omega)⟩
 rw [Int.tmod_eq_emod_of_nonneg h0]; exact Int.emod_nonneg _ (by omega)
theorem put_nat {α : Type} (l : List α) (i : Nat) (x : α) : put l (i : Int) x = l.set i x := by unfold put; simp
theorem w64_u {a : Int} (h : -4611686018427387904 ≤ a ∧ a ≤ 4611686018427387904) : w64 a = a := w64_id (by omega) (by omega)
/-- Masses within the spans. -/
def InS (l : List api_Span) (x : List Int) : Prop := x.length = l.length ∧ ∀ i (h1 : i < x.length) (h2 : i < l.length), l[i].Lo ≤ x[i] ∧ x[i] ≤ l[i].Hi
theorem InS.sum {l : List api_Span} {x : List Int} (h : InS l x) : loSum l ≤ x.sum ∧ x.sum ≤ hiSum l := sum_fit l x h.1 h.2
theorem InS.of_all {l : List api_Span} {x : List Int} (h : InS l x) (hh : ∀ i (h1 : i < x.length) (h2 : i < l.length), x[i] = l[i].Hi) : x.sum = hiSum l := by
 have e : x = l.map (·.Hi) := List.ext_getElem (by simp [h.1]) fun i h1 h2 => by rw [List.getElem_map]; exact hh i h1 (by simpa using h2)
 rw [e]; rfl
end Go.Mx
