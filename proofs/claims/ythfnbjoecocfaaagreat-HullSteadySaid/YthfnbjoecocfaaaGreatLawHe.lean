/- Plain laws of ships, fifth part: loads are compared, narrowed, and lessened. Conditions: none. -/
import Derived.Test.YthfnbjoecocfaaaGreatLawHd
import Derived.Test.YthfnbjoecocfaaaGreatLawHullSan
set_option linter.unusedVariables false
set_option linter.unusedSimpArgs false
namespace Go.Mx

theorem lp_app {α β σ ρ : Type} {body : σ → Option (σ ⊕ ρ)} (l : List α) (hl : l.length ≤ 4294967295) (f : α → β) (st : List β → Int → σ) (k : List β → ρ) {s0 : σ} (e0 : s0 = st [] 0)
  (step : ∀ acc (i : Nat) (hi : i < l.length), acc = (l.take i).map f → body (st acc (i : Int)) = some (.inl (st (acc ++ [f l[i]]) ((i + 1 : Nat) : Int))))
  (last : body (st (l.map f) (l.length : Int)) = some (.inr (k (l.map f)))) : Lp body fuel s0 = some (k (l.map f)) := by
 have h := lp_list (body := body) l (by omega) st (fun acc r => k (acc ++ r.map f)) (fun i acc => acc = (l.take i).map f) (a := []) e0 (by simp) (fun acc i hi hJ => .inl ⟨acc ++ [f l[i]], step acc i hi hJ, by simp only [List.map_cons, List.append_assoc, List.cons_append, List.nil_append], by rw [hJ, ← List.map_singleton, ← List.map_append, List.take_append_getElem]⟩) (fun acc hJ => by
  rw [List.take_length] at hJ
  rw [hJ, last]; simp)
 simpa using h

/-! Narrow. -/
/-! Behind. -/
theorem ite_bt {α : Type} {c d : Bool} {A B : α} (h : c = true) : (if (c && d) = true then A else B) = if d = true then A else B := by subst h; simp
theorem ite_bf {α : Type} {c d : Bool} {A B : α} (h : ¬ c = true) : (if (c && d) = true then A else B) = B := by rw [Bool.not_eq_true] at h; subst h; simp
end Go.Mx
