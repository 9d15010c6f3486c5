/- Plain laws of ships, fifth part: loads are compared, narrowed, and lessened. Conditions: none. -/
import Derived.Test.YthfnbjoecocfaaaGreatLawHd
import Derived.Test.YthfnbjoecocfaaaGreatLawHullSan
set_option linter.unusedVariables false
set_option linter.unusedSimpArgs false
namespace Go.Mx

theorem lp_app {α β σ ρ : Type} {body : σ → Option (σ ⊕ ρ)} (l : List α) (hl : l.length ≤ 4294967295) (f : α → β) (st : List β → Int → σ) (k : List β → ρ) {s0 : σ} (e0 : s0 = st [] 0)
  (step : ∀ acc (i : Nat) (hi : i < l.length), acc = (l.take i).map f → body (st acc (i : Int)) = some (.inl (st (acc ++ [f l[i]]) ((i + 1 : Nat) : Int))))
  (last : body (st (l.map f) (l.length : Int)) = some (.inr (k (l.map f)))) : Lp body fuel s0 = some (k (l.map f)) := by
 have h := lp_list (body := body) l (by omega) st (fun acc r => k (acc ++ r.map f)) (fun i acc => acc = (l.take i).map f) (a := []) e0 (by simp) (fun acc i hi hJ => .inl ⟨acc ++ [f l[i]], step acc i hi hJ, by simp only [List.map_cons, List.append_assoc, List.cons_append, List.nil_append], by rw [hJ, ← List.map_singleton, ← List.map_append, List.take_append_getElem]⟩) (fun acc hJ => by
  rw [List.take_length] at hJ
  rw [hJ, last]; simp)
 simpa using h

theorem sameInts_eq (a b : List Int) (ha : Len a) : ref03_SameInts a b = some (decide (a = b)) := by
 unfold ref03_SameInts
 by_cases h1 : a.length = b.length
 ·rw [if_neg (by simp [h1])]
  refine lp_list (body := ref03_SameInts_b2 a b) (s0 := 0) a ha (fun (_ : List Int) i => i) (fun r l => decide (l = r)) (fun i r => r = b.drop i) (a := b) rfl rfl (fun r i hi hJ => ?_) (fun r hJ => ?_)
  ·have hi2 : i < b.length := by omega
   unfold ref03_SameInts_b2
   simp only
   rw [if_pos (by simpa using hi), ix_lt hi, Option.bind_some, ix_lt hi2, Option.bind_some, w64s' hi ha, hJ, List.drop_eq_getElem_cons hi2]
   by_cases he : a[i] = b[i]
   ·left
    rw [if_neg (by simp [he])]
    exact ⟨b.drop (i + 1), rfl, by simp only [he, List.cons.injEq, true_and], rfl⟩
   ·right
    rw [if_pos (by simpa using he)]
    simp only [List.cons.injEq, he, false_and, decide_false]
  ·unfold ref03_SameInts_b2 ref03_SameInts_j1
   simp only
   rw [if_neg (by simp)]
   have : r = [] := by rw [hJ, h1, List.drop_length]
   rw [this]; rfl
 ·rw [if_pos (by simp; omega)]
  have : ¬ a = b := fun h => h1 (by subst h; rfl)
  simp [this]

/-! Narrow. -/
/-! Behind. -/
end Go.Mx
