/- Plain laws of ships, seventh part: forms, prices, and loadings that are filled by weights. Conditions: none. -/
import Derived.Test.YthfnbjoecocfaaaGreatLawHi
set_option linter.unusedVariables false
set_option linter.unusedSimpArgs false
namespace Go.Mx
def gI (x : List Int) (i : Nat) : Int := x.getD i 0
def gS (l : List api_Span) (i : Nat) : api_Span := l.getD i default
theorem gI_get {x : List Int} {i : Nat} (h : i < x.length) : gI x i = x[i] := by simp [gI, List.getD_eq_getElem?_getD, h]
theorem gS_get {x : List api_Span} {i : Nat} (h : i < x.length) : gS x i = x[i] := by simp [gS, List.getD_eq_getElem?_getD, h]
theorem ix_gI {x : List Int} {i : Nat} (h : i < x.length) : ix x (i : Int) = some (gI x i) := by rw [ix_lt h, gI_get h]
theorem gI_set {x : List Int} {k : Nat} (h : k < x.length) (v : Int) (i : Nat) : gI (x.set k v) i = if i = k then v else gI x i := by
 unfold gI
 rw [List.getD_eq_getElem?_getD, List.getD_eq_getElem?_getD, List.getElem?_set]
 by_cases e : k = i
 ·subst e; simp [h]
 ·rw [if_neg e, if_neg fun h => e h.symm]
theorem InS.g {l : List api_Span} {x : List Int} (h : InS l x) (i : Nat) (hi : i < l.length) : (gS l i).Lo ≤ gI x i ∧ gI x i ≤ (gS l i).Hi := by
 have hx : i < x.length := by rw [h.1]; exact hi
 rw [gS_get hi, gI_get hx]; exact h.2 i hx hi
theorem InS.of_g {l : List api_Span} {x : List Int} (h1 : x.length = l.length) (h : ∀ i, i < l.length → (gS l i).Lo ≤ gI x i ∧ gI x i ≤ (gS l i).Hi) : InS l x := ⟨h1, fun i q1 q2 => by have := h i q2; rw [gS_get q2, gI_get q1] at this; exact this⟩
theorem list_ext_g {x y : List Int} (h : x.length = y.length) (hh : ∀ i, i < x.length → gI x i = gI y i) : x = y := List.ext_getElem h fun i h1 h2 => by have := hh i h1; rw [gI_get h1, gI_get h2] at this; exact this

/-- The value of a form. -/
def dot : List Int → List Int → Int
 | w :: ws, x :: xs => w * x + dot ws xs
 | _, _ => 0
/-- What a price leaves of a form, hold by hold. -/
def bnd (p : Int) : List Int → List api_Span → Int
 | w :: ws, h :: hs => max ((w - p) * h.Lo) ((w - p) * h.Hi) + bnd p ws hs
 | _, _ => 0
/-- What is filled first. -/
def Pri (w : List Int) (i j : Nat) : Prop := gI w j < gI w i ∨ (gI w i = gI w j ∧ i < j)
/-- Filled by weights, up to a total. -/
structure Greedy (l : List api_Span) (w : List Int) (t : Int) (x : List Int) : Prop where
 ins : InS l x
 sum : x.sum = t
 pri : ∀ i j, i < l.length → j < l.length → Pri w i j → gI x i < (gS l i).Hi → gI x j = (gS l j).Lo
theorem sum_eq_of : ∀ (x y : List Int), x.length = y.length → x.sum = y.sum → (∃ i, i < x.length ∧ gI x i < gI y i) → ∃ j, j < x.length ∧ gI y j < gI x j := fun x y h1 h2 ⟨i, hi, hlt⟩ => by
 have key : ∀ (x y : List Int), x.length = y.length → (∀ j, j < x.length → gI x j ≤ gI y j) → x.sum ≤ y.sum ∧ ((∃ i, i < x.length ∧ gI x i < gI y i) → x.sum < y.sum) := by
  intro x
  induction x with
  | nil => intro y h _; cases y with
   | nil => exact ⟨Int.le_refl _, fun ⟨i, h, _⟩ => by simp at h⟩
   | cons b r => simp at h
  | cons a r ih =>
   intro y h hh
   cases y with
   | nil => simp at h
   | cons b s =>
    obtain ⟨q1, q2⟩ := ih s (by simpa using h) fun j hj => hh (j + 1) (by simpa using hj)
    have h0 : a ≤ b := hh 0 (by simp)
    simp only [List.sum_cons]
    refine ⟨by omega, fun ⟨i, hi, hl⟩ => ?_⟩
    cases i with
    | zero => have : a < b := hl; omega
    | succ i => have := q2 ⟨i, by simpa using hi, hl⟩; omega
 rcases Classical.em (∃ j, j < x.length ∧ gI y j < gI x j) with h | h
 ·exact h
 ·have := (key x y h1 fun j hj => by
   rcases Int.lt_or_le (gI y j) (gI x j) with h3 | h3
   ·exact absurd ⟨j, hj, h3⟩ h
   ·exact h3).2 ⟨i, hi, hlt⟩
  omega
end Go.Mx
