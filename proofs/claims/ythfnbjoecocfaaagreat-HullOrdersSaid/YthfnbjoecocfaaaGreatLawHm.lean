/- Plain laws of ships, tenth part: values, bounds, prices, and the greatest value. Conditions: none. -/
import Derived.Test.YthfnbjoecocfaaaGreatLawHl
set_option linter.unusedVariables false
set_option linter.unusedSimpArgs false
namespace Go.Mx

theorem dot_nil_r (w : List Int) : dot w [] = 0 := by cases w <;> rfl
theorem hvalue_eq (w x : List Int) (h : w.length = x.length) (hl : Len w) : hull_value w x = some (w64 (dot w x)) := by
 have q := lp_list (body := hull_value_b2 w x) (s0 := (0, 0)) w hl (fun (a : Int × List Int) i => (a.1, i)) (fun a ws => w64 (a.1 + dot ws a.2)) (fun i a => a.2 = x.drop i ∧ w64 a.1 = a.1) (a := (0, x)) rfl ⟨rfl, rfl⟩ (fun a i hi hJ => ?_) (fun a hJ => ?_)
 ·unfold hull_value; rw [q]; simp
 ·left
  have hix : i < x.length := by omega
  unfold hull_value_b2
  simp only
  rw [if_pos (by simpa using hi), ix_lt hi, Option.bind_some, ix_lt hix, Option.bind_some, w64_add', w64s' hi hl, hJ.1, List.drop_eq_getElem_cons hix]
  refine ⟨(w64 (a.1 + w[i] * x[i]), x.drop (i + 1)), rfl, ?_, rfl, w64_w _⟩
  simp only [dot]
  rw [w64_add]; congr 1; omega
 ·unfold hull_value_b2 hull_value_j1
  simp only
  rw [if_neg (by simp)]; simp [dot, hJ.2]
theorem rvalue_eq (w x : List Int) (h : w.length = x.length) (hl : Len w) : ref03_value w x = some (w64 (dot w x)) := by
 have hlx : Len x := by unfold Len at *; omega
 have q := lp_list (body := ref03_value_b2 w x) (s0 := (0, 0)) x hlx (fun (a : Int × List Int) i => (a.1, i)) (fun a xs => w64 (a.1 + dot a.2 xs)) (fun i a => a.2 = w.drop i ∧ w64 a.1 = a.1) (a := (0, w)) rfl ⟨rfl, rfl⟩ (fun a i hi hJ => ?_) (fun a hJ => ?_)
 ·unfold ref03_value; rw [q]; simp
 ·left
  have hix : i < w.length := by omega
  unfold ref03_value_b2
  simp only
  rw [if_pos (by simpa using hi), ix_lt hix, Option.bind_some, ix_lt hi, Option.bind_some, w64_add', w64s' hi hlx, hJ.1, List.drop_eq_getElem_cons hix]
  refine ⟨(w64 (a.1 + w[i] * x[i]), w.drop (i + 1)), rfl, ?_, rfl, w64_w _⟩
  simp only [dot]
  rw [w64_add]; congr 1; omega
 ·unfold ref03_value_b2 ref03_value_j1
  simp only
  rw [if_neg (by simp)]; simp [dot_nil_r, hJ.2]

/-- What a price says over totals. -/
def totB (p : Int) (w : List Int) (l : List api_Span) (t : api_Span) : Int := max (p * t.Lo) (p * t.Hi) + bnd p w l
structure TotS (t : api_Span) : Prop where
 a : 0 ≤ t.Lo
 b : t.Lo ≤ t.Hi
 c : t.Hi ≤ 524288
/-! What Most asks. -/
/-! Most. -/
def filled : List Int → List api_Span → List Int → List Int
 | w :: ws, h :: hs, x :: xs => (if 0 < w then h.Hi else x) :: filled ws hs xs
 | _, _, _ => []
theorem Greedy.mono {l : List api_Span} {w : List Int} {t u : Int} {x y : List Int} (hx : Greedy l w t x) (hy : Greedy l w u y) (h : t ≤ u) : ∀ i, i < l.length → gI x i ≤ gI y i := fun i hi => by
 rcases Int.lt_or_le (gI y i) (gI x i) with hc | hc
 ·exfalso
  have hxl := hx.ins.1
  have hyl := hy.ins.1
  have key : ∀ j, j < y.length → gI y j ≤ gI x j := fun j hj => by
   have hjl : j < l.length := by omega
   have b1 := hx.ins.g j hjl
   have b2 := hy.ins.g j hjl
   have b3 := hx.ins.g i hi
   have b4 := hy.ins.g i hi
   rcases Nat.lt_trichotomy i j with h1 | h1 | h1
   ·rcases Int.lt_trichotomy (gI w i) (gI w j) with h2 | h2 | h2
    ·rcases Int.lt_or_le (gI x j) (gS l j).Hi with h3 | h3
     ·have := hx.pri j i hjl hi (.inl h2) h3; omega
     ·omega
    ·have := hy.pri i j hi hjl (.inr ⟨h2, h1⟩) (by omega); omega
    ·have := hy.pri i j hi hjl (.inl h2) (by omega); omega
   ·subst h1; omega
   ·rcases Int.lt_trichotomy (gI w i) (gI w j) with h2 | h2 | h2
    ·rcases Int.lt_or_le (gI x j) (gS l j).Hi with h3 | h3
     ·have := hx.pri j i hjl hi (.inl h2) h3; omega
     ·omega
    ·rcases Int.lt_or_le (gI x j) (gS l j).Hi with h3 | h3
     ·have := hx.pri j i hjl hi (.inr ⟨h2.symm, h1⟩) h3; omega
     ·omega
    ·have := hy.pri i j hi hjl (.inl h2) (by omega); omega
  have hsum : y.sum < x.sum := by
   rcases Int.lt_or_le y.sum x.sum with h1 | h1
   ·exact h1
   ·rcases Int.lt_or_le x.sum y.sum with h2 | h2
    ·have : ∀ (a b : List Int), a.length = b.length → (∀ j, j < a.length → gI a j ≤ gI b j) → a.sum ≤ b.sum := by
      intro a
      induction a with
      | nil => intro b hb _; cases b <;> simp at hb ⊢
      | cons p r ih =>
       intro b hb hh
       cases b with
       | nil => simp at hb
       | cons q s =>
        have := ih s (by simpa using hb) fun j hj => hh (j + 1) (by simpa using hj)
        have h0 : p ≤ q := hh 0 (by simp)
        simp only [List.sum_cons]; omega
     have := this y x (by omega) key
     omega
    ·obtain ⟨j, hj, hlt⟩ := sum_eq_of y x (by omega) (by omega) ⟨i, by omega, hc⟩
     have := key j hj
     omega
  have := hx.sum
  have := hy.sum
  omega
 ·exact hc
end Go.Mx
