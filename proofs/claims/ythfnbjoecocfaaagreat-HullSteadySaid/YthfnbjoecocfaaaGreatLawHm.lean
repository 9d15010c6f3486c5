/- Plain laws of ships, tenth part: values, bounds, prices, and the greatest value. Conditions: none. -/
import Derived.Test.YthfnbjoecocfaaaGreatLawHl
set_option linter.unusedVariables false
set_option linter.unusedSimpArgs false
namespace Go.Mx

theorem dot_nil_r (w : List Int) : dot w [] = 0 := by cases w <;> rfl
theorem hvalue_eq (w x : List Int) (h : w.length = x.length) (hl : Len w) : hull_value w x = some (w64 (dot w x)) := by
 have q := lp_list (body := hull_value_b2 w x) (s0 := (0, 0)) w hl (fun (a : Int × List Int) i => (a.1, i)) (fun a ws => w64 (a.1 + dot ws a.2)) (fun i a => a.2 = x.drop i ∧ w64 a.1 = a.1) (a := (0, x)) rfl ⟨rfl, rfl⟩ (fun a i hi hJ => ?_) (fun a hJ => ?_)
 ·unfold hull_value; rw [q]; simp
 ·left
  have hix : i < x.length := by omega
  unfold hull_value_b2
  simp only
  rw [if_pos (by simpa using hi), ix_lt hi, Option.bind_some, ix_lt hix, Option.bind_some, w64_add', w64s' hi hl, hJ.1, List.drop_eq_getElem_cons hix]
  refine ⟨(w64 (a.1 + w[i] * x[i]), x.drop (i + 1)), rfl, ?_, rfl, w64_w _⟩
  simp only [dot]
  rw [w64_add]; congr 1; omega
 ·unfold hull_value_b2 hull_value_j1
  simp only
  rw [if_neg (by simp)]; simp [dot, hJ.2]
theorem rvalue_eq (w x : List Int) (h : w.length = x.length) (hl : Len w) : ref03_value w x = some (w64 (dot w x)) := by
 have hlx : Len x := by unfold Len at *; omega
 have q := lp_list (body := ref03_value_b2 w x) (s0 := (0, 0)) x hlx (fun (a : Int × List Int) i => (a.1, i)) (fun a xs => w64 (a.1 + dot a.2 xs)) (fun i a => a.2 = w.drop i ∧ w64 a.1 = a.1) (a := (0, w)) rfl ⟨rfl, rfl⟩ (fun a i hi hJ => ?_) (fun a hJ => ?_)
 ·unfold ref03_value; rw [q]; simp
 ·left
  have hix : i < w.length := by omega
  unfold ref03_value_b2
  simp only
  rw [if_pos (by simpa using hi), ix_lt hix, Option.bind_some, ix_lt hi, Option.bind_some, w64_add', w64s' hi hlx, hJ.1, List.drop_eq_getElem_cons hix]
  refine ⟨(w64 (a.1 + w[i] * x[i]), w.drop (i + 1)), rfl, ?_, rfl, w64_w _⟩
  simp only [dot]
  rw [w64_add]; congr 1; omega
 ·unfold ref03_value_b2 ref03_value_j1
  simp only
  rw [if_neg (by simp)]; simp [dot_nil_r, hJ.2]

/-- Weights of forms. -/
def Wts (w : List Int) : Prop := ∀ i, i < w.length → -1048576 ≤ gI w i ∧ gI w i ≤ 1048576
theorem term_bd {c x : Int} (h1 : -2097152 ≤ c) (h2 : c ≤ 2097152) (h3 : 0 ≤ x) (h4 : x ≤ 65536) : -137438953472 ≤ c * x ∧ c * x ≤ 137438953472 := by
 have := mul_bd (A := 2097152) (B := 65536) h1 h2 (by omega) h4; omega
/-- What a price says over totals. -/
def totB (p : Int) (w : List Int) (l : List api_Span) (t : api_Span) : Int := max (p * t.Lo) (p * t.Hi) + bnd p w l
structure TotS (t : api_Span) : Prop where
 a : 0 ≤ t.Lo
 b : t.Lo ≤ t.Hi
 c : t.Hi ≤ 524288
theorem price_bd {p x : Int} (h1 : -1048576 ≤ p ∧ p ≤ 1048576) (h3 : 0 ≤ x) (h4 : x ≤ 524288) : -549755813888 ≤ p * x ∧ p * x ≤ 549755813888 := by
 have := mul_bd (A := 1048576) (B := 524288) h1.1 h1.2 (by omega) h4; omega
theorem hbound_eq {l : api_Load} {w : List Int} {p : Int} {t : api_Span} (h : Spn l.Holds) (hw : w.length = l.Holds.length) (hb : Wts w) (hp : -1048576 ≤ p ∧ p ≤ 1048576) (ht : TotS t) : hull_bound l w p t = some (totB p w l.Holds t) := by
 have hn := h.n
 obtain ⟨t1, t2, t3⟩ := ht
 have b1 := price_bd hp t1 (show t.Lo ≤ 524288 by omega)
 have b2 := price_bd hp (show 0 ≤ t.Hi by omega) t3
 unfold hull_bound totB
 rw [greater_max, w64_u (by omega), w64_u (by omega)]
 refine (lp_list (body := hull_bound_b2 l w p) w (by omega) (fun (a : Int × List api_Span) i => (a.1, i)) (fun a ws => a.1 + bnd p ws a.2) (fun i a => a.2 = l.Holds.drop i ∧ -1000000000000 - 137438953472 * (i : Int) ≤ a.1 ∧ a.1 ≤ 1000000000000 + 137438953472 * (i : Int)) (a := (_, l.Holds)) rfl ⟨rfl, by simp only; omega, by simp only; omega⟩ (fun a i hi hJ => ?_) (fun a hJ => ?_)).trans rfl
 ·left
  have hil : i < l.Holds.length := by omega
  have hwi := hb i hi
  rw [gI_get hi] at hwi
  have hs := h.b i hil
  rw [gS_get hil] at hs
  have c1 := term_bd (c := w[i] - p) (by omega) (by omega) hs.1 (show l.Holds[i].Lo ≤ 65536 by omega)
  have c2 := term_bd (c := w[i] - p) (by omega) (by omega) (show 0 ≤ l.Holds[i].Hi by omega) hs.2.2
  unfold hull_bound_b2
  simp only
  rw [if_pos (by simpa using hi), ix_lt hi, Option.bind_some, ix_lt hil, Option.bind_some, Option.bind_some, w64s' hi (by omega), greater_max, w64_u (a := w[i] - p) (by omega), w64_u (a := (w[i] - p) * l.Holds[i].Lo) (by omega), w64_u (a := (w[i] - p) * l.Holds[i].Hi) (by omega), w64_u (by omega), hJ.1, List.drop_eq_getElem_cons hil]
  refine ⟨(_, l.Holds.drop (i + 1)), rfl, ?_, rfl, by simp only; omega, by simp only; omega⟩
  simp only [bnd]; omega
 ·unfold hull_bound_b2 hull_bound_j1
  simp only
  rw [if_neg (by simp)]; simp [bnd]
/-- No loading has a greater value than a price says. -/
theorem weakT {p : Int} {l : List api_Span} {w x : List Int} {t : api_Span} (hw : w.length = l.length) (hx : InS l x) (h1 : t.Lo ≤ x.sum) (h2 : x.sum ≤ t.Hi) : dot w x ≤ totB p w l t := by
 have h := weak p w l x hw hx.1 hx.g
 have := mul_between (c := p) h1 h2
 unfold totB
 omega
/-- The price that is chosen. -/
theorem priced_spec {l : api_Load} {w : List Int} {t : api_Span} (h : Spn l.Holds) (hw : w.length = l.Holds.length) (hb : Wts w) (ht : TotS t) : ∃ p, hull_priced l w t = some p ∧ (p = 0 ∨ ∃ k, k < w.length ∧ p = gI w k) ∧ totB p w l.Holds t ≤ totB 0 w l.Holds t ∧ ∀ k, k < w.length → totB p w l.Holds t ≤ totB (gI w k) w l.Holds t := by
 have hn := h.n
 suffices hh : ∃ p, hull_priced l w t = some p ∧ ((p = 0 ∨ ∃ k, k < w.length ∧ p = gI w k) ∧ totB p w l.Holds t ≤ totB 0 w l.Holds t ∧ ∀ k, k < w.length → totB p w l.Holds t ≤ totB (gI w k) w l.Holds t) from hh
 unfold hull_priced
 refine lp_inv' (fun i (s : Int × Int) => s.2 = (i : Int) ∧ (s.1 = 0 ∨ ∃ k, k < w.length ∧ s.1 = gI w k) ∧ totB s.1 w l.Holds t ≤ totB 0 w l.Holds t ∧ ∀ k, k < i → totB s.1 w l.Holds t ≤ totB (gI w k) w l.Holds t) _ w.length (by omega) ⟨rfl, .inl rfl, Int.le_refl _, fun k hk => by omega⟩ fun i s hi hI => ?_
 obtain ⟨p, i0⟩ := s
 obtain ⟨e, q1, q2, q3⟩ := hI
 simp only at e q1 q2 q3
 subst e
 unfold hull_priced_b2
 simp only
 by_cases hc : i < w.length
 ·left
  have hp : -1048576 ≤ p ∧ p ≤ 1048576 := by
   rcases q1 with rfl | ⟨k, k1, rfl⟩
   ·omega
   ·exact hb k k1
  rw [if_pos (by simpa using hc), ix_gI hc, Option.bind_some, hbound_eq h hw hb (hb i hc) ht, Option.bind_some, hbound_eq h hw hb hp ht, Option.bind_some]
  unfold hull_priced_j3
  rw [w64s' hc (by omega)]
  by_cases hlt : totB (gI w i) w l.Holds t < totB p w l.Holds t
  ·rw [if_pos (by simpa using hlt)]
   refine ⟨hc, _, rfl, rfl, .inr ⟨i, hc, rfl⟩, by simp only; omega, fun k hk => ?_⟩
   by_cases e : k = i
   ·subst e; exact Int.le_refl _
   ·have := q3 k (by omega); simp only; omega
  ·rw [if_neg (by simpa using hlt)]
   refine ⟨hc, _, rfl, rfl, q1, q2, fun k hk => ?_⟩
   by_cases e : k = i
   ·subst e; simp only; omega
   ·exact q3 k (by omega)
 ·right
  have e : i = w.length := by omega
  subst e
  rw [if_neg (by simp)]
  exact ⟨p, rfl, q1, q2, q3⟩

/-! What Most asks. -/
/-! Most. -/
def filled : List Int → List api_Span → List Int → List Int
 | w :: ws, h :: hs, x :: xs => (if 0 < w then h.Hi else x) :: filled ws hs xs
 | _, _, _ => []
theorem Greedy.mono {l : List api_Span} {w : List Int} {t u : Int} {x y : List Int} (hx : Greedy l w t x) (hy : Greedy l w u y) (h : t ≤ u) : ∀ i, i < l.length → gI x i ≤ gI y i := fun i hi => by
 rcases Int.lt_or_le (gI y i) (gI x i) with hc | hc
 ·exfalso
  have hxl := hx.ins.1
  have hyl := hy.ins.1
  have key : ∀ j, j < y.length → gI y j ≤ gI x j := fun j hj => by
   have hjl : j < l.length := by omega
   have b1 := hx.ins.g j hjl
   have b2 := hy.ins.g j hjl
   have b3 := hx.ins.g i hi
   have b4 := hy.ins.g i hi
   rcases Nat.lt_trichotomy i j with h1 | h1 | h1
   ·rcases Int.lt_trichotomy (gI w i) (gI w j) with h2 | h2 | h2
    ·rcases Int.lt_or_le (gI x j) (gS l j).Hi with h3 | h3
     ·have := hx.pri j i hjl hi (.inl h2) h3; omega
     ·omega
    ·have := hy.pri i j hi hjl (.inr ⟨h2, h1⟩) (by omega); omega
    ·have := hy.pri i j hi hjl (.inl h2) (by omega); omega
   ·subst h1; omega
   ·rcases Int.lt_trichotomy (gI w i) (gI w j) with h2 | h2 | h2
    ·rcases Int.lt_or_le (gI x j) (gS l j).Hi with h3 | h3
     ·have := hx.pri j i hjl hi (.inl h2) h3; omega
     ·omega
    ·rcases Int.lt_or_le (gI x j) (gS l j).Hi with h3 | h3
     ·have := hx.pri j i hjl hi (.inr ⟨h2.symm, h1⟩) h3; omega
     ·omega
    ·have := hy.pri i j hi hjl (.inl h2) (by omega); omega
  have hsum : y.sum < x.sum := by
   rcases Int.lt_or_le y.sum x.sum with h1 | h1
   ·exact h1
   ·rcases Int.lt_or_le x.sum y.sum with h2 | h2
    ·have : ∀ (a b : List Int), a.length = b.length → (∀ j, j < a.length → gI a j ≤ gI b j) → a.sum ≤ b.sum := by
      intro a
      induction a with
      | nil => intro b hb _; cases b <;> simp at hb ⊢
      | cons p r ih =>
       intro b hb hh
       cases b with
       | nil => simp at hb
       | cons q s =>
        have := ih s (by simpa using hb) fun j hj => hh (j + 1) (by simpa using hj)
        have h0 : p ≤ q := hh 0 (by simp)
        simp only [List.sum_cons]; omega
     have := this y x (by omega) key
     omega
    ·obtain ⟨j, hj, hlt⟩ := sum_eq_of y x (by omega) (by omega) ⟨i, by omega, hc⟩
     have := key j hj
     omega
  have := hx.sum
  have := hy.sum
  omega
 ·exact hc
end Go.Mx
