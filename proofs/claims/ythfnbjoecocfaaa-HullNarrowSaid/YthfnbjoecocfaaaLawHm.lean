/- Plain laws of ships, tenth part: values, bounds, prices, and the greatest value. Conditions: none. -/
import Derived.Test.YthfnbjoecocfaaaLawHl
set_option linter.unusedVariables false
set_option linter.unusedSimpArgs false
namespace Go.Mx

theorem hvalue_eq (w x : List Int) (h : w.length = x.length) (hl : Len w) : hull_value w x = some (w64 (dot w x)) := by
 have q := lp_list (body := hull_value_b2 w x) (s0 := (0, 0)) w hl (fun (a : Int × List Int) i => (a.1, i)) (fun a ws => w64 (a.1 + dot ws a.2)) (fun i a => a.2 = x.drop i ∧ w64 a.1 = a.1) (a := (0, x)) rfl ⟨rfl, rfl⟩ (fun a i hi hJ => ?_) (fun a hJ => ?_)
 ·unfold hull_value; rw [q]; simp
 ·left
  have hix : i < x.length := by omega
  unfold hull_value_b2
  simp only
  rw [if_pos (by simpa using hi), ix_lt hi, Option.bind_some, ix_lt hix, Option.bind_some, w64_add', w64s' hi hl, hJ.1, List.drop_eq_getElem_cons hix]
  refine ⟨(w64 (a.1 + w[i] * x[i]), x.drop (i + 1)), rfl, ?_, rfl, w64_w _⟩
  simp only [dot]
  rw [w64_add]; congr 1; omega
 ·unfold hull_value_b2 hull_value_j1
  simp only
  rw [if_neg (by simp)]; simp [dot, hJ.2]
/-- Weights of forms. -/
def Wts (w : List Int) : Prop := ∀ i, i < w.length → -1048576 ≤ gI w i ∧ gI w i ≤ 1048576
theorem term_bd {c x : Int} (h1 : -2097152 ≤ c) (h2 : c ≤ 2097152) (h3 : 0 ≤ x) (h4 : x ≤ 65536) : -137438953472 ≤ c * x ∧ c * x ≤ 137438953472 := by
 have := mul_bd (A := 2097152) (B := 65536) h1 h2 (by omega) h4; omega
theorem dot_bd : ∀ (w : List Int) (l : List api_Span) (x : List Int), w.length = l.length → x.length = l.length → Wts w → (∀ i, i < l.length → 0 ≤ gI x i ∧ gI x i ≤ 65536) → -137438953472 * (l.length : Int) ≤ dot w x ∧ dot w x ≤ 137438953472 * (l.length : Int)
 | [], _, [], _, _, _, _ => by simp [dot]; omega
 | [], [], _ :: _, _, h, _, _ => by simp at h
 | [], _ :: _, _, h, _, _, _ => by simp at h
 | _ :: _, [], _, h, _, _, _ => by simp at h
 | _ :: _, _ :: _, [], _, h, _, _ => by simp at h
 | w :: ws, h :: hs, x :: xs, h1, h2, hw, hx => by
  have ih := dot_bd ws hs xs (by simpa using h1) (by simpa using h2) (fun i hi => hw (i + 1) (by simpa using hi)) (fun i hi => hx (i + 1) (by simpa using hi))
  have h3 : -1048576 ≤ w ∧ w ≤ 1048576 := hw 0 (by simp)
  have h4 : 0 ≤ x ∧ x ≤ 65536 := hx 0 (by simp)
  have := term_bd (c := w) (by omega) (by omega) h4.1 h4.2
  simp only [dot, List.length_cons]
  omega
theorem dot_fit {l : List api_Span} (h : Spn l) {w x : List Int} (hw : w.length = l.length) (hb : Wts w) (hx : InS l x) : -1099511627776 ≤ dot w x ∧ dot w x ≤ 1099511627776 := by
 have := dot_bd w l x hw hx.1 hb fun i hi => hx.x_bd h i hi
 have := h.n
 omega

/-- What a price says over totals. -/
def totB (p : Int) (w : List Int) (l : List api_Span) (t : api_Span) : Int := max (p * t.Lo) (p * t.Hi) + bnd p w l
structure TotS (t : api_Span) : Prop where
 a : 0 ≤ t.Lo
 b : t.Lo ≤ t.Hi
 c : t.Hi ≤ 524288
theorem price_bd {p x : Int} (h1 : -1048576 ≤ p ∧ p ≤ 1048576) (h3 : 0 ≤ x) (h4 : x ≤ 524288) : -549755813888 ≤ p * x ∧ p * x ≤ 549755813888 := by
 have := mul_bd (A := 1048576) (B := 524288) h1.1 h1.2 (by omega) h4; omega
theorem hbound_eq {l : api_Load} {w : List Int} {p : Int} {t : api_Span} (h : Spn l.Holds) (hw : w.length = l.Holds.length) (hb : Wts w) (hp : -1048576 ≤ p ∧ p ≤ 1048576) (ht : TotS t) : hull_bound l w p t = some (totB p w l.Holds t) := by
 have hn := h.n
 obtain ⟨t1, t2, t3⟩ := ht
 have b1 := price_bd hp t1 (show t.Lo ≤ 524288 by omega)
 have b2 := price_bd hp (show 0 ≤ t.Hi by omega) t3
 unfold hull_bound totB
 rw [greater_max, w64_u (by omega), w64_u (by omega)]
 refine (lp_list (body := hull_bound_b2 l w p) w (by omega) (fun (a : Int × List api_Span) i => (a.1, i)) (fun a ws => a.1 + bnd p ws a.2) (fun i a => a.2 = l.Holds.drop i ∧ -1000000000000 - 137438953472 * (i : Int) ≤ a.1 ∧ a.1 ≤ 1000000000000 + 137438953472 * (i : Int)) (a := (_, l.Holds)) rfl ⟨rfl, by simp only; omega, by simp only; omega⟩ (fun a i hi hJ => ?_) (fun a hJ => ?_)).trans rfl
 ·left
  have hil : i < l.Holds.length := by omega
  have hwi := hb i hi
  rw [gI_get hi] at hwi
  have hs := h.b i hil
  rw [gS_get hil] at hs
  have c1 := term_bd (c := w[i] - p) (by omega) (by omega) hs.1 (show l.Holds[i].Lo ≤ 65536 by omega)
  have c2 := term_bd (c := w[i] - p) (by omega) (by omega) (show 0 ≤ l.Holds[i].Hi by omega) hs.2.2
  unfold hull_bound_b2
  simp only
  rw [if_pos (by simpa using hi), ix_lt hi, Option.bind_some, ix_lt hil, Option.bind_some, Option.bind_some, w64s' hi (by omega), greater_max, w64_u (a := w[i] - p) (by omega), w64_u (a := (w[i] - p) * l.Holds[i].Lo) (by omega), w64_u (a := (w[i] - p) * l.Holds[i].Hi) (by omega), w64_u (by omega), hJ.1, List.drop_eq_getElem_cons hil]
  refine ⟨(_, l.Holds.drop (i + 1)), rfl, ?_, rfl, by simp only; omega, by simp only; omega⟩
  simp only [bnd]; omega
 ·unfold hull_bound_b2 hull_bound_j1
  simp only
  rw [if_neg (by simp)]; simp [bnd]
/-- No loading has a greater value than a price says. -/
theorem weakT {p : Int} {l : List api_Span} {w x : List Int} {t : api_Span} (hw : w.length = l.length) (hx : InS l x) (h1 : t.Lo ≤ x.sum) (h2 : x.sum ≤ t.Hi) : dot w x ≤ totB p w l t := by
 have h := weak p w l x hw hx.1 hx.g
 have := mul_between (c := p) h1 h2
 unfold totB
 omega
/-- The price that is chosen. -/
theorem priced_spec {l : api_Load} {w : List Int} {t : api_Span} (h : Spn l.Holds) (hw : w.length = l.Holds.length) (hb : Wts w) (ht : TotS t) : ∃ p, hull_priced l w t = some p ∧ (p = 0 ∨ ∃ k, k < w.length ∧ p = gI w k) ∧ totB p w l.Holds t ≤ totB 0 w l.Holds t ∧ ∀ k, k < w.length → totB p w l.Holds t ≤ totB (gI w k) w l.Holds t := by
 have hn := h.n
 suffices hh : ∃ p, hull_priced l w t = some p ∧ ((p = 0 ∨ ∃ k, k < w.length ∧ p = gI w k) ∧ totB p w l.Holds t ≤ totB 0 w l.Holds t ∧ ∀ k, k < w.length → totB p w l.Holds t ≤ totB (gI w k) w l.Holds t) from hh
 unfold hull_priced
 refine lp_inv' (fun i (s : Int × Int) => s.2 = (i : Int) ∧ (s.1 = 0 ∨ ∃ k, k < w.length ∧ s.1 = gI w k) ∧ totB s.1 w l.Holds t ≤ totB 0 w l.Holds t ∧ ∀ k, k < i → totB s.1 w l.Holds t ≤ totB (gI w k) w l.Holds t) _ w.length (by omega) ⟨rfl, .inl rfl, Int.le_refl _, fun k hk => by omega⟩ fun i s hi hI => ?_
 obtain ⟨p, i0⟩ := s
 obtain ⟨e, q1, q2, q3⟩ := hI
 simp only at e q1 q2 q3
 subst e
 unfold hull_priced_b2
 simp only
 by_cases hc : i < w.length
 ·left
  have hp : -1048576 ≤ p ∧ p ≤ 1048576 := by
   rcases q1 with rfl | ⟨k, k1, rfl⟩
   ·omega
   ·exact hb k k1
  rw [if_pos (by simpa using hc), ix_gI hc, Option.bind_some, hbound_eq h hw hb (hb i hc) ht, Option.bind_some, hbound_eq h hw hb hp ht, Option.bind_some]
  unfold hull_priced_j3
  rw [w64s' hc (by omega)]
  by_cases hlt : totB (gI w i) w l.Holds t < totB p w l.Holds t
  ·rw [if_pos (by simpa using hlt)]
   refine ⟨hc, _, rfl, rfl, .inr ⟨i, hc, rfl⟩, by simp only; omega, fun k hk => ?_⟩
   by_cases e : k = i
   ·subst e; exact Int.le_refl _
   ·have := q3 k (by omega); simp only; omega
  ·rw [if_neg (by simpa using hlt)]
   refine ⟨hc, _, rfl, rfl, q1, q2, fun k hk => ?_⟩
   by_cases e : k = i
   ·subst e; simp only; omega
   ·exact q3 k (by omega)
 ·right
  have e : i = w.length := by omega
  subst e
  rw [if_neg (by simp)]
  exact ⟨p, rfl, q1, q2, q3⟩

/-! What Most asks. -/
def formB (s : api_Ship) (w : List Int) : Bool := decide (w.length = s.Holds.length) && w.all fun a => decide (-1048576 ≤ a) && decide (a ≤ 1048576)
def askE (s : api_Ship) (l : api_Load) (w : List Int) : Int := if chkL s l = 0 then (if formB s w = true then 0 else 1) else chkL s l
theorem contains_asked (w : List Int) (hl : Len w) : slices_ContainsFunc_int__hull_asked_1 w = some (!w.all fun a => decide (-1048576 ≤ a) && decide (a ≤ 1048576)) := by
 have h : ∃ r, slices_IndexFunc_int__hull_asked_1 w = some r ∧ (if 0 ≤ r then (w.all fun a => decide (-1048576 ≤ a) && decide (a ≤ 1048576)) = false else (w.all fun a => decide (-1048576 ≤ a) && decide (a ≤ 1048576)) = true) := by
  unfold slices_IndexFunc_int__hull_asked_1
  unfold Len at hl
  refine lp_inv' (fun i s => s = (i : Int) ∧ ∀ j (hj : j < w.length), j < i → (decide (-1048576 ≤ w[j]) && decide (w[j] ≤ 1048576)) = true) _ w.length (by omega) ⟨rfl, fun j _ h => by omega⟩ fun i s hi hI => ?_
  obtain ⟨rfl, hI⟩ := hI
  unfold slices_IndexFunc_int__hull_asked_1_b2
  by_cases h : i < w.length
  ·rw [if_pos (by simpa using h), ix_lt h]
   simp only [Option.bind_some]
   have hb : hull_asked_1 w[i] = !(decide (-1048576 ≤ w[i]) && decide (w[i] ≤ 1048576)) := rfl
   by_cases hr : (decide (-1048576 ≤ w[i]) && decide (w[i] ≤ 1048576)) = true
   ·rw [if_neg (by rw [hb, hr]; decide)]
    refine .inl ⟨h, _, rfl, w64s i (by omega), fun j hj hji => ?_⟩
    by_cases hj' : j = i
    ·subst hj'; exact hr
    ·exact hI j hj (by omega)
   ·rw [if_pos (by rw [Bool.not_eq_true] at hr; rw [hb, hr]; rfl)]
    refine .inr ⟨_, rfl, ?_⟩
    rw [if_pos (by omega), List.all_eq_false]
    exact ⟨_, List.getElem_mem h, hr⟩
  ·rw [if_neg (by simpa using h)]
   refine .inr ⟨-1, rfl, ?_⟩
   rw [if_neg (by omega), List.all_eq_true]
   intro x hx
   obtain ⟨j, hj, rfl⟩ := List.getElem_of_mem hx
   exact hI j hj (by omega)
 obtain ⟨r, h1, h2⟩ := h
 unfold slices_ContainsFunc_int__hull_asked_1
 rw [h1, Option.bind_some]
 split at h2
 ·rename_i h; rw [h2]; simpa using h
 ·rename_i h; rw [h2]; simpa using h
theorem asked_eq (s : api_Ship) (l : api_Load) (w : List Int) (hl : Len s.Holds) (hw : LoadW l) (hwl : Len w) : hull_asked s l w = some (askE s l w) := by
 unfold hull_asked askE
 rw [hload_eq s l hl hw, Option.bind_some]
 by_cases h : chkL s l = 0
 ·rw [if_neg (by simp [h]), if_pos h, contains_asked w hwl]
  unfold formB
  by_cases h2 : w.length = s.Holds.length
  ·simp only [h2, decide_true, Bool.not_true, Bool.not_false, gb, if_true, Option.bind_some, Bool.false_or, Bool.true_and]
   cases w.all fun a => decide (-1048576 ≤ a) && decide (a ≤ 1048576) <;> simp
  ·have e : decide ((w.length : Int) = (s.Holds.length : Int)) = false := by rw [decide_eq_false_iff_not]; omega
   simp [e, gb, h2]
 ·rw [if_pos (by simp [h]), if_neg h]
theorem formB_of {s : api_Ship} {w : List Int} (h : formB s w = true) : w.length = s.Holds.length ∧ Wts w := by
 unfold formB at h
 simp only [Bool.and_eq_true, decide_eq_true_eq, List.all_eq_true] at h
 refine ⟨h.1, fun i hi => ?_⟩
 rw [gI_get hi]
 exact h.2 _ (List.getElem_mem hi)

/-! Most. -/
def posRoom : List Int → List api_Span → List Int → Int
 | w :: ws, h :: hs, x :: xs => (if 0 < w then h.Hi - x else 0) + posRoom ws hs xs
 | _, _, _ => 0
def filled : List Int → List api_Span → List Int → List Int
 | w :: ws, h :: hs, x :: xs => (if 0 < w then h.Hi else x) :: filled ws hs xs
 | _, _, _ => []
theorem filled_spec : ∀ (w : List Int) (l : List api_Span) (x : List Int), w.length = l.length → x.length = l.length → (filled w l x).length = l.length ∧ (filled w l x).sum = x.sum + posRoom w l x ∧ ∀ i, i < l.length → gI (filled w l x) i = if 0 < gI w i then (gS l i).Hi else gI x i
 | [], [], [], _, _ => by simp [filled, posRoom]
 | [], [], _ :: _, _, h => by simp at h
 | [], _ :: _, _, h, _ => by simp at h
 | _ :: _, [], _, h, _ => by simp at h
 | _ :: _, _ :: _, [], _, h => by simp at h
 | w :: ws, h :: hs, x :: xs, h1, h2 => by
  obtain ⟨q1, q2, q3⟩ := filled_spec ws hs xs (by simpa using h1) (by simpa using h2)
  refine ⟨by simp [filled, q1], ?_, fun i hi => ?_⟩
  ·simp only [filled, posRoom, List.sum_cons, q2]
   split <;> omega
  ·cases i with
   | zero => rfl
   | succ i => exact q3 i (by simpa using hi)
theorem posRoom_nonneg : ∀ (w : List Int) (l : List api_Span) (x : List Int), w.length = l.length → x.length = l.length → (∀ i, i < l.length → (gS l i).Lo ≤ gI x i ∧ gI x i ≤ (gS l i).Hi) → 0 ≤ posRoom w l x
 | [], [], [], _, _, _ => by simp [posRoom]
 | [], [], _ :: _, _, h, _ => by simp at h
 | [], _ :: _, _, h, _, _ => by simp at h
 | _ :: _, [], _, h, _, _ => by simp at h
 | _ :: _, _ :: _, [], _, h, _ => by simp at h
 | w :: ws, h :: hs, x :: xs, h1, h2, hh => by
  have ih := posRoom_nonneg ws hs xs (by simpa using h1) (by simpa using h2) fun i hi => hh (i + 1) (by simpa using hi)
  have h0 : h.Lo ≤ x ∧ x ≤ h.Hi := hh 0 (by simp)
  simp only [posRoom]
  split <;> omega
theorem Greedy.mono {l : List api_Span} {w : List Int} {t u : Int} {x y : List Int} (hx : Greedy l w t x) (hy : Greedy l w u y) (h : t ≤ u) : ∀ i, i < l.length → gI x i ≤ gI y i := fun i hi => by
 rcases Int.lt_or_le (gI y i) (gI x i) with hc | hc
 ·exfalso
  have hxl := hx.ins.1
  have hyl := hy.ins.1
  have key : ∀ j, j < y.length → gI y j ≤ gI x j := fun j hj => by
   have hjl : j < l.length := by omega
   have b1 := hx.ins.g j hjl
   have b2 := hy.ins.g j hjl
   have b3 := hx.ins.g i hi
   have b4 := hy.ins.g i hi
   rcases Nat.lt_trichotomy i j with h1 | h1 | h1
   ·rcases Int.lt_trichotomy (gI w i) (gI w j) with h2 | h2 | h2
    ·rcases Int.lt_or_le (gI x j) (gS l j).Hi with h3 | h3
     ·have := hx.pri j i hjl hi (.inl h2) h3; omega
     ·omega
    ·have := hy.pri i j hi hjl (.inr ⟨h2, h1⟩) (by omega); omega
    ·have := hy.pri i j hi hjl (.inl h2) (by omega); omega
   ·subst h1; omega
   ·rcases Int.lt_trichotomy (gI w i) (gI w j) with h2 | h2 | h2
    ·rcases Int.lt_or_le (gI x j) (gS l j).Hi with h3 | h3
     ·have := hx.pri j i hjl hi (.inl h2) h3; omega
     ·omega
    ·rcases Int.lt_or_le (gI x j) (gS l j).Hi with h3 | h3
     ·have := hx.pri j i hjl hi (.inr ⟨h2.symm, h1⟩) h3; omega
     ·omega
    ·have := hy.pri i j hi hjl (.inl h2) (by omega); omega
  have hsum : y.sum < x.sum := by
   rcases Int.lt_or_le y.sum x.sum with h1 | h1
   ·exact h1
   ·rcases Int.lt_or_le x.sum y.sum with h2 | h2
    ·have : ∀ (a b : List Int), a.length = b.length → (∀ j, j < a.length → gI a j ≤ gI b j) → a.sum ≤ b.sum := by
      intro a
      induction a with
      | nil => intro b hb _; cases b <;> simp at hb ⊢
      | cons p r ih =>
       intro b hb hh
       cases b with
       | nil => simp at hb
       | cons q s =>
        have := ih s (by simpa using hb) fun j hj => hh (j + 1) (by simpa using hj)
        have h0 : p ≤ q := hh 0 (by simp)
        simp only [List.sum_cons]; omega
     have := this y x (by omega) key
     omega
    ·obtain ⟨j, hj, hlt⟩ := sum_eq_of y x (by omega) (by omega) ⟨i, by omega, hc⟩
     have := key j hj
     omega
  have := hx.sum
  have := hy.sum
  omega
 ·exact hc
/-- A price that tells the greatest value over all totals. -/
theorem strong {l : api_Load} {s : api_Ship} (hg : GoodL s l) {w x0 x : List Int} (hw : w.length = l.Holds.length) (h0 : Greedy l.Holds w (totLo l) x0) (hx : Greedy l.Holds w (min (totLo l + posRoom w l.Holds x0) (totHi l)) x) : ∃ q, (q = 0 ∨ ∃ k, k < w.length ∧ q = gI w k) ∧ totB q w l.Holds l.All = dot w x := by
 have ht := hg.tot
 have hal := hg.all
 have hxl := hx.ins.1
 have htl : totLo l = max (loSum l.Holds) l.All.Lo := rfl
 have hth : totHi l = min (hiSum l.Holds) l.All.Hi := rfl
 by_cases hn : l.Holds.length = 0
 ·refine ⟨0, .inl rfl, ?_⟩
  have e1 : l.Holds = [] := List.length_eq_zero_iff.1 hn
  have e2 : w = [] := List.length_eq_zero_iff.1 (by omega)
  have e3 : x = [] := List.length_eq_zero_iff.1 (by omega)
  rw [e1, e2, e3]; simp [totB, bnd, dot]
 have hpos : 0 < l.Holds.length := by omega
 obtain ⟨f1, f2, f3⟩ := filled_spec w l.Holds x0 hw h0.ins.1
 have fin : ∀ q, Kkt l.Holds w q x → dot w x = q * x.sum + bnd q w l.Holds := fun q hk => tight q w l.Holds x hw hxl hx.ins.g hk
 rcases Int.lt_or_le (totHi l) (totLo l + posRoom w l.Holds x0) with hc | hc
 · -- not all of the good holds can be filled
  have hxs : x.sum = totHi l := by have := hx.sum; omega
  have hex : ∃ i, i < l.Holds.length ∧ 0 < gI w i ∧ gI x i < (gS l.Holds i).Hi := by
   rcases Classical.em (∃ i, i < l.Holds.length ∧ 0 < gI w i ∧ gI x i < (gS l.Holds i).Hi) with h | h
   ·exact h
   ·exfalso
    have hm := h0.mono hx (by omega)
    have hle : ∀ (a b : List Int), a.length = b.length → (∀ j, j < a.length → gI a j ≤ gI b j) → a.sum ≤ b.sum := by
     intro a
     induction a with
     | nil => intro b hb _; cases b <;> simp at hb ⊢
     | cons p r ih =>
      intro b hb hh
      cases b with
      | nil => simp at hb
      | cons q s =>
       have := ih s (by simpa using hb) fun j hj => hh (j + 1) (by simpa using hj)
       have h0 : p ≤ q := hh 0 (by simp)
       simp only [List.sum_cons]; omega
    have := hle (filled w l.Holds x0) x (by omega) fun j hj => by
     have hjl : j < l.Holds.length := by omega
     rw [f3 j hjl]
     split
     ·rename_i hwj
      rcases Int.lt_or_le (gI x j) (gS l.Holds j).Hi with h2 | h2
      ·exact absurd ⟨j, hjl, hwj, h2⟩ h
      ·exact h2
     ·exact hm j hjl
    have hs0 := h0.sum
    omega
  obtain ⟨i, i1, i2, i3⟩ := hex
  obtain ⟨k, k1, k2, k3, _⟩ := hx.kkt hpos
  have hk := k3 ⟨i, i1, i3⟩
  have hwk : 0 < gI w k := by have := hk.2 i i1 i3; omega
  refine ⟨gI w k, .inr ⟨k, by omega, rfl⟩, ?_⟩
  have hlt : x.sum < hiSum l.Holds := by
   have h1 := hx.ins.sum
   rcases Int.lt_or_le x.sum (hiSum l.Holds) with h2 | h2
   ·exact h2
   ·exfalso
    have e2 : (l.Holds.map (·.Hi)).sum = hiSum l.Holds := rfl
    have hgi : ∀ j, j < l.Holds.length → gI (l.Holds.map (·.Hi)) j = (gS l.Holds j).Hi := fun j hj => by rw [gI_get (by simpa using hj), gS_get hj, List.getElem_map]
    obtain ⟨j, hj, hlt⟩ := sum_eq_of x (l.Holds.map (·.Hi)) (by simp [hxl]) (by omega) ⟨i, by omega, by rw [hgi i i1]; exact i3⟩
    rw [hgi j (by omega)] at hlt
    have := hx.ins.g j (by omega)
    omega
  rw [fin _ k2]
  unfold totB
  have e3 : l.All.Hi = x.sum := by omega
  have := Int.mul_le_mul_of_nonneg_left (show l.All.Lo ≤ l.All.Hi by omega) (show 0 ≤ gI w k by omega)
  rw [← e3]; omega
 · -- all good holds are filled
  have hxs : x.sum = totLo l + posRoom w l.Holds x0 := by have := hx.sum; omega
  have hz : Greedy l.Holds w (min (totLo l + posRoom w l.Holds x0) (totHi l)) (filled w l.Holds x0) := by
   refine ⟨InS.of_g f1 fun j hj => ?_, by rw [f2, h0.sum]; omega, fun a b ha hb hp hf => ?_⟩
   ·rw [f3 j hj]
    have := h0.ins.g j hj
    split <;> omega
   ·rw [f3 a ha] at hf
    rw [f3 b hb]
    split at hf
    ·omega
    ·rename_i hwa
     rw [if_neg (by rcases hp with hp | hp <;> omega)]
     exact h0.pri a b ha hb hp hf
  have hxz := hx.uniq hz
  have hxi : ∀ i, i < l.Holds.length → gI x i = if 0 < gI w i then (gS l.Holds i).Hi else gI x0 i := fun i hi => by rw [hxz]; exact f3 i hi
  rcases Classical.em (∃ j, j < l.Holds.length ∧ gI w j < 0 ∧ (gS l.Holds j).Lo < gI x0 j) with h | h
  ·obtain ⟨j, j1, j2, j3⟩ := h
   have hfull : ∀ i, i < l.Holds.length → 0 < gI w i → gI x0 i = (gS l.Holds i).Hi := fun i hi hwi => by
    have b := h0.ins.g i hi
    rcases Int.lt_or_le (gI x0 i) (gS l.Holds i).Hi with h1 | h1
    ·have := h0.pri i j hi j1 (.inl (by omega)) h1; omega
    ·omega
   have hxx0 : x = x0 := list_ext_g (by rw [hxl, h0.ins.1]) fun i hi => by
    rw [hxi i (by omega)]
    split
    ·rename_i hwi; rw [hfull i (by omega) hwi]
    ·rfl
   have hs0 := h0.sum
   have hgt : loSum l.Holds < x0.sum := by
    have h1 := h0.ins.sum
    rcases Int.lt_or_le (loSum l.Holds) x0.sum with h2 | h2
    ·exact h2
    ·exfalso
     have e2 : (l.Holds.map (·.Lo)).sum = loSum l.Holds := rfl
     obtain ⟨k, hk, hlt⟩ := sum_eq_of (l.Holds.map (·.Lo)) x0 (by simp [h0.ins.1]) (by omega) ⟨j, by simpa using j1, by rw [gI_lo j1]; exact j3⟩
     have hk' : k < l.Holds.length := by simpa using hk
     rw [gI_lo hk'] at hlt
     have := h0.ins.g k hk'
     omega
   obtain ⟨k, k1, k2, k3, k4⟩ := hx.kkt hpos
   have hwk : gI w k ≤ 0 := by
    rcases Classical.em (∃ i, i < l.Holds.length ∧ gI x i < (gS l.Holds i).Hi) with h1 | h1
    ·have h2 := (k3 h1).1
     rcases Int.lt_or_le 0 (gI w k) with h3 | h3
     ·rw [hxx0, hfull k k1 h3] at h2; omega
     ·exact h3
    ·have := k4 (fun i hi hc => h1 ⟨i, hi, hc⟩) j j1
     omega
   refine ⟨gI w k, .inr ⟨k, by omega, rfl⟩, ?_⟩
   rw [fin _ k2]
   unfold totB
   have e3 : l.All.Lo = x.sum := by rw [hxx0]; omega
   have := Int.mul_le_mul_of_nonpos_left hwk (show l.All.Lo ≤ l.All.Hi by omega)
   rw [← e3]; omega
  ·refine ⟨0, .inl rfl, ?_⟩
   have hk : Kkt l.Holds w 0 x := fun i hi => ⟨fun h1 => by rw [hxi i hi, if_pos h1], fun h1 => by
    rw [hxi i hi, if_neg (by omega)]
    have b := h0.ins.g i hi
    rcases Int.lt_or_le (gS l.Holds i).Lo (gI x0 i) with h2 | h2
    ·exact absurd ⟨i, hi, h1, h2⟩ h
    ·omega⟩
   rw [fin _ hk]
   unfold totB
   simp
end Go.Mx
