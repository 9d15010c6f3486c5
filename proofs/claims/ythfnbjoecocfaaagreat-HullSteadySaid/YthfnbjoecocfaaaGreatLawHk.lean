/- Plain laws of ships, eighth part: the program's loading and the specification's are filled by weights. Conditions: none. -/
import Derived.Test.YthfnbjoecocfaaaGreatLawHj
set_option linter.unusedVariables false
set_option linter.unusedSimpArgs false
namespace Go.Mx

/-! The specification's loading. -/
/-- The best hold among the first ones that are not full; -1 if there is none. -/
def BestOf (l : List api_Span) (w x : List Int) (n : Nat) (b : Int) : Prop := (b = -1 ∧ ∀ i, i < n → ¬ gI x i < (gS l i).Hi) ∨ ∃ k : Nat, b = (k : Int) ∧ k < n ∧ gI x k < (gS l k).Hi ∧ ∀ i, i < n → gI x i < (gS l i).Hi → ¬ Pri w i k
theorem fill_pick {l : List api_Span} {w x : List Int} {left : Int} {r : ((Int × List Int) ⊕ List Int) → Prop} (hl : l.length ≤ 8) (hw : w.length = l.length) (hx : x.length = l.length) (h4 : ∀ b, BestOf l w x l.length b → ∃ y, ref03_Fill_j4 l left x b = some y ∧ r y) : ∃ y, Lp (ref03_Fill_b5 l w left x) fuel (-1, 0) = some y ∧ r y := by
 refine lp_inv' (fun i (s : Int × Int) => s.2 = (i : Int) ∧ BestOf l w x i s.1) r l.length (by omega) ⟨rfl, .inl ⟨rfl, fun i h => by omega⟩⟩ fun i s hi hI => ?_
 obtain ⟨b, i0⟩ := s
 obtain ⟨e, hb⟩ := hI
 simp only at e hb
 subst e
 unfold ref03_Fill_b5
 simp only
 by_cases h : i < l.length
 ·left
  have hix : i < x.length := by omega
  have hiw : i < w.length := by omega
  rw [if_pos (by simpa using h), ix_gI hix, Option.bind_some, ix_gS h, Option.bind_some]
  unfold ref03_Fill_j6
  rw [w64s' h (by omega)]
  rcases hb with ⟨rfl, hb⟩ | ⟨k, rfl, k1, k2, k3⟩
  ·simp only [show decide ((-1 : Int) < 0) = true by decide, Bool.not_true, Bool.and_false, Bool.true_or, Bool.and_true, gb, Bool.false_eq_true, if_false, Option.bind_some]
   by_cases hc : gI x i < (gS l i).Hi
   ·rw [if_pos (by simpa using hc)]
    refine ⟨h, _, rfl, rfl, .inr ⟨i, rfl, by omega, hc, fun j hj hjf => ?_⟩⟩
    by_cases e : j = i
    ·subst e; intro hp; rcases hp with hp | hp <;> omega
    ·exact absurd hjf (hb j (by omega))
   ·rw [if_neg (by simpa using hc)]
    refine ⟨h, _, rfl, rfl, .inl ⟨rfl, fun j hj => ?_⟩⟩
    by_cases e : j = i
    ·subst e; exact hc
    ·exact hb j (by omega)
  ·have hk0 : decide ((k : Int) < 0) = false := by rw [decide_eq_false_iff_not]; omega
   rw [ix_gI hiw, ix_gI (show k < w.length by omega)]
   simp only [hk0, Bool.not_false, Bool.and_true, Bool.false_or]
   by_cases hc : gI x i < (gS l i).Hi
   ·simp only [hc, decide_true, gb, if_true, Option.bind_some, Bool.true_and]
    by_cases hw2 : gI w k < gI w i
    ·rw [if_pos (by simpa using hw2)]
     refine ⟨h, _, rfl, rfl, .inr ⟨i, rfl, by omega, hc, fun j hj hjf hp => ?_⟩⟩
     by_cases e : j = i
     ·subst e; rcases hp with hp | hp <;> omega
     ·have h3 := k3 j (by omega) hjf
      refine h3 ?_
      rcases hp with hp | hp
      ·exact .inl (by omega)
      ·exact .inl (by omega)
    ·rw [if_neg (by simpa using hw2)]
     refine ⟨h, _, rfl, rfl, .inr ⟨k, rfl, by omega, k2, fun j hj hjf hp => ?_⟩⟩
     by_cases e : j = i
     ·subst e; rcases hp with hp | hp <;> omega
     ·exact k3 j (by omega) hjf hp
   ·simp only [hc, decide_false, gb, Bool.false_and, Bool.false_eq_true, if_false, Option.bind_some]
    refine ⟨h, _, rfl, rfl, .inr ⟨k, rfl, by omega, k2, fun j hj hjf hp => ?_⟩⟩
    by_cases e : j = i
    ·subst e; exact hc hjf
    ·exact k3 j (by omega) hjf hp
 ·right
  have e : i = l.length := by omega
  subst e
  rw [if_neg (by simp)]
  obtain ⟨y, q1, q2⟩ := h4 b hb
  rw [q1]
  exact ⟨y, rfl, q2⟩

/-- Spans of holds of a right ship. -/
structure Spn (l : List api_Span) : Prop where
 n : l.length ≤ 8
 b : ∀ i, i < l.length → 0 ≤ (gS l i).Lo ∧ (gS l i).Lo ≤ (gS l i).Hi ∧ (gS l i).Hi ≤ 65536
theorem GoodL.spn {s : api_Ship} {l : api_Load} (h : GoodL s l) : Spn l.Holds := ⟨h.lenL, fun i hi => by rw [gS_get hi]; exact h.mem _ (List.getElem_mem hi)⟩
theorem Spn.sums {l : List api_Span} (h : Spn l) : 0 ≤ loSum l ∧ loSum l ≤ hiSum l ∧ hiSum l ≤ 524288 := by
 have h1 := sums_bd l fun x hx => by obtain ⟨j, hj, rfl⟩ := List.getElem_of_mem hx; have := h.b j hj; rw [gS_get hj] at this; exact this
 have := h.n
 omega
theorem InS.lo {l : List api_Span} (h : Spn l) : InS l (l.map (·.Lo)) := InS.of_g (by simp) fun i hi => by
 have e : gI (l.map (·.Lo)) i = (gS l i).Lo := by rw [gI_get (by simpa using hi), gS_get hi, List.getElem_map]
 rw [e]; have := h.b i hi; omega
theorem gI_lo {l : List api_Span} {i : Nat} (hi : i < l.length) : gI (l.map (·.Lo)) i = (gS l i).Lo := by rw [gI_get (by simpa using hi), gS_get hi, List.getElem_map]
theorem sum_setg {x : List Int} {k : Nat} (h : k < x.length) (v : Int) : (x.set k v).sum = x.sum - gI x k + v := by rw [sum_set x k h, gI_get h]
theorem InS.full {l : List api_Span} {x : List Int} (h : InS l x) (hh : ∀ i, i < l.length → ¬ gI x i < (gS l i).Hi) : x.sum = hiSum l := h.of_all fun i h1 h2 => by
 have := h.2 i h1 h2
 have := hh i h2
 rw [gI_get h1, gS_get h2] at this
 omega
theorem fill_spec {l : List api_Span} {w : List Int} {t : Int} (h : Spn l) (hw : w.length = l.length) (h1 : loSum l ≤ t) (h2 : t ≤ hiSum l) : ∃ x, ref03_Fill l w t = some x ∧ Greedy l w t x := by
 have hn := h.n
 have hs := h.sums
 have hj1 : ∃ x, ref03_Fill_j1 l w t (l.map (·.Lo)) = some x ∧ Greedy l w t x := by
  unfold ref03_Fill_j1
  rw [rtotal_eq _ (by unfold Len; simp; omega), Option.bind_some, show (l.map (·.Lo)).sum = loSum l from rfl, w64_sub', w64_u (by omega)]
  refine lp_inv' (fun i (s : Int × List Int) => 0 ≤ s.1 ∧ s.1 + (i : Int) ≤ 524288 ∧ InS l s.2 ∧ s.2.sum + s.1 = t ∧ ∀ a b, a < l.length → b < l.length → Pri w a b → gI s.2 a < (gS l a).Hi → gI s.2 b = (gS l b).Lo) _ 524288 (by omega) ⟨by omega, by simp only; omega, InS.lo h, by simp only [show (l.map (·.Lo)).sum = loSum l from rfl]; omega, fun a b _ hb _ _ => gI_lo hb⟩ fun i s hi hI => ?_
  obtain ⟨left, x⟩ := s
  obtain ⟨q1, q2, q3, q4, q5⟩ := hI
  simp only at q1 q2 q3 q4 q5
  unfold ref03_Fill_b3
  simp only
  by_cases hc : 0 < left
  ·rw [if_pos (by simpa using hc)]
   have hxl := q3.1
   obtain ⟨y, y1, y2⟩ := fill_pick (l := l) (w := w) (x := x) (left := left) (r := fun y => (∃ s', y = .inl s' ∧ i < 524288 ∧ 0 ≤ s'.1 ∧ s'.1 + ((i + 1 : Nat) : Int) ≤ 524288 ∧ InS l s'.2 ∧ s'.2.sum + s'.1 = t ∧ ∀ a b, a < l.length → b < l.length → Pri w a b → gI s'.2 a < (gS l a).Hi → gI s'.2 b = (gS l b).Lo)) hn hw hxl fun b hb => by
    rcases hb with ⟨rfl, hb⟩ | ⟨k, rfl, k1, k2, k3⟩
    ·have := q3.full hb
     omega
    ·have hkx : k < x.length := by omega
     have hbk := h.b k k1
     have hxk := q3.g k k1
     unfold ref03_Fill_j4
     rw [if_neg (by rw [decide_eq_true_eq]; omega), ix_gS k1, Option.bind_some, ix_gI hkx, Option.bind_some, Option.bind_some, Option.bind_some, put_nat, w64_u (a := (gS l k).Hi - gI x k) (by omega)]
     generalize hm : min left ((gS l k).Hi - gI x k) = m
     rw [w64_u (a := left - m) (by omega), w64_u (a := gI x k + m) (by omega)]
     have hss := sum_setg hkx (gI x k + m)
     refine ⟨_, rfl, _, rfl, by omega, by simp only; omega, by simp only; omega, InS.of_g (by simp [hxl]) fun j hj => ?_, by simp only; omega, fun a b ha hb hp hf => ?_⟩
     ·simp only
      rw [gI_set hkx]
      split
      ·rename_i e; subst e; omega
      ·exact q3.g j hj
     ·simp only at hf ⊢
      rw [gI_set hkx] at hf ⊢
      have ha' : gI x a < (gS l a).Hi := by
       split at hf
       ·rename_i e; subst e; exact k2
       ·exact hf
      have hbk2 : b ≠ k := fun e => by subst e; exact k3 a ha ha' hp
      rw [if_neg hbk2]
      exact q5 a b ha hb hp ha'
   rw [y1]
   obtain ⟨s', e1, e2, e3, e4, e5, e6, e7⟩ := y2
   subst e1
   exact .inl ⟨e2, s', rfl, e3, e4, e5, e6, e7⟩
  ·right
   rw [if_neg (by simpa using hc)]
   exact ⟨x, rfl, q3, by omega, q5⟩
 obtain ⟨x, x1, x2⟩ := hj1
 refine ⟨x, ?_, x2⟩
 unfold ref03_Fill
 have hx := x2.ins.1
 refine (lp_list (body := ref03_Fill_b7 l w t) l (by omega) (fun (acc : List Int) i => (i, acc)) (fun acc r => x) (fun i acc => acc = (l.take i).map (·.Lo)) (a := []) rfl (by simp) (fun acc i hi hJ => ?_) (fun acc hJ => ?_)).trans rfl
 ·left
  unfold ref03_Fill_b7
  simp only
  rw [if_pos (by simpa using hi), ix_lt hi, Option.bind_some, app_ok (by rw [hJ]; simp; omega), Option.bind_some, w64s' hi (by omega)]
  exact ⟨_, rfl, by simp, by rw [hJ, ← List.map_singleton, ← List.map_append, List.take_append_getElem]⟩
 ·unfold ref03_Fill_b7
  simp only
  rw [List.take_length] at hJ
  rw [if_neg (by simp), hJ, x1]; rfl
end Go.Mx
