/- Plain laws, arbiters: what a chair is bound to. Conditions: none. -/
import Derived.Test.YtkomoedegnckhaaLawZb
set_option linter.unusedVariables false
set_option linter.unusedSimpArgs false
namespace Go.Mx
def pkF (a : Int × Int) (x : api_Letter) : Int × Int := if a.1 < x.Voted then (x.Voted, x.Finding) else a
def pkS (l : List api_Letter) : Int × Int := l.foldl pkF (0, 0)
theorem pick_eq (l : List api_Letter) (hl : l.length ≤ 4000) : ref09_pick l = some ((pkS l).2, decide (0 < (pkS l).1)) := by
 unfold ref09_pick
 refine (sum_loop l hl (fun a i => (a.1, a.2, i)) pkF (fun a => (a.2, decide (0 < a.1))) (fun _ _ => True) (a := (0, 0)) rfl trivial (fun a i hi _ => ⟨?_, trivial⟩) (fun a _ => ?_))
 ·unfold ref09_pick_b2
  simp only [dlt hi, if_true, ix_nat hi, Option.bind_some, pkF, ref09_pick_j3, w64i hi hl, decide_eq_true_eq]
  split <;> rfl
 ·unfold ref09_pick_b2
  simp [dge, ref09_pick_j1]
theorem picked_eq (l : List api_Letter) (hl : l.length ≤ 4000) : arbiter_picked l = some ((pkS l).2, decide (0 < (pkS l).1)) := by
 let g : api_Letter → api_Letter → api_Letter := fun a x => if a.Voted < x.Voted then x else a
 have key : ∀ (l : List api_Letter) (a : api_Letter), ((l.foldl g a).Voted, (l.foldl g a).Finding) = l.foldl pkF (a.Voted, a.Finding) := by
  intro l
  induction l with
  | nil => intro a; rfl
  | cons x r ih =>
   intro a
   simp only [List.foldl_cons]
   rw [ih]
   congr 1
   show ((if a.Voted < x.Voted then x else a).Voted, (if a.Voted < x.Voted then x else a).Finding) = pkF (a.Voted, a.Finding) x
   unfold pkF
   split <;> rfl
 have h := sum_loop (body := arbiter_picked_b2 l) l hl (fun a i => (i, a.ID, a.Case, a.Kind, a.Round, a.From, a.To, a.Voted, a.Finding)) g (fun a => (a.Finding, decide (0 < a.Voted))) (fun _ _ => True) (a := (⟨0, 0, 0, 0, 0, 0, 0, 0⟩ : api_Letter)) rfl trivial (fun a i hi _ => ⟨by
  unfold arbiter_picked_b2
  simp only [dlt hi, if_true, ix_nat hi, Option.bind_some, arbiter_picked_j3, w64i hi hl, decide_eq_true_eq, g]
  split <;> rfl, trivial⟩) (fun a _ => by
  unfold arbiter_picked_b2
  simp [dge, arbiter_picked_j1])
 unfold arbiter_picked
 rw [h]
 have := key l ⟨0, 0, 0, 0, 0, 0, 0, 0⟩
 unfold pkS
 rw [← this]
def prB (x y : api_Letter) : Bool := decide (y.From = x.From) || (decide (0 < x.Voted) && decide (x.Voted = y.Voted) && !decide (x.Finding = y.Finding))
def badP (l : List api_Letter) : Prop := ∃ i, ∃ h : i < l.length, l[i].Kind ≠ 2 ∨ ∃ j, ∃ h' : j < i, l[i].Case ≠ (l[j]'(by omega)).Case ∨ l[i].Round ≠ (l[j]'(by omega)).Round ∨ prB l[i] (l[j]'(by omega)) = true
theorem pick_end {c : api_Court} {l : List api_Letter} (hl : l.length ≤ 4000) : arbiter_Pick_j1 c l = some (if (l.length : Int) < majS c then (0, false, 5) else ((pkS l).2, decide (0 < (pkS l).1), 0)) ∧ ref09_Pick_j1 c l = some (if (l.length : Int) < majS c then (0, false, 5) else ((pkS l).2, decide (0 < (pkS l).1), 0)) := by
 constructor
 ·unfold arbiter_Pick_j1
  rw [Maj_eq, Option.bind_some, picked_eq l hl]
  simp only [decide_eq_true_eq, Option.bind_some]
  split <;> rfl
 ·unfold ref09_Pick_j1
  rw [rMaj_eq, Option.bind_some, pick_eq l hl]
  simp only [decide_eq_true_eq, Option.bind_some]
  split <;> rfl
open Classical in
theorem Pick_loop {c : api_Court} {l : List api_Letter} (hl : l.length ≤ 4000) : Lp (arbiter_Pick_b2 c l) fuel 0 = (if badP l then some (0, false, 1) else arbiter_Pick_j1 c l) := by
 have hj := (pick_end (c := c) hl).1
 suffices h : ∃ r, Lp (arbiter_Pick_b2 c l) fuel 0 = some r ∧ some r = (if badP l then some (0, false, 1) else arbiter_Pick_j1 c l) by obtain ⟨r, h, e⟩ := h; rw [h, e]
 refine lp_inv' (fun (i : Nat) (s : Int) => s = (i : Int) ∧ ∀ k (h : k < l.length), k < i → l[k].Kind = 2 ∧ ∀ j (h' : j < k), l[k].Case = (l[j]'(by omega)).Case ∧ l[k].Round = (l[j]'(by omega)).Round ∧ prB l[k] (l[j]'(by omega)) = false) _ l.length (by omega) ⟨rfl, fun k h hk => by omega⟩ fun i s hi hI => ?_
 obtain ⟨rfl, hI⟩ := hI
 by_cases hlt : i < l.length
 ·unfold arbiter_Pick_b2
  simp only [dlt hlt, if_true, ix_nat hlt, Option.bind_some]
  by_cases k2 : l[i].Kind = 2
  ·simp only [k2, decide_true, Bool.not_true, Bool.false_eq_true, if_false]
   rw [sub_to (by omega : i ≤ l.length), Option.bind_some]
   have htl : (l.take i).length = i := by rw [List.length_take]; omega
   have hL := find_loop (fun y => !decide (l[i].Case = y.Case) || !decide (l[i].Round = y.Round) || prB l[i] y) (l.take i) (by rw [htl]; omega) (body := arbiter_Pick_b4 (i : Int) l[i] (l.take i)) (fun _ => Sum.inr (0, false, 1)) (.inl ((i + 1 : Nat) : Int)) (fun j hj => by
    unfold arbiter_Pick_b4
    simp only [dlt hj, if_true, ix_nat hj, Option.bind_some, w64i hj (by rw [htl]; omega), prB]
    have e : decide (l[i].From = (l.take i)[j].From) = decide ((l.take i)[j].From = l[i].From) := by simp only [eq_comm]
    rw [e]
    simp only [Bool.or_assoc]
    split <;> rfl) (by
    unfold arbiter_Pick_b4
    simp [dge, arbiter_Pick_j3, w64i hlt hl])
   rw [hL]
   cases hf : (l.take i).findIdx? (fun y => !decide (l[i].Case = y.Case) || !decide (l[i].Round = y.Round) || prB l[i] y) with
   | none =>
    refine .inl ⟨hlt, _, rfl, rfl, fun k h hk => ?_⟩
    by_cases e : k = i
    ·subst e
     refine ⟨k2, fun j h' => ?_⟩
     have := List.findIdx?_eq_none_iff.1 hf ((l.take k)[j]'(by rw [htl]; exact h')) (List.getElem_mem _)
     rw [List.getElem_take] at this
     simp only [Bool.or_eq_false_iff, Bool.not_eq_false', decide_eq_true_eq] at this
     exact ⟨this.1.1, this.1.2, this.2⟩
    ·exact hI k h (by omega)
   | some j =>
    refine .inr ⟨_, rfl, ?_⟩
    obtain ⟨hj', hp, _⟩ := List.findIdx?_eq_some_iff_getElem.1 hf
    rw [htl] at hj'
    rw [List.getElem_take] at hp
    rw [if_pos]
    refine ⟨i, hlt, .inr ⟨j, hj', ?_⟩⟩
    simp only [Bool.or_eq_true, Bool.not_eq_true', decide_eq_false_iff_not] at hp
    rcases hp with (hp | hp) | hp
    ·exact .inl hp
    ·exact .inr (.inl hp)
    ·exact .inr (.inr hp)
  ·simp only [k2, decide_false, Bool.not_false, if_true]
   exact .inr ⟨_, rfl, by rw [if_pos ⟨i, hlt, .inl k2⟩]⟩
 ·have e : i = l.length := by omega
  subst e
  refine .inr ⟨(if (l.length : Int) < majS c then (0, false, 5) else ((pkS l).2, decide (0 < (pkS l).1), 0)), ?_, ?_⟩
  ·unfold arbiter_Pick_b2
   simp only [dge, Bool.false_eq_true, if_false, hj, Option.map_some]
  ·suffices hb : ¬ badP l by rw [if_neg hb, hj]
   rintro ⟨k, hk, h⟩
   obtain ⟨q1, q2⟩ := hI k hk hk
   rcases h with h | ⟨j, h', h⟩
   ·exact h q1
   ·obtain ⟨q3, q4, q5⟩ := q2 j h'
    rcases h with h | h | h
    ·exact h q3
    ·exact h q4
    ·rw [q5] at h; cases h
open Classical in
theorem rPick_loop {c : api_Court} {l : List api_Letter} (hl : l.length ≤ 4000) : Lp (ref09_Pick_b2 c l) fuel 0 = (if badP l then some (0, false, 1) else ref09_Pick_j1 c l) := by
 have hj := (pick_end (c := c) hl).2
 suffices h : ∃ r, Lp (ref09_Pick_b2 c l) fuel 0 = some r ∧ some r = (if badP l then some (0, false, 1) else ref09_Pick_j1 c l) by obtain ⟨r, h, e⟩ := h; rw [h, e]
 refine lp_inv' (fun (i : Nat) (s : Int) => s = (i : Int) ∧ ∀ k (h : k < l.length), k < i → l[k].Kind = 2 ∧ (l[k].Case = (l[0]'(by omega)).Case ∧ l[k].Round = (l[0]'(by omega)).Round) ∧ ∀ j (h' : j < k), prB l[k] (l[j]'(by omega)) = false) _ l.length (by omega) ⟨rfl, fun k h hk => by omega⟩ fun i s hi hI => ?_
 obtain ⟨rfl, hI⟩ := hI
 by_cases hlt : i < l.length
 ·have h0 : 0 < l.length := by omega
  unfold ref09_Pick_b2
  have e0 : ix l 0 = some l[0] := ix_nat (i := 0) h0
  simp only [dlt hlt, if_true, ix_nat hlt, e0, Option.bind_some]
  have hgb : ∀ {α : Type} [Inhabited α] {β : Type} (b : Bool) (v : α) (k : α → Option β), (b = false → k v = k default) → gb b (some v) k = k v := fun b v k h => by
   cases b with
   | true => rfl
   | false => show k default = k v; exact (h rfl).symm
  by_cases k2 : l[i].Kind = 2
  ·simp only [k2, decide_true, Bool.not_true, Bool.not_false, gb, if_true, Option.bind_some, Bool.false_or]
   by_cases k3 : l[i].Case = l[0].Case
   ·simp only [k3, decide_true, Bool.not_true, Bool.not_false, if_true, Option.bind_some, Bool.false_or]
    by_cases k4 : l[i].Round = l[0].Round
    ·simp only [k4, decide_true, Bool.not_true, Bool.false_eq_true, if_false]
     have htl : (l.take i).length = i := by rw [List.length_take]; omega
     have hL := find_loop (fun y => prB l[i] y) (l.take i) (by rw [htl]; omega) (body := ref09_Pick_b4 l (i : Int)) (fun _ => Sum.inr (0, false, 1)) (.inl ((i + 1 : Nat) : Int)) (fun j hj => by
      have hji : j < i := by rw [htl] at hj; exact hj
      have hjl : j < l.length := by omega
      unfold ref09_Pick_b4
      simp only [dlt hji, if_true, ix_nat hjl, ix_nat hlt, Option.bind_some, w64i hjl hl, List.getElem_take]
      unfold prB
      by_cases f1 : l[j].From = l[i].From
      ·simp [f1, gb]
      ·by_cases f2 : 0 < l[j].Voted
       ·by_cases f3 : l[j].Voted = l[i].Voted
        ·have f4 : 0 < l[i].Voted := by omega
         have f5 : l[i].Voted = l[j].Voted := f3.symm
         by_cases f6 : l[j].Finding = l[i].Finding
         ·have f7 : l[i].Finding = l[j].Finding := f6.symm
          simp [f1, f2, f3, f4, f6, gb]
         ·have f7 : ¬ l[i].Finding = l[j].Finding := fun e => f6 e.symm
          simp [f1, f2, f3, f4, f6, f7, gb]
        ·have f5 : ¬ l[i].Voted = l[j].Voted := fun e => f3 e.symm
         simp [f1, f2, f3, f5, gb]
       ·by_cases f3 : l[i].Voted = l[j].Voted
        ·have : ¬ 0 < l[i].Voted := by omega
         simp [f1, f2, f3, this, gb]
        ·simp [f1, f2, f3, gb]) (by
      rw [htl]
      unfold ref09_Pick_b4
      simp [dge, ref09_Pick_j3, w64i hlt hl])
     rw [hL]
     cases hf : (l.take i).findIdx? (fun y => prB l[i] y) with
     | none =>
      refine .inl ⟨hlt, _, rfl, rfl, fun k h hk => ?_⟩
      by_cases e : k = i
      ·subst e
       refine ⟨k2, ⟨k3, k4⟩, fun j h' => ?_⟩
       have := List.findIdx?_eq_none_iff.1 hf ((l.take k)[j]'(by rw [htl]; exact h')) (List.getElem_mem _)
       rw [List.getElem_take] at this
       exact this
      ·exact hI k h (by omega)
     | some j =>
      refine .inr ⟨_, rfl, ?_⟩
      obtain ⟨hj', hp, _⟩ := List.findIdx?_eq_some_iff_getElem.1 hf
      rw [htl] at hj'
      rw [List.getElem_take] at hp
      rw [if_pos]
      exact ⟨i, hlt, .inr ⟨j, hj', .inr (.inr hp)⟩⟩
    ·simp only [k4, decide_false, Bool.not_false, if_true]
     refine .inr ⟨_, rfl, ?_⟩
     rw [if_pos]
     have : 0 < i := by
      rcases Nat.eq_zero_or_pos i with h | h
      ·subst h; exact absurd rfl k4
      ·exact h
     exact ⟨i, hlt, .inr ⟨0, this, .inr (.inl k4)⟩⟩
   ·simp only [k3, decide_false, Bool.not_false, Bool.not_true, Bool.true_or, Bool.false_eq_true, if_false, if_true, Option.bind_some]
    refine .inr ⟨_, rfl, ?_⟩
    rw [if_pos]
    have : 0 < i := by
     rcases Nat.eq_zero_or_pos i with h | h
     ·subst h; exact absurd rfl k3
     ·exact h
    exact ⟨i, hlt, .inr ⟨0, this, .inl k3⟩⟩
  ·simp only [k2, decide_false, Bool.not_false, Bool.not_true, gb, Bool.true_or, Bool.false_eq_true, if_false, if_true, Option.bind_some]
   exact .inr ⟨_, rfl, by rw [if_pos ⟨i, hlt, .inl k2⟩]⟩
 ·have e : i = l.length := by omega
  subst e
  refine .inr ⟨(if (l.length : Int) < majS c then (0, false, 5) else ((pkS l).2, decide (0 < (pkS l).1), 0)), ?_, ?_⟩
  ·unfold ref09_Pick_b2
   simp only [dge, Bool.false_eq_true, if_false, hj, Option.map_some]
  ·suffices hb : ¬ badP l by rw [if_neg hb, hj]
   rintro ⟨k, hk, h⟩
   obtain ⟨q1, q2, q5⟩ := hI k hk hk
   rcases h with h | ⟨j, h', h⟩
   ·exact h q1
   ·obtain ⟨_, q3, _⟩ := hI j (by omega) (by omega)
    rcases h with h | h | h
    ·exact h (q2.1.trans q3.1.symm)
    ·exact h (q2.2.trans q3.2.symm)
    ·rw [q5 j h'] at h; cases h
theorem Pick_same (c : api_Court) (l : List api_Letter) (hl : l.length ≤ 4000) : ∃ r, arbiter_Pick c l = some r ∧ ref09_Pick c l = some r := by
 unfold arbiter_Pick ref09_Pick
 rw [read_eq c l hl, listed_eq c l hl]
 simp only [Option.bind_some]
 split
 ·exact ⟨_, rfl, rfl⟩
 ·rw [Pick_loop hl, rPick_loop hl]
  split
  ·exact ⟨_, rfl, rfl⟩
  ·rw [(pick_end hl).1, (pick_end hl).2]; exact ⟨_, rfl, rfl⟩
end Go.Mx
