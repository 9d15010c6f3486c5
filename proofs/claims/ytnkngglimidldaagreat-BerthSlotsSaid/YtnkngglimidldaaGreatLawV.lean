/- Plain laws of water, third part: the specification says the same of values, checks and heights. Conditions: none. -/
import Derived.Test.YtnkngglimidldaaGreatLawU
set_option linter.unusedVariables false
namespace Go.Mx
theorem lp_list {α τ σ ρ : Type} {body : σ → Option (σ ⊕ ρ)} (l : List α) (hl : l.length ≤ 9223372036854775807) (st : τ → Int → σ) (F : τ → List α → ρ) (J : Nat → τ → Prop) {a : τ} {s0 : σ} (e0 : s0 = st a 0) (h0 : J 0 a)
  (step : ∀ a (i : Nat) (hi : i < l.length), J i a → (∃ a', body (st a (i : Int)) = some (.inl (st a' ((i + 1 : Nat) : Int))) ∧ F a (l[i] :: l.drop (i + 1)) = F a' (l.drop (i + 1)) ∧ J (i + 1) a') ∨ body (st a (i : Int)) = some (.inr (F a (l[i] :: l.drop (i + 1)))))
  (last : ∀ a, J l.length a → body (st a (l.length : Int)) = some (.inr (F a []))) : Lp body fuel s0 = some (F a l) := by
 suffices h : ∃ r, Lp body fuel s0 = some r ∧ r = F a l by obtain ⟨r, h, rfl⟩ := h; exact h
 refine lp_inv' (fun i s => ∃ b, s = st b (i : Int) ∧ F a l = F b (l.drop i) ∧ J i b) _ l.length (by omega) ⟨a, by simpa using e0, by simp, h0⟩ fun i s hi hI => ?_
 obtain ⟨b, rfl, h1, h2⟩ := hI
 by_cases h : i < l.length
 ·have hd := List.drop_eq_getElem_cons h
  rcases step b i h h2 with ⟨a', q1, q2, q3⟩ | q1
  ·exact .inl ⟨h, _, q1, a', rfl, by rw [h1, hd, q2], q3⟩
  ·exact .inr ⟨_, q1, by rw [h1, hd]⟩
 ·have e : i = l.length := by omega
  subst e
  exact .inr ⟨_, last b h2, by rw [h1, List.drop_length]⟩
theorem w64s' {i n : Nat} (h : i < n) (hn : n ≤ 9223372036854775807) : w64 ((i : Int) + 1) = ((i + 1 : Nat) : Int) := w64s i (by omega)
def headB (c : api_Cycle) : Bool := ((((tide_within c.ID 1 1099511627776) && (tide_minute c.Begin)) && (tide_within c.Every 1 120)) && (tide_within (c.Heights.length : Int) 1 60))
def goodB (c : api_Cycle) : Bool := headB c && c.Heights.all fun h => tide_level h
theorem right_eq (c : api_Cycle) (hl : Len c.Heights) : tide_right c = some (goodB c) := by
 unfold tide_right
 obtain ⟨r, h1, h2⟩ := index_right c.Heights hl
 have h3 : slices_ContainsFunc_int__tide_right_1 c.Heights = some (decide (0 ≤ r)) := by unfold slices_ContainsFunc_int__tide_right_1; rw [h1]; rfl
 rw [h3]
 unfold goodB
 change gb (headB c) _ (fun y => some (headB c && !y)) = _
 cases headB c with
 | false => rfl
 | true =>
  simp only [gb, if_true, Option.bind_some, Bool.true_and, Option.some.injEq]
  rcases h2 with ⟨h2, x, hx, hr⟩ | ⟨rfl, h2⟩
  ·have : (c.Heights.all fun h => tide_level h) = false := by
    rw [List.all_eq_false]; exact ⟨x, hx, by simpa [tide_right_1] using hr⟩
   rw [this]; simp [h2]
  ·have : (c.Heights.all fun h => tide_level h) = true := by
    rw [List.all_eq_true]; intro x hx; simpa [tide_right_1] using h2 x hx
   rw [this]; simp
theorem refwithin (n lo hi : Int) : ref02_within n lo hi = tide_within n lo hi := rfl
theorem Right_eq (c : api_Cycle) (hl : Len c.Heights) : ref02_Right c = some (goodB c) := by
 unfold ref02_Right goodB
 have e : (((!ref02_within c.ID 1 1099511627776 || !ref02_within c.Begin 0 1048576) || !ref02_within c.Every 1 120) || !ref02_within (c.Heights.length : Int) 1 60) = !headB c := by
  simp [headB, tide_minute, refwithin]
 rw [e]
 cases hb : headB c with
 | false => simp
 | true =>
  rw [if_neg (by simp)]
  simp only [Bool.true_and]
  refine lp_list c.Heights hl (fun (_ : Unit) i => i) (fun _ l => l.all fun h => tide_level h) (fun _ _ => True) (a := ()) rfl trivial (fun a i hi _ => ?_) (fun a _ => ?_)
  ·unfold ref02_Right_b2
   rw [if_pos (by simpa using hi), ix_lt hi]
   simp only [Option.bind_some]
   by_cases h : ref02_within c.Heights[i] (-4000) 4000 = true
   ·left
    rw [if_neg (by simp [h]), w64s' hi hl]
    exact ⟨(), rfl, by simp only [List.all_cons, tide_level, ← refwithin, h, Bool.true_and], trivial⟩
   ·right
    rw [if_pos (by simp [h])]
    rw [Bool.not_eq_true] at h
    simp only [List.all_cons, tide_level, ← refwithin, h, Bool.false_and]
  ·unfold ref02_Right_b2
   rw [if_neg (by simp)]; rfl
theorem floor_eq {a b : Int} (h0 : 0 < b) (ha : -1152921504606846976 ≤ a) (hb : a ≤ 1152921504606846976) : ref02_floor a b = some (a / b) := by
 have e1 : rem a b = some (a.tmod b) := by unfold rem; rw [if_neg (by omega)]
 have hd := Int.mul_tdiv_add_tmod a b
 have hm := Int.emod_add_mul_ediv a b
 have m0 := Int.emod_nonneg a (show b ≠ 0 by omega)
 have m1 := Int.emod_lt_of_pos a h0
 have k1 : a / b ≤ 1152921504606846976 := Int.le_trans (Int.ediv_le_ediv h0 hb) (Int.ediv_le_self _ (by omega))
 have k2 : -1152921504606846976 ≤ a / b := by
  rw [Int.le_ediv_iff_mul_le h0]
  have : (-1152921504606846976 : Int) * b ≤ -1152921504606846976 * 1 := Int.mul_le_mul_of_nonpos_left (by omega) (by omega)
  omega
 have l1 : a.tmod b < b := Int.tmod_lt_of_pos a h0
 have l2 : -b < a.tmod b := by have := Int.lt_tmod_of_pos a h0; omega
 unfold ref02_floor
 by_cases hn : a.tmod b < 0
 ·have e : a.tdiv b = a / b + 1 := by
   have h3 : b * (a.tdiv b - a / b - 1) + (a.tmod b + b - a % b) = 0 := by
    rw [Int.mul_sub, Int.mul_sub]; omega
   have h4 : a.tmod b + b - a % b = b * (a / b + 1 - a.tdiv b) := by
    rw [Int.mul_sub, Int.mul_add]; omega
   have h5 : a.tmod b + b < b + b * 1 := by omega
   rcases Int.lt_trichotomy (a / b + 1 - a.tdiv b) 0 with h | h | h
   ·have : b * (a / b + 1 - a.tdiv b) ≤ b * (-1) := Int.mul_le_mul_of_nonneg_left (by omega) (by omega)
    omega
   ·omega
   ·have : b * 1 ≤ b * (a / b + 1 - a.tdiv b) := Int.mul_le_mul_of_nonneg_left (by omega) (by omega)
    omega
  have e2 : quo a b = some (a / b + 1) := by unfold quo; rw [if_neg (by omega), e, w64_id (by omega) (by omega)]
  rw [e2, e1]
  simp only [Option.bind_some]
  rw [if_pos (by simpa using hn)]
  unfold ref02_floor_j1
  rw [w64_id (by omega) (by omega)]
  congr 1; omega
 ·have e : a.tdiv b = a / b := by
   have h4 : a.tmod b - a % b = b * (a / b - a.tdiv b) := by
    rw [Int.mul_sub]; omega
   rcases Int.lt_trichotomy (a / b - a.tdiv b) 0 with h | h | h
   ·have : b * (a / b - a.tdiv b) ≤ b * (-1) := Int.mul_le_mul_of_nonneg_left (by omega) (by omega)
    omega
   ·omega
   ·have : b * 1 ≤ b * (a / b - a.tdiv b) := Int.mul_le_mul_of_nonneg_left (by omega) (by omega)
    omega
  have e2 : quo a b = some (a / b) := by unfold quo; rw [if_neg (by omega), e, w64_id (by omega) (by omega)]
  rw [e2, e1]
  simp only [Option.bind_some]
  rw [if_neg (by simpa using hn)]
  rfl
theorem Of_eq {c : api_Cycle} (hg : Good c) {t : Int} (h0 : -1099511627776 ≤ t) (h1 : t ≤ 1099511627776) : ref02_Of c t = some (val c t) := by
 have g := hg
 obtain ⟨b0, b1, e0, e1, l0, l1, i0, i1, hs⟩ := g
 unfold ref02_Of
 rw [w64_id (by omega) (by omega), floor_eq (by omega) (by omega) (by omega), Option.bind_some]
 have k1 : (t - c.Begin) / c.Every ≤ 1099511627776 := Int.le_trans (Int.ediv_le_ediv (c := c.Every) (by omega) (show t - c.Begin ≤ 1099511627776 by omega)) (Int.ediv_le_self _ (by omega))
 have k2 : -1099513724928 ≤ (t - c.Begin) / c.Every := by
  rw [Int.le_ediv_iff_mul_le (by omega)]
  have : (-1099513724928 : Int) * c.Every ≤ -1099513724928 * 1 := Int.mul_le_mul_of_nonpos_left (by omega) (by omega)
  omega
 rw [floor_eq (by omega) (by omega) (by omega), Option.bind_some]
 have m0 := Int.emod_nonneg ((t - c.Begin) / c.Every) (show (c.Heights.length : Int) ≠ 0 by omega)
 have m1 := Int.emod_lt_of_pos ((t - c.Begin) / c.Every) (show 0 < (c.Heights.length : Int) by omega)
 have hm := Int.emod_add_mul_ediv ((t - c.Begin) / c.Every) c.Heights.length
 have e2 : (t - c.Begin) / c.Every / c.Heights.length * c.Heights.length = c.Heights.length * ((t - c.Begin) / c.Every / c.Heights.length) := Int.mul_comm _ _
 rw [w64_id (n := (t - c.Begin) / c.Every / c.Heights.length * c.Heights.length) (by omega) (by omega), w64_id (by omega) (by omega)]
 rw [show (t - c.Begin) / c.Every - (t - c.Begin) / c.Every / c.Heights.length * c.Heights.length = (t - c.Begin) / c.Every % c.Heights.length by omega]
 unfold ix val
 rw [if_pos m0, List.getElem?_eq_getElem (by omega), List.getD_eq_getElem?_getD, List.getElem?_eq_getElem (by omega)]
 rfl
def shiftS : Int → List api_Shift → Int
 | _, [] => 0
 | last, s :: r => if last + 1 ≤ s.From ∧ s.From ≤ s.To ∧ s.To ≤ 728 ∧ -4000 ≤ s.Add ∧ s.Add ≤ 4000 then shiftS s.To r else 1
theorem check_j1_eq (w : api_Water) (hl : Len w.Shifts) : tide_Check_j1 w = some (shiftS (-1) w.Shifts) := by
 unfold tide_Check_j1
 refine lp_list w.Shifts hl (fun (last : Int) i => (last, i)) shiftS (fun _ last => -1 ≤ last ∧ last ≤ 728) rfl ⟨by omega, by omega⟩ (fun a i hi hJ => ?_) (fun a _ => ?_)
 ·unfold tide_Check_b3
  simp only
  rw [if_pos (by simpa using hi), ix_lt hi]
  simp only [Option.bind_some, shiftS]
  rw [w64_id (n := a + 1) (by omega) (by omega)]
  by_cases h : a + 1 ≤ w.Shifts[i].From ∧ w.Shifts[i].From ≤ w.Shifts[i].To ∧ w.Shifts[i].To ≤ 728 ∧ -4000 ≤ w.Shifts[i].Add ∧ w.Shifts[i].Add ≤ 4000
  ·left
   rw [if_neg (by simp [tide_within, tide_level]; omega), w64s' hi hl, if_pos h]
   exact ⟨_, rfl, rfl, by omega, by omega⟩
  ·right
   rw [if_pos (by simp [tide_within, tide_level]; omega), if_neg h]
 ·unfold tide_Check_b3
  simp only
  rw [if_neg (by simp)]; rfl
def prevTo (l : List api_Shift) (i : Nat) : Int := if i = 0 then -1 else (l.getD (i - 1) default).To
theorem shifted_eq (l : List api_Shift) (hl : Len l) : ref02_shifted l = some (shiftS (-1) l) := by
 unfold ref02_shifted
 refine lp_list l hl (fun (last : Int) i => i) shiftS (fun i last => -1 ≤ last ∧ last ≤ 728 ∧ last = prevTo l i) (a := -1) rfl ⟨by omega, by omega, rfl⟩ (fun a i hi hJ => ?_) (fun a _ => ?_)
 ·unfold ref02_shifted_b2
  obtain ⟨j0, j1, j2⟩ := hJ
  rw [if_pos (by simpa using hi), ix_lt hi]
  simp only [Option.bind_some, shiftS]
  have hgb : ∀ {β : Type} (x : Bool) (k : api_Shift → Option β), (x = false → k default = k l[i]) → gb x (some l[i]) k = k l[i] := by
   intro β x k hk
   cases x with
   | true => rfl
   | false => simpa [gb] using hk rfl
  rw [hgb _ _ (by intro hx; simp at hx; simp [hx])]
  rw [hgb _ _ (by intro hx; simp at hx; simp [hx])]
  rw [hgb _ _ (by intro hx; simp only [Bool.not_eq_eq_eq_not, Bool.not_false] at hx; rw [hx]; simp)]
  by_cases h : 0 ≤ l[i].From ∧ l[i].From ≤ l[i].To ∧ l[i].To ≤ 728 ∧ -4000 ≤ l[i].Add ∧ l[i].Add ≤ 4000
  ·rw [if_neg (by simp [ref02_within]; omega)]
   cases i with
   | zero =>
    left
    have e : decide ((0 : Int) < ((0 : Nat) : Int)) = false := by simp
    simp only [e, gb, Bool.false_and]
    simp only [Bool.false_eq_true, if_false, Option.bind_some]
    rw [w64s' hi hl]
    refine ⟨l[0].To, rfl, ?_, by omega, by omega, ?_⟩
    ·simp [prevTo] at j2
     rw [if_pos (by omega)]
    ·simp [prevTo, List.getD_eq_getElem?_getD, hi]
   | succ k =>
    have hk : k < l.length := by omega
    have e : decide ((0 : Int) < ((k + 1 : Nat) : Int)) = true := by rw [decide_eq_true_eq]; omega
    have e2 : max 0 (w64 (((k + 1 : Nat) : Int) - 1)) = (k : Int) := by
     unfold Len at hl
     rw [w64_id (by omega) (by omega)]; omega
    simp only [e, e2, ix_lt hk, gb, if_true, Option.bind_some, Bool.true_and]
    have hp : a = l[k].To := by rw [j2]; simp [prevTo, List.getD_eq_getElem?_getD, hk]
    by_cases h2 : l[k + 1].From ≤ l[k].To
    ·right
     rw [if_pos (by simpa using h2), if_neg (by omega)]
    ·left
     rw [if_neg (by simpa using h2), w64s' hi hl]
     refine ⟨l[k + 1].To, rfl, ?_, by omega, by omega, ?_⟩
     ·rw [if_pos (by omega)]
     ·simp [prevTo, List.getD_eq_getElem?_getD, hi]
  ·right
   rw [if_pos (by simp [ref02_within]; omega), if_neg (by omega)]
 ·unfold ref02_shifted_b2
  rw [if_neg (by simp)]; rfl
end Go.Mx
