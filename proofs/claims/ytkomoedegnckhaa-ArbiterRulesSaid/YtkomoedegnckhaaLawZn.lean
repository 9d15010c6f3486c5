/- Plain laws, arbiters: the next round of a chair. Conditions: none. -/
import Derived.Test.YtkomoedegnckhaaLawZb
set_option linter.unusedVariables false
namespace Go.Mx
def nxtS (c : api_Court) (a round : Int) : Int := round + 1 + (a - round) % c.Arbiters
theorem nxt_step {c : api_Court} {a round : Int} (hc : okC c = true) (h1 : 0 ≤ a) (h2 : a < c.Arbiters) (k : Nat) (hk : (k : Int) ≤ (a - round) % c.Arbiters) (h0 : 0 ≤ round) : (round + 1 + k - 1) % c.Arbiters = a ↔ (k : Int) = (a - round) % c.Arbiters := by
 obtain ⟨g1, g2⟩ := okC_spec hc
 have : c.Arbiters = 3 ∨ c.Arbiters = 4 ∨ c.Arbiters = 5 ∨ c.Arbiters = 6 ∨ c.Arbiters = 7 := by omega
 rcases this with e | e | e | e | e <;> rw [e] at hk h2 ⊢ <;> omega
theorem next_loop {ρ : Type} {c : api_Court} {a round : Int} (hc : okC c = true) (h1 : 0 ≤ a) (h2 : a < c.Arbiters) (h0 : 0 ≤ round) (h3 : round ≤ 1048576) {body : Int → Option (Int ⊕ ρ)} (fin : Int → ρ) (hb : ∀ r, 1 ≤ r → r ≤ 2000000 → body r = some (if (r - 1) % c.Arbiters = a then .inr (fin r) else .inl (r + 1))) : Lp body fuel (round + 1) = some (fin (nxtS c a round)) := by
 obtain ⟨g1, g2⟩ := okC_spec hc
 have hn := Int.emod_nonneg (a - round) (by omega : c.Arbiters ≠ 0)
 have hm := Int.emod_lt_of_pos (a - round) (by omega : 0 < c.Arbiters)
 suffices h : ∃ r, Lp body fuel (round + 1) = some r ∧ r = fin (nxtS c a round) by obtain ⟨r, h, rfl⟩ := h; exact h
 refine lp_inv' (fun (i : Nat) (s : Int) => s = round + 1 + i ∧ (i : Int) ≤ (a - round) % c.Arbiters) _ ((a - round) % c.Arbiters).toNat (by omega) ⟨by simp, by simpa using hn⟩ fun i s hi hI => ?_
 obtain ⟨rfl, hI⟩ := hI
 have hst := nxt_step hc h1 h2 i hI h0
 rw [hb _ (by omega) (by omega)]
 by_cases e : (i : Int) = (a - round) % c.Arbiters
 ·refine .inr ⟨_, by rw [if_pos (hst.2 e)], ?_⟩
  unfold nxtS
  rw [e]
 ·refine .inl ⟨by omega, _, by rw [if_neg (fun q => e (hst.1 q))], by omega, by omega⟩
theorem rem_chair {c : api_Court} {r : Int} (hc : okC c = true) (h1 : 1 ≤ r) (h2 : r ≤ 2000000) : rem (w64 (r - 1)) c.Arbiters = some ((r - 1) % c.Arbiters) := by
 obtain ⟨g1, g2⟩ := okC_spec hc
 unfold rem
 rw [if_neg (by omega), w64_id (by omega) (by omega), Int.tmod_eq_emod_of_nonneg (by omega)]
theorem next_eq {c : api_Court} {a round : Int} (hc : okC c = true) (h1 : 0 ≤ a) (h2 : a < c.Arbiters) (h0 : 0 ≤ round) (h3 : round ≤ 1048576) : arbiter_next c a round = some (nxtS c a round) := by
 unfold arbiter_next
 rw [w64_id (by omega) (by omega)]
 refine next_loop hc h1 h2 h0 h3 (fun r => r) fun r q1 q2 => ?_
 unfold arbiter_next_b2
 simp only
 rw [rem_chair hc q1 q2, Option.bind_some, w64_id (n := r + 1) (by omega) (by omega)]
 by_cases e : (r - 1) % c.Arbiters = a
 ·simp [e, arbiter_next_j1]
 ·simp [e]
def nextS (c : api_Court) (a round : Int) : Int × Int :=
 if okC c = true then (if inI a 0 (c.Arbiters - 1) = true ∧ inI round 0 1048576 = true then (if 1048576 < nxtS c a round then (0, 2) else (nxtS c a round, 0)) else (0, 1)) else (0, 1)
theorem Next_eq (c : api_Court) (a round : Int) : arbiter_Next c a round = some (nextS c a round) := by
 unfold arbiter_Next nextS
 rw [Check_eq, chk0]
 cases h : okC c with
 | false => simp [chkS, h]
 | true =>
  obtain ⟨g1, g2⟩ := okC_spec h
  simp only [Bool.not_true, Bool.false_eq_true, if_false, if_true]
  show (if (!inI a 0 (w64 (c.Arbiters - 1)) || !inI round 0 1048576) = true then _ else _) = _
  rw [w64_id (by omega) (by omega)]
  cases e1 : inI a 0 (c.Arbiters - 1) with
  | false => simp
  | true =>
   cases e2 : inI round 0 1048576 with
   | false => simp
   | true =>
    have := inI_spec.1 e1
    have := inI_spec.1 e2
    rw [next_eq h (by omega) (by omega) (by omega) (by omega)]
    simp only [Bool.not_true, Bool.or_self, Bool.false_eq_true, if_false, and_self, if_true, Option.bind_some, decide_eq_true_eq]
    split <;> rfl
theorem rNext_eq (c : api_Court) (a round : Int) : ref09_Next c a round = some (nextS c a round) := by
 unfold ref09_Next nextS
 rw [rCheck_eq, chk0]
 cases h : okC c with
 | false => simp [chkS, h]
 | true =>
  obtain ⟨g1, g2⟩ := okC_spec h
  simp only [Bool.not_true, Bool.false_eq_true, if_false, if_true]
  show (if (!inI a 0 (w64 (c.Arbiters - 1)) || !inI round 0 1048576) = true then _ else _) = _
  rw [w64_id (by omega) (by omega)]
  cases e1 : inI a 0 (c.Arbiters - 1) with
  | false => simp
  | true =>
   cases e2 : inI round 0 1048576 with
   | false => simp
   | true =>
    have := inI_spec.1 e1
    have := inI_spec.1 e2
    simp only [Bool.not_true, Bool.or_self, Bool.false_eq_true, if_false, and_self, if_true]
    rw [w64_id (by omega) (by omega)]
    refine next_loop h (by omega) (by omega) (by omega) (by omega) (fun r => if 1048576 < r then ((0 : Int), (2 : Int)) else (r, 0)) fun r q1 q2 => ?_
    unfold ref09_Next_b2
    simp only
    rw [rem_chair h q1 q2, Option.bind_some, w64_id (n := r + 1) (by omega) (by omega)]
    by_cases e : (r - 1) % c.Arbiters = a
    ·simp only [e, decide_true, Bool.not_true, Bool.false_eq_true, if_false, if_true, ref09_Next_j1, decide_eq_true_eq]
     split <;> rfl
    ·simp [e]
end Go.Mx
