/- Plain laws, arbiters: searches and sums over lists; what a court, and a letter, is. Conditions: none. -/
import Derived.Test.YtkomoedegnckhaaLawZa
import Derived.Test.YtkomoedegnckhaaLawB0
set_option linter.unusedVariables false
set_option linter.unusedSimpArgs false
namespace Go.Mx
def inI (n lo hi : Int) : Bool := decide (lo ≤ n) && decide (n ≤ hi)
theorem inI_spec {n lo hi : Int} : inI n lo hi = true ↔ lo ≤ n ∧ n ≤ hi := by simp [inI]
def okC (c : api_Court) : Bool := inI c.Arbiters 3 7
def chkS (c : api_Court) : Int := if okC c = true then 0 else 1
def majS (c : api_Court) : Int := if okC c = true then c.Arbiters / 2 + 1 else 0
def chairS (c : api_Court) (r : Int) : Int := if okC c = true ∧ inI r 1 1048576 = true then (r - 1) % c.Arbiters else 0
theorem okC_spec {c : api_Court} (h : okC c = true) : 3 ≤ c.Arbiters ∧ c.Arbiters ≤ 7 := inI_spec.1 h
theorem Check_eq (c : api_Court) : arbiter_Check c = chkS c := by
 unfold arbiter_Check chkS
 show (if (!okC c) = true then _ else _) = _
 cases okC c <;> rfl
theorem rCheck_eq (c : api_Court) : ref09_Check c = chkS c := by
 unfold ref09_Check chkS
 show (if (!okC c) = true then _ else _) = _
 cases okC c <;> rfl
theorem chk0 (c : api_Court) : (!decide (chkS c = 0)) = !okC c := by
 unfold chkS
 cases okC c <;> rfl
theorem Maj_eq (c : api_Court) : arbiter_Majority c = some (majS c) := by
 unfold arbiter_Majority majS
 rw [Check_eq, chk0]
 cases h : okC c with
 | false => rfl
 | true =>
  have := okC_spec h
  simp only [Bool.not_true, Bool.false_eq_true, if_false, if_true, quo, (by decide : (2 : Int) ≠ 0), Option.bind_some]
  rw [Int.tdiv_eq_ediv_of_nonneg (by omega), w64_id (n := c.Arbiters / 2) (by omega) (by omega), w64_id (by omega) (by omega)]
theorem rMaj_eq (c : api_Court) : ref09_Majority c = some (majS c) := by
 have : ref09_Majority c = arbiter_Majority c := by
  unfold ref09_Majority arbiter_Majority
  rw [Check_eq, rCheck_eq]
 rw [this, Maj_eq]
theorem Chair_eq (c : api_Court) (r : Int) : arbiter_Chair c r = some (chairS c r) := by
 unfold arbiter_Chair chairS
 rw [Check_eq, chk0]
 show (if (!okC c || !inI r 1 1048576) = true then _ else _) = _
 cases h : okC c with
 | false => simp
 | true =>
  cases h2 : inI r 1 1048576 with
  | false => simp
  | true =>
   have := okC_spec h
   have := inI_spec.1 h2
   simp only [Bool.not_true, Bool.or_self, Bool.false_eq_true, if_false, and_self, if_true, rem]
   rw [if_neg (by omega), Option.bind_some, w64_id (by omega) (by omega), Int.tmod_eq_emod_of_nonneg (by omega)]
theorem rChair_eq (c : api_Court) (r : Int) : ref09_Chair c r = some (chairS c r) := by
 have : ref09_Chair c r = arbiter_Chair c r := by
  unfold ref09_Chair arbiter_Chair
  rw [Check_eq, rCheck_eq]; rfl
 rw [this, Chair_eq]
def kdB (c : api_Court) (l : api_Letter) : Bool :=
 if l.Kind = 1 then decide (l.From = chairS c l.Round) && decide (l.Voted = 0) && decide (l.Finding = 0)
 else if l.Kind = 2 then decide (l.To = chairS c l.Round) && inI l.Voted 0 (l.Round - 1) && (decide (0 < l.Voted) || decide (l.Finding = 0))
 else if l.Kind = 3 then decide (l.From = chairS c l.Round) && decide (l.Voted = 0)
 else decide (l.Kind = 4) && decide (l.Voted = 0)
def fmB (c : api_Court) (l : api_Letter) : Bool := okC c && inI l.Case 1 1099511627776 && inI l.Round 1 1048576 && inI l.From 0 (c.Arbiters - 1) && inI l.To 0 (c.Arbiters - 1) && inI l.ID 0 1099511627776 && inI l.Finding 0 65536 && kdB c l
theorem Formed_eq (c : api_Court) (l : api_Letter) : arbiter_Formed c l = some (fmB c l) := by
 unfold arbiter_Formed fmB
 rw [Check_eq, chk0]
 cases h : okC c with
 | false => simp
 | true =>
  have hA := okC_spec h
  have e1 : w64 (c.Arbiters - 1) = c.Arbiters - 1 := w64_id (by omega) (by omega)
  simp only [arbiter_topic, arbiter_judge, arbiter_finding, e1]
  show (if (false || !inI l.Case 1 1099511627776 || !inI l.Round 1 1048576 || !inI l.From 0 (c.Arbiters - 1) || !inI l.To 0 (c.Arbiters - 1) || !inI l.ID 0 1099511627776 || !inI l.Finding 0 65536) = true then _ else _) = _
  by_cases g : (inI l.Case 1 1099511627776 && inI l.Round 1 1048576 && inI l.From 0 (c.Arbiters - 1) && inI l.To 0 (c.Arbiters - 1) && inI l.ID 0 1099511627776 && inI l.Finding 0 65536) = true
  ·simp only [Bool.and_eq_true] at g
   obtain ⟨⟨⟨⟨⟨g1, g2⟩, g3⟩, g4⟩, g5⟩, g6⟩ := g
   have hr := inI_spec.1 g2
   simp only [g1, g2, g3, g4, g5, g6, Bool.not_true, Bool.or_self, Bool.false_eq_true, if_false, Bool.and_self, Bool.true_and]
   rw [Chair_eq, Option.bind_some, w64_id (n := l.Round - 1) (by omega) (by omega)]
   unfold kdB
   by_cases k1 : l.Kind = 1
   ·simp [k1]
   ·by_cases k2 : l.Kind = 2
    ·simp [k2]; rfl
    ·by_cases k3 : l.Kind = 3
     ·simp [k3]
     ·by_cases k4 : l.Kind = 4 <;> simp [k1, k2, k3, k4]
  ·have g' : (inI l.Case 1 1099511627776 && inI l.Round 1 1048576 && inI l.From 0 (c.Arbiters - 1) && inI l.To 0 (c.Arbiters - 1) && inI l.ID 0 1099511627776 && inI l.Finding 0 65536) = false := by simpa using g
   have e : (false || !inI l.Case 1 1099511627776 || !inI l.Round 1 1048576 || !inI l.From 0 (c.Arbiters - 1) || !inI l.To 0 (c.Arbiters - 1) || !inI l.ID 0 1099511627776 || !inI l.Finding 0 65536) = !(inI l.Case 1 1099511627776 && inI l.Round 1 1048576 && inI l.From 0 (c.Arbiters - 1) && inI l.To 0 (c.Arbiters - 1) && inI l.ID 0 1099511627776 && inI l.Finding 0 65536) := by simp [Bool.not_and]
   rw [e, g']
   simp only [Bool.not_false, if_true, Bool.true_and, g', Bool.false_and]
theorem rFormed_eq (c : api_Court) (l : api_Letter) : ref09_Formed c l = some (fmB c l) := by
 rw [← Formed_eq]
 unfold ref09_Formed arbiter_Formed
 rw [Check_eq, rCheck_eq, Chair_eq, rChair_eq]
 have e : ∀ a b1 b2 b3 b4 b5 b6 : Bool, (((((((a || !b1) || !b2) || !b3) || !b4) || !b5) || !b6)) = (((((((a || !b2) || !b3) || !b4) || !b5) || !b1) || !b6)) := by decide
 show (if (!decide (chkS c = 0) || !inI l.ID 0 1099511627776 || !inI l.Case 1 1099511627776 || !inI l.Round 1 1048576 || !inI l.From 0 (w64 (c.Arbiters - 1)) || !inI l.To 0 (w64 (c.Arbiters - 1)) || !inI l.Finding 0 65536) = true then _ else _) = (if (!decide (chkS c = 0) || !inI l.Case 1 1099511627776 || !inI l.Round 1 1048576 || !inI l.From 0 (w64 (c.Arbiters - 1)) || !inI l.To 0 (w64 (c.Arbiters - 1)) || !inI l.ID 0 1099511627776 || !inI l.Finding 0 65536) = true then _ else _)
 rw [e]
 split
 ·rfl
 ·simp only [Option.bind_some]
  by_cases k1 : l.Kind = 1
  ·simp [k1]
  ·by_cases k2 : l.Kind = 2
   ·simp [k2]; rfl
   ·by_cases k3 : l.Kind = 3
    ·simp [k3]
    ·by_cases k4 : l.Kind = 4 <;> simp [k1, k2, k3, k4]
end Go.Mx
