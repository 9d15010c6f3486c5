/- Plain laws, berths: what a ship can take; the board. Conditions: none. -/
import Derived.Test.YtnkngglimidldaaGreatLawYb
import Derived.Test.YtnkngglimidldaaGreatLawYf
set_option linter.unusedVariables false
set_option linter.unusedSimpArgs false
namespace Go.Mx
def rightB (c : api_Call) : Bool := decide (1 ≤ c.ID ∧ c.ID ≤ 1099511627776 ∧ 0 ≤ c.Draught ∧ c.Draught ≤ 8000 ∧ 0 ≤ c.From ∧ c.From ≤ c.To ∧ c.To ≤ 1048576 ∧ 1 ≤ c.Long ∧ c.Long ≤ 1440)
theorem rightC_eq (c : api_Call) : berth_right c = rightB c := by
 unfold berth_right rightB berth_within
 rw [Bool.eq_iff_iff]
 simp only [Bool.and_eq_true, decide_eq_true_eq]
 constructor <;> intro h <;> omega
structure GoodC (c : api_Call) : Prop where
 d0 : 0 ≤ c.Draught
 d1 : c.Draught ≤ 8000
 f0 : 0 ≤ c.From
 l0 : 1 ≤ c.Long
 l1 : c.Long ≤ 1440
theorem GoodC.of {c : api_Call} (h : rightB c = true) : GoodC c := by
 simp only [rightB, decide_eq_true_eq] at h
 exact ⟨by omega, by omega, by omega, by omega, by omega⟩
end Go.Mx
