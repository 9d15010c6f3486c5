/- Plain laws, berths: the ships that wait, the plan. Conditions: none. -/
import Derived.Test.YtnkngglimidldaaGreatLawYh
set_option linter.unusedVariables false
set_option linter.unusedSimpArgs false
namespace Go.Mx
def callS : List api_Call → List api_Call → Int
 | _, [] => 0
 | pre, c :: r => if rightB c = true then (if (pre.any fun x => decide (x.ID = c.ID)) = true then 6 else callS (pre ++ [c]) r) else 1
def checkCS (h : api_Harbour) (l : List api_Call) : Int := if checkHS h = 0 then (if 10 < l.length then 2 else callS [] l) else checkHS h
theorem callS_zero : ∀ (l pre : List api_Call), callS pre l = 0 → pre.Pairwise (fun a b => a.ID ≠ b.ID) → (∀ b ∈ l, rightB b = true) ∧ (pre ++ l).Pairwise (fun a b => a.ID ≠ b.ID)
 | [], pre, h, hp => ⟨fun b hb => (by cases hb), by simpa using hp⟩
 | b :: r, pre, h, hp => by
  unfold callS at h
  split at h
  ·rename_i hg
   split at h
   ·cases h
   ·rename_i hn
    have hp' : (pre ++ [b]).Pairwise (fun a b => a.ID ≠ b.ID) := by
     rw [List.pairwise_append]
     refine ⟨hp, List.pairwise_singleton _ _, fun x hx y hy => ?_⟩
     rw [List.mem_singleton] at hy
     subst hy
     intro q
     exact hn (List.any_eq_true.2 ⟨x, hx, by simpa using q⟩)
    obtain ⟨q2, q3⟩ := callS_zero r (pre ++ [b]) h hp'
    refine ⟨fun x hx => ?_, by simpa using q3⟩
    rcases List.mem_cons.1 hx with rfl | hx
    ·exact hg
    ·exact q2 x hx
  ·cases h
structure GoodL (h : api_Harbour) (l : List api_Call) : Prop where
 h : GoodH h
 n : l.length ≤ 10
 r : ∀ c ∈ l, rightB c = true
 d : l.Pairwise (fun a b => a.ID ≠ b.ID)
theorem GoodL.of {h : api_Harbour} {l : List api_Call} (hh : LenH h) (e : checkCS h l = 0) : GoodL h l := by
 unfold checkCS at e
 split at e
 ·rename_i e1
  split at e
  ·cases e
  ·obtain ⟨q1, q2⟩ := callS_zero l [] e .nil
   exact ⟨GoodH.of hh e1, by omega, q1, by simpa using q2⟩
 ·contradiction
def CanFix (b : berth_board) (want : Int) (fixed : List Int) : Prop := ∃ s, AsgB b s ∧ OkB b s ∧ FixOK b fixed s ∧ totB b [] s = want
structure PlanI (b : berth_board) (want : Int) (i : Nat) (fixed : List Int) : Prop where
 l : fixed.length = i
 v : ∀ r, r < i → gI fixed r = -1 ∨ ∃ k : Nat, gI fixed r = (k : Int) ∧ k < b.slots.length ∧ canB b r k = true
 c : CanFix b want fixed
 f : ∀ r, r < i → ∀ k : Nat, k < b.slots.length → canB b r k = true → (gI fixed r = -1 ∨ (k : Int) < gI fixed r) → ¬ CanFix b want (fixed.take r ++ [(k : Int)])
end Go.Mx
