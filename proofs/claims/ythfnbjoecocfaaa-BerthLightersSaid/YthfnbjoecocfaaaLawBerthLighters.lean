/- BerthLighters: the plain law. Conditions: none. -/
import Derived.Test.YthfnbjoecocfaaaLawBd
set_option linter.unusedVariables false
set_option linter.unusedSimpArgs false
namespace Go.Mx
theorem lent_true : law06_lent = some true := by decide +kernel
theorem chk_many {l : List api_Lease} (h : 40 < l.length) : chk l = 2 := by unfold chk; rw [if_pos (by omega)]
theorem lits_len (l : List api_Lease) : (lits l).1.length = l.length := by
  have : ∀ (r : List Nat) (s : List Int × Int), (litF l r s).1.length = s.1.length := fun r => by
    induction r with
    | nil => intro s; rfl
    | cons i r ih => intro s; simp only [litF]; rw [ih]; simp
  unfold lits
  rw [this]; simp
theorem que_len (l : List api_Lease) (hl : Len l) : Len (que l).1 := by
  have : ∀ (r : List Nat) (o : List api_Lease) (nx : Int → Int), Len o → Len (quF l r o nx).1 := fun r => by
    induction r with
    | nil => intro o nx h; exact h
    | cons i r ih =>
      intro o nx h
      simp only [quF]
      split
      · simp [Len]
      · refine ih _ _ ?_
        unfold Len at *; simpa using h
  exact this _ _ _ hl
theorem holds_BerthLighters {l : List api_Lease} {x : List Int} (h0 : ok_62 l) (h1 : ok_40 x) : law06_BerthLighters l x = some true := by
  unfold law06_BerthLighters
  split
  · rw [lent_true]; rfl
  · rename_i hc
    simp only [Bool.or_eq_true, Bool.and_eq_true, decide_eq_true_eq, not_or, not_and] at hc
    have hL : Len l := by unfold Len; omega
    rcases Nat.lt_or_ge 40 l.length with hm | hm
    · have hk := chk_many hm
      have a1 : berth_Lighters l = some ([], 0, 2) := by unfold berth_Lighters; rw [bcheck_eq l hL, hk]; rfl
      have a2 : ref06_Lighters l = some ⟨[], 0, 2⟩ := by unfold ref06_Lighters; rw [rcheck_eq l hL, hk]; rfl
      have a3 : berth_Busiest l = some (0, 0, 2) := by unfold berth_Busiest; rw [bcheck_eq l hL, hk]; rfl
      have a4 : ref06_Busiest l = some (0, 0, 2) := by unfold ref06_Busiest; rw [rcheck_eq l hL, hk]; rfl
      have a5 : berth_Clashes l = some ([], 2) := by unfold berth_Clashes; rw [bcheck_eq l hL, hk]; rfl
      have a6 : ref06_Clashes l = some ⟨[], 2⟩ := by unfold ref06_Clashes; rw [rcheck_eq l hL, hk]; rfl
      have a7 : berth_Queue l = some ([], 2) := by unfold berth_Queue; rw [bcheck_eq l hL, hk]; rfl
      have a8 : ref06_Queue l = some ⟨[], 2⟩ := by unfold ref06_Queue; rw [rcheck_eq l hL, hk]; rfl
      rw [a1, a2, a3, a4, a5, a6, a7, a8, lent_true, bcheck_eq l hL, rcheck_eq l hL, bcheckl_eq l x hL, rcheckl_eq l x hL]
      simp only [Option.bind_some]
      rw [sameI_eq _ _ (by simp [Len]), sameP_eq _ _ (by simp [Len]), sameL_eq _ _ (by simp [Len])]
      simp [gb]
    · have hl : l.length ≤ 20 := by omega
      rw [blighters_eq l hl, rlighters_eq l hl, bbus_eq l hl, rbus_eq l (by omega), bclash_eq l (by omega), rclash_eq l (by omega), bque_eq l hl, rque_eq l hl, lent_true, bcheck_eq l hL, rcheck_eq l hL, bcheckl_eq l x hL, rcheckl_eq l x hL]
      simp only [Option.bind_some]
      by_cases hz : chk l = 0
      · simp only [hz, if_true]
        have hA := prA_len l l.length (by omega)
        have hS : (srtF lt_pair (prA l l.length)).length = (prA l l.length).length := (srtF_spec lt_pair_swo (prA l l.length)).1.length_eq
        rw [sameI_eq _ _ (by unfold Len; rw [lits_len]; omega), sameP_eq _ _ (by unfold Len; rw [hS]; omega), sameL_eq _ _ (que_len l hL)]
        simp [gb]
      · simp only [hz, if_false]
        rw [sameI_eq _ _ (by simp [Len]), sameP_eq _ _ (by simp [Len]), sameL_eq _ _ (by simp [Len])]
        simp [gb]
end Go.Mx
