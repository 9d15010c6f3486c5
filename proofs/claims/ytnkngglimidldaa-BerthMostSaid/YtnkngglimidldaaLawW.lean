/- Plain laws of water, fourth part: checks and heights are those of the specification. Conditions: none. -/
import Derived.Test.YtnkngglimidldaaLawV
set_option linter.unusedVariables false
namespace Go.Mx
theorem contains_ID (l : List api_Cycle) (c : api_Cycle) (hl : Len l) : slices_ContainsFunc_api_Cycle__tide_Check_1 l c = some (l.any fun x => decide (x.ID = c.ID)) := by
 unfold slices_ContainsFunc_api_Cycle__tide_Check_1
 have h : ∃ r, slices_IndexFunc_api_Cycle__tide_Check_1 l c = some r ∧ decide (0 ≤ r) = l.any fun x => decide (x.ID = c.ID) := by
  unfold slices_IndexFunc_api_Cycle__tide_Check_1
  refine lp_inv' (fun i s => s = (i : Int) ∧ ∀ j (hj : j < l.length), j < i → ¬ l[j].ID = c.ID) _ l.length (by unfold Len at hl; omega) ⟨rfl, fun j _ h => by omega⟩ fun i s hi hI => ?_
  obtain ⟨rfl, hI⟩ := hI
  unfold slices_IndexFunc_api_Cycle__tide_Check_1_b2
  by_cases h : i < l.length
  ·rw [if_pos (by simpa using h), ix_lt h]
   simp only [Option.bind_some]
   by_cases hr : l[i].ID = c.ID
   ·rw [if_pos (by simpa [tide_Check_1] using hr)]
    refine .inr ⟨_, rfl, ?_⟩
    rw [show decide ((0 : Int) ≤ (i : Int)) = true by simp]
    symm
    rw [List.any_eq_true]
    exact ⟨_, List.getElem_mem h, by simpa using hr⟩
   ·rw [if_neg (by simpa [tide_Check_1] using hr)]
    refine .inl ⟨h, _, rfl, w64s' h hl, fun j hj hji => ?_⟩
    by_cases hj' : j = i
    ·subst hj'; exact hr
    ·exact hI j hj (by omega)
  ·rw [if_neg (by simpa using h)]
   refine .inr ⟨-1, rfl, ?_⟩
   symm
   rw [show decide ((0 : Int) ≤ -1) = false by decide, List.any_eq_false]
   intro x hx
   obtain ⟨j, hj, rfl⟩ := List.getElem_of_mem hx
   simpa using hI j hj (by omega)
 obtain ⟨r, h1, h2⟩ := h
 rw [h1, Option.bind_some, h2]
def cycleS (e : Int) : List api_Cycle → List api_Cycle → Int
 | _, [] => e
 | pre, c :: r => if goodB c = true then (if (pre.any fun x => decide (x.ID = c.ID)) = true then 6 else cycleS e (pre ++ [c]) r) else 1
def checkS (w : api_Water) : Int :=
 if -4000 ≤ w.Level ∧ w.Level ≤ 4000 then (if 6 < w.Cycles.length ∨ 20 < w.Shifts.length then 2 else cycleS (shiftS (-1) w.Shifts) [] w.Cycles) else 1
theorem Check_eq (w : api_Water) (hw : LenW w) : tide_Check w = some (checkS w) := by
 unfold tide_Check checkS
 by_cases h1 : -4000 ≤ w.Level ∧ w.Level ≤ 4000
 ·rw [if_pos h1, if_neg (by simp [tide_level, tide_within, h1])]
  by_cases h2 : 6 < w.Cycles.length ∨ 20 < w.Shifts.length
  ·rw [if_pos h2, if_pos (by simp; omega)]
  ·rw [if_neg h2, if_neg (by simp; omega)]
   refine lp_list w.Cycles hw.c (fun (_ : List api_Cycle) i => i) (cycleS (shiftS (-1) w.Shifts)) (fun i a => a = w.Cycles.take i) (a := []) rfl (by simp) (fun a i hi hJ => ?_) (fun a _ => ?_)
   ·subst hJ
    unfold tide_Check_b4
    rw [if_pos (by simpa using hi), ix_lt hi]
    simp only [Option.bind_some, cycleS]
    rw [right_eq _ (hw.h _ (List.getElem_mem hi))]
    simp only [Option.bind_some]
    by_cases hg : goodB w.Cycles[i] = true
    ·rw [if_neg (by simp [hg]), sub_pre (by omega), if_pos hg]
     simp only [Option.bind_some]
     rw [contains_ID _ _ (by unfold Len; simp; omega)]
     simp only [Option.bind_some]
     by_cases ha : ((w.Cycles.take i).any fun x => decide (x.ID = w.Cycles[i].ID)) = true
     ·right; rw [if_pos ha, if_pos ha]
     ·left
      rw [if_neg ha, if_neg ha, w64s' hi hw.c]
      exact ⟨_, rfl, rfl, by rw [List.take_add_one, List.getElem?_eq_getElem hi]; rfl⟩
    ·right
     rw [if_pos (by simp [hg]), if_neg hg]
   ·unfold tide_Check_b4
    rw [if_neg (by simp), check_j1_eq w hw.s]; rfl
 ·rw [if_neg h1, if_pos (by simp [tide_level, tide_within]; omega)]
theorem checkS_good {w : api_Water} (hw : LenW w) (h : checkS w = 0) : GoodW w := by
 obtain ⟨e, h1, h2⟩ := check_spec w hw
 rw [Check_eq w hw, Option.some.injEq] at h1
 exact h2 (h1 ▸ h)
theorem heights_self {w : api_Water} (hw : GoodW w) : tide_heights w = some (w, w) := by
 unfold tide_heights tide_parts
 rw [if_pos (by have := hw.nc; omega)]; rfl
end Go.Mx
