/- Plain laws of water, fourth part: checks and heights are those of the specification. Conditions: none. -/
import Derived.Test.YtnkngglimidldaaGreatLawV
set_option linter.unusedVariables false
namespace Go.Mx
theorem contains_ID (l : List api_Cycle) (c : api_Cycle) (hl : Len l) : slices_ContainsFunc_api_Cycle__tide_Check_1 l c = some (l.any fun x => decide (x.ID = c.ID)) := by
 unfold slices_ContainsFunc_api_Cycle__tide_Check_1
 have h : ∃ r, slices_IndexFunc_api_Cycle__tide_Check_1 l c = some r ∧ decide (0 ≤ r) = l.any fun x => decide (x.ID = c.ID) := by
  unfold slices_IndexFunc_api_Cycle__tide_Check_1
  refine lp_inv' (fun i s => s = (i : Int) ∧ ∀ j (hj : j < l.length), j < i → ¬ l[j].ID = c.ID) _ l.length (by unfold Len at hl; omega) ⟨rfl, fun j _ h => by omega⟩ fun i s hi hI => ?_
  obtain ⟨rfl, hI⟩ := hI
  unfold slices_IndexFunc_api_Cycle__tide_Check_1_b2
  by_cases h : i < l.length
  ·rw [if_pos (by simpa using h), ix_lt h]
   simp only [Option.bind_some]
   by_cases hr : l[i].ID = c.ID
   ·rw [if_pos (by simpa [tide_Check_1] using hr)]
    refine .inr ⟨_, rfl, ?_⟩
    rw [show decide ((0 : Int) ≤ (i : Int)) = true by simp]
    symm
    rw [List.any_eq_true]
    exact ⟨_, List.getElem_mem h, by simpa using hr⟩
   ·rw [if_neg (by simpa [tide_Check_1] using hr)]
    refine .inl ⟨h, _, rfl, w64s' h hl, fun j hj hji => ?_⟩
    by_cases hj' : j = i
    ·subst hj'; exact hr
    ·exact hI j hj (by omega)
  ·rw [if_neg (by simpa using h)]
   refine .inr ⟨-1, rfl, ?_⟩
   symm
   rw [show decide ((0 : Int) ≤ -1) = false by decide, List.any_eq_false]
   intro x hx
   obtain ⟨j, hj, rfl⟩ := List.getElem_of_mem hx
   simpa using hI j hj (by omega)
 obtain ⟨r, h1, h2⟩ := h
 rw [h1, Option.bind_some, h2]
def cycleS (e : Int) : List api_Cycle → List api_Cycle → Int
 | _, [] => e
 | pre, c :: r => if goodB c = true then (if (pre.any fun x => decide (x.ID = c.ID)) = true then 6 else cycleS e (pre ++ [c]) r) else 1
def checkS (w : api_Water) : Int :=
 if -4000 ≤ w.Level ∧ w.Level ≤ 4000 then (if 6 < w.Cycles.length ∨ 20 < w.Shifts.length then 2 else cycleS (shiftS (-1) w.Shifts) [] w.Cycles) else 1
theorem Check_eq (w : api_Water) (hw : LenW w) : tide_Check w = some (checkS w) := by
 unfold tide_Check checkS
 by_cases h1 : -4000 ≤ w.Level ∧ w.Level ≤ 4000
 ·rw [if_pos h1, if_neg (by simp [tide_level, tide_within, h1])]
  by_cases h2 : 6 < w.Cycles.length ∨ 20 < w.Shifts.length
  ·rw [if_pos h2, if_pos (by simp; omega)]
  ·rw [if_neg h2, if_neg (by simp; omega)]
   refine lp_list w.Cycles hw.c (fun (_ : List api_Cycle) i => i) (cycleS (shiftS (-1) w.Shifts)) (fun i a => a = w.Cycles.take i) (a := []) rfl (by simp) (fun a i hi hJ => ?_) (fun a _ => ?_)
   ·subst hJ
    unfold tide_Check_b4
    rw [if_pos (by simpa using hi), ix_lt hi]
    simp only [Option.bind_some, cycleS]
    rw [right_eq _ (hw.h _ (List.getElem_mem hi))]
    simp only [Option.bind_some]
    by_cases hg : goodB w.Cycles[i] = true
    ·rw [if_neg (by simp [hg]), sub_pre (by omega), if_pos hg]
     simp only [Option.bind_some]
     rw [contains_ID _ _ (by unfold Len; simp; omega)]
     simp only [Option.bind_some]
     by_cases ha : ((w.Cycles.take i).any fun x => decide (x.ID = w.Cycles[i].ID)) = true
     ·right; rw [if_pos ha, if_pos ha]
     ·left
      rw [if_neg ha, if_neg ha, w64s' hi hw.c]
      exact ⟨_, rfl, rfl, by rw [List.take_add_one, List.getElem?_eq_getElem hi]; rfl⟩
    ·right
     rw [if_pos (by simp [hg]), if_neg hg]
   ·unfold tide_Check_b4
    rw [if_neg (by simp), check_j1_eq w hw.s]; rfl
 ·rw [if_neg h1, if_pos (by simp [tide_level, tide_within]; omega)]
theorem RCheck_eq (w : api_Water) (hw : LenW w) : ref02_Check w = some (checkS w) := by
 unfold ref02_Check checkS
 by_cases h1 : -4000 ≤ w.Level ∧ w.Level ≤ 4000
 ·rw [if_pos h1, if_neg (by simp [ref02_within, h1])]
  by_cases h2 : 6 < w.Cycles.length ∨ 20 < w.Shifts.length
  ·rw [if_pos h2, if_pos (by simp; omega)]
  ·rw [if_neg h2, if_neg (by simp; omega)]
   refine lp_list w.Cycles hw.c (fun (_ : List api_Cycle) i => i) (cycleS (shiftS (-1) w.Shifts)) (fun i a => a = w.Cycles.take i) (a := []) rfl (by simp) (fun a i hi hJ => ?_) (fun a _ => ?_)
   ·subst hJ
    unfold ref02_Check_b2
    rw [if_pos (by simpa using hi), ix_lt hi]
    simp only [Option.bind_some, cycleS]
    rw [Right_eq _ (hw.h _ (List.getElem_mem hi))]
    simp only [Option.bind_some]
    by_cases hg : goodB w.Cycles[i] = true
    ·rw [if_neg (by simp [hg]), if_pos hg]
     have hin : Lp (ref02_Check_b4 w i) fuel 0 = some (if ((w.Cycles.take i).any fun x => decide (x.ID = w.Cycles[i].ID)) = true then Sum.inr 6 else Sum.inl ((i + 1 : Nat) : Int)) := by
      refine lp_list (w.Cycles.take i) (by simp; omega) (fun (_ : Unit) k => k) (fun _ l => if (l.any fun x => decide (x.ID = w.Cycles[i].ID)) = true then Sum.inr 6 else Sum.inl ((i + 1 : Nat) : Int)) (fun _ _ => True) (a := ()) rfl trivial (fun a k hk _ => ?_) (fun a _ => ?_)
      ·have hk2 : k < i := by simp at hk; omega
       unfold ref02_Check_b4
       rw [if_pos (by simpa using hk2), ix_lt (show k < w.Cycles.length by omega), ix_lt hi]
       simp only [Option.bind_some, List.getElem_take, List.any_cons]
       by_cases he : w.Cycles[k].ID = w.Cycles[i].ID
       ·right
        simp [he]
       ·left
        rw [if_neg (by simpa using he), w64s' (n := i) hk2 (by omega)]
        exact ⟨(), rfl, by simp [he], trivial⟩
      ·unfold ref02_Check_b4
       have e : (w.Cycles.take i).length = i := by simp; omega
       rw [e, if_neg (by simp)]
       unfold ref02_Check_j3
       rw [w64s' hi hw.c]
       rfl
     rw [hin]
     by_cases ha : ((w.Cycles.take i).any fun x => decide (x.ID = w.Cycles[i].ID)) = true
     ·right; rw [if_pos ha, if_pos ha]
     ·left
      rw [if_neg ha, if_neg ha]
      exact ⟨_, rfl, rfl, by rw [List.take_add_one, List.getElem?_eq_getElem hi]; rfl⟩
    ·right
     rw [if_pos (by simp [hg]), if_neg hg]
   ·unfold ref02_Check_b2
    rw [if_neg (by simp)]
    unfold ref02_Check_j1
    rw [shifted_eq w.Shifts hw.s]; rfl
 ·rw [if_neg h1, if_pos (by simp [ref02_within]; omega)]
theorem checkS_good {w : api_Water} (hw : LenW w) (h : checkS w = 0) : GoodW w := by
 obtain ⟨e, h1, h2⟩ := check_spec w hw
 rw [Check_eq w hw, Option.some.injEq] at h1
 exact h2 (h1 ▸ h)
theorem Rcorrection_eq (w : api_Water) (hn : Len w.Shifts) (t : Int) (h0 : 0 ≤ t) (h1 : t ≤ 1099511627776) : ref02_correction w t = some (corr w.Shifts t) := by
 unfold ref02_correction
 have hq : quo t 1440 = some (t / 1440) := by
  unfold quo
  rw [if_neg (by omega), Int.tdiv_eq_ediv_of_nonneg h0, w64_id (by omega) (by omega)]
 rw [hq, Option.bind_some]
 refine lp_list w.Shifts hn (fun (_ : Unit) i => i) (fun _ l => corr l t) (fun _ _ => True) (a := ()) rfl trivial (fun a i hi _ => ?_) (fun a _ => ?_)
 ·unfold ref02_correction_b2
  rw [if_pos (by simpa using hi), ix_lt hi]
  simp only [Option.bind_some, corr]
  have hgb : ∀ {β : Type} (x : Bool) (k : api_Shift → Option β), (x = false → k default = k w.Shifts[i]) → gb x (some w.Shifts[i]) k = k w.Shifts[i] := by
   intro β x k hk
   cases x with
   | true => rfl
   | false => simpa [gb] using hk rfl
  rw [hgb _ _ (by intro hx; rw [hx]; simp)]
  by_cases hr : w.Shifts[i].From ≤ t / 1440 ∧ t / 1440 ≤ w.Shifts[i].To
  ·right
   rw [if_pos (by simpa using hr), if_pos hr]
  ·left
   rw [if_neg (by simpa using hr), w64s' hi hn]
   exact ⟨(), rfl, by rw [if_neg hr], trivial⟩
 ·unfold ref02_correction_b2
  rw [if_neg (by simp)]; rfl
theorem rest_eq {w : api_Water} (hw : GoodW w) {t : Int} (h0 : 0 ≤ t) (h1 : t ≤ 1099511627776) : ref02_rest w t = some (corr w.Shifts t + (w.Cycles.map fun c => val c t).sum) := by
 unfold ref02_rest
 have nc := hw.nc
 have ns := hw.ns
 rw [Rcorrection_eq w (by unfold Len; omega) t h0 h1, Option.bind_some]
 have b1 := corr_bound w.Shifts t hw.ss
 refine lp_list w.Cycles (by omega) (fun (h : Int) i => (h, i)) (fun h l => h + (l.map fun c => val c t).sum) (fun i h => -4000 - 4000 * i ≤ h ∧ h ≤ 4000 + 4000 * i) rfl ⟨by omega, by omega⟩ (fun a i hi hJ => ?_) (fun a _ => ?_)
 ·left
  unfold ref02_rest_b2
  simp only
  have hg := hw.cs _ (List.getElem_mem hi)
  rw [if_pos (by simpa using hi), ix_lt hi, Option.bind_some, Of_eq hg (by omega) h1, Option.bind_some]
  have b3 := val_bound hg t
  rw [w64s' hi (by omega), w64_id (n := a + val w.Cycles[i] t) (by omega) (by omega)]
  refine ⟨_, rfl, ?_, by omega, by omega⟩
  simp only [List.map_cons, List.sum_cons]; omega
 ·unfold ref02_rest_b2
  simp only
  rw [if_neg (by simp)]
  simp [ref02_rest_j1]
theorem At_eq {w : api_Water} (hw : GoodW w) {t : Int} (h0 : 0 ≤ t) (h1 : t ≤ 1099511627776) : ref02_At w t = some (hgt w t) := by
 unfold ref02_At
 rw [rest_eq hw h0 h1, Option.bind_some]
 have b := hgt_bound hw t
 have e : w.Level + (corr w.Shifts t + (w.Cycles.map fun c => val c t).sum) = hgt w t := by unfold hgt; omega
 rw [e, w64_id (by omega) (by omega)]
theorem heights_self {w : api_Water} (hw : GoodW w) : tide_heights w = some (w, w) := by
 unfold tide_heights tide_parts
 rw [if_pos (by have := hw.nc; omega)]; rfl
end Go.Mx
