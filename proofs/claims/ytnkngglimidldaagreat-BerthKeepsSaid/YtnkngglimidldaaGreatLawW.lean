/- Plain laws of water, fourth part: checks and heights are those of the specification. Conditions: none. -/
import Derived.Test.YtnkngglimidldaaGreatLawV
set_option linter.unusedVariables false
namespace Go.Mx
theorem zJS (l : List zw) (c : zw) (hl : Len l) : ZK l c = some (l.any fun x => decide (x.ID = c.ID)) := by
 unfold ZK
 have h : ∃ r, ZG l c = some r ∧ decide (0 ≤ r) = l.any fun x => decide (x.ID = c.ID) := by
  unfold ZG
  refine lp_inv' (fun i s => s = (i : Int) ∧ ∀ j (hj : j < l.length), j < i → ¬ l[j].ID = c.ID) _ l.length (by unfold Len at hl; omega) ⟨rfl, fun j _ h => by omega⟩ fun i s hi hI => ?_
  obtain ⟨rfl, hI⟩ := hI
  unfold ZU
  by_cases h : i < l.length
  ·rw [if_pos (by simpa using h), jO h]
   simp only [Option.bind_some]
   by_cases hr : l[i].ID = c.ID
   ·rw [if_pos (by simpa [ym] using hr)]
    refine .inr ⟨_, rfl, ?_⟩
    rw [show decide ((0 : Int) ≤ (i : Int)) = true by simp]
    symm
    rw [List.any_eq_true]
    exact ⟨_, List.getElem_mem h, by simpa using hr⟩
   ·rw [if_neg (by simpa [ym] using hr)]
    refine .inl ⟨h, _, rfl, w64s' h hl, fun j hj hji => ?_⟩
    by_cases hj' : j = i
    ·subst hj'; exact hr
    ·exact hI j hj (by omega)
  ·rw [if_neg (by simpa using h)]
   refine .inr ⟨-1, rfl, ?_⟩
   symm
   rw [show decide ((0 : Int) ≤ -1) = false by decide, List.any_eq_false]
   intro x hx
   obtain ⟨j, hj, rfl⟩ := List.getElem_of_mem hx
   simpa using hI j hj (by omega)
 obtain ⟨r, h1, h2⟩ := h
 rw [h1, Option.bind_some, h2]
def zIZ (e : Int) : List zw → List zw → Int
 | _, [] => e
 | pre, c :: r => if zKi c = true then (if (pre.any fun x => decide (x.ID = c.ID)) = true then 6 else zIZ e (pre ++ [c]) r) else 1
def zBU (w : zY) : Int :=
 if -4000 ≤ w.Level ∧ w.Level ≤ 4000 then (if 6 < w.Cycles.length ∨ 20 < w.Shifts.length then 2 else zIZ (zEl (-1) w.Shifts) [] w.Cycles) else 1
theorem zGt (w : zY) (hw : LenW w) : yn w = some (zBU w) := by
 unfold yn zBU
 by_cases h1 : -4000 ≤ w.Level ∧ w.Level ≤ 4000
 ·rw [if_pos h1, if_neg (by simp [Zr, zh, h1])]
  by_cases h2 : 6 < w.Cycles.length ∨ 20 < w.Shifts.length
  ·rw [if_pos h2, if_pos (by simp; omega)]
  ·rw [if_neg h2, if_neg (by simp; omega)]
   refine J3 w.Cycles hw.c (fun (_ : List zw) i => i) (zIZ (zEl (-1) w.Shifts)) (fun i a => a = w.Cycles.take i) (a := []) rfl (by simp) (fun a i hi hJ => ?_) (fun a _ => ?_)
   ·subst hJ
    unfold QT
    rw [if_pos (by simpa using hi), jO hi]
    simp only [Option.bind_some, zIZ]
    rw [right_eq _ (hw.h _ (List.getElem_mem hi))]
    simp only [Option.bind_some]
    by_cases hg : zKi w.Cycles[i] = true
    ·rw [if_neg (by simp [hg]), zKR (by omega), if_pos hg]
     simp only [Option.bind_some]
     rw [zJS _ _ (by unfold Len; simp; omega)]
     simp only [Option.bind_some]
     by_cases ha : ((w.Cycles.take i).any fun x => decide (x.ID = w.Cycles[i].ID)) = true
     ·right; rw [if_pos ha, if_pos ha]
     ·left
      rw [if_neg ha, if_neg ha, w64s' hi hw.c]
      exact ⟨_, rfl, rfl, by rw [List.take_add_one, List.getElem?_eq_getElem hi]; rfl⟩
    ·right
     rw [if_pos (by simp [hg]), if_neg hg]
   ·unfold QT
    rw [if_neg (by simp), zJU w hw.s]; rfl
 ·rw [if_neg h1, if_pos (by simp [Zr, zh]; omega)]
theorem zFV {w : zY} (hw : LenW w) (h : zBU w = 0) : zHy w := by
 obtain ⟨e, h1, h2⟩ := zKD w hw
 rw [zGt w hw, Option.some.injEq] at h1
 exact h2 (h1 ▸ h)
theorem zIQ {w : zY} (hw : zHy w) : Y3 w = some (w, w) := by
 unfold Y3 zBp
 rw [if_pos (by have := hw.nc; omega)]; rfl
end Go.Mx
