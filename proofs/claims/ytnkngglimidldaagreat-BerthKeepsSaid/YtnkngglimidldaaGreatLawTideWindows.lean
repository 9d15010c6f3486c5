/- TideWindows: the plain law. Conditions: none. -/
import Derived.Test.YtnkngglimidldaaGreatLawN
set_option linter.unusedVariables false
namespace Go.Mx
def zDH (long : Int) : List zD → zD × Int
 | [] => (⟨0, 0⟩, 5)
 | x :: r => if long ≤ x.Hi - x.Lo + 1 then (x, 0) else zDH long r
def zD8 (w : zY) (s : zD) (height long : Int) : zD × Int :=
 if (QS w s height).2 = 0 then (if long < 1 then (⟨0, 0⟩, 1) else zDH long (QS w s height).1) else (⟨0, 0⟩, (QS w s height).2)
theorem Next_eq (w : zY) (hw : LenW w) (s : zD) (height long : Int) (hl : OkI .i64 long) : zBZ w s height long = some (zD8 w s height long) := by
 unfold zBZ zD8
 rw [zKK w hw, Option.bind_some]
 obtain ⟨h1, h2⟩ := zFA w hw s height
 have hl2 := hl.i64
 generalize QS w s height = y at *
 obtain ⟨l, e⟩ := y
 simp only at h1 h2 ⊢
 by_cases he : e = 0
 ·rw [if_neg (by simp [he]), if_pos he]
  by_cases hn : long < 1
  ·rw [if_pos (by simpa using hn), if_pos hn]
  ·rw [if_neg (by simpa using hn), if_neg hn]
   refine J3 l (by omega) (fun (_ : Unit) i => i) (fun _ l => zDH long l) (fun _ _ => True) (a := ()) rfl trivial (fun _ i hi _ => ?_) (fun _ _ => ?_)
   ·have hx := h2 l[i] (List.getElem_mem hi)
    unfold zAf
    simp only
    rw [if_pos (by simpa using hi), jO hi, Option.bind_some, ZO (n := long - 1) (by omega) (by omega), ZO (n := l[i].Hi - l[i].Lo) (by omega) (by omega)]
    simp only [zDH]
    by_cases hc : long ≤ l[i].Hi - l[i].Lo + 1
    ·right; rw [if_pos (by simp; omega), if_pos hc]
    ·left; rw [if_neg (by simp; omega), if_neg hc, w64s' hi (by omega)]; exact ⟨(), rfl, rfl, trivial⟩
   ·unfold zAf
    simp only
    rw [if_neg (by simp)]; rfl
 ·rw [if_pos (by simp [he]), if_neg he]
end Go.Mx
