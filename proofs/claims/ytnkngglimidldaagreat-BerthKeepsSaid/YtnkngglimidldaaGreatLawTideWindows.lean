/- TideWindows: the plain law. Conditions: none. -/
import Derived.Test.YtnkngglimidldaaGreatLawN
set_option linter.unusedVariables false
namespace Go.Mx
def zCj (long : Int) : List zD → zD × Int
 | [] => (⟨0, 0⟩, 5)
 | x :: r => if long ≤ x.Hi - x.Lo + 1 then (x, 0) else zCj long r
def zDa (w : zX) (s : zD) (height long : Int) : zD × Int :=
 if (Yu w s height).2 = 0 then (if long < 1 then (⟨0, 0⟩, 1) else zCj long (Yu w s height).1) else (⟨0, 0⟩, (Yu w s height).2)
theorem Next_eq (w : zX) (hw : LenW w) (s : zD) (height long : Int) (hl : OkI .i64 long) : zAv w s height long = some (zDa w s height long) := by
 unfold zAv zDa
 rw [zJz w hw, Option.bind_some]
 obtain ⟨h1, h2⟩ := zEe w hw s height
 have hl2 := hl.i64
 generalize Yu w s height = y at *
 obtain ⟨l, e⟩ := y
 simp only at h1 h2 ⊢
 by_cases he : e = 0
 ·rw [if_neg (by simp [he]), if_pos he]
  by_cases hn : long < 1
  ·rw [if_pos (by simpa using hn), if_pos hn]
  ·rw [if_neg (by simpa using hn), if_neg hn]
   refine Jg l (by omega) (fun (_ : Unit) i => i) (fun _ l => zCj long l) (fun _ _ => True) (a := ()) rfl trivial (fun _ i hi _ => ?_) (fun _ _ => ?_)
   ·have hx := h2 l[i] (List.getElem_mem hi)
    unfold qq
    simp only
    rw [if_pos (by simpa using hi), jE hi, Option.bind_some, ZH (n := long - 1) (by omega) (by omega), ZH (n := l[i].Hi - l[i].Lo) (by omega) (by omega)]
    simp only [zCj]
    by_cases hc : long ≤ l[i].Hi - l[i].Lo + 1
    ·right; rw [if_pos (by simp; omega), if_pos hc]
    ·left; rw [if_neg (by simp; omega), if_neg hc, w64s' hi (by omega)]; exact ⟨(), rfl, rfl, trivial⟩
   ·unfold qq
    simp only
    rw [if_neg (by simp)]; rfl
 ·rw [if_pos (by simp [he]), if_neg he]
end Go.Mx
