/- TideWindows: the plain law. Conditions: none. -/
import Derived.Test.YtnkngglimidldaaGreatLawN
set_option linter.unusedVariables false
namespace Go.Mx
def nextS (long : Int) : List api_Span → api_Span × Int
 | [] => (⟨0, 0⟩, 5)
 | x :: r => if long ≤ x.Hi - x.Lo + 1 then (x, 0) else nextS long r
def nextT (w : api_Water) (s : api_Span) (height long : Int) : api_Span × Int :=
 if (windowsS w s height).2 = 0 then (if long < 1 then (⟨0, 0⟩, 1) else nextS long (windowsS w s height).1) else (⟨0, 0⟩, (windowsS w s height).2)
theorem Next_eq (w : api_Water) (hw : LenW w) (s : api_Span) (height long : Int) (hl : OkI .i64 long) : tide_Next w s height long = some (nextT w s height long) := by
 unfold tide_Next nextT
 rw [Windows_eq w hw, Option.bind_some]
 obtain ⟨h1, h2⟩ := windowsS_ok w hw s height
 have hl2 := hl.i64
 generalize windowsS w s height = y at *
 obtain ⟨l, e⟩ := y
 simp only at h1 h2 ⊢
 by_cases he : e = 0
 ·rw [if_neg (by simp [he]), if_pos he]
  by_cases hn : long < 1
  ·rw [if_pos (by simpa using hn), if_pos hn]
  ·rw [if_neg (by simpa using hn), if_neg hn]
   refine lp_list l (by omega) (fun (_ : Unit) i => i) (fun _ l => nextS long l) (fun _ _ => True) (a := ()) rfl trivial (fun _ i hi _ => ?_) (fun _ _ => ?_)
   ·have hx := h2 l[i] (List.getElem_mem hi)
    unfold tide_Next_b2
    simp only
    rw [if_pos (by simpa using hi), ix_lt hi, Option.bind_some, w64_id (n := long - 1) (by omega) (by omega), w64_id (n := l[i].Hi - l[i].Lo) (by omega) (by omega)]
    simp only [nextS]
    by_cases hc : long ≤ l[i].Hi - l[i].Lo + 1
    ·right; rw [if_pos (by simp; omega), if_pos hc]
    ·left; rw [if_neg (by simp; omega), if_neg hc, w64s' hi (by omega)]; exact ⟨(), rfl, rfl, trivial⟩
   ·unfold tide_Next_b2
    simp only
    rw [if_neg (by simp)]; rfl
 ·rw [if_pos (by simp [he]), if_neg he]
end Go.Mx
