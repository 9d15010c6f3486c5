/- Plain laws, berths: Touch, Slots, Allow. Conditions: none. -/
import Derived.Test.YtnkngglimidldaaGreatLawYi
set_option linter.unusedVariables false
set_option linter.unusedSimpArgs false
namespace Go.Mx
theorem small_some (h : api_Harbour) (hh : LenH h) : ∃ y, law06_small h = some y := by
 unfold law06_small
 obtain ⟨r, h1, _⟩ := lp_inv' (body := law06_small_b2 h) (s0 := 0) (fun i s => s = (i : Int)) (fun _ => True) h.Tides.length (by have := hh.t; unfold Len at this; omega) rfl fun i s hi hI => by
  subst hI
  unfold law06_small_b2
  by_cases e : i < h.Tides.length
  ·rw [if_pos (by simpa using e), ix_lt e, Option.bind_some, Option.bind_some]
   split
   ·exact .inr ⟨_, rfl, trivial⟩
   ·exact .inl ⟨e, _, rfl, w64s' e hh.t⟩
  ·rw [if_neg (by simpa using e)]
   exact .inr ⟨_, rfl, trivial⟩
 exact ⟨r, h1⟩
end Go.Mx
