/- Plain laws, berths: Touch, Slots, Allow. Conditions: none. -/
import Derived.Test.YtnkngglimidldaaGreatLawYi
set_option linter.unusedVariables false
set_option linter.unusedSimpArgs false
namespace Go.Mx
theorem zJp (h : zL) (hh : LenH h) : ∃ y, zAK h = some y := by
 unfold zAK
 obtain ⟨r, h1, _⟩ := lp_inv' (body := qG h) (s0 := 0) (fun i s => s = (i : Int)) (fun _ => True) h.Tides.length (by have := hh.t; unfold Len at this; omega) rfl fun i s hi hI => by
  subst hI
  unfold qG
  by_cases e : i < h.Tides.length
  ·rw [if_pos (by simpa using e), jO e, Option.bind_some, Option.bind_some]
   split
   ·exact .inr ⟨_, rfl, trivial⟩
   ·exact .inl ⟨e, _, rfl, w64s' e hh.t⟩
  ·rw [if_neg (by simpa using e)]
   exact .inr ⟨_, rfl, trivial⟩
 exact ⟨r, h1⟩
theorem zKI {h : zL} (hg : zAb h) {a b : zm} (ha : a ∈ h.Berths) (hb : b ∈ h.Berths) (e : a.ID = b.ID) : a = b := by
 obtain ⟨p, hp, rfl⟩ := List.getElem_of_mem ha
 obtain ⟨q, hq, rfl⟩ := List.getElem_of_mem hb
 rcases Nat.lt_trichotomy p q with w | w | w
 ·exact absurd e (List.pairwise_iff_getElem.1 hg.bd p q hp hq w)
 ·subst w; rfl
 ·exact absurd e.symm (List.pairwise_iff_getElem.1 hg.bd q p hq hp w)
theorem zJG {h : zL} (hg : zAb h) {b : zm} (hb : b ∈ h.Berths) : ∃ i : Nat, i < h.Berths.length ∧ zu h.Berths b.ID = some (i : Int) ∧ ix h.Berths (i : Int) = some b := by
 have hnb := hg.nb
 rw [zHk _ (by unfold Len; omega)]
 rcases Q0 (fun x : zm => decide (x.ID = b.ID)) h.Berths 0 with ⟨h1, h2⟩ | ⟨i, h1, h2, h3, h4⟩
 ·have := h2 b hb; simp at this
 ·refine ⟨i, h2, by rw [show (0 : Int) = ((0 : Nat) : Int) from rfl, h1]; simp, ?_⟩
  rw [jO h2, zKI hg (List.getElem_mem h2) hb (by simpa using h3)]
theorem slot_eq {h : zL} (hg : zAb h) {b : zm} (hb : b ∈ h.Berths) {j : Nat} (hj : j < h.Tides.length) : Qt h ⟨(j : Int), b.ID⟩ = some (b, true) := by
 have hnt := hg.nt
 obtain ⟨i, h1, h2, h3⟩ := zJG hg hb
 unfold Qt
 simp only
 rw [h2, Option.bind_some, ZO (by omega) (by omega), if_neg (by simp [zZ]; omega), h3, Option.bind_some]
end Go.Mx
