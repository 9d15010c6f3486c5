/- Plain laws, berths: Touch, Slots, Allow. Conditions: none. -/
import Derived.Test.YtnkngglimidldaaLawYi
set_option linter.unusedVariables false
set_option linter.unusedSimpArgs false
namespace Go.Mx
theorem small_some (h : api_Harbour) (hh : LenH h) : ∃ y, law06_small h = some y := by
 unfold law06_small
 obtain ⟨r, h1, _⟩ := lp_inv' (body := law06_small_b2 h) (s0 := 0) (fun i s => s = (i : Int)) (fun _ => True) h.Tides.length (by have := hh.t; unfold Len at this; omega) rfl fun i s hi hI => by
  subst hI
  unfold law06_small_b2
  by_cases e : i < h.Tides.length
  ·rw [if_pos (by simpa using e), ix_lt e, Option.bind_some, Option.bind_some]
   split
   ·exact .inr ⟨_, rfl, trivial⟩
   ·exact .inl ⟨e, _, rfl, w64s' e hh.t⟩
  ·rw [if_neg (by simpa using e)]
   exact .inr ⟨_, rfl, trivial⟩
 exact ⟨r, h1⟩
theorem berth_uniq {h : api_Harbour} (hg : GoodH h) {a b : api_Berth} (ha : a ∈ h.Berths) (hb : b ∈ h.Berths) (e : a.ID = b.ID) : a = b := by
 obtain ⟨p, hp, rfl⟩ := List.getElem_of_mem ha
 obtain ⟨q, hq, rfl⟩ := List.getElem_of_mem hb
 rcases Nat.lt_trichotomy p q with w | w | w
 ·exact absurd e (List.pairwise_iff_getElem.1 hg.bd p q hp hq w)
 ·subst w; rfl
 ·exact absurd e.symm (List.pairwise_iff_getElem.1 hg.bd q p hq hp w)
theorem first_berth {h : api_Harbour} (hg : GoodH h) {b : api_Berth} (hb : b ∈ h.Berths) : ∃ i : Nat, i < h.Berths.length ∧ berth_first_api_Berth__berth_berthID h.Berths b.ID = some (i : Int) ∧ ix h.Berths (i : Int) = some b := by
 have hnb := hg.nb
 rw [firstB_eq _ (by unfold Len; omega)]
 rcases firstI_spec (fun x : api_Berth => decide (x.ID = b.ID)) h.Berths 0 with ⟨h1, h2⟩ | ⟨i, h1, h2, h3, h4⟩
 ·have := h2 b hb; simp at this
 ·refine ⟨i, h2, by rw [show (0 : Int) = ((0 : Nat) : Int) from rfl, h1]; simp, ?_⟩
  rw [ix_lt h2, berth_uniq hg (List.getElem_mem h2) hb (by simpa using h3)]
theorem slot_eq {h : api_Harbour} (hg : GoodH h) {b : api_Berth} (hb : b ∈ h.Berths) {j : Nat} (hj : j < h.Tides.length) : berth_slot h ⟨(j : Int), b.ID⟩ = some (b, true) := by
 have hnt := hg.nt
 obtain ⟨i, h1, h2, h3⟩ := first_berth hg hb
 unfold berth_slot
 simp only
 rw [h2, Option.bind_some, w64_id (by omega) (by omega), if_neg (by simp [berth_within]; omega), h3, Option.bind_some]
end Go.Mx
