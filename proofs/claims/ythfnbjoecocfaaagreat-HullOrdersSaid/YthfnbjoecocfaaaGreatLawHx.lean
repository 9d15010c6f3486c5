/- Plain laws of ships, twenty-first part: orders as the specification has them. Conditions: none. -/
import Derived.Test.YthfnbjoecocfaaaGreatLawHw
import Derived.Test.YthfnbjoecocfaaaGreatLawHs
set_option linter.unusedVariables false
set_option linter.unusedSimpArgs false
namespace Go.Mx

/-! Steps that are given. -/
def ckF (s : api_Ship) : List api_Drop → Int → Int → List Int → List Int × Int × Int
 | [], _, bad, l => (l, bad, 0)
 | p :: r, i, bad, l =>
  if (0 ≤ p.Hold ∧ p.Hold < (l.length : Int)) ∧ 1 ≤ p.Mass ∧ p.Mass ≤ gI l p.Hold.toNat then
   ckF s r (i + 1) (if bad < 0 ∧ steadyB s (l.set p.Hold.toNat (gI l p.Hold.toNat - p.Mass)) = false then i else bad) (l.set p.Hold.toNat (gI l p.Hold.toNat - p.Mass))
  else ([], 0, 1)
theorem Rms.set {s : api_Ship} {l : List Int} (h : Rms s l) {k : Nat} (hk : k < l.length) {m : Int} (hm : 1 ≤ m ∧ m ≤ gI l k) : Rms s (l.set k (gI l k - m)) := by
 refine ⟨by rw [List.length_set]; exact h.len, fun i hi => ?_⟩
 have h1 := h.b i hi
 rw [gI_set hk]
 split
 ·rename_i e; subst e; omega
 ·exact h1
theorem hck_eq {s : api_Ship} (hc : chk s = 0) {from_ : List Int} (hf : Rms s from_) (drops : List api_Drop) (hd : drops.length ≤ 60) : Lp (hull_CheckOrder_b2 s drops) fuel (-1, 0, from_) = some (ckF s drops 0 (-1) from_) := by
 have hs := GoodS.of hc
 have hnh := hs.nh
 refine (lp_list (body := hull_CheckOrder_b2 s drops) (s0 := (-1, 0, from_)) drops (by omega) (fun (a : Int × Int × List Int) i => (a.2.1, i, a.2.2)) (fun a r => ckF s r a.1 a.2.1 a.2.2) (fun i a => a.1 = (i : Int) ∧ Rms s a.2.2) (a := (0, -1, from_)) rfl ⟨rfl, hf⟩ (fun a i hi hJ => ?_) (fun a hJ => ?_)).trans rfl
 ·obtain ⟨i0, bad, l⟩ := a
  obtain ⟨e0, hr⟩ := hJ
  simp only at e0 hr
  subst e0
  have hlen := hr.len
  unfold hull_CheckOrder_b2
  simp only
  rw [if_pos (by simpa using hi), ix_lt hi, Option.bind_some]
  generalize drops[i] = p
  rw [ckF]
  by_cases h1 : 0 ≤ p.Hold ∧ p.Hold < (l.length : Int)
  ·obtain ⟨k, hk⟩ : ∃ k : Nat, p.Hold = (k : Int) := ⟨p.Hold.toNat, by omega⟩
   have hkl : k < l.length := by omega
   have hw1 : hull_within p.Hold 0 (w64 ((l.length : Int) - 1)) = true := by
    rw [w64_u (by omega)]; unfold hull_within; simp only [Bool.and_eq_true, decide_eq_true_eq]; omega
   have hx := hr.x65 hs k (by omega)
   rw [hw1, hk, ix_gI hkl, Int.toNat_natCast]
   simp only [Bool.not_true, Bool.not_false, gb, if_true, Option.bind_some, Bool.false_or]
   by_cases h2 : 1 ≤ p.Mass ∧ p.Mass ≤ gI l k
   ·left
    have hw2 : hull_within p.Mass 1 (gI l k) = true := by unfold hull_within; simp only [Bool.and_eq_true, decide_eq_true_eq]; exact h2
    have hr2 := hr.set hkl h2
    rw [hw2, if_neg (show ¬ (!true) = true by simp), if_pos (show ((0 ≤ (k : Int) ∧ (k : Int) < (l.length : Int)) ∧ 1 ≤ p.Mass ∧ p.Mass ≤ gI l k) from ⟨⟨by omega, by omega⟩, h2⟩), w64_u (by omega), put_nat]
    rw [hsteady_eq hs hr2]
    by_cases h3 : bad < 0
    ·simp only [h3, decide_true, if_true, Option.bind_some, Bool.true_and, true_and]
     cases h4 : steadyB s (l.set k (gI l k - p.Mass)) with
     | true =>
      simp only [Bool.not_true, Bool.false_eq_true, if_false]
      unfold hull_CheckOrder_j3
      rw [w64s' hi (by omega)]
      exact ⟨(((i + 1 : Nat) : Int), bad, _), rfl, rfl, rfl, hr2⟩
     | false =>
      simp only [Bool.not_false, if_true]
      unfold hull_CheckOrder_j3
      rw [w64s' hi (by omega)]
      exact ⟨(((i + 1 : Nat) : Int), (i : Int), _), rfl, rfl, rfl, hr2⟩
    ·simp only [h3, decide_false, Bool.false_eq_true, if_false, Option.bind_some, Bool.false_and, false_and]
     unfold hull_CheckOrder_j3
     rw [w64s' hi (by omega)]
     exact ⟨(((i + 1 : Nat) : Int), bad, _), rfl, rfl, rfl, hr2⟩
   ·right
    have hw2 : hull_within p.Mass 1 (gI l k) = false := by rw [Bool.eq_false_iff]; unfold hull_within; simp only [ne_eq, Bool.and_eq_true, decide_eq_true_eq]; exact h2
    rw [hw2, if_pos (show (!false) = true by rfl), if_neg (show ¬ ((0 ≤ (k : Int) ∧ (k : Int) < (l.length : Int)) ∧ 1 ≤ p.Mass ∧ p.Mass ≤ gI l k) from fun h => h2 h.2)]
  ·right
   have hw1 : hull_within p.Hold 0 (w64 ((l.length : Int) - 1)) = false := by
    rw [Bool.eq_false_iff, w64_u (by omega)]; unfold hull_within; simp only [ne_eq, Bool.and_eq_true, decide_eq_true_eq]; omega
   rw [if_neg (show ¬ ((0 ≤ p.Hold ∧ p.Hold < (l.length : Int)) ∧ 1 ≤ p.Mass ∧ p.Mass ≤ gI l p.Hold.toNat) from fun h => h1 h.1), hw1]; rfl
 ·unfold hull_CheckOrder_b2
  simp only
  rw [if_neg (by simp)]; rfl
theorem rck_eq {s : api_Ship} (hc : chk s = 0) {from_ : List Int} (hf : Rms s from_) (drops : List api_Drop) (hd : drops.length ≤ 60) : Lp (ref03_CheckOrder_b2 s from_ drops) fuel (0, -1, from_) = some ⟨(ckF s drops 0 (-1) from_).1, (ckF s drops 0 (-1) from_).2.1, (ckF s drops 0 (-1) from_).2.2⟩ := by
 have hs := GoodS.of hc
 have hnh := hs.nh
 refine (lp_list (body := ref03_CheckOrder_b2 s from_ drops) (s0 := (0, -1, from_)) drops (by omega) (fun (a : Int × Int × List Int) i => (i, a.2.1, a.2.2)) (fun a r => (⟨(ckF s r a.1 a.2.1 a.2.2).1, (ckF s r a.1 a.2.1 a.2.2).2.1, (ckF s r a.1 a.2.1 a.2.2).2.2⟩ : ref03_Taken)) (fun i a => a.1 = (i : Int) ∧ Rms s a.2.2) (a := (0, -1, from_)) rfl ⟨rfl, hf⟩ (fun a i hi hJ => ?_) (fun a hJ => ?_)).trans rfl
 ·obtain ⟨i0, bad, l⟩ := a
  obtain ⟨e0, hr⟩ := hJ
  simp only at e0 hr
  subst e0
  have hlen := hr.len
  have hflen := hf.len
  have hll : (from_.length : Int) = (l.length : Int) := by omega
  unfold ref03_CheckOrder_b2
  simp only
  rw [if_pos (by simpa using hi), ix_lt hi, Option.bind_some, hll]
  generalize drops[i] = p
  rw [ckF]
  by_cases h1 : 0 ≤ p.Hold ∧ p.Hold < (l.length : Int)
  ·obtain ⟨k, hk⟩ : ∃ k : Nat, p.Hold = (k : Int) := ⟨p.Hold.toNat, by omega⟩
   have hkl : k < l.length := by omega
   have hw1 : ref03_in p.Hold 0 (w64 ((l.length : Int) - 1)) = true := by
    rw [w64_u (by omega)]; unfold ref03_in; simp only [Bool.and_eq_true, decide_eq_true_eq]; omega
   have hx := hr.x65 hs k (by omega)
   have hmm : max 0 (min p.Hold (w64 ((l.length : Int) - 1))) = (k : Int) := by rw [w64_u (by omega)]; omega
   rw [hw1, hmm, hk, ix_gI hkl, Int.toNat_natCast]
   by_cases h2 : 1 ≤ p.Mass ∧ p.Mass ≤ gI l k
   ·left
    have hr2 := hr.set hkl h2
    have q1 : decide (p.Mass < 1) = false := by rw [decide_eq_false_iff_not]; omega
    have q2 : decide (gI l k < p.Mass) = false := by rw [decide_eq_false_iff_not]; omega
    rw [if_pos (show ((0 ≤ (k : Int) ∧ (k : Int) < (l.length : Int)) ∧ 1 ≤ p.Mass ∧ p.Mass ≤ gI l k) from ⟨⟨by omega, by omega⟩, h2⟩), q1]
    simp only [Bool.not_true, Bool.or_self, Bool.not_false, gb, if_true, Option.bind_some]
    rw [q2]
    simp only [Bool.or_self, Bool.false_eq_true, if_false]
    rw [w64_u (by omega), put_nat, rsteady_eq hs hr2]
    by_cases h3 : bad < 0
    ·simp only [h3, decide_true, Option.bind_some, Bool.and_true, true_and]
     cases h4 : steadyB s (l.set k (gI l k - p.Mass)) with
     | true =>
      simp only [Bool.not_true, Bool.false_eq_true, if_false]
      unfold ref03_CheckOrder_j3
      rw [w64s' hi (by omega)]
      exact ⟨(((i + 1 : Nat) : Int), bad, _), rfl, rfl, rfl, hr2⟩
     | false =>
      simp only [Bool.not_false, if_true]
      unfold ref03_CheckOrder_j3
      rw [w64s' hi (by omega)]
      exact ⟨(((i + 1 : Nat) : Int), (i : Int), _), rfl, rfl, rfl, hr2⟩
    ·simp only [h3, decide_false, Bool.and_false, Bool.false_eq_true, if_false, Option.bind_some, false_and]
     unfold ref03_CheckOrder_j3
     rw [w64s' hi (by omega)]
     exact ⟨(((i + 1 : Nat) : Int), bad, _), rfl, rfl, rfl, hr2⟩
   ·right
    rw [if_neg (show ¬ ((0 ≤ (k : Int) ∧ (k : Int) < (l.length : Int)) ∧ 1 ≤ p.Mass ∧ p.Mass ≤ gI l k) from fun h => h2 h.2)]
    by_cases h5 : p.Mass < 1
    ·have q1 : decide (p.Mass < 1) = true := by rw [decide_eq_true_eq]; exact h5
     rw [q1]; rfl
    ·have q1 : decide (p.Mass < 1) = false := by rw [decide_eq_false_iff_not]; exact h5
     have q2 : decide (gI l k < p.Mass) = true := by rw [decide_eq_true_eq]; omega
     rw [q1]
     simp only [Bool.not_true, Bool.or_self, Bool.not_false, gb, if_true, Option.bind_some]
     rw [q2]; rfl
  ·right
   have hw1 : ref03_in p.Hold 0 (w64 ((l.length : Int) - 1)) = false := by
    rw [Bool.eq_false_iff, w64_u (by omega)]; unfold ref03_in; simp only [ne_eq, Bool.and_eq_true, decide_eq_true_eq]; omega
   rw [if_neg (show ¬ ((0 ≤ p.Hold ∧ p.Hold < (l.length : Int)) ∧ 1 ≤ p.Mass ∧ p.Mass ≤ gI l p.Hold.toNat) from fun h => h1 h.1), hw1]; rfl
 ·unfold ref03_CheckOrder_b2
  simp only
  rw [if_neg (by simp)]; rfl
theorem checkOrder_eq {s : api_Ship} {from_ : List Int} (hl : Len s.Holds) (hf : Len from_) (drops : List api_Drop) : ∃ r : List Int × Int × Int, hull_CheckOrder s from_ drops = some r ∧ ref03_CheckOrder s from_ drops = some ⟨r.1, r.2.1, r.2.2⟩ ∧ Len r.1 := by
 unfold hull_CheckOrder ref03_CheckOrder
 rw [hloaded_eq s _ hl (by simp), rgiven_eq s from_ hl hf, Option.bind_some, Option.bind_some]
 have h0 : Len ([] : List Int) := by unfold Len; simp
 by_cases h : loadedE s [from_] = 0
 ·obtain ⟨hc, hr⟩ := given_one h
  have hnh := (GoodS.of hc).nh
  have hlen := hr.len
  have e0 : ¬ (!decide (loadedE s [from_] = 0)) = true := by simp [h]
  rw [if_neg e0, if_neg e0]
  by_cases h2 : drops.length ≤ 60
  ·have e1 : ¬ decide ((60 : Int) < (drops.length : Int)) = true := by rw [decide_eq_true_eq]; omega
   rw [if_neg e1, if_neg e1, app_ok (by simp; omega), Option.bind_some, Option.bind_some, List.nil_append, hck_eq hc hr drops h2, rck_eq hc hr drops h2]
   refine ⟨_, rfl, rfl, ?_⟩
   have : ∀ (ds : List api_Drop) (i b : Int) (l : List Int), l.length ≤ 8 → (ckF s ds i b l).1.length ≤ 8 := by
    intro ds
    induction ds with
    | nil => intro i b l hh; exact hh
    | cons p r ih =>
     intro i b l hh
     rw [ckF]
     split
     ·exact ih _ _ _ (by rw [List.length_set]; exact hh)
     ·simp
   have := this drops 0 (-1) from_ (by omega)
   unfold Len; omega
  ·have e1 : decide ((60 : Int) < (drops.length : Int)) = true := by rw [decide_eq_true_eq]; omega
   rw [if_pos e1, if_pos e1]
   exact ⟨_, rfl, rfl, h0⟩
 ·have e0 : (!decide (loadedE s [from_] = 0)) = true := by simp [h]
  rw [if_pos e0, if_pos e0]
  exact ⟨_, rfl, rfl, h0⟩
end Go.Mx
