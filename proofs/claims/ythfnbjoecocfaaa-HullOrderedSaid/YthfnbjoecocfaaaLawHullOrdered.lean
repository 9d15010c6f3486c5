/- HullOrdered: the plain law. Conditions: none. -/
import Derived.Test.YthfnbjoecocfaaaLawHw
set_option linter.unusedVariables false
set_option linter.unusedSimpArgs false
namespace Go.Mx
theorem ordered_b3 {u : hull_unloading} {en : hull_done} (hu : Unl u) (he : End u en) (y : List api_Drop × Int) (hl : y.1.length ≤ 60) (h : Trail u en zeroD y.1) (need : Int) (hn : need = (y.1.length : Int)) : Lp (law03_HullOrdered_b3 u.ship u.step y need) fuel (0, u.from_) = some true := by
  have hn8 := hu.n
  have e0 : u.from_ = bhL u zeroD := (bh_zero hu).symm
  refine (lp_list (body := law03_HullOrdered_b3 u.ship u.step y need) (s0 := (0, u.from_)) y.1 (by omega) (fun (d : hull_done) i => (i, bhL u d)) (fun _ _ => true) (fun i d => Val en d ∧ Trail u en d (y.1.drop i)) (a := zeroD) (by rw [← e0]) ⟨Val.zero he, h⟩ (fun d i hi hJ => ?_) (fun d hJ => ?_)).trans rfl
  · left
    obtain ⟨hv, ht⟩ := hJ
    rw [List.drop_eq_getElem_cons hi] at ht
    obtain ⟨k, k1, k2, k3, k4, k5, k6⟩ := ht
    have hv2 := hv.inc (show k < 8 by omega) k3
    have hm := mass_step hu he hv k1 k3
    have hb := bh_rng hu (hv.small he) k k1
    have hb2 := bh_rng hu (hv2.small he) k k1
    have hr := hu.rng k k1
    have hkb : k < (bhL u d).length := by rw [bhL_len]; exact k1
    have e1 : bh u d k - y.1[i].Mass = bh u (incD d k) k := by omega
    have e2 : (decide (y.1[i].Mass < 1) || decide (u.step < y.1[i].Mass)) = false := by simp only [Bool.or_eq_false_iff, decide_eq_false_iff_not]; omega
    unfold law03_HullOrdered_b3
    simp only
    rw [if_pos (by simpa using hi), ix_lt hi, Option.bind_some, k2, ix_gI hkb, gI_bhL u d k k1, Option.bind_some, Option.bind_some, e2, w64_u (by omega), e1, put_nat, bhL_inc d k1 (by omega), steadyIn_eq hu.chk (bh_rms hu (hv2.small he)), k5]
    simp only [Bool.not_false, gb, if_true, Option.bind_some, Bool.not_true, Bool.or_self, Bool.false_eq_true, if_false]
    rw [w64s' hi (by omega)]
    exact ⟨incD d k, rfl, trivial, hv2, k6⟩
  · unfold law03_HullOrdered_b3 law03_HullOrdered_j2
    simp only
    rw [if_neg (by simp), sanity3_true, hn]
    simp
theorem ordered_b4 {u : hull_unloading} (h : Unl u) (hs : sumD (endK u u.from_.length) ≤ 60) (y1 : List api_Drop × Int) (y3 : List Int × Int × Int) (h3 : y3.1 = u.to) (l : List Int) {r : Bool} (hr : law03_HullOrdered_j1 u.ship u.step y1 l (sumD (endK u u.from_.length)) = some r) : Lp (law03_HullOrdered_b4 u.ship u.from_ u.to u.step y1 y3 l) fuel (0, 0) = some r := by
  have hn := h.n
  have htl := h.tl
  suffices hq : ∃ q, Lp (law03_HullOrdered_b4 u.ship u.from_ u.to u.step y1 y3 l) fuel (0, 0) = some q ∧ q = r by obtain ⟨q, hq, rfl⟩ := hq; exact hq
  refine lp_inv' (fun i (x : Int × Int) => x = (sumD (endK u i), (i : Int))) _ u.from_.length (by omega) rfl fun i x hi hI => ?_
  subst hI
  unfold law03_HullOrdered_b4
  simp only
  rw [h3]
  by_cases hc : i < u.from_.length
  · left
    have h1 := stN_rng h i hc
    have h2 := sumD_rng h i hi
    have hrg := h.rng i hc
    have hst := h.st
    have e := hsteps_eq h i hc
    unfold hull_unloading_steps at e
    rw [ix_gI hc, Option.bind_some, ix_gI (show i < u.to.length by omega), Option.bind_some] at e
    rw [if_pos (by simp; omega), ix_gI (show i < u.to.length by omega), Option.bind_some, Option.bind_some, if_neg (by simp), ix_gI hc, Option.bind_some, Option.bind_some]
    have e' : quo (w64 (w64 (w64 (gI u.from_ i - gI u.to i) + u.step) - 1)) u.step = some (stN u i) := by
      cases hq : quo (w64 (w64 (w64 (gI u.from_ i - gI u.to i) + u.step) - 1)) u.step with
      | none => rw [hq] at e; cases e
      | some v => rw [hq] at e; exact e
    rw [e', Option.bind_some, w64_u (a := sumD (endK u i) + stN u i) (by omega), w64s i (by omega), ← sumD_endK u i (by omega)]
    exact ⟨hc, _, rfl, rfl⟩
  · right
    have e3 : i = u.from_.length := by omega
    subst e3
    rw [if_neg (by simp; omega), hr]
    exact ⟨_, rfl, rfl⟩
theorem holds_HullOrdered {s : api_Ship} {from_ to : List Int} {step : Int} (h0 : ok_api_Ship s) (h1 : ok_40 from_) (h2 : ok_40 to) (h3 : OkI .i64 step) : law03_HullOrdered s from_ to step = some true := by
  have hl : Len s.Holds := h0.2.2.2.2.1.1
  unfold law03_HullOrdered
  split
  · rw [sanity3_true]; rfl
  · obtain ⟨r, q1, q2⟩ := order_spec (s := s) (from_ := from_) (to := to) (step := step) hl
    rw [q1, Option.bind_some]
    rcases q2 with ⟨e1, rfl⟩ | ⟨_, hu, he, hsum, hprod, hs1, hs2, ⟨e2, ht⟩ | ⟨rfl, _⟩⟩
    · rw [if_pos (by simpa using e1), sanity3_true]; rfl
    · have hlen : (r.1.length : Int) = sumD (endK ⟨s, from_, to, step⟩ from_.length) := by
        have := ht.len hu.n
        rw [sumD_zero] at this; omega
      have hco : hull_CheckOrder s from_ r.1 = some (to, -1, 0) := checkOrder_trail hu he r.1 (by omega) ht
      have hst : law03_steadyIn s from_ = some true := by rw [steadyIn_eq hu.chk hu.rf]; exact congrArg some hs1
      have hj : law03_HullOrdered_j1 s step r from_ (sumD (endK ⟨s, from_, to, step⟩ from_.length)) = some true := ordered_b3 hu he r (by omega) ht _ hlen.symm
      have hb := ordered_b4 hu hsum r (to, -1, 0) rfl from_ hj
      have hn := hu.n
      rw [if_neg (by simp [e2]), hco, Option.bind_some]
      simp only [decide_true, Bool.not_true, Bool.or_self, Bool.not_false, gb, if_true]
      rw [hst]
      simp only [Option.bind_some, Bool.not_true, Bool.or_self, Bool.false_eq_true, if_false]
      rw [app_ok (by simp; have : from_.length ≤ 8 := hn; omega), Option.bind_some, List.nil_append]
      exact hb
    · rw [if_pos (by simp), sanity3_true]; rfl
end Go.Mx
