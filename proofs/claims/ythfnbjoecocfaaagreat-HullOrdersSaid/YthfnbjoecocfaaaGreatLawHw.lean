/- Plain laws of ships, twentieth part: what is asked of an order, and what it returns. Conditions: none. -/
import Derived.Test.YthfnbjoecocfaaaGreatLawHv
set_option linter.unusedVariables false
set_option linter.unusedSimpArgs false
namespace Go.Mx
theorem quo_eq {x y : Int} (h : 0 ≤ x) (h2 : 1 ≤ y) (h3 : x ≤ 4611686018427387904) : quo x y = some (x / y) := by
 unfold quo
 have l := Int.ediv_nonneg (a := x) (b := y) h (by omega)
 have l2 := Int.ediv_le_self (a := x) y h
 rw [if_neg (by omega), Int.tdiv_eq_ediv_of_nonneg h, w64_id (by omega) (by omega)]
theorem hsteps_eq {u : hull_unloading} (h : Unl u) (i : Nat) (hi : i < u.from_.length) : hull_unloading_steps u (i : Int) = some (stN u i) := by
 have hr := h.rng i hi
 have hst := h.st
 unfold hull_unloading_steps stN
 rw [ix_gI hi, Option.bind_some, ix_gI (show i < u.to.length by rw [h.tl]; exact hi), Option.bind_some, w64_u (a := gI u.from_ i - gI u.to i) (by omega), w64_u (a := gI u.from_ i - gI u.to i + u.step) (by omega), w64_u (by omega), quo_eq (by omega) (by omega) (by omega)]
 rfl

/-! All the steps. -/
def endK (u : hull_unloading) : Nat → hull_done
 | 0 => zeroD
 | k + 1 => (endK u k).set (k : Int) (stN u k)
theorem endK_s (u : hull_unloading) (k : Nat) : endK u (k + 1) = (endK u k).set (k : Int) (stN u k) := rfl
theorem gD_endK (u : hull_unloading) : ∀ k, k ≤ 8 → ∀ i, gD (endK u k) i = if i < k then stN u i else 0
 | 0, _, i => by rw [if_neg (by omega)]; exact gD_zero i
 | k + 1, h, i => by
  rw [endK_s, gD_set _ k (by omega), gD_endK u k (by omega) i]
  by_cases e : i = k
  ·subst e; rw [if_pos rfl, if_pos (by omega)]
  ·rw [if_neg e]
   by_cases e2 : i < k
   ·rw [if_pos e2, if_pos (by omega)]
   ·rw [if_neg e2, if_neg (by omega)]
theorem sumD_endK (u : hull_unloading) (k : Nat) (hk : k < 8) : sumD (endK u (k + 1)) = sumD (endK u k) + stN u k := by
 have := gD_endK u k (by omega) k
 rw [if_neg (by omega)] at this
 rw [endK_s]
 unfold sumD
 rw [hull_done.toL_set, put_nat, sum_setg (by rw [toL_len]; exact hk)]
 unfold gD at this; omega
theorem sumD_zero : sumD zeroD = 0 := rfl
theorem prodE_set : ∀ (l : List Int) (i : Nat) (v : Int), i < l.length → gI l i = 0 → prodE (l.set i v) = prodE l * (v + 1).toNat
 | [], i, v, h, _ => by simp at h
 | x :: r, 0, v, _, h => by
  have h : x = 0 := h
  subst h
  simp only [List.set_cons_zero, prodE]
  rw [show ((0 : Int) + 1).toNat = 1 from rfl, Nat.one_mul, Nat.mul_comm]
 | x :: r, i + 1, v, hi, h => by
  simp only [List.set_cons_succ, prodE]
  rw [prodE_set r i v (by simpa using hi) h, Nat.mul_assoc]
theorem prodE_endK (u : hull_unloading) (k : Nat) (hk : k < 8) : prodE (endK u (k + 1)).toL = prodE (endK u k).toL * (stN u k + 1).toNat := by
 have := gD_endK u k (by omega) k
 rw [if_neg (by omega)] at this
 rw [endK_s, hull_done.toL_set, put_nat]
 exact prodE_set _ k _ (by rw [toL_len]; exact hk) this
theorem sumD_rng {u : hull_unloading} (h : Unl u) : ∀ k, k ≤ u.from_.length → 0 ≤ sumD (endK u k) ∧ sumD (endK u k) ≤ 131071 * (k : Int)
 | 0, _ => by rw [show endK u 0 = zeroD from rfl, sumD_zero]; omega
 | k + 1, hk => by
  have ih := sumD_rng h k (by omega)
  have h1 := stN_rng h k (by omega)
  have := h.n
  rw [sumD_endK u k (by omega)]; omega
theorem sat (P : Nat) (n c : Int) (h : 0 ≤ n ∧ n ≤ 131071) (hc : 0 ≤ c ∧ c ≤ 3000) : min (w64 (min (P : Int) c * w64 (n + 1))) c = min ((P * (n + 1).toNat : Nat) : Int) c := by
 obtain ⟨m, rfl⟩ : ∃ m : Nat, n = (m : Int) := ⟨n.toNat, by omega⟩
 obtain ⟨d, rfl⟩ : ∃ d : Nat, c = (d : Int) := ⟨c.toNat, by omega⟩
 rw [w64_u (a := (m : Int) + 1) (by omega), show ((m : Int) + 1).toNat = m + 1 by omega]
 have e : ∀ a : Nat, (a : Int) * ((m : Int) + 1) = ((a * (m + 1) : Nat) : Int) := fun a => by rw [Int.natCast_mul, Int.natCast_add]; rfl
 by_cases hp : P ≤ d
 ·have b : P * (m + 1) ≤ 3000 * 131072 := Nat.mul_le_mul (by omega) (by omega)
  rw [Int.min_eq_left (show (P : Int) ≤ (d : Int) by omega), e, w64_u (by omega)]
 ·have b : d * (m + 1) ≤ 3000 * 131072 := Nat.mul_le_mul (by omega) (by omega)
  have b2 : d * 1 ≤ d * (m + 1) := Nat.mul_le_mul_left d (by omega)
  have b3 : P * 1 ≤ P * (m + 1) := Nat.mul_le_mul_left P (by omega)
  rw [Int.min_eq_right (show (d : Int) ≤ (P : Int) by omega), e, w64_u (by omega), Int.min_eq_right (by omega), Int.min_eq_right (by omega)]
theorem sum_ge : ∀ (l : List Int), (∀ i, i < l.length → 0 ≤ gI l i) → 0 ≤ l.sum ∧ ∀ i, i < l.length → gI l i ≤ l.sum
 | [], _ => ⟨by simp, fun i hi => by simp at hi⟩
 | x :: r, h => by
  have h0 : 0 ≤ x := h 0 (by simp)
  obtain ⟨a, b⟩ := sum_ge r fun i hi => h (i + 1) (by simpa using hi)
  simp only [List.sum_cons]
  refine ⟨by omega, fun i hi => ?_⟩
  cases i with
  | zero => show x ≤ _; omega
  | succ i => have := b i (by simpa using hi); show gI r i ≤ _; omega
theorem endK_end {u : hull_unloading} (h : Unl u) (hs : sumD (endK u u.from_.length) ≤ 60) : End u (endK u u.from_.length) := by
 have hn := h.n
 have hp : ∀ i, 0 ≤ gD (endK u u.from_.length) i := fun i => by
  rw [gD_endK u _ hn]
  split
  ·rename_i hi; exact (stN_rng h i hi).1
  ·omega
 refine ⟨fun i hi => by rw [gD_endK u _ hn, if_pos hi], fun i hi _ => by rw [gD_endK u _ hn, if_neg (by omega)], fun i hi => ⟨hp i, ?_⟩⟩
 have := (sum_ge (endK u u.from_.length).toL fun i _ => hp i).2 i (by rw [toL_len]; exact hi)
 unfold sumD at hs
 exact Int.le_trans this hs

/-! What is asked. -/
def leB (x y : List Int) : Bool := (List.range x.length).all fun i => decide (gI y i ≤ gI x i)
theorem leB_iff (x y : List Int) : leB x y = true ↔ ∀ i, i < x.length → gI y i ≤ gI x i := by
 unfold leB
 rw [List.all_eq_true]
 constructor
 ·intro h i hi; simpa using h i (by simpa using hi)
 ·intro h i hi; simpa using h i (by simpa using hi)
def ordE (s : api_Ship) (from_ to : List Int) (step : Int) : Int :=
 if loadedE s [from_, to] = 0 then
  if leB from_ to = true ∧ 1 ≤ step ∧ step ≤ 65536 then
   if prodE (endK ⟨s, from_, to, step⟩ from_.length).toL ≤ 2000 ∧ sumD (endK ⟨s, from_, to, step⟩ from_.length) ≤ 60 then
    if steadyB s from_ = true ∧ steadyB s to = true then 0 else 4
   else 2
  else 1
 else loadedE s [from_, to]
theorem loaded_two {s : api_Ship} {x y : List Int} (h : loadedE s [x, y] = 0) : chk s = 0 ∧ Rms s x ∧ Rms s y := by
 unfold loadedE at h
 by_cases hc : chk s = 0
 ·rw [if_pos hc] at h
  split at h
  ·rename_i hh
   simp only [List.all_cons, List.all_nil, Bool.and_true, Bool.and_eq_true] at hh
   exact ⟨hc, (rmB_iff s x).1 hh.1, (rmB_iff s y).1 hh.2⟩
  ·omega
 ·rw [if_neg hc] at h; exact absurd h hc
theorem order_b4 {s : api_Ship} {from_ to : List Int} {step : Int} (hl : from_.length ≤ 8) (ht : to.length = from_.length) {r : List api_Drop × Int} (hr : leB from_ to = true → hull_Order_j1 s from_ to step = some r) (hr2 : ¬ leB from_ to = true → r = ([], 1)) : Lp (hull_Order_b4 s from_ to step) fuel 0 = some r := by
 suffices h : ∃ q, Lp (hull_Order_b4 s from_ to step) fuel 0 = some q ∧ q = r by obtain ⟨q, h, rfl⟩ := h; exact h
 refine lp_inv' (fun i (x : Int) => x = (i : Int) ∧ ∀ j, j < i → gI to j ≤ gI from_ j) _ from_.length (by omega) ⟨rfl, fun j hj => by omega⟩ fun i x hi hI => ?_
 obtain ⟨rfl, e⟩ := hI
 unfold hull_Order_b4
 simp only
 by_cases hc : i < from_.length
 ·rw [if_pos (by simpa using hc), ix_gI (by omega), Option.bind_some, ix_gI hc, Option.bind_some]
  by_cases h : gI from_ i < gI to i
  ·right
   rw [if_pos (by simpa using h)]
   exact ⟨_, rfl, (hr2 fun hh => by have := (leB_iff _ _).1 hh i hc; omega).symm⟩
  ·left
   rw [if_neg (by simpa using h), w64s i (by omega)]
   refine ⟨hc, _, rfl, rfl, fun j hj => ?_⟩
   by_cases e2 : j = i
   ·subst e2; omega
   ·exact e j (by omega)
 ·right
  have e3 : i = from_.length := by omega
  subst e3
  rw [if_neg (by simp), hr ((leB_iff _ _).2 e)]
  exact ⟨_, rfl, rfl⟩
theorem order_b3 {u : hull_unloading} (h : Unl u) {r : List api_Drop × Int} (hr : hull_Order_j2 u.ship u.from_ u.to u.step (min (prodE (endK u u.from_.length).toL : Int) 2001) (sumD (endK u u.from_.length)) (endK u u.from_.length) = some r) : Lp (hull_Order_b3 u.ship u.from_ u.to u.step) fuel (1, 0, 0, (⟨0, 0, 0, 0, 0, 0, 0, 0⟩ : hull_done)) = some r := by
 have hn := h.n
 suffices hq : ∃ q, Lp (hull_Order_b3 u.ship u.from_ u.to u.step) fuel (1, 0, 0, (⟨0, 0, 0, 0, 0, 0, 0, 0⟩ : hull_done)) = some q ∧ q = r by obtain ⟨q, hq, rfl⟩ := hq; exact hq
 refine lp_inv' (fun i (x : Int × Int × Int × hull_done) => x = (min (prodE (endK u i).toL : Int) 2001, sumD (endK u i), (i : Int), endK u i)) _ u.from_.length (by omega) (by rw [show endK u 0 = zeroD from rfl, sumD_zero, show prodE zeroD.toL = 1 by decide, show min ((1 : Nat) : Int) 2001 = 1 by omega]; rfl) fun i x hi hI => ?_
 subst hI
 unfold hull_Order_b3
 simp only
 by_cases hc : i < u.from_.length
 ·left
  have hi8 : i < 8 := by omega
  have h1 := stN_rng h i hc
  have h2 := sumD_rng h i hi
  have e1 : gI (endK u (i + 1)).toL i = stN u i := by
   have := gD_endK u (i + 1) (by omega) i
   rwa [if_pos (by omega)] at this
  rw [if_pos (by simpa using hc), show (⟨u.ship, u.from_, u.to, u.step⟩ : hull_unloading) = u from rfl, hsteps_eq h i hc, Option.bind_some, ix_gI (show i < (endK u i).toL.length by rw [toL_len]; exact hi8), Option.bind_some, ← endK_s, ix_gI (show i < (endK u (i + 1)).toL.length by rw [toL_len]; exact hi8), Option.bind_some, Option.bind_some, e1, sat _ _ _ ⟨h1.1, h1.2.1⟩ (by omega), w64_u (a := sumD (endK u i) + stN u i) (by omega), w64s i (by omega), ← prodE_endK u i hi8, ← sumD_endK u i hi8]
  exact ⟨hc, _, rfl, rfl⟩
 ·right
  have e3 : i = u.from_.length := by omega
  subst e3
  rw [if_neg (by simp), hr]
  exact ⟨_, rfl, rfl⟩
/-- What Order returns. -/
def Ordered (s : api_Ship) (from_ to : List Int) (step : Int) (r : List api_Drop × Int) : Prop :=
 (ordE s from_ to step ≠ 0 ∧ r = ([], ordE s from_ to step)) ∨ (ordE s from_ to step = 0 ∧ Unl ⟨s, from_, to, step⟩ ∧ End ⟨s, from_, to, step⟩ (endK ⟨s, from_, to, step⟩ from_.length) ∧ sumD (endK ⟨s, from_, to, step⟩ from_.length) ≤ 60 ∧ prodE (endK ⟨s, from_, to, step⟩ from_.length).toL ≤ 2000 ∧ steadyB s from_ = true ∧ steadyB s to = true ∧ Found ⟨s, from_, to, step⟩ (endK ⟨s, from_, to, step⟩ from_.length) r)
theorem order_spec {s : api_Ship} {from_ to : List Int} {step : Int} (hl : Len s.Holds) : ∃ r, hull_Order s from_ to step = some r ∧ Ordered s from_ to step r := by
 unfold hull_Order Ordered
 rw [hloaded_eq s _ hl (by simp), Option.bind_some]
 by_cases h0 : loadedE s [from_, to] = 0
 ·obtain ⟨hc, hf, ht⟩ := loaded_two h0
  have hs := GoodS.of hc
  have hnh := hs.nh
  have l1 := hf.len
  have l2 := ht.len
  rw [if_neg (by simp [h0])]
  unfold ordE
  rw [if_pos h0]
  by_cases h1 : leB from_ to = true
  ·by_cases h2 : 1 ≤ step ∧ step ≤ 65536
   ·have hu : Unl ⟨s, from_, to, step⟩ := ⟨hc, hf, ht, (leB_iff _ _).1 h1, h2⟩
    rw [if_pos ⟨h1, h2⟩]
    have hw : hull_within step 1 65536 = true := by unfold hull_within; simp only [Bool.and_eq_true, decide_eq_true_eq]; exact h2
    have key : ∀ r, hull_Order_j2 s from_ to step (min (prodE (endK ⟨s, from_, to, step⟩ from_.length).toL : Int) 2001) (sumD (endK ⟨s, from_, to, step⟩ from_.length)) (endK ⟨s, from_, to, step⟩ from_.length) = some r → Lp (hull_Order_b4 s from_ to step) fuel 0 = some r := fun r hr => by
     refine order_b4 (by omega) (by omega) (fun _ => ?_) (fun h => absurd h1 h)
     unfold hull_Order_j1
     rw [hw, if_neg (by simp)]
     exact order_b3 hu hr
    by_cases h3 : prodE (endK ⟨s, from_, to, step⟩ from_.length).toL ≤ 2000 ∧ sumD (endK ⟨s, from_, to, step⟩ from_.length) ≤ 60
    ·rw [if_pos h3]
     have j2 : ∀ o, o = hull_Order_j2 s from_ to step (min (prodE (endK ⟨s, from_, to, step⟩ from_.length).toL : Int) 2001) (sumD (endK ⟨s, from_, to, step⟩ from_.length)) (endK ⟨s, from_, to, step⟩ from_.length) → o = (if steadyB s from_ = true ∧ steadyB s to = true then (hull_unloading_search ⟨s, from_, to, step⟩ (endK ⟨s, from_, to, step⟩ from_.length)).bind fun y => some (y.1, y.2) else some ([], 4)) := fun o ho => by
      rw [ho]
      unfold hull_Order_j2
      rw [if_neg (by simp; omega), hsteady_eq hs hf, Option.bind_some, hsteady_eq hs ht]
      cases steadyB s from_ <;> cases steadyB s to <;> simp [gb]
     have j2 := j2 _ rfl
     by_cases h4 : steadyB s from_ = true ∧ steadyB s to = true
     ·rw [if_pos h4] at j2
      rw [if_pos h4]
      obtain ⟨r, q1, q2⟩ := search_spec hu (endK_end hu h3.2) h3.2 h3.1
      rw [q1] at j2
      exact ⟨_, key _ j2, .inr ⟨rfl, hu, endK_end hu h3.2, h3.2, h3.1, h4.1, h4.2, q2⟩⟩
     ·rw [if_neg h4] at j2
      rw [if_neg h4]
      exact ⟨_, key _ j2, .inl ⟨by decide, rfl⟩⟩
    ·rw [if_neg h3]
     refine ⟨_, key ([], 2) ?_, .inl ⟨by decide, rfl⟩⟩
     unfold hull_Order_j2
     rw [if_pos (by simp; omega)]
   ·rw [if_neg fun h => h2 h.2]
    refine ⟨_, order_b4 (r := ([], 1)) (by omega) (by omega) (fun _ => ?_) (fun _ => rfl), .inl ⟨by decide, rfl⟩⟩
    unfold hull_Order_j1
    have hw : hull_within step 1 65536 = false := by
     rw [Bool.eq_false_iff]; unfold hull_within; simp only [ne_eq, Bool.and_eq_true, decide_eq_true_eq]; exact h2
    rw [hw]; rfl
  ·rw [if_neg fun h => h1 h.1]
   exact ⟨_, order_b4 (r := ([], 1)) (by omega) (by omega) (fun h => absurd h h1) (fun _ => rfl), .inl ⟨by decide, rfl⟩⟩
 ·rw [if_pos (by simp [h0])]
  unfold ordE
  rw [if_neg h0]
  exact ⟨_, rfl, .inl ⟨h0, rfl⟩⟩
end Go.Mx
