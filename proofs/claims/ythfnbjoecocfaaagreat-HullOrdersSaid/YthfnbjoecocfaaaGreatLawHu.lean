/- Plain laws of ships, eighteenth part: the loadings on the way; steps, one behind the other. Conditions: none. -/
import Derived.Test.YthfnbjoecocfaaaGreatLawHt
set_option linter.unusedVariables false
set_option linter.unusedSimpArgs false
namespace Go.Mx

/-- What is left in a hold behind some steps. -/
def bh (u : hull_unloading) (d : hull_done) (i : Nat) : Int := max (gI u.from_ i - gD d i * u.step) (gI u.to i)
def bhL (u : hull_unloading) (d : hull_done) : List Int := (List.range u.from_.length).map (bh u d)
theorem bhL_len (u : hull_unloading) (d : hull_done) : (bhL u d).length = u.from_.length := by simp [bhL]
theorem gI_bhL (u : hull_unloading) (d : hull_done) (i : Nat) (hi : i < u.from_.length) : gI (bhL u d) i = bh u d i := by
 rw [gI_get (by rw [bhL_len]; exact hi)]; simp [bhL]
/-- Numbers of steps that are possible. -/
def Small (d : hull_done) : Prop := ∀ i, i < 8 → 0 ≤ gD d i ∧ gD d i ≤ 1000
theorem bh_rng {u : hull_unloading} (h : Unl u) {d : hull_done} (hd : Small d) (i : Nat) (hi : i < u.from_.length) : gI u.to i ≤ bh u d i ∧ bh u d i ≤ gI u.from_ i ∧ 0 ≤ gD d i * u.step ∧ gD d i * u.step ≤ 65536000 := by
 have hn := h.n
 have h1 := hd i (by omega)
 have h2 := h.st
 have h3 := h.rng i hi
 have e1 : 0 ≤ gD d i * u.step := Int.mul_nonneg h1.1 (by omega)
 have e2 := mul_bd (a := gD d i) (b := u.step) (A := 1000) (B := 65536) (by omega) h1.2 (by omega) h2.2
 unfold bh
 omega
theorem bh_rms {u : hull_unloading} (h : Unl u) {d : hull_done} (hd : Small d) : Rms u.ship (bhL u d) := ⟨by rw [bhL_len, h.rf.len], fun i hi => by
 have hi2 : i < u.from_.length := by rw [h.rf.len]; exact hi
 have h1 := bh_rng h hd i hi2
 have h2 := h.rf.b i hi
 have h3 := h.rng i hi2
 rw [gI_bhL u d i hi2]
 omega⟩
theorem hbehindD_eq {u : hull_unloading} (h : Unl u) {d : hull_done} (hd : Small d) : hull_unloading_behind u d = some (bhL u d) := by
 have hn := h.n
 unfold hull_unloading_behind bhL
 refine lp_app (body := hull_unloading_behind_b2 u d) (List.range u.from_.length) (by rw [List.length_range]; omega) (bh u d) (fun acc i => (i, acc)) (fun acc => acc) rfl (fun acc i hi hJ => ?_) ?_
 ·rw [List.length_range] at hi
  have hb := bh_rng h hd i hi
  have hr := h.rng i hi
  unfold hull_unloading_behind_b2
  simp only
  rw [if_pos (by simpa using hi), ix_gI hi, Option.bind_some, ix_gI (show i < d.toL.length by rw [toL_len]; omega), Option.bind_some, ix_gI (show i < u.to.length by rw [h.tl]; exact hi), Option.bind_some, greater_max, show gI d.toL i = gD d i from rfl, w64_u (a := gD d i * u.step) (by omega), w64_u (by omega), app_ok (by rw [hJ]; simp; omega), Option.bind_some, w64s i (by omega), List.getElem_range]
  rfl
 ·unfold hull_unloading_behind_b2
  simp only
  rw [List.length_range, if_neg (by simp)]; rfl
theorem bh_zero {u : hull_unloading} (h : Unl u) : bhL u zeroD = u.from_ := list_ext_g (bhL_len u zeroD) fun i hi => by
 rw [bhL_len] at hi
 have := h.rng i hi
 rw [gI_bhL u zeroD i hi]
 unfold bh
 rw [gD_zero]; omega
/-- The steps that are needed. -/
structure End (u : hull_unloading) (en : hull_done) : Prop where
 a : ∀ i, i < u.from_.length → gD en i = stN u i
 b : ∀ i, u.from_.length ≤ i → i < 8 → gD en i = 0
 c : ∀ i, i < 8 → 0 ≤ gD en i ∧ gD en i ≤ 60
theorem bh_end {u : hull_unloading} (h : Unl u) {en : hull_done} (he : End u en) : bhL u en = u.to := list_ext_g (by rw [bhL_len, h.tl]) fun i hi => by
 rw [bhL_len] at hi
 have h1 := stN_rng h i hi
 rw [gI_bhL u en i hi]
 unfold bh
 rw [he.a i hi]; omega
/-- Numbers of steps within those that are needed. -/
def Val (en d : hull_done) : Prop := ∀ i, i < 8 → 0 ≤ gD d i ∧ gD d i ≤ gD en i
theorem Val.small {u : hull_unloading} {en d : hull_done} (he : End u en) (h : Val en d) : Small d := fun i hi => by have := h i hi; have := he.c i hi; omega
theorem Val.inc {en d : hull_done} (h : Val en d) {k : Nat} (hk : k < 8) (hlt : gD d k < gD en k) : Val en (incD d k) := fun i hi => by
 have := h i hi
 rw [gD_inc d k hk]
 split
 ·rename_i e; subst e; omega
 ·exact this
theorem Val.zero {u : hull_unloading} {en : hull_done} (he : End u en) : Val en zeroD := fun i hi => by rw [gD_zero]; have := he.c i hi; omega
/-- What one step takes. -/
theorem mass_step {u : hull_unloading} (h : Unl u) {en d : hull_done} (he : End u en) (hd : Val en d) {k : Nat} (hk : k < u.from_.length) (hlt : gD d k < gD en k) : 1 ≤ bh u d k - bh u (incD d k) k ∧ bh u d k - bh u (incD d k) k ≤ u.step := by
 have hn := h.n
 have h1 := stN_rng h k hk
 have h2 := h.st
 have h3 := h.rng k hk
 rw [he.a k hk] at hlt
 unfold bh
 rw [gD_inc d k (by omega), if_pos rfl, Int.add_mul, Int.one_mul]
 have : (gD d k + 1) * u.step ≤ stN u k * u.step := Int.mul_le_mul_of_nonneg_right (by omega) (by omega)
 rw [Int.add_mul, Int.one_mul] at this
 omega
theorem bhL_inc {u : hull_unloading} (d : hull_done) {k : Nat} (hk : k < u.from_.length) (h8 : k < 8) : (bhL u d).set k (bh u (incD d k) k) = bhL u (incD d k) := list_ext_g (by simp [bhL]) fun i hi => by
 have hi2 : i < u.from_.length := by simpa [bhL] using hi
 rw [gI_set (by rw [bhL_len]; exact hk), gI_bhL u (incD d k) i hi2]
 split
 ·rename_i e; subst e; rfl
 ·rename_i e
  rw [gI_bhL u d i hi2]
  unfold bh
  rw [gD_inc d k h8, if_neg e]

/-- Steps that lead to the end, the ship steady behind each. -/
def Trail (u : hull_unloading) (en : hull_done) : hull_done → List api_Drop → Prop
 | d, [] => d = en
 | d, p :: r => ∃ k : Nat, k < u.from_.length ∧ p.Hold = (k : Int) ∧ gD d k < gD en k ∧ p.Mass = bh u d k - bh u (incD d k) k ∧ steadyB u.ship (bhL u (incD d k)) = true ∧ Trail u en (incD d k) r
def sumD (d : hull_done) : Int := d.toL.sum
theorem sumD_inc (d : hull_done) (k : Nat) (hk : k < 8) : sumD (incD d k) = sumD d + 1 := by
 unfold sumD incD
 rw [hull_done.toL_set, put_nat, sum_setg (by rw [toL_len]; exact hk)]
 unfold gD; omega
theorem Trail.len {u : hull_unloading} {en : hull_done} (hn : u.from_.length ≤ 8) : ∀ (l : List api_Drop) (d : hull_done), Trail u en d l → (l.length : Int) = sumD en - sumD d
 | [], d, h => by
  simp only [Trail] at h
  subst h; simp
 | p :: r, d, h => by
  obtain ⟨k, k1, _, _, _, _, h6⟩ := h
  have := Trail.len hn r _ h6
  rw [sumD_inc d k (by omega)] at this
  simp only [List.length_cons]; omega
/-- The places on the way. -/
theorem Trail.at {u : hull_unloading} {en : hull_done} (hu : Unl u) (he : End u en) : ∀ (l : List api_Drop) (d : hull_done), Val en d → Trail u en d l → ∀ i (hi : i < l.length), ∃ c, Val en c ∧ Trail u en c (l[i] :: l.drop (i + 1)) ∧ (i = 0 → c = d)
 | [], d, _, _ => fun i hi => by simp at hi
 | p :: r, d, hv, h => fun i hi => by
  cases i with
  | zero => exact ⟨d, hv, h, fun _ => rfl⟩
  | succ i =>
   obtain ⟨k, k1, k2, k3, k4, k5, k6⟩ := h
   obtain ⟨c, c1, c2, _⟩ := Trail.at hu he r (incD d k) (hv.inc (by have := hu.n; omega) k3) k6 i (by simpa using hi)
   exact ⟨c, c1, c2, fun e => by omega⟩
theorem checkOrder_trail {u : hull_unloading} {en : hull_done} (hu : Unl u) (he : End u en) (l : List api_Drop) (hl : l.length ≤ 60) (h : Trail u en zeroD l) : hull_CheckOrder u.ship u.from_ l = some (u.to, -1, 0) := by
 have hn := hu.n
 have hs := GoodS.of hu.chk
 unfold hull_CheckOrder
 rw [loaded_one hu.chk hu.rf, Option.bind_some, if_neg (by simp), if_neg (by simp; omega), app_ok (by simp; omega), Option.bind_some, List.nil_append]
 have e0 : u.from_ = bhL u zeroD := (bh_zero hu).symm
 refine (lp_list (body := hull_CheckOrder_b2 u.ship l) (s0 := (-1, 0, u.from_)) l (by omega) (fun (d : hull_done) i => (-1, i, bhL u d)) (fun _ _ => ((u.to, -1, 0) : List Int × Int × Int)) (fun i d => Val en d ∧ Trail u en d (l.drop i)) (a := zeroD) (by rw [← e0]) ⟨Val.zero he, h⟩ (fun d i hi hJ => ?_) (fun d hJ => ?_)).trans rfl
 ·left
  obtain ⟨hv, ht⟩ := hJ
  rw [List.drop_eq_getElem_cons hi] at ht
  obtain ⟨k, k1, k2, k3, k4, k5, k6⟩ := ht
  have hv2 := hv.inc (show k < 8 by omega) k3
  have hm := mass_step hu he hv k1 k3
  have hb := bh_rng hu (hv.small he) k k1
  have hb2 := bh_rng hu (hv2.small he) k k1
  have hr := hu.rng k k1
  have hkb : k < (bhL u d).length := by rw [bhL_len]; exact k1
  unfold hull_CheckOrder_b2
  simp only
  have hw1 : hull_within l[i].Hold 0 (w64 (((bhL u d).length : Int) - 1)) = true := by
   rw [bhL_len, w64_u (by omega), k2]
   unfold hull_within
   simp only [Bool.and_eq_true, decide_eq_true_eq]; omega
  have hw2 : hull_within l[i].Mass 1 (bh u d k) = true := by
   unfold hull_within
   simp only [Bool.and_eq_true, decide_eq_true_eq]; omega
  rw [if_pos (by simpa using hi), ix_lt hi, Option.bind_some, hw1, k2, ix_gI hkb, gI_bhL u d k k1]
  simp only [Bool.not_true, Bool.not_false, gb, if_true, Option.bind_some, Bool.false_or]
  rw [hw2]
  simp only [Bool.not_true, Bool.false_eq_true, if_false, show decide ((-1 : Int) < 0) = true by decide, if_true, Bool.true_and]
  have e1 : bh u d k - l[i].Mass = bh u (incD d k) k := by omega
  rw [w64_u (by omega), e1, put_nat, bhL_inc d k1 (by omega), hsteady_eq hs (bh_rms hu (hv2.small he)), k5]
  simp only [Option.bind_some, Bool.not_true, Bool.false_eq_true, if_false]
  unfold hull_CheckOrder_j3
  rw [w64s' hi (by omega)]
  exact ⟨incD d k, rfl, trivial, hv2, k6⟩
 ·obtain ⟨_, ht⟩ := hJ
  rw [List.drop_length] at ht
  simp only [Trail] at ht
  subst ht
  unfold hull_CheckOrder_b2
  simp only
  rw [if_neg (by simp), bh_end hu he]; rfl
end Go.Mx
