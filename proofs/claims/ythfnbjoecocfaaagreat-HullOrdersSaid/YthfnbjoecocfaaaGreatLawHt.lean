/- Plain laws of ships, seventeenth part: an unloading step by step. Conditions: none. -/
import Derived.Test.YthfnbjoecocfaaaGreatLawHp
set_option linter.unusedVariables false
set_option linter.unusedSimpArgs false
namespace Go.Mx

/-! How many steps were done. -/
def gD (d : hull_done) (i : Nat) : Int := gI d.toL i
theorem toL_len (d : hull_done) : d.toL.length = 8 := rfl
theorem done_ext {d e : hull_done} (h : ∀ i, i < 8 → gD d i = gD e i) : d = e := by
 have h2 : d.toL = e.toL := list_ext_g rfl fun i hi => h i hi
 have h3 : ∀ x : hull_done, hull_done.ofL x.toL = x := fun x => rfl
 rw [← h3 d, ← h3 e, h2]
def incD (d : hull_done) (i : Nat) : hull_done := d.set (i : Int) (gD d i + 1)
def decD (d : hull_done) (i : Nat) : hull_done := d.set (i : Int) (gD d i - 1)
theorem gD_set (d : hull_done) (k : Nat) (hk : k < 8) (v : Int) (i : Nat) : gD (d.set (k : Int) v) i = if i = k then v else gD d i := by
 unfold gD
 rw [hull_done.toL_set, put_nat, gI_set (by rw [toL_len]; exact hk)]
theorem gD_inc (d : hull_done) (k : Nat) (hk : k < 8) (i : Nat) : gD (incD d k) i = if i = k then gD d k + 1 else gD d i := gD_set d k hk _ i
theorem gD_dec (d : hull_done) (k : Nat) (hk : k < 8) (i : Nat) : gD (decD d k) i = if i = k then gD d k - 1 else gD d i := gD_set d k hk _ i
theorem inc_dec (d : hull_done) (k : Nat) (hk : k < 8) : incD (decD d k) k = d := done_ext fun i _ => by
 rw [gD_inc _ k hk, gD_dec d k hk, gD_dec d k hk, if_pos rfl]
 split
 ·rename_i e; subst e; omega
 ·rfl
def zeroD : hull_done := ⟨0, 0, 0, 0, 0, 0, 0, 0⟩
theorem gD_zero (i : Nat) : gD zeroD i = 0 := by
 unfold gD gI zeroD hull_done.toL
 match i with
 | 0 | 1 | 2 | 3 | 4 | 5 | 6 | 7 => rfl
 | n + 8 => rfl

/-- An unloading that is right. -/
structure Unl (u : hull_unloading) : Prop where
 chk : chk u.ship = 0
 rf : Rms u.ship u.from_
 rt : Rms u.ship u.to
 le : ∀ i, i < u.from_.length → gI u.to i ≤ gI u.from_ i
 st : 1 ≤ u.step ∧ u.step ≤ 65536
theorem Unl.n {u : hull_unloading} (h : Unl u) : u.from_.length ≤ 8 := by rw [h.rf.len]; exact (GoodS.of h.chk).nh
theorem Unl.tl {u : hull_unloading} (h : Unl u) : u.to.length = u.from_.length := by rw [h.rf.len, h.rt.len]
theorem Unl.rng {u : hull_unloading} (h : Unl u) (i : Nat) (hi : i < u.from_.length) : 0 ≤ gI u.to i ∧ gI u.to i ≤ gI u.from_ i ∧ gI u.from_ i ≤ 65536 := by
 have hs := GoodS.of h.chk
 have hi2 : i < u.ship.Holds.length := by rw [← h.rf.len]; exact hi
 have h1 := h.rf.x65 hs i hi2
 have h2 := h.rt.x65 hs i hi2
 have h3 := h.le i hi
 omega
/-- How many steps a hold needs. -/
def stN (u : hull_unloading) (i : Nat) : Int := (gI u.from_ i - gI u.to i + u.step - 1) / u.step
theorem stN_rng {u : hull_unloading} (h : Unl u) (i : Nat) (hi : i < u.from_.length) : 0 ≤ stN u i ∧ stN u i ≤ 131071 ∧ gI u.from_ i - gI u.to i ≤ stN u i * u.step ∧ stN u i * u.step ≤ gI u.from_ i - gI u.to i + u.step - 1 := by
 have hr := h.rng i hi
 have hst := h.st
 have ha : 0 ≤ gI u.from_ i - gI u.to i ∧ gI u.from_ i - gI u.to i ≤ 65536 := by omega
 unfold stN
 generalize gI u.from_ i - gI u.to i = a at *
 have m0 := Int.emod_nonneg (a + u.step - 1) (show u.step ≠ 0 by omega)
 have m1 := Int.emod_lt_of_pos (a + u.step - 1) (show 0 < u.step by omega)
 have hd := Int.emod_add_mul_ediv (a + u.step - 1) u.step
 rw [Int.mul_comm] at hd
 have q0 : 0 ≤ (a + u.step - 1) / u.step := Int.ediv_nonneg (by omega) (by omega)
 have q1 : (a + u.step - 1) / u.step * 1 ≤ (a + u.step - 1) / u.step * u.step := Int.mul_le_mul_of_nonneg_left hst.1 q0
 omega
end Go.Mx
