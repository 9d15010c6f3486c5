/- Plain laws of ships, sixteenth part: the specification's numbers of a loading are the program's. Conditions: none. -/
import Derived.Test.YthfnbjoecocfaaaGreatLawHq
import Derived.Test.YthfnbjoecocfaaaGreatLawHr
set_option linter.unusedVariables false
set_option linter.unusedSimpArgs false
namespace Go.Mx

theorem rlevers_eq (s : api_Ship) (hs : GoodS s) (sg : Int) (hsg : sg = 1 ∨ sg = -1) : ref03_levers s sg = some (if sg = 1 then lvs s else nlvs s) := by
 have hn := hs.nh
 unfold ref03_levers
 refine (lp_app (body := ref03_levers_b2 s sg) s.Holds (by omega) (fun h => w64 (sg * h.Lever)) (fun acc i => (i, acc)) (fun acc => acc) rfl (fun acc i hi hJ => ?_) ?_).trans ?_
 ·unfold ref03_levers_b2; simp only; rw [if_pos (by simpa using hi), ix_lt hi, Option.bind_some, app_ok (by rw [hJ]; simp; omega), Option.bind_some, w64s' hi (by omega)]
 ·unfold ref03_levers_b2; simp only; rw [if_neg (by simp)]; rfl
 ·congr 1
  rcases hsg with rfl | rfl
  ·rw [if_pos rfl]
   refine List.map_congr_left fun h hh => ?_
   have := (hs.hold _ hh).2.1
   rw [w64_u (by omega)]; omega
  ·rw [if_neg (by omega)]
   unfold nlvs lvs
   rw [List.map_map]
   refine List.map_congr_left fun h hh => ?_
   have := (hs.hold _ hh).2.1
   simp only [Function.comp]
   rw [w64_u (by omega)]; omega
theorem rdisp_eq {s : api_Ship} (hs : GoodS s) {x : List Int} (h : Rms s x) : ref03_displacement s x = some (s.Light + x.sum) := by
 have hm := h.mass hs
 have hn := hs.nh
 have hl := h.len
 have hlt := hs.light
 unfold ref03_displacement
 rw [rtotal_eq x (by unfold Len; omega), Option.bind_some, w64_add', w64_u (by omega)]
theorem rmoment_eq {s : api_Ship} (hs : GoodS s) {x : List Int} (h : Rms s x) : ref03_moment s x = some (momV s x) := by
 have hn := hs.nh
 have hb := momV_bd hs h
 unfold ref03_moment
 rw [rlevers_eq s hs 1 (.inl rfl), if_pos rfl, Option.bind_some, rvalue_eq _ _ (by rw [lvs_len, h.len]) (by unfold Len; rw [lvs_len]; omega), Option.bind_some, w64_add, w64_add', show s.Light * s.Lever + dot (lvs s) x = momV s x from rfl, w64_u (by omega)]
/-! Draughts. -/
theorem rfloor_eq {a b : Int} (h0 : 0 < b) (ha : -1152921504606846976 ≤ a) (hb : a ≤ 1152921504606846976) : ref03_floor a b = some (a / b) := by
 have e1 : rem a b = some (a.tmod b) := by unfold rem; rw [if_neg (by omega)]
 have hd := Int.mul_tdiv_add_tmod a b
 have hm := Int.emod_add_mul_ediv a b
 have m0 := Int.emod_nonneg a (show b ≠ 0 by omega)
 have m1 := Int.emod_lt_of_pos a h0
 have k1 : a / b ≤ 1152921504606846976 := Int.le_trans (Int.ediv_le_ediv h0 hb) (Int.ediv_le_self _ (by omega))
 have k2 : -1152921504606846976 ≤ a / b := by
  rw [Int.le_ediv_iff_mul_le h0]
  have : (-1152921504606846976 : Int) * b ≤ -1152921504606846976 * 1 := Int.mul_le_mul_of_nonpos_left (by omega) (by omega)
  omega
 have l1 : a.tmod b < b := Int.tmod_lt_of_pos a h0
 have l2 : -b < a.tmod b := by have := Int.lt_tmod_of_pos a h0; omega
 unfold ref03_floor
 by_cases hn : a.tmod b < 0
 ·have e : a.tdiv b = a / b + 1 := by
   have h3 : b * (a.tdiv b - a / b - 1) + (a.tmod b + b - a % b) = 0 := by
    rw [Int.mul_sub, Int.mul_sub]; omega
   have h4 : a.tmod b + b - a % b = b * (a / b + 1 - a.tdiv b) := by
    rw [Int.mul_sub, Int.mul_add]; omega
   have h5 : a.tmod b + b < b + b * 1 := by omega
   rcases Int.lt_trichotomy (a / b + 1 - a.tdiv b) 0 with h | h | h
   ·have : b * (a / b + 1 - a.tdiv b) ≤ b * (-1) := Int.mul_le_mul_of_nonneg_left (by omega) (by omega)
    omega
   ·omega
   ·have : b * 1 ≤ b * (a / b + 1 - a.tdiv b) := Int.mul_le_mul_of_nonneg_left (by omega) (by omega)
    omega
  have e2 : quo a b = some (a / b + 1) := by unfold quo; rw [if_neg (by omega), e, w64_id (by omega) (by omega)]
  rw [e2, e1]
  simp only [Option.bind_some]
  rw [if_pos (by simpa using hn)]
  unfold ref03_floor_j1
  rw [w64_id (by omega) (by omega)]
  congr 1; omega
 ·have e : a.tdiv b = a / b := by
   have h4 : a.tmod b - a % b = b * (a / b - a.tdiv b) := by
    rw [Int.mul_sub]; omega
   rcases Int.lt_trichotomy (a / b - a.tdiv b) 0 with h | h | h
   ·have : b * (a / b - a.tdiv b) ≤ b * (-1) := Int.mul_le_mul_of_nonneg_left (by omega) (by omega)
    omega
   ·omega
   ·have : b * 1 ≤ b * (a / b - a.tdiv b) := Int.mul_le_mul_of_nonneg_left (by omega) (by omega)
    omega
  have e2 : quo a b = some (a / b) := by unfold quo; rw [if_neg (by omega), e, w64_id (by omega) (by omega)]
  rw [e2, e1]
  simp only [Option.bind_some]
  rw [if_neg (by simpa using hn)]
  rfl
theorem rends_eq {n d e : Int} (hd : 1 ≤ d ∧ d ≤ 167772160000) (hn : -20000000000000000 ≤ n ∧ n ≤ 20000000000000000) (he : 0 ≤ e ∧ e ≤ 4000) : ref03_ends n d e = some ⟨n / d - e, up n d + e⟩ := by
 have hm := mul_bd (a := e) (b := d) (A := 4000) (B := 167772160000) (by omega) he.2 (by omega) hd.2
 have q1 := div_bd (a := n) (b := d) (A := 20000000000000000) hd.1 (by omega) hn.1 hn.2
 have q2 := div_bd (a := -n) (b := d) (A := 20000000000000000) hd.1 (by omega) (by omega) (by omega)
 have f1 : (n - e * d) / d = n / d - e := by rw [show n - e * d = n + (-e) * d by rw [Int.neg_mul]; omega, Int.add_mul_ediv_right _ _ (by omega)]; omega
 have f2 : (-n - e * d) / d = (-n) / d - e := by rw [show -n - e * d = -n + (-e) * d by rw [Int.neg_mul]; omega, Int.add_mul_ediv_right _ _ (by omega)]; omega
 unfold ref03_ends up
 rw [w64_u (a := e * d) (by omega), w64_u (a := n - e * d) (by omega), rfloor_eq (by omega) (by omega) (by omega), Option.bind_some, Int.zero_sub, w64_u (a := -n) (by omega), w64_u (a := -n - e * d) (by omega), rfloor_eq (by omega) (by omega) (by omega), Option.bind_some, f1, f2, Int.zero_sub, w64_u (by omega)]
 congr 2; omega
theorem rafloat_eq {s : api_Ship} (hs : GoodS s) {x : List Int} (h : Rms s x) : ref03_afloat s x = some (afloatV s x) := by
 have hM := h.Mass hs
 obtain ⟨⟨d1, d2⟩, ⟨n1, n2⟩, ⟨a1, a2⟩, b1, b2⟩ := mean_bd hs hM
 have ht := trim_bd hs h
 have he := hs.cmean.err
 have hT := hs.turn
 have e1 : momV s x * (atP s.Mean (s.Light + x.sum)).2 = trimN s x := rfl
 have e2 : (atP s.Mean (s.Light + x.sum)).1 * 2 * s.Turn = meanN s x.sum := rfl
 have e3 : (atP s.Mean (s.Light + x.sum)).2 * 2 * s.Turn = meanD s x.sum := rfl
 unfold ref03_afloat
 rw [rdisp_eq hs h, Option.bind_some, rat_spec hs.cmean hM.a hM.b, Option.bind_some, rmoment_eq hs h, Option.bind_some]
 simp only
 rw [w64_u (a := (atP s.Mean (s.Light + x.sum)).1 * 2) (by omega), e2, w64_u (a := meanN s x.sum) (by omega), e1, w64_u (a := trimN s x) (by omega), w64_u (a := meanN s x.sum + trimN s x) (by omega), w64_u (a := (atP s.Mean (s.Light + x.sum)).2 * 2) (by omega), e3, w64_u (a := meanD s x.sum) (by omega), rends_eq ⟨d1, d2⟩ (by omega) he, Option.bind_some, w64_u (a := meanN s x.sum - trimN s x) (by omega), rends_eq ⟨d1, d2⟩ (by omega) he, Option.bind_some]
 rfl
end Go.Mx
