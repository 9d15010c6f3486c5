/- Plain laws of ships, sixteenth part: the specification's numbers of a loading are the program's. Conditions: none. -/
import Derived.Test.YthfnbjoecocfaaaGreatLawHq
import Derived.Test.YthfnbjoecocfaaaGreatLawHr
set_option linter.unusedVariables false
set_option linter.unusedSimpArgs false
namespace Go.Mx

theorem rgiven_eq (s : api_Ship) (x : List Int) (hl : Len s.Holds) (hx : Len x) : ref03_given s x = some (loadedE s [x]) := by
 unfold ref03_given loadedE
 rw [rcheck_eq s hl, Option.bind_some]
 by_cases h : chk s = 0
 ·rw [if_neg (by simp [h]), if_pos h]
  have hlo : ref03_loading s x = some (rmB s x) := by
   unfold ref03_loading rmB
   by_cases h2 : x.length = s.Holds.length
   ·rw [if_neg (by simp [h2])]
    simp only [h2, decide_true, Bool.true_and]
    refine lp_list (body := ref03_loading_b2 s x) x hx (fun (_ : List api_Hold) i => i) rmE (fun i hs => hs = s.Holds.drop i) (a := s.Holds) rfl rfl (fun hs k hk hJ => ?_) (fun hs hJ => ?_)
    ·have hk2 : k < s.Holds.length := by omega
     unfold ref03_loading_b2
     simp only
     rw [if_pos (by simpa using hk), ix_lt hk, Option.bind_some, ix_lt hk2, Option.bind_some, w64s' hk hx, hJ, List.drop_eq_getElem_cons hk2]
     by_cases hb : ref03_in x[k] 0 s.Holds[k].Room = true
     ·left
      rw [if_neg (by simp [hb])]
      unfold ref03_in at hb
      exact ⟨s.Holds.drop (k + 1), rfl, by simp only [rmE, hb, Bool.true_and], rfl⟩
     ·right
      rw [if_pos (by simpa using hb)]
      unfold ref03_in at hb
      rw [Bool.not_eq_true] at hb
      simp only [rmE, hb, Bool.false_and]
    ·unfold ref03_loading_b2 ref03_loading_j1
     simp only
     rw [if_neg (by simp)]
     cases hs <;> rfl
   ·rw [if_pos (by simp; omega)]; simp [h2]
  rw [hlo, Option.bind_some]
  by_cases hr : rmB s x = true
  ·simp [hr]
  ·simp [hr]
 ·rw [if_pos (by simp [h]), if_neg h]
theorem given_one {s : api_Ship} {x : List Int} (h : loadedE s [x] = 0) : chk s = 0 ∧ Rms s x := by
 unfold loadedE at h
 by_cases hc : chk s = 0
 ·rw [if_pos hc] at h
  split at h
  ·rename_i h2; exact ⟨hc, (rmB_iff s x).1 (by simpa using h2)⟩
  ·omega
 ·rw [if_neg hc] at h; exact absurd h hc
theorem lp_bind {σ ρ τ : Type} {b1 : σ → Option (σ ⊕ τ)} {b2 : σ → Option (σ ⊕ ρ)} {K : ρ → Option τ} (h : ∀ s, b1 s = (b2 s).bind fun x => match x with | .inl s' => some (.inl s') | .inr r => (K r).map Sum.inr) : ∀ (n : Nat) (s : σ), Lp b1 n s = (Lp b2 n s).bind K
 | 0, s => rfl
 | n + 1, s => by
  unfold Lp
  rw [h s]
  cases b2 s with
  | none => rfl
  | some x =>
   cases x with
   | inl s' => exact lp_bind h n s'
   | inr r =>
    simp only [Option.bind_some]
    cases K r <;> rfl
theorem low_lowest {num den : Int} (hd : 1 ≤ den ∧ den ≤ 4611686018427387904) : ref03_lowest num den = hull_low num den := by
 unfold ref03_lowest hull_low ref03_divisor
 rw [greater_max, show max den (w64 (0 - den)) = den by rw [w64_u (by omega)]; omega]
 rw [lp_bind (b1 := hull_low_b2 num den) (b2 := ref03_divisor_b2) (K := hull_low_j1 num den) (fun s => ?_)]
 ·rfl
 ·obtain ⟨a, b⟩ := s
  unfold hull_low_b2 ref03_divisor_b2 ref03_divisor_j1
  simp only
  split
  ·cases rem a b <;> rfl
  ·rfl
theorem rlevers_eq (s : api_Ship) (hs : GoodS s) (sg : Int) (hsg : sg = 1 ∨ sg = -1) : ref03_levers s sg = some (if sg = 1 then lvs s else nlvs s) := by
 have hn := hs.nh
 unfold ref03_levers
 refine (lp_app (body := ref03_levers_b2 s sg) s.Holds (by omega) (fun h => w64 (sg * h.Lever)) (fun acc i => (i, acc)) (fun acc => acc) rfl (fun acc i hi hJ => ?_) ?_).trans ?_
 ·unfold ref03_levers_b2; simp only; rw [if_pos (by simpa using hi), ix_lt hi, Option.bind_some, app_ok (by rw [hJ]; simp; omega), Option.bind_some, w64s' hi (by omega)]
 ·unfold ref03_levers_b2; simp only; rw [if_neg (by simp)]; rfl
 ·congr 1
  rcases hsg with rfl | rfl
  ·rw [if_pos rfl]
   refine List.map_congr_left fun h hh => ?_
   have := (hs.hold _ hh).2.1
   rw [w64_u (by omega)]; omega
  ·rw [if_neg (by omega)]
   unfold nlvs lvs
   rw [List.map_map]
   refine List.map_congr_left fun h hh => ?_
   have := (hs.hold _ hh).2.1
   simp only [Function.comp]
   rw [w64_u (by omega)]; omega
theorem rdisp_eq {s : api_Ship} (hs : GoodS s) {x : List Int} (h : Rms s x) : ref03_displacement s x = some (s.Light + x.sum) := by
 have hm := h.mass hs
 have hn := hs.nh
 have hl := h.len
 have hlt := hs.light
 unfold ref03_displacement
 rw [rtotal_eq x (by unfold Len; omega), Option.bind_some, w64_add', w64_u (by omega)]
theorem rmoment_eq {s : api_Ship} (hs : GoodS s) {x : List Int} (h : Rms s x) : ref03_moment s x = some (momV s x) := by
 have hn := hs.nh
 have hb := momV_bd hs h
 unfold ref03_moment
 rw [rlevers_eq s hs 1 (.inl rfl), if_pos rfl, Option.bind_some, rvalue_eq _ _ (by rw [lvs_len, h.len]) (by unfold Len; rw [lvs_len]; omega), Option.bind_some, w64_add, w64_add', show s.Light * s.Lever + dot (lvs s) x = momV s x from rfl, w64_u (by omega)]
theorem rrise_eq {s : api_Ship} (hs : GoodS s) {x : List Int} (h : Rms s x) : ref03_rise s x = some (riseV s x) := by
 have hn := hs.nh
 have hb := riseV_bd hs h
 unfold ref03_rise
 rw [rheights_eq s hn, Option.bind_some, rvalue_eq _ _ (by rw [hts_len, h.len]) (by unfold Len; rw [hts_len]; omega), Option.bind_some, w64_add, w64_add', show s.Light * s.Height + dot (hts s) x = riseV s x from rfl, w64_u (by omega)]
/-- The metacentric height of a loading, and its divisor, not in lowest terms. -/
def stfN (s : api_Ship) (x : List Int) : Int := ((atP s.Mtac (s.Light + x.sum)).1 - s.Mtac.Err * (atP s.Mtac (s.Light + x.sum)).2) * (s.Light + x.sum) - riseV s x * (atP s.Mtac (s.Light + x.sum)).2
def stfD (s : api_Ship) (x : List Int) : Int := (atP s.Mtac (s.Light + x.sum)).2 * (s.Light + x.sum)
theorem stf_bd {s : api_Ship} (hs : GoodS s) {x : List Int} (h : Rms s x) : (-400000000000000 ≤ stfN s x ∧ stfN s x ≤ 400000000000000) ∧ (1 ≤ stfD s x ∧ stfD s x ≤ 5242880000) ∧ (0 ≤ s.Mtac.Err * (atP s.Mtac (s.Light + x.sum)).2 ∧ s.Mtac.Err * (atP s.Mtac (s.Light + x.sum)).2 ≤ 320000000) ∧ (-320000000 ≤ (atP s.Mtac (s.Light + x.sum)).1 - s.Mtac.Err * (atP s.Mtac (s.Light + x.sum)).2 ∧ (atP s.Mtac (s.Light + x.sum)).1 - s.Mtac.Err * (atP s.Mtac (s.Light + x.sum)).2 ≤ 5242880000) ∧ (-52428800000000 ≤ riseV s x * (atP s.Mtac (s.Light + x.sum)).2 ∧ riseV s x * (atP s.Mtac (s.Light + x.sum)).2 ≤ 52428800000000) ∧ (-20971520000000 ≤ ((atP s.Mtac (s.Light + x.sum)).1 - s.Mtac.Err * (atP s.Mtac (s.Light + x.sum)).2) * (s.Light + x.sum) ∧ ((atP s.Mtac (s.Light + x.sum)).1 - s.Mtac.Err * (atP s.Mtac (s.Light + x.sum)).2) * (s.Light + x.sum) ≤ 343597383680000) := by
 have hM := h.Mass hs
 obtain ⟨p1, p2, p3, p4, p5, _⟩ := at_spec hs.cmeta hM.a hM.b
 have hrd := rd_bd (riseV_bd hs h) ⟨p2, p3⟩
 have he := hs.cmeta.err
 have hlt := hs.light
 have hca := hM.a
 have hcc := hM.c
 unfold stfN stfD
 generalize (atP s.Mtac (s.Light + x.sum)).1 = N at *
 generalize (atP s.Mtac (s.Light + x.sum)).2 = D at *
 generalize s.Light + x.sum = d at *
 have e1 : 0 ≤ s.Mtac.Err * D := Int.mul_nonneg (by omega) (by omega)
 have e2 : s.Mtac.Err * D ≤ 4000 * D := Int.mul_le_mul_of_nonneg_right (by omega) (by omega)
 have f1 : -320000000 * d ≤ (N - s.Mtac.Err * D) * d := Int.mul_le_mul_of_nonneg_right (by omega) (by omega)
 have f2 : (N - s.Mtac.Err * D) * d ≤ 5242880000 * d := Int.mul_le_mul_of_nonneg_right (by omega) (by omega)
 have g1 : 1 * d ≤ D * d := Int.mul_le_mul_of_nonneg_right p2 (by omega)
 have g2 : D * d ≤ 80000 * d := Int.mul_le_mul_of_nonneg_right p3 (by omega)
 omega
theorem rstiff_eq {s : api_Ship} (hs : GoodS s) {x : List Int} (h : Rms s x) : ref03_stiff s x = some ⟨stfN s x, stfD s x⟩ := by
 have hM := h.Mass hs
 obtain ⟨b1, b2, b3, b4, b5, b6⟩ := stf_bd hs h
 unfold ref03_stiff
 rw [rdisp_eq hs h, Option.bind_some, rat_spec hs.cmeta hM.a hM.b, Option.bind_some, rrise_eq hs h, Option.bind_some]
 simp only
 rw [w64_u (a := s.Mtac.Err * _) (by omega), w64_u (a := (atP s.Mtac (s.Light + x.sum)).1 - _) (by omega), w64_u (a := _ * (s.Light + x.sum)) (by omega), w64_u (a := riseV s x * _) (by omega)]
 have e1 : ((atP s.Mtac (s.Light + x.sum)).1 - s.Mtac.Err * (atP s.Mtac (s.Light + x.sum)).2) * (s.Light + x.sum) - riseV s x * (atP s.Mtac (s.Light + x.sum)).2 = stfN s x := rfl
 have e2 : (atP s.Mtac (s.Light + x.sum)).2 * (s.Light + x.sum) = stfD s x := rfl
 rw [e1, e2, w64_u (by omega), w64_u (by omega)]
theorem hstiff_low {s : api_Ship} (hc : chk s = 0) {x : List Int} (h : Rms s x) : hull_Stiff s x = (hull_low (stfN s x) (stfD s x)).map fun f => (f, 0) := by
 have hs := GoodS.of hc
 have hM := h.Mass hs
 have hlt := hs.light
 have hca := hM.a
 have hcc := hM.c
 obtain ⟨b1, b2, b3, b4, b5, b6⟩ := stf_bd hs h
 unfold hull_Stiff
 rw [loaded_one hc h, Option.bind_some, if_neg (by simp), sumx_eq hs h, Option.bind_some, w64_u (a := s.Light + x.sum) (by omega), (at_spec hs.cmeta hM.a hM.b).1, Option.bind_some, hrise_eq hs h, Option.bind_some, w64_u (a := s.Mtac.Err * _) (by omega), w64_u (a := (atP s.Mtac (s.Light + x.sum)).1 - _) (by omega), w64_u (a := _ * (s.Light + x.sum)) (by omega), w64_u (a := riseV s x * _) (by omega)]
 have e1 : ((atP s.Mtac (s.Light + x.sum)).1 - s.Mtac.Err * (atP s.Mtac (s.Light + x.sum)).2) * (s.Light + x.sum) - riseV s x * (atP s.Mtac (s.Light + x.sum)).2 = stfN s x := rfl
 have e2 : (atP s.Mtac (s.Light + x.sum)).2 * (s.Light + x.sum) = stfD s x := rfl
 rw [e1, e2, w64_u (by omega), w64_u (by omega)]
 cases hull_low (stfN s x) (stfD s x) <;> rfl
/-! Draughts. -/
theorem rfloor_eq {a b : Int} (h0 : 0 < b) (ha : -1152921504606846976 ≤ a) (hb : a ≤ 1152921504606846976) : ref03_floor a b = some (a / b) := by
 have e1 : rem a b = some (a.tmod b) := by unfold rem; rw [if_neg (by omega)]
 have hd := Int.mul_tdiv_add_tmod a b
 have hm := Int.emod_add_mul_ediv a b
 have m0 := Int.emod_nonneg a (show b ≠ 0 by omega)
 have m1 := Int.emod_lt_of_pos a h0
 have k1 : a / b ≤ 1152921504606846976 := Int.le_trans (Int.ediv_le_ediv h0 hb) (Int.ediv_le_self _ (by omega))
 have k2 : -1152921504606846976 ≤ a / b := by
  rw [Int.le_ediv_iff_mul_le h0]
  have : (-1152921504606846976 : Int) * b ≤ -1152921504606846976 * 1 := Int.mul_le_mul_of_nonpos_left (by omega) (by omega)
  omega
 have l1 : a.tmod b < b := Int.tmod_lt_of_pos a h0
 have l2 : -b < a.tmod b := by have := Int.lt_tmod_of_pos a h0; omega
 unfold ref03_floor
 by_cases hn : a.tmod b < 0
 ·have e : a.tdiv b = a / b + 1 := by
   have h3 : b * (a.tdiv b - a / b - 1) + (a.tmod b + b - a % b) = 0 := by
    rw [Int.mul_sub, Int.mul_sub]; omega
   have h4 : a.tmod b + b - a % b = b * (a / b + 1 - a.tdiv b) := by
    rw [Int.mul_sub, Int.mul_add]; omega
   have h5 : a.tmod b + b < b + b * 1 := by omega
   rcases Int.lt_trichotomy (a / b + 1 - a.tdiv b) 0 with h | h | h
   ·have : b * (a / b + 1 - a.tdiv b) ≤ b * (-1) := Int.mul_le_mul_of_nonneg_left (by omega) (by omega)
    omega
   ·omega
   ·have : b * 1 ≤ b * (a / b + 1 - a.tdiv b) := Int.mul_le_mul_of_nonneg_left (by omega) (by omega)
    omega
  have e2 : quo a b = some (a / b + 1) := by unfold quo; rw [if_neg (by omega), e, w64_id (by omega) (by omega)]
  rw [e2, e1]
  simp only [Option.bind_some]
  rw [if_pos (by simpa using hn)]
  unfold ref03_floor_j1
  rw [w64_id (by omega) (by omega)]
  congr 1; omega
 ·have e : a.tdiv b = a / b := by
   have h4 : a.tmod b - a % b = b * (a / b - a.tdiv b) := by
    rw [Int.mul_sub]; omega
   rcases Int.lt_trichotomy (a / b - a.tdiv b) 0 with h | h | h
   ·have : b * (a / b - a.tdiv b) ≤ b * (-1) := Int.mul_le_mul_of_nonneg_left (by omega) (by omega)
    omega
   ·omega
   ·have : b * 1 ≤ b * (a / b - a.tdiv b) := Int.mul_le_mul_of_nonneg_left (by omega) (by omega)
    omega
  have e2 : quo a b = some (a / b) := by unfold quo; rw [if_neg (by omega), e, w64_id (by omega) (by omega)]
  rw [e2, e1]
  simp only [Option.bind_some]
  rw [if_neg (by simpa using hn)]
  rfl
theorem rends_eq {n d e : Int} (hd : 1 ≤ d ∧ d ≤ 167772160000) (hn : -20000000000000000 ≤ n ∧ n ≤ 20000000000000000) (he : 0 ≤ e ∧ e ≤ 4000) : ref03_ends n d e = some ⟨n / d - e, up n d + e⟩ := by
 have hm := mul_bd (a := e) (b := d) (A := 4000) (B := 167772160000) (by omega) he.2 (by omega) hd.2
 have q1 := div_bd (a := n) (b := d) (A := 20000000000000000) hd.1 (by omega) hn.1 hn.2
 have q2 := div_bd (a := -n) (b := d) (A := 20000000000000000) hd.1 (by omega) (by omega) (by omega)
 have f1 : (n - e * d) / d = n / d - e := by rw [show n - e * d = n + (-e) * d by rw [Int.neg_mul]; omega, Int.add_mul_ediv_right _ _ (by omega)]; omega
 have f2 : (-n - e * d) / d = (-n) / d - e := by rw [show -n - e * d = -n + (-e) * d by rw [Int.neg_mul]; omega, Int.add_mul_ediv_right _ _ (by omega)]; omega
 unfold ref03_ends up
 rw [w64_u (a := e * d) (by omega), w64_u (a := n - e * d) (by omega), rfloor_eq (by omega) (by omega) (by omega), Option.bind_some, Int.zero_sub, w64_u (a := -n) (by omega), w64_u (a := -n - e * d) (by omega), rfloor_eq (by omega) (by omega) (by omega), Option.bind_some, f1, f2, Int.zero_sub, w64_u (by omega)]
 congr 2; omega
theorem rafloat_eq {s : api_Ship} (hs : GoodS s) {x : List Int} (h : Rms s x) : ref03_afloat s x = some (afloatV s x) := by
 have hM := h.Mass hs
 obtain ⟨⟨d1, d2⟩, ⟨n1, n2⟩, ⟨a1, a2⟩, b1, b2⟩ := mean_bd hs hM
 have ht := trim_bd hs h
 have he := hs.cmean.err
 have hT := hs.turn
 have e1 : momV s x * (atP s.Mean (s.Light + x.sum)).2 = trimN s x := rfl
 have e2 : (atP s.Mean (s.Light + x.sum)).1 * 2 * s.Turn = meanN s x.sum := rfl
 have e3 : (atP s.Mean (s.Light + x.sum)).2 * 2 * s.Turn = meanD s x.sum := rfl
 unfold ref03_afloat
 rw [rdisp_eq hs h, Option.bind_some, rat_spec hs.cmean hM.a hM.b, Option.bind_some, rmoment_eq hs h, Option.bind_some]
 simp only
 rw [w64_u (a := (atP s.Mean (s.Light + x.sum)).1 * 2) (by omega), e2, w64_u (a := meanN s x.sum) (by omega), e1, w64_u (a := trimN s x) (by omega), w64_u (a := meanN s x.sum + trimN s x) (by omega), w64_u (a := (atP s.Mean (s.Light + x.sum)).2 * 2) (by omega), e3, w64_u (a := meanD s x.sum) (by omega), rends_eq ⟨d1, d2⟩ (by omega) he, Option.bind_some, w64_u (a := meanN s x.sum - trimN s x) (by omega), rends_eq ⟨d1, d2⟩ (by omega) he, Option.bind_some]
 rfl
end Go.Mx
