/- Plain laws of ships, sixteenth part: the specification's numbers of a loading are the program's. Conditions: none. -/
import Derived.Test.YthfnbjoecocfaaaGreatLawHq
import Derived.Test.YthfnbjoecocfaaaGreatLawHr
set_option linter.unusedVariables false
set_option linter.unusedSimpArgs false
namespace Go.Mx

theorem rdisp_eq {s : api_Ship} (hs : GoodS s) {x : List Int} (h : Rms s x) : ref03_displacement s x = some (s.Light + x.sum) := by
 have hm := h.mass hs
 have hn := hs.nh
 have hl := h.len
 have hlt := hs.light
 unfold ref03_displacement
 rw [rtotal_eq x (by unfold Len; omega), Option.bind_some, w64_add', w64_u (by omega)]
theorem rrise_eq {s : api_Ship} (hs : GoodS s) {x : List Int} (h : Rms s x) : ref03_rise s x = some (riseV s x) := by
 have hn := hs.nh
 have hb := riseV_bd hs h
 unfold ref03_rise
 rw [rheights_eq s hn, Option.bind_some, rvalue_eq _ _ (by rw [hts_len, h.len]) (by unfold Len; rw [hts_len]; omega), Option.bind_some, w64_add, w64_add', show s.Light * s.Height + dot (hts s) x = riseV s x from rfl, w64_u (by omega)]
/-- The metacentric height of a loading, and its divisor, not in lowest terms. -/
def stfN (s : api_Ship) (x : List Int) : Int := ((atP s.Mtac (s.Light + x.sum)).1 - s.Mtac.Err * (atP s.Mtac (s.Light + x.sum)).2) * (s.Light + x.sum) - riseV s x * (atP s.Mtac (s.Light + x.sum)).2
def stfD (s : api_Ship) (x : List Int) : Int := (atP s.Mtac (s.Light + x.sum)).2 * (s.Light + x.sum)
theorem stf_bd {s : api_Ship} (hs : GoodS s) {x : List Int} (h : Rms s x) : (-400000000000000 ≤ stfN s x ∧ stfN s x ≤ 400000000000000) ∧ (1 ≤ stfD s x ∧ stfD s x ≤ 5242880000) ∧ (0 ≤ s.Mtac.Err * (atP s.Mtac (s.Light + x.sum)).2 ∧ s.Mtac.Err * (atP s.Mtac (s.Light + x.sum)).2 ≤ 320000000) ∧ (-320000000 ≤ (atP s.Mtac (s.Light + x.sum)).1 - s.Mtac.Err * (atP s.Mtac (s.Light + x.sum)).2 ∧ (atP s.Mtac (s.Light + x.sum)).1 - s.Mtac.Err * (atP s.Mtac (s.Light + x.sum)).2 ≤ 5242880000) ∧ (-52428800000000 ≤ riseV s x * (atP s.Mtac (s.Light + x.sum)).2 ∧ riseV s x * (atP s.Mtac (s.Light + x.sum)).2 ≤ 52428800000000) ∧ (-20971520000000 ≤ ((atP s.Mtac (s.Light + x.sum)).1 - s.Mtac.Err * (atP s.Mtac (s.Light + x.sum)).2) * (s.Light + x.sum) ∧ ((atP s.Mtac (s.Light + x.sum)).1 - s.Mtac.Err * (atP s.Mtac (s.Light + x.sum)).2) * (s.Light + x.sum) ≤ 343597383680000) := by
 have hM := h.Mass hs
 obtain ⟨p1, p2, p3, p4, p5, _⟩ := at_spec hs.cmeta hM.a hM.b
 have hrd := rd_bd (riseV_bd hs h) ⟨p2, p3⟩
 have he := hs.cmeta.err
 have hlt := hs.light
 have hca := hM.a
 have hcc := hM.c
 unfold stfN stfD
 generalize (atP s.Mtac (s.Light + x.sum)).1 = N at *
 generalize (atP s.Mtac (s.Light + x.sum)).2 = D at *
 generalize s.Light + x.sum = d at *
 have e1 : 0 ≤ s.Mtac.Err * D := Int.mul_nonneg (by omega) (by omega)
 have e2 : s.Mtac.Err * D ≤ 4000 * D := Int.mul_le_mul_of_nonneg_right (by omega) (by omega)
 have f1 : -320000000 * d ≤ (N - s.Mtac.Err * D) * d := Int.mul_le_mul_of_nonneg_right (by omega) (by omega)
 have f2 : (N - s.Mtac.Err * D) * d ≤ 5242880000 * d := Int.mul_le_mul_of_nonneg_right (by omega) (by omega)
 have g1 : 1 * d ≤ D * d := Int.mul_le_mul_of_nonneg_right p2 (by omega)
 have g2 : D * d ≤ 80000 * d := Int.mul_le_mul_of_nonneg_right p3 (by omega)
 omega
theorem rstiff_eq {s : api_Ship} (hs : GoodS s) {x : List Int} (h : Rms s x) : ref03_stiff s x = some ⟨stfN s x, stfD s x⟩ := by
 have hM := h.Mass hs
 obtain ⟨b1, b2, b3, b4, b5, b6⟩ := stf_bd hs h
 unfold ref03_stiff
 rw [rdisp_eq hs h, Option.bind_some, rat_spec hs.cmeta hM.a hM.b, Option.bind_some, rrise_eq hs h, Option.bind_some]
 simp only
 rw [w64_u (a := s.Mtac.Err * _) (by omega), w64_u (a := (atP s.Mtac (s.Light + x.sum)).1 - _) (by omega), w64_u (a := _ * (s.Light + x.sum)) (by omega), w64_u (a := riseV s x * _) (by omega)]
 have e1 : ((atP s.Mtac (s.Light + x.sum)).1 - s.Mtac.Err * (atP s.Mtac (s.Light + x.sum)).2) * (s.Light + x.sum) - riseV s x * (atP s.Mtac (s.Light + x.sum)).2 = stfN s x := rfl
 have e2 : (atP s.Mtac (s.Light + x.sum)).2 * (s.Light + x.sum) = stfD s x := rfl
 rw [e1, e2, w64_u (by omega), w64_u (by omega)]
theorem rsteady_eq {s : api_Ship} (hs : GoodS s) {x : List Int} (h : Rms s x) : ref03_steady s x = some (steadyB s x) := by
 obtain ⟨b1, b2, b3, b4, b5, b6⟩ := stf_bd hs h
 have hle := hs.least
 have hm := mul_bd (a := s.Least) (b := stfD s x) (A := 5000) (B := 5242880000) (by omega) hle.2 (by omega) b2.2
 unfold ref03_steady
 rw [rstiff_eq hs h, Option.bind_some]
 simp only
 rw [w64_u (by omega)]
 unfold steadyB spareN spareD stfN stfD
 congr 1
 rw [decide_eq_decide]
 generalize (atP s.Mtac (s.Light + x.sum)).1 = N
 generalize (atP s.Mtac (s.Light + x.sum)).2 = D
 generalize s.Light + x.sum = d
 have a1 : (N - (s.Mtac.Err + s.Least) * D) * d = (N - s.Mtac.Err * D) * d - s.Least * (D * d) := by
  rw [Int.add_mul, show N - (s.Mtac.Err * D + s.Least * D) = N - s.Mtac.Err * D - s.Least * D by omega, Int.sub_mul (N - s.Mtac.Err * D), Int.mul_assoc s.Least]
 rw [a1]
 omega

/-! Draughts. -/
end Go.Mx
