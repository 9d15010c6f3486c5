/- HullSteady: the plain law. Conditions: none. -/
import Derived.Test.YthfnbjoecocfaaaGreatLawHs
set_option linter.unusedVariables false
namespace Go.Mx
theorem rSteady_err (s : api_Ship) (l : api_Load) (hl : Len s.Holds) (hW : LoadW l) (hk : chkL s l ≠ 0) : ref03_Steady s l = some ⟨false, 0, 0, chkL s l⟩ := by
 unfold ref03_Steady
 rw [rcload_eq s l hl hW, Option.bind_some, if_pos (by simp [hk])]
theorem rSteady_ok {s : api_Ship} {l : api_Load} (hl : Len s.Holds) (hW : LoadW l) (hk : chkL s l = 0) : (AllSteady s l → ref03_Steady s l = some ⟨false, 0, 0, 0⟩) ∧ ∀ t x, totLo l ≤ t → t ≤ totHi l → Greedy l.Holds (hts s) t x → steadyB s x = false → (∀ u y, totLo l ≤ u → u < t → Greedy l.Holds (hts s) u y → steadyB s y = true) → ref03_Steady s l = some ⟨true, t, riseV s x, 0⟩ := by
 have hg := GoodL.of hk
 have ht := hg.tot
 have hal := hg.all
 have hf := hg.few
 have hwl : (hts s).length = l.Holds.length := by rw [hts_len, hg.len]
 have step : ∀ u, totLo l ≤ u → u ≤ totHi l → ∃ y, Greedy l.Holds (hts s) u y ∧ ref03_Steady_b2 s l ⟨totLo l, totHi l⟩ u = if steadyB s y = true then some (.inl (u + 1)) else some (.inr ⟨true, u, riseV s y, 0⟩) := fun u u1 u2 => by
  obtain ⟨y, b, g⟩ := fill_tot hg hwl u1 u2
  have hr := (Fit.of_greedy hg g u1 u2).rms hg
  refine ⟨y, g, ?_⟩
  unfold ref03_Steady_b2
  simp only
  rw [if_pos (by simpa using u2), rheights_eq s hg.ship.nh, Option.bind_some, b, Option.bind_some, rsteady_eq hg.ship hr, Option.bind_some, rrise_eq hg.ship hr, w64_u (by omega)]
  by_cases h : steadyB s y = true <;> simp [h]
 have hun : ref03_Steady s l = Lp (ref03_Steady_b2 s l ⟨totLo l, totHi l⟩) fuel (totLo l) := by
  unfold ref03_Steady
  rw [rcload_eq s l hl hW, Option.bind_some, if_neg (by simp [hk]), rtotals hg, Option.bind_some]
 constructor
 ·intro ha
  rw [hun]
  suffices h : ∃ r, Lp (ref03_Steady_b2 s l ⟨totLo l, totHi l⟩) fuel (totLo l) = some r ∧ r = ⟨false, 0, 0, 0⟩ by obtain ⟨r, h, rfl⟩ := h; exact h
  refine lp_inv' (fun i u => u = totLo l + (i : Int)) _ (totHi l - totLo l + 1).toNat (by omega) (by simp) fun i u hi hI => ?_
  by_cases hc : u ≤ totHi l
  ·left
   obtain ⟨y, g, e⟩ := step u (by omega) hc
   rw [e, if_pos (ha u y (by omega) hc g)]
   exact ⟨by omega, _, rfl, by omega⟩
  ·right
   unfold ref03_Steady_b2
   rw [if_neg (by simpa using hc)]
   exact ⟨_, rfl, rfl⟩
 ·intro t x t1 t2 g hst hmin
  rw [hun]
  suffices h : ∃ r, Lp (ref03_Steady_b2 s l ⟨totLo l, totHi l⟩) fuel (totLo l) = some r ∧ r = ⟨true, t, riseV s x, 0⟩ by obtain ⟨r, h, rfl⟩ := h; exact h
  refine lp_inv' (fun i u => u = totLo l + (i : Int) ∧ u ≤ t) _ (totHi l - totLo l + 1).toNat (by omega) ⟨by simp, t1⟩ fun i u hi hI => ?_
  obtain ⟨y, gy, e⟩ := step u (by omega) (by omega)
  by_cases hc : u < t
  ·left
   rw [e, if_pos (hmin u y (by omega) hc gy)]
   exact ⟨by omega, _, rfl, by omega, by omega⟩
  ·right
   have : u = t := by omega
   subst this
   rw [gy.uniq g] at e
   rw [e, if_neg (by simp [hst])]
   exact ⟨_, rfl, rfl⟩
theorem holds_HullSteady {s : api_Ship} {l : api_Load} (h0 : ok_api_Ship s) (h1 : ok_api_Load l) : law03_HullSteady s l = some true := by
 have hl : Len s.Holds := h0.2.2.2.2.1.1
 have hL : Len l.Holds := h1.1.1
 have hw := LoadW.ok h1
 unfold law03_HullSteady
 split
 ·rw [sanity3_true]; rfl
 ·rw [Steady_eq s l hl hw]
  by_cases hk : chkL s l = 0
  ·have hg := GoodL.of hk
   obtain ⟨r1, r2⟩ := rSteady_ok hl hw hk
   obtain ⟨r, q1, q2⟩ := shaky_spec hg
   rw [if_pos hk, q1]
   simp only [Option.map_some, Option.bind_some]
   rcases q2 with ⟨rfl, ha⟩ | ⟨ht, hst, t, t1, t2, g, hmin⟩
   ·obtain ⟨ps, p1, p2, p3⟩ := prove_spec hl hw hk q1 ha
    rw [r1 ha, p1, sanity3_true]
    simp only [Option.bind_some]
    rw [rcs_eq s l ps hl hw, hcs_eq s l ps hl hw, p2]
    simp [gb]
   ·have hf := Fit.of_greedy hg g t1 t2
    have hr := hf.rms hg
    have hT : ref03_Tips s l r.1 ⟨true, t, riseV s r.1, 0⟩ = some true := by
     have hs := hg.ship
     have hlen := hr.len
     have hn := hs.nh
     have hm := hr.mass hs
     have hlt := hs.light
     unfold ref03_Tips
     rw [rfits_eq l r.1 hL (by unfold Len; omega), (fitB_iff hg _).2 hf, Option.bind_some, if_neg (by simp), rsteady_eq hs hr, hst, Option.bind_some, rtotal_eq r.1 (by unfold Len; omega), w64_u (by omega), rrise_eq hs hr, g.sum]
     simp [gb]
    rw [r2 t r.1 t1 t2 g hst hmin, prove_shaky hl hw hk q1 ht, sanity3_true]
    simp only [Option.bind_some]
    rw [hT]
    simp [gb, ht]
  ·rw [if_neg hk, rSteady_err s l hl hw hk, prove_err hl hw hk, sanity3_true]
   simp [hk]
end Go.Mx
