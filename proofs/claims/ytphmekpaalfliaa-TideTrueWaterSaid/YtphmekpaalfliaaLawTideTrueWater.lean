/- TideTrueWater: the plain law. Conditions: none. -/
import Derived.Test.YtphmekpaalfliaaLawG
import Derived.Test.YtphmekpaalfliaaLawTideWindowsHold
set_option linter.unusedVariables false
namespace Go.Mx
theorem win_within {w v : api_Water} {s : api_Span} {height : Int} (hw : Ask w s) (hv : Ask v s) (h : ∀ t, height ≤ hgt v t → height ≤ hgt w t) : ((winS (hgt v) height (left s.Hi s.Lo) s.Lo []).all fun x => (winS (hgt w) height (left s.Hi s.Lo) s.Lo []).any fun y => decide (y.Lo ≤ x.Lo ∧ x.Hi ≤ y.Hi)) = true := by
  have P := win_all hv height
  have P2 := win_all hw height
  rw [List.all_eq_true]
  intro x hx
  rw [List.any_eq_true]
  obtain ⟨q0, q1, q2, q3⟩ := P.ins x hx
  obtain ⟨y, hy, r0, r1⟩ := P2.all x.Lo q0 (by omega) (h _ (q3 x.Lo (Int.le_refl _) q1))
  refine ⟨y, hy, decide_eq_true ⟨r0, ?_⟩⟩
  refine Int.not_lt.1 fun hlt => ?_
  obtain ⟨z, hz, t0, t1⟩ := P2.all (y.Hi + 1) (by omega) (by omega) (h _ (q3 (y.Hi + 1) (by omega) (by omega)))
  exact P2.one hy hz rfl t0 t1
/-- Whether a gauge includes a water's height. -/
def honest (w : api_Water) (g : api_Gauge) : Bool := ((decide ((heightS w g.Tick).2 = 0)) && (decide (g.Read.Lo ≤ (heightS w g.Tick).1))) && (decide ((heightS w g.Tick).1 ≤ g.Read.Hi))
theorem true_j1 (w : api_Water) (hw : LenW w) (s : api_Span) (height : Int) (l : List api_Gauge) (hh : ∀ g ∈ l, honest w g = true) : law02_TideTrueWater_j1 w s height l = some true := by
  unfold law02_TideTrueWater_j1
  rw [Levels_eq w hw, Option.bind_some]
  unfold levelsS
  by_cases h : gaugedS w l = 0
  · rw [if_pos h]
    obtain ⟨_, hc, hg⟩ := gaugedS_len h
    have g := checkS_good hw hc
    have hin := (allLev_mem w w.Level l tide_every).2 ⟨⟨g.l0, g.l1⟩, fun x hx => by
      have hx2 := hh x hx
      unfold honest heightS at hx2
      rw [if_pos hc] at hx2
      have hok := gok_spec (((gaugeS_zero l []).1 hg).1 x hx)
      rw [if_pos (by omega)] at hx2
      simp only [decide_true, Bool.true_and, Bool.and_eq_true, decide_eq_true_eq] at hx2
      have e := hgt_rst w x.Tick
      have l0 := g.l0
      have l1 := g.l1
      unfold lev
      simp only
      omega⟩
    have hlo := (allLev_lo w (allLev w tide_every l).Lo l tide_every).1 (Int.le_refl _)
    generalize allLev w tide_every l = k at *
    rw [if_neg (show ¬ k.Hi < k.Lo by omega)]
    simp only [decide_true, Bool.not_true, Bool.false_eq_true, if_false]
    rw [if_neg (by simp; omega)]
    have hv : LenW ⟨k.Lo, w.Cycles, w.Shifts⟩ := ⟨hw.c, hw.s, hw.h⟩
    have l0 : -4000 ≤ k.Lo := hlo.1
    have l1 := g.l1
    have hcv : checkS ⟨k.Lo, w.Cycles, w.Shifts⟩ = 0 := by
      have hc2 := hc
      unfold checkS at hc2 ⊢
      rw [if_pos ⟨g.l0, g.l1⟩] at hc2
      rw [if_pos]
      · exact hc2
      · refine ⟨l0, ?_⟩
        simp only; omega
    have ha : askS ⟨k.Lo, w.Cycles, w.Shifts⟩ s = askS w s := by unfold askS; rw [if_pos hcv, if_pos hc]
    rw [Windows_eq _ hv, Windows_eq w hw, sanity_true]
    simp only [Option.bind_some]
    have hl1 := (windowsS_ok w hw s height).1
    have hl2 := (windowsS_ok _ hv s height).1
    rw [within_eq _ _ (by unfold Len; omega) (by unfold Len; omega)]
    by_cases hq : askS w s = 0
    · have e1 : windowsS w s height = (winS (hgt w) height (left s.Hi s.Lo) s.Lo [], 0) := by unfold windowsS; rw [if_pos hq]
      have e2 : windowsS ⟨k.Lo, w.Cycles, w.Shifts⟩ s height = (winS (hgt ⟨k.Lo, w.Cycles, w.Shifts⟩) height (left s.Hi s.Lo) s.Lo [], 0) := by unfold windowsS; rw [if_pos (ha.trans hq)]
      have hwi := win_within (w := w) (v := ⟨k.Lo, w.Cycles, w.Shifts⟩) (s := s) (height := height) (ask_of hw hq) (ask_of hv (ha.trans hq)) (fun t ht => by
        have e3 := hgt_rst w t
        have e4 := hgt_rst ⟨k.Lo, w.Cycles, w.Shifts⟩ t
        have e5 : rst ⟨k.Lo, w.Cycles, w.Shifts⟩ t = rst w t := rfl
        simp only at e4
        omega)
      rw [e1, e2]
      simp only
      rw [hwi]
      rfl
    · have e1 : windowsS w s height = ([], askS w s) := by unfold windowsS; rw [if_neg hq]
      have e2 : windowsS ⟨k.Lo, w.Cycles, w.Shifts⟩ s height = ([], askS w s) := by unfold windowsS; rw [ha, if_neg hq]
      rw [e1, e2]
      simp [gb]
  · have h9 := gaugedS_cases w l
    rw [if_neg h, if_pos (by simp [h]), sanity_true]
    simp [h9]
theorem holds_TideTrueWater {w : api_Water} {l : List api_Gauge} {s : api_Span} {height : Int} (h0 : ok_api_Water w) (h1 : ok_36 l) (h2 : ok_api_Span s) (h3 : OkI .i64 height) : law02_TideTrueWater w l s height = some true := by
  have hw := LenW.of h0
  unfold law02_TideTrueWater
  obtain ⟨b, hb, _⟩ := few_spec w hw.c
  rw [hb, Option.bind_some]
  split
  · rw [sanity_true]; rfl
  · rename_i hc
    simp only [Bool.or_eq_true, decide_eq_true_eq, not_or] at hc
    have hl : l.length ≤ 60 := by omega
    suffices h : ∃ r, Lp (law02_TideTrueWater_b2 w l s height) fuel (0, []) = some r ∧ r = true by obtain ⟨r, h, rfl⟩ := h; exact h
    refine lp_inv' (fun (i : Nat) (st : Int × List api_Gauge) => st.1 = (i : Int) ∧ st.2.length ≤ i ∧ ∀ g ∈ st.2, honest w g = true) _ l.length (by omega) ⟨rfl, by simp, by simp⟩ fun i st hi hI => ?_
    obtain ⟨i', acc⟩ := st
    simp only at hI
    obtain ⟨rfl, hI1, hI2⟩ := hI
    unfold law02_TideTrueWater_b2
    simp only
    by_cases h : i < l.length
    · left
      rw [if_pos (by simpa using h), ix_lt h, Option.bind_some, Height_eq w hw, Option.bind_some]
      have hgb : ∀ {β : Type} (x : Bool) (k : api_Gauge → Option β), (x = false → k default = k l[i]) → gb x (some l[i]) k = k l[i] := by
        intro β x k hk
        cases x with
        | true => rfl
        | false => simpa [gb] using hk rfl
      rw [hgb _ _ (by intro hx; rw [hx]; simp)]
      rw [hgb _ _ (by intro hx; rw [hx]; simp)]
      refine ⟨h, ?_⟩
      by_cases hh : honest w l[i] = true
      · rw [if_pos (show ((decide ((heightS w l[i].Tick).2 = 0)) && (decide (l[i].Read.Lo ≤ (heightS w l[i].Tick).1)) && (decide ((heightS w l[i].Tick).1 ≤ l[i].Read.Hi))) = true from hh), Option.bind_some, app_one (by omega), Option.bind_some]
        unfold law02_TideTrueWater_j3
        rw [w64s' h (by omega)]
        refine ⟨_, rfl, rfl, by simp; omega, fun g hg => ?_⟩
        rw [List.mem_append, List.mem_singleton] at hg
        rcases hg with hg | rfl
        · exact hI2 g hg
        · exact hh
      · rw [if_neg (show ¬ ((decide ((heightS w l[i].Tick).2 = 0)) && (decide (l[i].Read.Lo ≤ (heightS w l[i].Tick).1)) && (decide ((heightS w l[i].Tick).1 ≤ l[i].Read.Hi))) = true from hh)]
        unfold law02_TideTrueWater_j3
        rw [w64s' h (by omega)]
        exact ⟨_, rfl, rfl, by simp only; omega, hI2⟩
    · right
      rw [if_neg (by simpa using h), true_j1 w hw s height acc hI2]
      exact ⟨true, rfl, rfl⟩
end Go.Mx
