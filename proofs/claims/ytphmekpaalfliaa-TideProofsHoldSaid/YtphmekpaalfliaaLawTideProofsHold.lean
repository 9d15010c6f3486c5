/- TideProofsHold: the plain law. Conditions: none. -/
import Derived.Test.YtphmekpaalfliaaLawQ
set_option linter.unusedVariables false
namespace Go.Mx

theorem proveS_len (w : api_Water) (s : api_Span) (height : Int) : ((proveS w s height).1.length : Int) ≤ 2000 := by
  unfold proveS
  split
  · split
    · simp
    · unfold finP
      split
      · simp
      · simp only; omega
  · simp

theorem proveS_ok {w : api_Water} {s : api_Span} (hw : LenW w) {height : Int} (h : (proveS w s height).2 = 0) : askS w s = 0 ∧ provesS w s height (proveS w s height).1 := by
  unfold proveS at h ⊢
  by_cases hq : askS w s = 0
  · refine ⟨hq, ?_⟩
    rw [if_pos hq] at h ⊢
    by_cases hl : (extremeS w s (-1)).1 < height
    · rw [if_pos hl] at h; simp at h
    · rw [if_neg hl] at h ⊢
      unfold finP at h ⊢
      split at h
      · simp at h
      · rename_i hm
        rw [if_neg hm]
        exact grd_proves hw hq ((lowest_iff hw hq height).1 hl)
  · rw [if_neg hq] at h; exact absurd h hq

theorem holds_TideProofsHold {w : api_Water} {s : api_Span} {at_ height : Int} {cuts : List Int} (h0 : ok_api_Water w) (h1 : ok_api_Span s) (h2 : OkI .u16 at_) (h3 : OkI .i64 height) (h4 : ok_26 cuts) : law02_TideProofsHold w s at_ height cuts = some true := by
  have hw := LenW.of h0
  have ha : 0 ≤ at_ ∧ at_ ≤ 65535 := h2
  have hc : Len cuts := h4.1
  unfold law02_TideProofsHold
  obtain ⟨b, hb, _⟩ := few_spec w hw.c
  rw [hb, Option.bind_some]
  split
  · rw [sanity_true]; rfl
  · rename_i hcond
    have hlen : cuts.length ≤ 60 := by simp at hcond; omega
    rw [prove_eq w hw, Option.bind_some]
    have hp := proveS_len w s height
    rw [check_eq w hw s height (proveS w s height).1 (by unfold Len; omega), check_eq w hw s height cuts hc]
    have hown : (proveS w s height).2 = 0 → (if askS w s = 0 then (if (2000 : Int) < (proveS w s height).1.length then 2 else check8 (provesS w s height (proveS w s height).1)) else askS w s) = 0 := by
      intro h
      obtain ⟨q1, q2⟩ := proveS_ok hw h
      rw [if_pos q1, if_neg (by omega), check8_t q2]
    have step1 : ∀ {k : Int → Option Bool}, (∀ y3, ((decide ((proveS w s height).2 = 0)) && (!decide (y3 = 0))) = false → k y3 = some true) → gb ((decide ((proveS w s height).2 = 0))) (some (if askS w s = 0 then (if (2000 : Int) < (proveS w s height).1.length then 2 else check8 (provesS w s height (proveS w s height).1)) else askS w s)) k = some true := by
      intro k hk
      unfold gb
      by_cases h : (proveS w s height).2 = 0
      · rw [if_pos (by simpa using h), Option.bind_some]
        refine hk _ ?_
        rw [hown h]; simp
      · rw [if_neg (by simpa using h), Option.bind_some]
        refine hk _ ?_
        simp [h]
    refine step1 fun y3 hy3 => ?_
    rw [if_neg (by rw [hy3]; decide), Option.bind_some]
    generalize hg : (if askS w s = 0 then (if (2000 : Int) < cuts.length then 2 else check8 (provesS w s height cuts)) else askS w s) = ce
    by_cases hok : ce = 0
    case neg => rw [if_pos (by simp [hok]), sanity_true]; rfl
    case pos =>
      rw [if_neg (by simp [hok])]
      have hok' : (if askS w s = 0 then (if (2000 : Int) < cuts.length then 2 else check8 (provesS w s height cuts)) else askS w s) = 0 := hg.trans hok
      have hq : askS w s = 0 := by
        by_cases hq : askS w s = 0
        · exact hq
        · rw [if_neg hq] at hok'; exact hok'
      rw [if_pos hq, if_neg (by omega)] at hok'
      have hpr : provesS w s height cuts := by
        by_cases hp : provesS w s height cuts
        · exact hp
        · rw [check8_f hp] at hok'; cases hok'
      obtain ⟨k1, k2⟩ := proves_least hw hq hpr
      have A := ask_of hw hq
      have l0 := A.l0; have l1 := A.l1; have l2 := A.l2; have l3 := A.l3
      have hpe : proveS w s height = (grd (GG w) height (left s.Hi s.Lo) s.Lo s.Lo, 0) := by
        unfold proveS
        rw [if_pos hq, if_neg ((lowest_iff hw hq height).2 k1)]
        unfold finP
        rw [if_neg (by omega)]
      rw [w64_id (n := at_) (by omega) (by omega), w64_id (n := s.Hi - s.Lo) (by omega) (by omega), w64_id (n := s.Hi - s.Lo + 1) (by omega) (by omega)]
      have hr : rem at_ (s.Hi - s.Lo + 1) = some (at_.tmod (s.Hi - s.Lo + 1)) := by unfold rem; rw [if_neg (by omega)]
      rw [hr, Option.bind_some]
      have r0 : 0 ≤ at_.tmod (s.Hi - s.Lo + 1) := Int.tmod_nonneg _ ha.1
      have r1 : at_.tmod (s.Hi - s.Lo + 1) < s.Hi - s.Lo + 1 := Int.tmod_lt_of_pos _ (by omega)
      generalize at_.tmod (s.Hi - s.Lo + 1) = q at *
      rw [w64_id (n := s.Lo + q) (by omega) (by omega), Height_eq w hw, Option.bind_some, sanity_true, Option.bind_some]
      have hz : checkS w = 0 := by
        unfold askS at hq
        by_cases e : checkS w = 0
        · exact e
        · rw [if_neg e] at hq; exact hq
      have e : heightS w (s.Lo + q) = (hgt w (s.Lo + q), 0) := by unfold heightS; rw [if_pos hz, if_pos ⟨by omega, by omega⟩]
      rw [e, hpe]
      have := k1 (s.Lo + q) (by omega) (by omega)
      have d1 : decide (height ≤ hgt w (s.Lo + q)) = true := by simpa using this
      have d2 : decide (((grd (GG w) height (left s.Hi s.Lo) s.Lo s.Lo).length : Int) ≤ (cuts.length : Int)) = true := by rw [decide_eq_true_eq]; omega
      simp only [d1, d2, decide_true, Bool.and_true]
end Go.Mx
