/- HullSteadyIn: the plain law. Conditions: none. -/
import Derived.Test.YthfnbjoecocfaaaLawHq
set_option linter.unusedVariables false
namespace Go.Mx
theorem holds_HullSteadyIn {s : api_Ship} {l : api_Load} {by_ : List Int} {parts : List api_Part} (h0 : ok_api_Ship s) (h1 : ok_api_Load l) (h2 : ok_50 by_) (h3 : ok_109 parts) : law03_HullSteadyIn s l by_ parts = some true := by
  have hl : Len s.Holds := h0.2.2.2.2.1.1
  have hL : Len l.Holds := h1.1.1
  have hw := LoadW.ok h1
  unfold law03_HullSteadyIn
  rw [hload_eq s l hl hw]
  generalize ((!law03_short s l) || decide (50 < (parts.length : Int))) = c
  cases c with
  | true => simp [gb, sanity3_true]
  | false =>
    simp only [Bool.not_false, gb, if_true, Option.bind_some, Bool.false_or]
    by_cases hk : chkL s l = 0
    · rw [if_neg (by simp [hk])]
      have hg := GoodL.of hk
      have hcs : chk s = 0 := by unfold chkL at hk; split at hk; · assumption
                                 · assumption
      obtain ⟨x, x1, x2⟩ := inside_spec hg by_ h2
      obtain ⟨r, r1, r2⟩ := shaky_spec hg
      rw [x1, Option.bind_some, Steady_eq s l hl hw, if_pos hk, r1]
      simp only [Option.map_some, Option.bind_some]
      rcases r2 with ⟨rfl, ha⟩ | ⟨ht, hst, t, t1, t2, g, _⟩
      · obtain ⟨ps, q1, q2, q3⟩ := prove_spec hl hw hk r1 ha
        rw [q1, sanity3_true, steadyIn_eq hcs (x2.rms hg), AllSteady.fit hg ha x2]
        simp only [Option.bind_some]
        rw [hcs_eq s l ps hl hw, q2]
        simp
      · have hf := Fit.of_greedy hg g t1 t2
        have hne : csE s l parts ≠ 0 := fun he => by
          unfold csE at he
          rw [if_pos hk] at he
          split at he
          · omega
          · have hs := hf.sum hg
            obtain ⟨p, hp⟩ := csR_cover parts _ he r.1.sum hs.1 hs.2
            have := showsB_steady hg hf hp
            rw [hst] at this; cases this
        rw [prove_shaky hl hw hk r1 ht, sanity3_true, hFits_eq s l r.1 hl hw hL (by have := hf.len; unfold Len at *; omega), (fitB_iff hg _).2 hf, steadyIn_eq hcs (hf.rms hg), hst, hcs_eq s l parts hl hw]
        simp [ht, hk, hne]
    · rw [if_pos (by simp [hk]), sanity3_true]; rfl
end Go.Mx
