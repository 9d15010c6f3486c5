/- TidePeaks: the plain law. Conditions: none. -/
import Derived.Test.YtphmekpaalfliaaLawS
set_option linter.unusedVariables false
namespace Go.Mx
theorem holds_TidePeaks {w : api_Water} {s : api_Span} (h0 : ok_api_Water w) (h1 : ok_api_Span s) : law02_TidePeaks w s = some true := by
  have hw := LenW.of h0
  unfold law02_TidePeaks
  obtain ⟨b, hb, _⟩ := few_spec w hw.c
  rw [hb, Option.bind_some]
  split
  · rw [sanity_true]; rfl
  · unfold tide_Highest tide_Lowest
    rw [extreme_eq w hw s 1 (.inl rfl), extreme_eq w hw s (-1) (.inr rfl), RExtreme_eq w hw s true, RExtreme_eq w hw s false, Stands_eq w hw, Standing_eq w hw, sanity_true]
    simp only [Option.bind_some, if_true, Bool.false_eq_true, if_false]
    rw [SameStands_self _ (by have := standsS_len hw s; unfold Len; omega)]
    simp [gb]
end Go.Mx
