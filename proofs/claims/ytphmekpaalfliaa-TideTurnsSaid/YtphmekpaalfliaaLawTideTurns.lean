/- TideTurns: the plain law. Conditions: none. -/
import Derived.Test.YtphmekpaalfliaaLawR
set_option linter.unusedVariables false
namespace Go.Mx
theorem holds_TideTurns {w : api_Water} {s : api_Span} (h0 : ok_api_Water w) (h1 : ok_api_Span s) : law02_TideTurns w s = some true := by
  have hw := LenW.of h0
  unfold law02_TideTurns
  obtain ⟨b, hb, _⟩ := few_spec w hw.c
  rw [hb, Option.bind_some]
  split
  · rw [sanity_true]; rfl
  · unfold tide_HighWaters tide_LowWaters
    have hl := standsS_len hw s
    rw [turns_eq w hw s 1 (.inl rfl), turns_eq w hw s (-1) (.inr rfl), Turning_eq w hw s true, Turning_eq w hw s false, sanity_true]
    simp only [Option.bind_some, if_true, Bool.false_eq_true, if_false]
    rw [SameStands_self _ (by have := turnS_len 1 (standsS w s).1; unfold Len; omega), SameStands_self _ (by have := turnS_len (-1) (standsS w s).1; unfold Len; omega)]
    simp [gb]
end Go.Mx
