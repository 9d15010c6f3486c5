/- TideChecks: the plain law. Conditions: none. -/
import Derived.Test.YtphmekpaalfliaaLawW
set_option linter.unusedVariables false
namespace Go.Mx
theorem holds_TideChecks {w : api_Water} {c : api_Cycle} {tick : Int} (h0 : ok_api_Water w) (h1 : ok_api_Cycle c) (h2 : OkI .i64 tick) : law02_TideChecks w c tick = some true := by
  have hw := LenW.of h0
  have hl : Len c.Heights := h1.2.2.2.1.1
  unfold law02_TideChecks
  obtain ⟨b, hb, _⟩ := few_spec w hw.c
  rw [hb, Option.bind_some]
  split
  · rw [sanity_true]; rfl
  · rw [Value_eq c hl, RValue_eq c hl, Height_eq w hw, RHeight_eq w hw, Check_eq w hw, RCheck_eq w hw, sanity_true]
    simp [gb]
end Go.Mx
