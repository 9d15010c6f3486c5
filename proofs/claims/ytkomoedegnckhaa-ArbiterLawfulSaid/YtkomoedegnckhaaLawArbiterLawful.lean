/- ArbiterLawful: the plain law. Conditions: none. -/
import Derived.Test.YtkomoedegnckhaaLawZf
import Derived.Test.YtkomoedegnckhaaLawArbSan
set_option linter.unusedVariables false
namespace Go.Mx
theorem few_len {l : List api_Letter} {n : Int} (hn : n ≤ 2005) (h : law09_few l n = true) : l.length ≤ 4000 := by
 unfold law09_few at h
 simp at h
 omega
theorem holds_ArbiterLawful {c : api_Court} {l : List api_Letter} (h0 : ok_api_Court c) (h1 : ok_24 l) : law09_ArbiterLawful c l = some true := by
 unfold law09_ArbiterLawful
 split
 ·rw [sanity09]; rfl
 ·rename_i hf
  have hf : law09_few l 60 = true := by simpa using hf
  obtain ⟨r, e1, e2, _⟩ := Lawful_spec c l (few_len (by omega) hf)
  rw [e1, e2, sanity09]
  simp
end Go.Mx
