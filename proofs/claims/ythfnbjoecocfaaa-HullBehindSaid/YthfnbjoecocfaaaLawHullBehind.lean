/- HullBehind: the plain law. Conditions: none. -/
import Derived.Test.YthfnbjoecocfaaaLawHe
set_option linter.unusedVariables false
namespace Go.Mx
theorem holds_HullBehind {s : api_Ship} {l : api_Load} {out : List api_Span} (h0 : ok_api_Ship s) (h1 : ok_api_Load l) (h2 : ok_28 out) : law03_HullBehind s l out = some true := by
  have hl : Len s.Holds := h0.2.2.2.2.1.1
  have hw : LoadW l := ⟨w64_id h1.2.1.2.1.1 h1.2.1.2.1.2, w64_id h1.2.1.1.1 h1.2.1.1.2⟩
  unfold law03_HullBehind
  split
  · rw [sanity3_true]; rfl
  · rename_i hc
    have ho : out.length ≤ 4294967295 := by simp at hc; omega
    rw [hBehind_eq s l out hl hw ho, rBehind_eq s l out hl hw ho, sanity3_true]
    simp only [Option.bind_some]
    have hlen : Len (behindR s l out).1.Holds := by
      unfold behindR behindJ leftL Len
      repeat' split
      all_goals simp
      all_goals omega
    rw [sameLoads_eq _ _ hlen]
    simp [gb]
end Go.Mx
