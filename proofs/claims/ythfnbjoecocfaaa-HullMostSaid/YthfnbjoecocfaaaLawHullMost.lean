/- HullMost: the plain law. Conditions: none. -/
import Derived.Test.YthfnbjoecocfaaaLawHn
set_option linter.unusedVariables false
namespace Go.Mx
theorem holds_HullMost {s : api_Ship} {l : api_Load} {form : List Int} (h0 : ok_api_Ship s) (h1 : ok_api_Load l) (h2 : ok_40 form) : law03_HullMost s l form = some true := by
  have hl : Len s.Holds := h0.2.2.2.2.1.1
  have hL : Len l.Holds := h1.1.1
  have hw := LoadW.ok h1
  have hwl : Len form := h2.1
  unfold law03_HullMost
  split
  · rw [sanity3_true]; rfl
  · by_cases ha : askE s l form = 0
    · obtain ⟨q, q1, q2, t, t1, t2, t3⟩ := Most_ok s l form hl hw hwl ha
      rw [q1, Greatest_ok s l form hl hw hwl ha q2 t1 t2 t3, sanity3_true]
      have hx : Len q.Loading := by have := q2.fit.len; unfold Len at *; omega
      simp only [Option.bind_some]
      rw [rcm_eq s l form q hl hw hL hwl hx, hcm_eq s l form q hl hw hL hwl hx, q2.cm ha]
      simp [gb]
    · rw [Most_err s l form hl hw hwl ha, Greatest_err s l form hl hw hwl ha, sanity3_true]
      simp [ha]
end Go.Mx
