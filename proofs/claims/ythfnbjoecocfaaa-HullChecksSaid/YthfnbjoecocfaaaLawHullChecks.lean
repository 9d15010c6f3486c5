/- HullChecks: the plain law. Conditions: none. -/
import Derived.Test.YthfnbjoecocfaaaLawHe
set_option linter.unusedVariables false
namespace Go.Mx
theorem narrowR_len (s : api_Ship) (l : api_Load) (hl : Len l.Holds) : Len (narrowR s l).1.Holds := by
  unfold narrowR
  split
  · simpa [narrowL, Len] using hl
  · simp [Len]
theorem LoadW.ok {l : api_Load} (h : ok_api_Load l) : LoadW l := ⟨w64_id h.2.1.2.1.1 h.2.1.2.1.2, w64_id h.2.1.1.1 h.2.1.1.2⟩
theorem holds_HullChecks {s : api_Ship} {l : api_Load} {x : List Int} (h0 : ok_api_Ship s) (h1 : ok_api_Load l) (h2 : ok_40 x) : law03_HullChecks s l x = some true := by
  have hl : Len s.Holds := h0.2.2.2.2.1.1
  have hL : Len l.Holds := h1.1.1
  have hx : Len x := h2.1
  have hw := LoadW.ok h1
  unfold law03_HullChecks
  split
  · rw [sanity3_true]; rfl
  · rw [hNarrow_eq s l hl hw, rNarrow_eq s l hl hw, sanity3_true, hcheck_eq s hl, rcheck_eq s hl, hload_eq s l hl hw, rcload_eq s l hl hw, hFits_eq s l x hl hw hL hx, rFits_eq s l x hl hw hL hx]
    simp only [Option.bind_some]
    rw [sameLoads_eq _ _ (narrowR_len s l hL)]
    simp [gb]
end Go.Mx
