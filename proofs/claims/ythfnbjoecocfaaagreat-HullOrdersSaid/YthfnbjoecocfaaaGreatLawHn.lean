/- Part of the proof of HullOrders: plain laws about the functions of M, no program in sight. Conditions: none. -/
import Derived.Test.YthfnbjoecocfaaaGreatLawHm
namespace Go.Mx
theorem Fit.ins {l : api_Load} {x : List Int} (h : Fit l x) : InS l.Holds x := ⟨h.len, h.span⟩
end Go.Mx
