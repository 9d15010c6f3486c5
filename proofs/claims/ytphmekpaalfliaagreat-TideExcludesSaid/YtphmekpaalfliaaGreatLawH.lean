/- Plain laws of water: gauges that clash, suspects. Conditions: none. -/
import Derived.Test.YtphmekpaalfliaaGreatLawG
set_option linter.unusedVariables false
namespace Go.Mx

/-- The clashes of a list, in its order. -/
def cl : List tide_known → List Arr_2_int
  | [] => []
  | a :: r => (if tide_none a.levels = true then [⟨a.Gauge.ID, a.Gauge.ID⟩] else (r.filter fun b => !tide_none b.levels && tide_none (tide_both a.levels b.levels)).map fun b => ⟨a.Gauge.ID, b.Gauge.ID⟩) ++ cl r

/-! ### All agree -/

/-! ### But for one -/

/-! ### Clashes, suspects -/

end Go.Mx
