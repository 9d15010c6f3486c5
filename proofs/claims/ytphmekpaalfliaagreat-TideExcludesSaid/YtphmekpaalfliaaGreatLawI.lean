/- Plain laws of water: the gauges at both ends. Conditions: none. -/
import Derived.Test.YtphmekpaalfliaaGreatLawH
set_option linter.unusedVariables false
namespace Go.Mx
/-- Whether a gauge does not agree with a level. -/
def against (w : api_Water) (n : Int) (g : api_Gauge) : Bool := tide_level n && !(tide_within n (lev w g).Lo (lev w g).Hi)
end Go.Mx
