/- Plain laws, arbiters: what can still be ruled; the last vote. Conditions: none. -/
import Derived.Test.YtkomoedegnckhaaLawZg
set_option linter.unusedVariables false
set_option linter.unusedSimpArgs false
namespace Go.Mx
end Go.Mx
