/- TideWindows: the plain law. Conditions: none. -/
import Derived.Test.YtnkngglimidldaaGreatLawN
set_option linter.unusedVariables false
namespace Go.Mx
end Go.Mx
