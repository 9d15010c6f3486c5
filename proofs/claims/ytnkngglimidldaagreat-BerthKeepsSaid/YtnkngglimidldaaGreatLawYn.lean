/- Plain laws, berths: Full and CheckFull; CheckPlan. Conditions: none. -/
import Derived.Test.YtnkngglimidldaaGreatLawYm
import Derived.Test.YtnkngglimidldaaGreatLawYj
set_option linter.unusedVariables false
set_option linter.unusedSimpArgs false
namespace Go.Mx
end Go.Mx
