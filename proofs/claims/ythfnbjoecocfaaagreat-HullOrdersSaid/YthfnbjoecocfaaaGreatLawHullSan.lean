/- The examples of the chapter of ships, by evaluation. Conditions: none. -/
import Derived.Test.YthfnbjoecocfaaaGreatM
set_option linter.unusedVariables false
namespace Go.Mx
theorem sanity3_true : law03_sanity = some true := by decide +kernel
end Go.Mx
