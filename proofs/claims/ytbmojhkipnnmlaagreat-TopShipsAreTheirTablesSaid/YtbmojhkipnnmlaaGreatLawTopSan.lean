/- The examples of a floating ship, by evaluation. Conditions: none. -/
import Derived.Test.YtbmojhkipnnmlaaGreatM
set_option linter.unusedVariables false
namespace Go.Mx
theorem floating_true : top_floating = some true := by decide +kernel
end Go.Mx
