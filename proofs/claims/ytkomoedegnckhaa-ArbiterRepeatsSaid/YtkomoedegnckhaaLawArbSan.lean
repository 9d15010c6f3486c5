/- Plain laws, arbiters: the chapter's examples of letters, by the kernel. Conditions: none. -/
import Derived.Test.YtkomoedegnckhaaM
set_option linter.unusedVariables false
namespace Go.Mx
theorem sanity09 : law09_sanity = some true := by decide +kernel
end Go.Mx
