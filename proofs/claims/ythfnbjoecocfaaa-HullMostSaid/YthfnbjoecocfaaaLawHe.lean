/- Plain laws of ships, fifth part: loads are compared, narrowed, and lessened. Conditions: none. -/
import Derived.Test.YthfnbjoecocfaaaLawHd
import Derived.Test.YthfnbjoecocfaaaLawHullSan
set_option linter.unusedVariables false
set_option linter.unusedSimpArgs false
namespace Go.Mx

/-! Narrow. -/
/-! Behind. -/
end Go.Mx
