/- Plain laws of ships, fourteenth part: parts that show that a ship is steady. Conditions: none. -/
import Derived.Test.YthfnbjoecocfaaaGreatLawHp
set_option linter.unusedVariables false
set_option linter.unusedSimpArgs false
namespace Go.Mx
end Go.Mx
