/- Part of the proof of TopShipsLieClear: plain laws about the functions of M, no program in sight. Conditions: none. -/
import Derived.Test.YtdpifjmggnjagaaGreatM
set_option linter.unusedVariables false
namespace Go.Mx
theorem zBX : Y8=some true:=by decide +kernel
end Go.Mx
