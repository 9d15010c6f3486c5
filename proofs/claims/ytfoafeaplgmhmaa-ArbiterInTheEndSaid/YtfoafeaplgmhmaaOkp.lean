/- What arguments may be. Conditions: none. Printed by a program (wip/tools/lawgen.py). -/
import Derived.Test.YtfoafeaplgmhmaaM
import GoSem.Claim
set_option linter.unusedVariables false
namespace Go.Mx
open Go
def OkI (k:IntKind) (n:Int):Prop:=k.min≤n∧n≤k.max
theorem OkI.i64 {n:Int} (h:OkI .i64 n) : -9223372036854775808≤n∧n≤9223372036854775807:=h
theorem OkI.u8 {n:Int} (h:OkI .u8 n):0≤n∧n≤255:=h
def ok_api_Court (x:api_Court):Prop:=(OkI .i64 x.Arbiters)∧True
def ok_api_Act (x:api_Act):Prop:=(OkI .i64 x.Kind)∧(OkI .i64 x.A)∧(OkI .i64 x.Case)∧(OkI .i64 x.Finding)∧(OkI .i64 x.N)∧True
def ok_24 (l:List api_Act):Prop:=l.length≤9223372036854775807∧∀ a∈l,(ok_api_Act a)
end Go.Mx
