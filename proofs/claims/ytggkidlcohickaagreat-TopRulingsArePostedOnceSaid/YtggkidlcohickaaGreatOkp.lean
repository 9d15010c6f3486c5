/- What arguments may be. Conditions: none. Printed by a program (wip/tools/lawgen.py). -/
import Derived.Test.YtggkidlcohickaaGreatM
import GoSem.Claim
set_option linter.unusedVariables false
namespace Go.Mx
open Go
def OkI (k:IntKind) (n:Int):Prop:=k.min≤n∧n≤k.max
theorem OkI.i64 {n:Int} (h:OkI .i64 n) : -9223372036854775808≤n∧n≤9223372036854775807:=h
theorem OkI.u8 {n:Int} (h:OkI .u8 n):0≤n∧n≤255:=h
theorem OkI.u16 {n:Int} (h:OkI .u16 n):0≤n∧n≤65535:=h
def zIc (x:zD):Prop:=(OkI .i64 x.Arbiters)∧True
def zGU (x:ZO):Prop:=(OkI .i64 x.Kind)∧(OkI .i64 x.A)∧(OkI .i64 x.Case)∧(OkI .i64 x.Finding)∧(OkI .i64 x.N)∧True
def ok_24 (l:List ZO):Prop:=l.length≤9223372036854775807∧∀ a∈l,(zGU a)
end Go.Mx
