/- What arguments may be. Conditions: none. Printed by a program (wip/tools/lawgen.py). -/
import Derived.Test.YtmebbbblomlgdaaGreatM
import GoSem.Claim
set_option linter.unusedVariables false
namespace Go.Mx
open Go
def OkI (k:IntKind) (n:Int):Prop:=k.min≤n∧n≤k.max
theorem OkI.i64 {n:Int} (h:OkI .i64 n) : -9223372036854775808≤n∧n≤9223372036854775807:=h
theorem OkI.u8 {n:Int} (h:OkI .u8 n):0≤n∧n≤255:=h
def zN8 (l:List Int):Prop:=l.length≤9223372036854775807∧∀ a∈l,(OkI .i64 a)
def zFT (x:zX):Prop:=(OkI .i64 x.ID)∧(OkI .i64 x.Begin)∧(OkI .i64 x.Every)∧(zN8 x.Heights)∧True
def ok_22 (l:List zX):Prop:=l.length≤9223372036854775807∧∀ a∈l,(zFT a)
def zFS (x:jP):Prop:=(OkI .i64 x.From)∧(OkI .i64 x.To)∧(OkI .i64 x.Add)∧True
def ok_23 (l:List jP):Prop:=l.length≤9223372036854775807∧∀ a∈l,(zFS a)
def zC8 (x:zO):Prop:=(OkI .i64 x.Level)∧(ok_22 x.Cycles)∧(ok_23 x.Shifts)∧True
def zFV (x:zT):Prop:=(OkI .i64 x.ID)∧(OkI .i64 x.Depth)∧True
def ok_26 (l:List zT):Prop:=l.length≤9223372036854775807∧∀ a∈l,(zFV a)
def zGX (x:zC):Prop:=(OkI .i64 x.Lo)∧(OkI .i64 x.Hi)∧True
def ok_27 (l:List zC):Prop:=l.length≤9223372036854775807∧∀ a∈l,(zGX a)
def zB3 (x:zG):Prop:=(zC8 x.Water)∧(ok_26 x.Berths)∧(ok_27 x.Tides)∧(OkI .i64 x.Keel)∧True
def zGZ (x:zJ):Prop:=(OkI .i64 x.ID)∧(OkI .i64 x.Draught)∧(OkI .i64 x.From)∧(OkI .i64 x.To)∧(OkI .i64 x.Long)∧True
def ok_30 (l:List zJ):Prop:=l.length≤9223372036854775807∧∀ a∈l,(zGZ a)
def zGY (x:zB):Prop:=(OkI .i64 x.Tide)∧(OkI .i64 x.Berth)∧True
def ok_32 (l:List zB):Prop:=l.length≤9223372036854775807∧∀ a∈l,(zGY a)
def zFU (x:zZ):Prop:=(zN8 x.Calls)∧(ok_32 x.Slots)∧True
end Go.Mx
