/- What arguments may be. Conditions: none. Printed by a program (wip/tools/lawgen.py). -/
import Derived.Test.YtdpifjmggnjagaaGreatM
import GoSem.Claim
set_option linter.unusedVariables false
namespace Go.Mx
open Go
def OkI (k:IntKind) (n:Int):Prop:=k.min≤n∧n≤k.max
theorem OkI.i64 {n:Int} (h:OkI .i64 n) : -9223372036854775808≤n∧n≤9223372036854775807:=h
theorem OkI.u8 {n:Int} (h:OkI .u8 n):0≤n∧n≤255:=h
def ok_57 (l:List Int):Prop:=l.length≤9223372036854775807∧∀ a∈l,(OkI .i64 a)
def zHD (x:zz):Prop:=(OkI .i64 x.ID)∧(OkI .i64 x.Begin)∧(OkI .i64 x.Every)∧(ok_57 x.Heights)∧True
def ok_22 (l:List zz):Prop:=l.length≤9223372036854775807∧∀ a∈l,(zHD a)
def zHC (x:Y4):Prop:=(OkI .i64 x.From)∧(OkI .i64 x.To)∧(OkI .i64 x.Add)∧True
def ok_23 (l:List Y4):Prop:=l.length≤9223372036854775807∧∀ a∈l,(zHC a)
def zET (x:zW):Prop:=(OkI .i64 x.Level)∧(ok_22 x.Cycles)∧(ok_23 x.Shifts)∧True
def zHE (x:zy):Prop:=(OkI .i64 x.ID)∧(OkI .i64 x.Depth)∧True
def ok_26 (l:List zy):Prop:=l.length≤9223372036854775807∧∀ a∈l,(zHE a)
def zFL (x:zB):Prop:=(OkI .i64 x.Lo)∧(OkI .i64 x.Hi)∧True
def zQr (l:List zB):Prop:=l.length≤9223372036854775807∧∀ a∈l,(zFL a)
def zC8 (x:zN):Prop:=(zET x.Water)∧(ok_26 x.Berths)∧(zQr x.Tides)∧(OkI .i64 x.Keel)∧True
def zIL (x:zq):Prop:=(OkI .i64 x.ID)∧(OkI .i64 x.Room)∧(OkI .i64 x.Lever)∧(OkI .i64 x.Height)∧True
def ok_47 (l:List zq):Prop:=l.length≤9223372036854775807∧∀ a∈l,(zIL a)
def zIK (x:zf):Prop:=(OkI .i64 x.X)∧(OkI .i64 x.Y)∧True
def ok_48 (l:List zf):Prop:=l.length≤9223372036854775807∧∀ a∈l,(zIK a)
def zEU (x:ZX):Prop:=(ok_48 x.Knots)∧(OkI .i64 x.Err)∧True
def zIJ (x:zH):Prop:=(OkI .i64 x.ID)∧(OkI .i64 x.Light)∧(OkI .i64 x.Lever)∧(OkI .i64 x.Height)∧(ok_47 x.Holds)∧(zEU x.Mean)∧(zEU x.Mtac)∧(OkI .i64 x.Turn)∧(OkI .i64 x.Least)∧True
def zFM (x:zQ):Prop:=(zQr x.Holds)∧(zFL x.All)∧True
def zER (x:ZO):Prop:=(zIJ x.Ship)∧(zFM x.Load)∧(OkI .i64 x.From)∧(OkI .i64 x.To)∧(OkI .i64 x.Long)∧True
def ok_30 (l:List ZO):Prop:=l.length≤9223372036854775807∧∀ a∈l,(zER a)
def zHF (l:List Int):Prop:=l.length≤9223372036854775807∧∀ a∈l,(OkI .u16 a)
end Go.Mx
