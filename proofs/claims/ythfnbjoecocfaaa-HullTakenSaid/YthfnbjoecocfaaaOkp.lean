/- What arguments may be. Conditions: none. Printed by a program (wip/tools/lawgen.py). -/
import Derived.Test.YthfnbjoecocfaaaM
import GoSem.Claim
set_option linter.unusedVariables false
namespace Go.Mx
open Go

def OkI (k : IntKind) (n : Int) : Prop := k.min ≤ n ∧ n ≤ k.max
theorem OkI.i64 {n : Int} (h : OkI .i64 n) : -9223372036854775808 ≤ n ∧ n ≤ 9223372036854775807 := h
theorem OkI.u8 {n : Int} (h : OkI .u8 n) : 0 ≤ n ∧ n ≤ 255 := h
def ok_api_Hold (x : api_Hold) : Prop := (OkI .i64 x.ID) ∧ (OkI .i64 x.Room) ∧ (OkI .i64 x.Lever) ∧ (OkI .i64 x.Height) ∧ True
def ok_22 (l : List api_Hold) : Prop := l.length ≤ 9223372036854775807 ∧ ∀ a ∈ l, (ok_api_Hold a)
def ok_api_Knot (x : api_Knot) : Prop := (OkI .i64 x.X) ∧ (OkI .i64 x.Y) ∧ True
def ok_23 (l : List api_Knot) : Prop := l.length ≤ 9223372036854775807 ∧ ∀ a ∈ l, (ok_api_Knot a)
def ok_api_Curve (x : api_Curve) : Prop := (ok_23 x.Knots) ∧ (OkI .i64 x.Err) ∧ True
def ok_api_Ship (x : api_Ship) : Prop := (OkI .i64 x.ID) ∧ (OkI .i64 x.Light) ∧ (OkI .i64 x.Lever) ∧ (OkI .i64 x.Height) ∧ (ok_22 x.Holds) ∧ (ok_api_Curve x.Mean) ∧ (ok_api_Curve x.Mtac) ∧ (OkI .i64 x.Turn) ∧ (OkI .i64 x.Least) ∧ True
def ok_api_Span (x : api_Span) : Prop := (OkI .i64 x.Lo) ∧ (OkI .i64 x.Hi) ∧ True
def ok_28 (l : List api_Span) : Prop := l.length ≤ 9223372036854775807 ∧ ∀ a ∈ l, (ok_api_Span a)
def ok_api_Load (x : api_Load) : Prop := (ok_28 x.Holds) ∧ (ok_api_Span x.All) ∧ True
def ok_50 (l : List Int) : Prop := l.length ≤ 9223372036854775807 ∧ ∀ a ∈ l, (OkI .u16 a)
end Go.Mx
