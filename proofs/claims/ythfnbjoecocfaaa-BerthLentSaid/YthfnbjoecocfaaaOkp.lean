/- What arguments may be. Conditions: none. Printed by a program (wip/tools/lawgen.py). -/
import Derived.Test.YthfnbjoecocfaaaM
import GoSem.Claim
set_option linter.unusedVariables false
namespace Go.Mx
open Go

def OkI (k : IntKind) (n : Int) : Prop := k.min ≤ n ∧ n ≤ k.max
theorem OkI.i64 {n : Int} (h : OkI .i64 n) : -9223372036854775808 ≤ n ∧ n ≤ 9223372036854775807 := h
theorem OkI.u8 {n : Int} (h : OkI .u8 n) : 0 ≤ n ∧ n ≤ 255 := h
def ok_api_Span (x : api_Span) : Prop := (OkI .i64 x.Lo) ∧ (OkI .i64 x.Hi) ∧ True
def ok_api_Lease (x : api_Lease) : Prop := (OkI .i64 x.ID) ∧ (OkI .i64 x.Heap) ∧ (ok_api_Span x.Span) ∧ True
def ok_62 (l : List api_Lease) : Prop := l.length ≤ 9223372036854775807 ∧ ∀ a ∈ l, (ok_api_Lease a)
def ok_40 (l : List Int) : Prop := l.length ≤ 9223372036854775807 ∧ ∀ a ∈ l, (OkI .i64 a)
end Go.Mx
