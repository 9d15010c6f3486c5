/- What arguments may be. Conditions: none. Printed by a program (wip/tools/lawgen.py). -/
import Derived.Test.YtphmekpaalfliaaGreatM
import GoSem.Claim
set_option linter.unusedVariables false
namespace Go.Mx
open Go

def OkI (k : IntKind) (n : Int) : Prop := k.min ≤ n ∧ n ≤ k.max
theorem OkI.i64 {n : Int} (h : OkI .i64 n) : -9223372036854775808 ≤ n ∧ n ≤ 9223372036854775807 := h
theorem OkI.u8 {n : Int} (h : OkI .u8 n) : 0 ≤ n ∧ n ≤ 255 := h
def ok_29 (l : List Int) : Prop := l.length ≤ 9223372036854775807 ∧ ∀ a ∈ l, (OkI .i64 a)
def ok_api_Cycle (x : api_Cycle) : Prop := (OkI .i64 x.ID) ∧ (OkI .i64 x.Begin) ∧ (OkI .i64 x.Every) ∧ (ok_29 x.Heights) ∧ True
def ok_22 (l : List api_Cycle) : Prop := l.length ≤ 9223372036854775807 ∧ ∀ a ∈ l, (ok_api_Cycle a)
def ok_api_Shift (x : api_Shift) : Prop := (OkI .i64 x.From) ∧ (OkI .i64 x.To) ∧ (OkI .i64 x.Add) ∧ True
def ok_23 (l : List api_Shift) : Prop := l.length ≤ 9223372036854775807 ∧ ∀ a ∈ l, (ok_api_Shift a)
def ok_api_Water (x : api_Water) : Prop := (OkI .i64 x.Level) ∧ (ok_22 x.Cycles) ∧ (ok_23 x.Shifts) ∧ True
def ok_api_Span (x : api_Span) : Prop := (OkI .i64 x.Lo) ∧ (OkI .i64 x.Hi) ∧ True
def ok_api_Gauge (x : api_Gauge) : Prop := (OkI .i64 x.ID) ∧ (OkI .i64 x.Tick) ∧ (ok_api_Span x.Read) ∧ True
def ok_26 (l : List api_Gauge) : Prop := l.length ≤ 9223372036854775807 ∧ ∀ a ∈ l, (ok_api_Gauge a)
end Go.Mx
