/- What arguments may be. Conditions: none. Printed by a program (wip/tools/lawgen.py). -/
import Derived.Test.YtnkngglimidldaaGreatM
import GoSem.Claim
set_option linter.unusedVariables false
namespace Go.Mx
open Go
def OkI (k : IntKind) (n : Int) : Prop := k.min ≤ n ∧ n ≤ k.max
theorem OkI.i64 {n : Int} (h : OkI .i64 n) : -9223372036854775808 ≤ n ∧ n ≤ 9223372036854775807 := h
theorem OkI.u8 {n : Int} (h : OkI .u8 n) : 0 ≤ n ∧ n ≤ 255 := h
def ok_58 (l : List Int) : Prop := l.length ≤ 9223372036854775807 ∧ ∀ a ∈ l, (OkI .i64 a)
def ok_api_Cycle (x : api_Cycle) : Prop := (OkI .i64 x.ID) ∧ (OkI .i64 x.Begin) ∧ (OkI .i64 x.Every) ∧ (ok_58 x.Heights) ∧ True
def ok_22 (l : List api_Cycle) : Prop := l.length ≤ 9223372036854775807 ∧ ∀ a ∈ l, (ok_api_Cycle a)
def ok_api_Shift (x : api_Shift) : Prop := (OkI .i64 x.From) ∧ (OkI .i64 x.To) ∧ (OkI .i64 x.Add) ∧ True
def ok_23 (l : List api_Shift) : Prop := l.length ≤ 9223372036854775807 ∧ ∀ a ∈ l, (ok_api_Shift a)
def ok_api_Water (x : api_Water) : Prop := (OkI .i64 x.Level) ∧ (ok_22 x.Cycles) ∧ (ok_23 x.Shifts) ∧ True
def ok_api_Berth (x : api_Berth) : Prop := (OkI .i64 x.ID) ∧ (OkI .i64 x.Depth) ∧ True
def ok_26 (l : List api_Berth) : Prop := l.length ≤ 9223372036854775807 ∧ ∀ a ∈ l, (ok_api_Berth a)
def ok_api_Span (x : api_Span) : Prop := (OkI .i64 x.Lo) ∧ (OkI .i64 x.Hi) ∧ True
def ok_27 (l : List api_Span) : Prop := l.length ≤ 9223372036854775807 ∧ ∀ a ∈ l, (ok_api_Span a)
def ok_api_Harbour (x : api_Harbour) : Prop := (ok_api_Water x.Water) ∧ (ok_26 x.Berths) ∧ (ok_27 x.Tides) ∧ (OkI .i64 x.Keel) ∧ True
def ok_api_Call (x : api_Call) : Prop := (OkI .i64 x.ID) ∧ (OkI .i64 x.Draught) ∧ (OkI .i64 x.From) ∧ (OkI .i64 x.To) ∧ (OkI .i64 x.Long) ∧ True
def ok_api_Slot (x : api_Slot) : Prop := (OkI .i64 x.Tide) ∧ (OkI .i64 x.Berth) ∧ True
end Go.Mx
