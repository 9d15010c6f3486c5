/- What arguments may be. Conditions: none. Printed by a program (wip/tools/lawgen.py). -/
import Derived.Test.YtnkngglimidldaaGreatM
import GoSem.Claim
set_option linter.unusedVariables false
namespace Go.Mx
open Go
def OkI (k : IntKind) (n : Int) : Prop := k.min ≤ n ∧ n ≤ k.max
theorem OkI.i64 {n : Int} (h : OkI .i64 n) : -9223372036854775808 ≤ n ∧ n ≤ 9223372036854775807 := h
theorem OkI.u8 {n : Int} (h : OkI .u8 n) : 0 ≤ n ∧ n ≤ 255 := h
def ok_58 (l : List Int) : Prop := l.length ≤ 9223372036854775807 ∧ ∀ a ∈ l, (OkI .i64 a)
def zDY (x : zp) : Prop := (OkI .i64 x.ID) ∧ (OkI .i64 x.Begin) ∧ (OkI .i64 x.Every) ∧ (ok_58 x.Heights) ∧ True
def ok_22 (l : List zp) : Prop := l.length ≤ 9223372036854775807 ∧ ∀ a ∈ l, (zDY a)
def zDX (x : yD) : Prop := (OkI .i64 x.From) ∧ (OkI .i64 x.To) ∧ (OkI .i64 x.Add) ∧ True
def ok_23 (l : List yD) : Prop := l.length ≤ 9223372036854775807 ∧ ∀ a ∈ l, (zDX a)
def zBF (x : zX) : Prop := (OkI .i64 x.Level) ∧ (ok_22 x.Cycles) ∧ (ok_23 x.Shifts) ∧ True
def zDZ (x : zj) : Prop := (OkI .i64 x.ID) ∧ (OkI .i64 x.Depth) ∧ True
def ok_26 (l : List zj) : Prop := l.length ≤ 9223372036854775807 ∧ ∀ a ∈ l, (zDZ a)
def zB0 (x : zD) : Prop := (OkI .i64 x.Lo) ∧ (OkI .i64 x.Hi) ∧ True
def ok_27 (l : List zD) : Prop := l.length ≤ 9223372036854775807 ∧ ∀ a ∈ l, (zB0 a)
def zAK (x : zK) : Prop := (zBF x.Water) ∧ (ok_26 x.Berths) ∧ (ok_27 x.Tides) ∧ (OkI .i64 x.Keel) ∧ True
def zEl (x : zM) : Prop := (OkI .i64 x.ID) ∧ (OkI .i64 x.Draught) ∧ (OkI .i64 x.From) ∧ (OkI .i64 x.To) ∧ (OkI .i64 x.Long) ∧ True
def ok_30 (l : List zM) : Prop := l.length ≤ 9223372036854775807 ∧ ∀ a ∈ l, (zEl a)
def zEk (x : zE) : Prop := (OkI .i64 x.Tide) ∧ (OkI .i64 x.Berth) ∧ True
def zBz (x : zO) : Prop := (OkI .i64 x.Call) ∧ (zEk x.Slot) ∧ (zB0 x.Span) ∧ True
def ok_75 (l : List zO) : Prop := l.length ≤ 9223372036854775807 ∧ ∀ a ∈ l, (zBz a)
end Go.Mx
