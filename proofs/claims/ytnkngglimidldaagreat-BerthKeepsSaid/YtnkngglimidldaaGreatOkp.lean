/- What arguments may be. Conditions: none. Printed by a program (wip/tools/lawgen.py). -/
import Derived.Test.YtnkngglimidldaaGreatM
import GoSem.Claim
set_option linter.unusedVariables false
namespace Go.Mx
open Go
def OkI (k : IntKind) (n : Int) : Prop := k.min ≤ n ∧ n ≤ k.max
theorem OkI.i64 {n : Int} (h : OkI .i64 n) : -9223372036854775808 ≤ n ∧ n ≤ 9223372036854775807 := h
theorem OkI.u8 {n : Int} (h : OkI .u8 n) : 0 ≤ n ∧ n ≤ 255 := h
def ok_58 (l : List Int) : Prop := l.length ≤ 9223372036854775807 ∧ ∀ a ∈ l, (OkI .i64 a)
def zD6 (x : zw) : Prop := (OkI .i64 x.ID) ∧ (OkI .i64 x.Begin) ∧ (OkI .i64 x.Every) ∧ (ok_58 x.Heights) ∧ True
def ok_22 (l : List zw) : Prop := l.length ≤ 9223372036854775807 ∧ ∀ a ∈ l, (zD6 a)
def zD5 (x : yf) : Prop := (OkI .i64 x.From) ∧ (OkI .i64 x.To) ∧ (OkI .i64 x.Add) ∧ True
def ok_23 (l : List yf) : Prop := l.length ≤ 9223372036854775807 ∧ ∀ a ∈ l, (zD5 a)
def zBs (x : zY) : Prop := (OkI .i64 x.Level) ∧ (ok_22 x.Cycles) ∧ (ok_23 x.Shifts) ∧ True
def zD7 (x : zm) : Prop := (OkI .i64 x.ID) ∧ (OkI .i64 x.Depth) ∧ True
def ok_26 (l : List zm) : Prop := l.length ≤ 9223372036854775807 ∧ ∀ a ∈ l, (zD7 a)
def zCa (x : zD) : Prop := (OkI .i64 x.Lo) ∧ (OkI .i64 x.Hi) ∧ True
def ok_27 (l : List zD) : Prop := l.length ≤ 9223372036854775807 ∧ ∀ a ∈ l, (zCa a)
def zAz (x : zL) : Prop := (zBs x.Water) ∧ (ok_26 x.Berths) ∧ (ok_27 x.Tides) ∧ (OkI .i64 x.Keel) ∧ True
def zFG (x : zN) : Prop := (OkI .i64 x.ID) ∧ (OkI .i64 x.Draught) ∧ (OkI .i64 x.From) ∧ (OkI .i64 x.To) ∧ (OkI .i64 x.Long) ∧ True
def ok_30 (l : List zN) : Prop := l.length ≤ 9223372036854775807 ∧ ∀ a ∈ l, (zFG a)
def zFF (x : zF) : Prop := (OkI .i64 x.Tide) ∧ (OkI .i64 x.Berth) ∧ True
def zCZ (x : zP) : Prop := (OkI .i64 x.Call) ∧ (zFF x.Slot) ∧ (zCa x.Span) ∧ True
def ok_75 (l : List zP) : Prop := l.length ≤ 9223372036854775807 ∧ ∀ a ∈ l, (zCZ a)
end Go.Mx
