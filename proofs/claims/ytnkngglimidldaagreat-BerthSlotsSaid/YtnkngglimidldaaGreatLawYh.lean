/- Plain laws, berths: costs, the best places, the plan. Conditions: none. -/
import Derived.Test.YtnkngglimidldaaGreatLawYg
set_option linter.unusedVariables false
set_option linter.unusedSimpArgs false
namespace Go.Mx
structure BOK (b : berth_board) : Prop where
 nc : b.calls.length ≤ 10
 ns : b.slots.length ≤ 100
 lc : b.can.length = b.calls.length
 lo : b.old.length = b.calls.length
def canB (b : berth_board) (i k : Nat) : Bool := (lookM (b.slots.getD k default) (b.can.getD i [])).isSome
def costF (b : berth_board) (i k : Nat) : Int := if k = b.slots.length + i then 0 else if k < b.slots.length ∧ canB b i k = true then (if gI b.old i = (k : Int) then -1001 else -1000) else 1073741824
theorem getD_lt {α : Type} {l : List α} {i : Nat} (h : i < l.length) (d : α) : l.getD i d = l[i] := by simp [List.getD_eq_getElem?_getD, h]
theorem ix_getD {α : Type} {l : List α} {i : Nat} (h : i < l.length) (d : α) : ix l (i : Int) = some (l.getD i d) := by rw [ix_lt h, getD_lt h]
def fixK (b : berth_board) (fixed : List Int) (i : Nat) : Int := if gI fixed i < 0 then ((b.slots.length + i : Nat) : Int) else gI fixed i
def rowF (b : berth_board) (fixed : List Int) (i k : Nat) : Int := if i < fixed.length ∧ (k : Int) ≠ fixK b fixed i then 1073741824 else costF b i k
def totB (b : berth_board) (fixed : List Int) (s : Nat → Nat) : Int := ((List.range b.calls.length).map fun r => rowF b fixed r (s r)).sum
abbrev AsgB (b : berth_board) (s : Nat → Nat) : Prop := Asg b.calls.length (b.slots.length + b.calls.length) s
structure Best (b : berth_board) (fixed : List Int) (out : List Int) (sum : Int) : Prop where
 l : out.length = b.calls.length
 nn : ∀ r, r < b.calls.length → 0 ≤ gI out r
 a : AsgB b (fun r => (gI out r).toNat)
 e : sum = totB b fixed (fun r => (gI out r).toNat)
 m : ∀ s, AsgB b s → sum ≤ totB b fixed s
def OkB (b : berth_board) (s : Nat → Nat) : Prop := ∀ r, r < b.calls.length → s r = b.slots.length + r ∨ (s r < b.slots.length ∧ canB b r (s r) = true)
def FixOK (b : berth_board) (fixed : List Int) (s : Nat → Nat) : Prop := ∀ r, r < fixed.length → (s r : Int) = fixK b fixed r
end Go.Mx
