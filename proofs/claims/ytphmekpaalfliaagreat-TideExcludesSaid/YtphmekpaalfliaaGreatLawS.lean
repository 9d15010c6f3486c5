/- Plain laws of water, fifth part: spans, stands, peaks, turns. Conditions: none. -/
import Derived.Test.YtphmekpaalfliaaGreatLawW
set_option linter.unusedVariables false
namespace Go.Mx

/-- How many minutes are left. -/
def left (hi t : Int) : Nat := (hi + 1 - t).toNat
/-- What was asked may be answered. -/
structure Ask (w : api_Water) (s : api_Span) : Prop where
  g : GoodW w
  l0 : 0 ≤ s.Lo
  l1 : s.Lo ≤ s.Hi
  l2 : s.Hi ≤ 1048576
  l3 : s.Hi - s.Lo < 10080
theorem app_one {α : Type} {l : List α} {x : α} (h : l.length ≤ 1000000) : app l [x] = some (l ++ [x]) := by
  unfold app
  rw [if_pos (by simp; omega)]
end Go.Mx
