/- What is left of an own slice from a place on (a queue). Conditions: none. -/
import Derived.Test.YthfnbjoecocfaaaOwn
set_option linter.unusedVariables false
set_option linter.unusedSimpArgs false
namespace Go.Am
open Go Go.Wk Go.RowKit Go.Mx
namespace X
section
variable {C : Cfg} {K : List (Nat × V)} {H : List Blk} {lo nid : Nat}
end
end X
end Go.Am

/-! ### An own slice in a box is frozen -/

namespace Go.Am
open Go Go.Wk Go.RowKit Go.Mx
namespace X
end X
end Go.Am

namespace Go.Am
open Go Go.Wk Go.RowKit Go.Mx
namespace X
end X
end Go.Am

/-! ### Elements are cut out of an own slice in place; what is left is frozen -/

namespace Go.Am
open Go Go.Wk Go.RowKit Go.Mx
namespace X
end X
end Go.Am

/-! ### A slice is appended to the nil slice; the greatest of three -/

namespace Go.Am
open Go Go.Wk Go.RowKit Go.Mx
namespace X
theorem hput_end : ∀ (H : List Blk) (B : Blk), hput H H.length B = H ++ [B]
  | [], B => rfl
  | x :: r, B => by simp only [List.length_cons, hput, hput_end r B, List.cons_append]
end X
/-! What is not looked at of a result is forgotten. -/
end Go.Am
