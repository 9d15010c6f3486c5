/- What is left of an own slice from a place on (a queue). Conditions: none. -/
import Derived.Test.YtfoafeaplgmhmaaOwn
set_option linter.unusedVariables false
set_option linter.unusedSimpArgs false
namespace Go.Am
open Go Go.Wk Go.RowKit Go.Mx
namespace X
section
variable {C:Cfg} {K:List (Nat×V)} {H:List Blk} {lo nid:Nat}
end
end X
end Go.Am
namespace Go.Am
open Go Go.Wk Go.RowKit Go.Mx
namespace X
end X
end Go.Am
namespace Go.Am
open Go Go.Wk Go.RowKit Go.Mx
namespace X
end X
end Go.Am
namespace Go.Am
open Go Go.Wk Go.RowKit Go.Mx
namespace X
end X
end Go.Am
namespace Go.Am
open Go Go.Wk Go.RowKit Go.Mx
namespace X
theorem hput_end : ∀ (H:List Blk) (B:Blk),hput H H.length B=H++[B]
  | [],B=>rfl
  | x :: r,B=>by simp only [List.length_cons,hput,hput_end r B,List.cons_append]
end X
end Go.Am
