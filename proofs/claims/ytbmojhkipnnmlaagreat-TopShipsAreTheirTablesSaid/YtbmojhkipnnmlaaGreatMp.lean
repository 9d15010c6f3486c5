/- Own results of calls over own slices; frozen maps. Conditions: none. -/
import Derived.Test.YtbmojhkipnnmlaaGreatQu
set_option linter.unusedVariables false
set_option linter.unusedSimpArgs false
namespace Go.Am
open Go Go.Wk Go.RowKit Go.Mx
section
variable {C : Cfg} {E : Env} {s : St} {I : Ij} {m : Mem} {a : Act} {w : World}
end
namespace X
section
variable {C : Cfg} {N : Nat} {k : List It} {K : List (Nat × V)} {H : List Blk} {lo n d i : Nat} {rnd : Option Nat} {Q : Ex → St → Prop} {all os : List Oper} {p : Op} {ty : TypeId} {pos : String} {after : Array Edge} {g : Option (Nat × Bool)}
end
section
variable {C : Cfg} {K : List (Nat × V)} {H : List Blk} {lo nid : Nat}
end
end X
end Go.Am
