/- Rules for walks that a program prints: whether a frozen slice is nil. Conditions: none. -/
import Derived.Test.YtbmojhkipnnmlaaGreatX
set_option linter.unusedVariables false
set_option linter.unusedSimpArgs false
namespace Go.Am
open Go Go.Wk Go.RowKit Go.Mx
section
variable {C : Cfg} {N : Nat} {all os : List Oper} {o : Oper} {k : List It} {s : St} {Q : Ex → St → Prop}
end
namespace X
section
variable {C : Cfg} {N : Nat} {all os : List Oper} {k : List It} {K : List (Nat × V)} {H : List Blk} {lo n : Nat} {rnd : Option Nat} {Q : Ex → St → Prop} {d : Nat} {ty : TypeId} {pos : String} {after : Array Edge} {g : Option (Nat × Bool)}
end
end X
def pickL (all : List Oper) : List Nat → List Oper
 | [] => []
 | i :: r => match get all i with
  | some o => o :: pickL all r
  | none => pickL all r
section
variable {all : List Oper}
end
section
variable {F : Fence} {n : Nat} {P : Program} {Q : Exit → Act → World → Prop}
theorem wpOps_pick (all : List Oper) : ∀ l : List Nat, wpOpsIn F n P all.toArray Q l = wpListIn F n P all.toArray Q (pickL all l)
 | [] => by funext a w; simp [wpOpsIn, wpListIn, pickL]
 | i :: r => by
  funext a w
  have ih := wpOps_pick all r
  simp only [wpOpsIn, pickL, get_eq, List.getElem?_toArray]
  cases hi : all[i]? with
  | none => simp only [ih]
  | some o => simp only [ih, wpListIn]
end
namespace X
theorem all_nil {p : List Nat → Prop} : ∀ x ∈ ([] : List (List Nat)), p x := fun x h => by cases h
theorem all_cons {p : List Nat → Prop} {a : List Nat} {l : List (List Nat)} (h : p a) (h2 : ∀ x ∈ l, p x) : ∀ x ∈ a :: l, p x := fun x hx => by
 rcases List.mem_cons.1 hx with rfl | hx
 ·exact h
 ·exact h2 x hx
end X
namespace X
section
variable {C : Cfg} {K : List (Nat × V)} {H : List Blk} {lo nid : Nat}
end
end X
namespace X
end X
end Go.Am
