/- Own results of calls over own slices; frozen maps. Conditions: none. -/
import Derived.Test.YtkomoedegnckhaaQu
set_option linter.unusedVariables false
set_option linter.unusedSimpArgs false
namespace Go.Am
open Go Go.Wk Go.RowKit Go.Mx
section
variable {C : Cfg} {E : Env} {s : St} {I : Ij} {m : Mem} {a : Act} {w : World}
end
namespace X
section
variable {C : Cfg} {N : Nat} {k : List It} {K : List (Nat × V)} {H : List Blk} {lo n d i : Nat} {rnd : Option Nat} {Q : Ex → St → Prop} {all os : List Oper} {p : Op} {ty : TypeId} {pos : String} {after : Array Edge} {g : Option (Nat × Bool)}
end
section
variable {C : Cfg} {K : List (Nat × V)} {H : List Blk} {lo nid : Nat}
theorem frMap {α β γ : Type} {f : α → V} {g : β → V} {pa : γ → α} {pb : γ → β} {l : List γ} {id : Nat} (nn : Nat) (hl : Nat.ble lo id = true) (hH : hget H id = .map (l.map fun p => f (pa p)) (l.map fun p => g (pb p))) (hf : ∀ x, frz H lo nn (f x) = some (f x)) (hg : ∀ x, frz H lo nn (g x) = some (g x)) : FR H lo (.map id) (.fmap (l.map fun p => f (pa p)) (l.map fun p => g (pb p))) := by
 have hl' : ¬ id < lo := by have := Nat.le_of_ble_eq_true hl; omega
 refine ⟨nn + 1, ?_⟩
 have e1 : mapO (frz H lo nn) (l.map fun p => f (pa p)) = some (l.map fun p => f (pa p)) := mapO_self (f := fun p => f (pa p)) (fun p => hf (pa p)) l
 have e2 : mapO (frz H lo nn) (l.map fun p => g (pb p)) = some (l.map fun p => g (pb p)) := mapO_self (f := fun p => g (pb p)) (fun p => hg (pb p)) l
 simp only [frz, hl', if_false, hH, e1, e2]
end
end X
end Go.Am
