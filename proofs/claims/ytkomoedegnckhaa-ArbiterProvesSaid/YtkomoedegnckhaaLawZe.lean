/- Plain laws, arbiters: what the program says of a letter behind letters of its case. Conditions: none. -/
import Derived.Test.YtkomoedegnckhaaLawZd
set_option linter.unusedVariables false
set_option linter.unusedSimpArgs false
namespace Go.Mx
def Seen (m : List (Int × Bool)) (P : List api_Letter) : Prop := ∀ a, (lookM a m).getD false = P.any (fun y => decide (y.From = a))
theorem Seen_nil : Seen [] [] := fun _ => rfl
theorem Seen_put {m : List (Int × Bool)} {P : List api_Letter} (h : Seen m P) (x : api_Letter) : Seen (putM posI m x.From true) (P ++ [x]) := fun a => by
 rw [lookM_put]
 by_cases e : a = x.From
 ·subst e; simp
 ·have : ¬ x.From = a := fun q => e q.symm
  rw [if_neg e, h a]; simp [this]
end Go.Mx
