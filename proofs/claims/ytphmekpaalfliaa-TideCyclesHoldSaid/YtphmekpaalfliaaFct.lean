/- TideCyclesHold: closed facts of the program and of the statement. Conditions: none. Printed by a program (wip/tools/fctsplit.py). -/
import Derived.Test.YtphmekpaalfliaaRows
import Derived.WalkKit
import Derived.ProofKit
import Derived.OpenShut
import Derived.ChangeOld
import Derived.Below
set_option linter.unusedVariables false
namespace Go.Proofs.Ytphmekpaalfliaa.TideCyclesHold
open Go Go.ChangeShapes Go.WideShapes Go.ChangeAt Go.RowKit
theorem named : Try.pinned.checked.prog.funcNamed Rows.tideCyclesHoldRow.func = some 15 := by kernel_rfl
theorem closed : joinedFacts Try.pinned.checked.prog 15 Try.f15 Rows.tideCyclesHoldSpec Rows.tideCyclesHoldRow = true := by kernel_rfl
theorem inst : Try.f15.isInstance Try.pinned.checked.prog Rows.tideCyclesHoldRow.origin Rows.tideCyclesHoldRow.targs := of_decide_eq_true (by kernel_rfl)
theorem wrap : Try.f15.isWrapper Try.pinned.checked.prog Rows.tideCyclesHoldRow.wrapper Rows.tideCyclesHoldRow.mainSum := by unfold Func.isWrapper; rw [if_neg (of_decide_eq_false (by kernel_rfl))]; exact ⟨rfl, rfl⟩
end Go.Proofs.Ytphmekpaalfliaa.TideCyclesHold
