/- TideLevelsHold: closed facts of the program and of the statement. Conditions: none. Printed by a program (wip/tools/lawgen.py). -/
import Derived.Test.YtphmekpaalfliaaRows
import Derived.WalkKit
import Derived.ProofKit
import Derived.OpenShut
import Derived.ChangeOld
import Derived.Below
set_option linter.unusedVariables false
namespace Go.Proofs.Ytphmekpaalfliaa.TideLevelsHold
open Go Go.ChangeShapes Go.WideShapes Go.ChangeAt Go.RowKit
theorem named : Try.pinned.checked.prog.funcNamed Rows.tideLevelsHoldRow.func = some 17 := by kernel_rfl
theorem closed : joinedFacts Try.pinned.checked.prog 17 Try.f17 Rows.tideLevelsHoldSpec Rows.tideLevelsHoldRow = true := by kernel_rfl
theorem inst : Try.f17.isInstance Try.pinned.checked.prog Rows.tideLevelsHoldRow.origin Rows.tideLevelsHoldRow.targs := of_decide_eq_true (by kernel_rfl)
theorem wrap : Try.f17.isWrapper Try.pinned.checked.prog Rows.tideLevelsHoldRow.wrapper Rows.tideLevelsHoldRow.mainSum := by unfold Func.isWrapper; rw [if_neg (of_decide_eq_false (by kernel_rfl))]; exact ⟨rfl, rfl⟩
end Go.Proofs.Ytphmekpaalfliaa.TideLevelsHold
