/- TideHighAndLow: closed facts of the program and of the statement. Conditions: none. Printed by a program (wip/tools/fctsplit.py). -/
import Derived.Test.YtphmekpaalfliaaRows
import Derived.WalkKit
import Derived.ProofKit
import Derived.OpenShut
import Derived.ChangeOld
import Derived.Below
set_option linter.unusedVariables false
namespace Go.Proofs.Ytphmekpaalfliaa.TideHighAndLow
open Go Go.ChangeShapes Go.WideShapes Go.ChangeAt Go.RowKit
theorem named : Try.pinned.checked.prog.funcNamed Rows.tideHighAndLowRow.func = some 8 := by kernel_rfl
theorem closed : joinedFacts Try.pinned.checked.prog 8 Try.f8 Rows.tideHighAndLowSpec Rows.tideHighAndLowRow = true := by kernel_rfl
theorem inst : Try.f8.isInstance Try.pinned.checked.prog Rows.tideHighAndLowRow.origin Rows.tideHighAndLowRow.targs := of_decide_eq_true (by kernel_rfl)
theorem wrap : Try.f8.isWrapper Try.pinned.checked.prog Rows.tideHighAndLowRow.wrapper Rows.tideHighAndLowRow.mainSum := by unfold Func.isWrapper; rw [if_neg (of_decide_eq_false (by kernel_rfl))]; exact ⟨rfl, rfl⟩
end Go.Proofs.Ytphmekpaalfliaa.TideHighAndLow
