/- TideWindowsHold: closed facts of the program and of the statement. Conditions: none. Printed by a program (wip/tools/fctsplit.py). -/
import Derived.Test.YtphmekpaalfliaaRows
import Derived.WalkKit
import Derived.ProofKit
import Derived.OpenShut
import Derived.ChangeOld
import Derived.Below
set_option linter.unusedVariables false
namespace Go.Proofs.Ytphmekpaalfliaa.TideWindowsHold
open Go Go.ChangeShapes Go.WideShapes Go.ChangeAt Go.RowKit
theorem named : Try.pinned.checked.prog.funcNamed Rows.tideWindowsHoldRow.func = some 10 := by kernel_rfl
theorem closed : joinedFacts Try.pinned.checked.prog 10 Try.f10 Rows.tideWindowsHoldSpec Rows.tideWindowsHoldRow = true := by kernel_rfl
theorem inst : Try.f10.isInstance Try.pinned.checked.prog Rows.tideWindowsHoldRow.origin Rows.tideWindowsHoldRow.targs := of_decide_eq_true (by kernel_rfl)
theorem wrap : Try.f10.isWrapper Try.pinned.checked.prog Rows.tideWindowsHoldRow.wrapper Rows.tideWindowsHoldRow.mainSum := by unfold Func.isWrapper; rw [if_neg (of_decide_eq_false (by kernel_rfl))]; exact ⟨rfl, rfl⟩
end Go.Proofs.Ytphmekpaalfliaa.TideWindowsHold
