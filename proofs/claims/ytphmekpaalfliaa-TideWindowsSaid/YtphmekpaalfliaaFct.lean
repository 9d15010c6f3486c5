/- TideWindows: closed facts of the program and of the statement. Conditions: none. Printed by a program (wip/tools/fctsplit.py). -/
import Derived.Test.YtphmekpaalfliaaRows
import Derived.WalkKit
import Derived.ProofKit
import Derived.OpenShut
import Derived.ChangeOld
import Derived.Below
set_option linter.unusedVariables false
namespace Go.Proofs.Ytphmekpaalfliaa.TideWindows
open Go Go.ChangeShapes Go.WideShapes Go.ChangeAt Go.RowKit
theorem named : Try.pinned.checked.prog.funcNamed Rows.tideWindowsRow.func = some 12 := by kernel_rfl
theorem closed : joinedFacts Try.pinned.checked.prog 12 Try.f12 Rows.tideWindowsSpec Rows.tideWindowsRow = true := by kernel_rfl
theorem inst : Try.f12.isInstance Try.pinned.checked.prog Rows.tideWindowsRow.origin Rows.tideWindowsRow.targs := of_decide_eq_true (by kernel_rfl)
theorem wrap : Try.f12.isWrapper Try.pinned.checked.prog Rows.tideWindowsRow.wrapper Rows.tideWindowsRow.mainSum := by unfold Func.isWrapper; rw [if_neg (of_decide_eq_false (by kernel_rfl))]; exact ⟨rfl, rfl⟩
end Go.Proofs.Ytphmekpaalfliaa.TideWindows
