/- TideProofsHold: closed facts of the program and of the statement. Conditions: none. Printed by a program (wip/tools/fctsplit.py). -/
import Derived.Test.YtphmekpaalfliaaRows
import Derived.WalkKit
import Derived.ProofKit
import Derived.OpenShut
import Derived.ChangeOld
import Derived.Below
set_option linter.unusedVariables false
namespace Go.Proofs.Ytphmekpaalfliaa.TideProofsHold
open Go Go.ChangeShapes Go.WideShapes Go.ChangeAt Go.RowKit
theorem named : Try.pinned.checked.prog.funcNamed Rows.tideProofsHoldRow.func = some 13 := by kernel_rfl
theorem closed : joinedFacts Try.pinned.checked.prog 13 Try.f13 Rows.tideProofsHoldSpec Rows.tideProofsHoldRow = true := by kernel_rfl
theorem inst : Try.f13.isInstance Try.pinned.checked.prog Rows.tideProofsHoldRow.origin Rows.tideProofsHoldRow.targs := of_decide_eq_true (by kernel_rfl)
theorem wrap : Try.f13.isWrapper Try.pinned.checked.prog Rows.tideProofsHoldRow.wrapper Rows.tideProofsHoldRow.mainSum := by unfold Func.isWrapper; rw [if_neg (of_decide_eq_false (by kernel_rfl))]; exact ⟨rfl, rfl⟩
end Go.Proofs.Ytphmekpaalfliaa.TideProofsHold
