/- TidePeaks: closed facts of the program and of the statement. Conditions: none. Printed by a program (wip/tools/fctsplit.py). -/
import Derived.Test.YtphmekpaalfliaaRows
import Derived.WalkKit
import Derived.ProofKit
import Derived.OpenShut
import Derived.ChangeOld
import Derived.Below
set_option linter.unusedVariables false
namespace Go.Proofs.Ytphmekpaalfliaa.TidePeaks
open Go Go.ChangeShapes Go.WideShapes Go.ChangeAt Go.RowKit
theorem named : Try.pinned.checked.prog.funcNamed Rows.tidePeaksRow.func = some 7 := by kernel_rfl
theorem closed : joinedFacts Try.pinned.checked.prog 7 Try.f7 Rows.tidePeaksSpec Rows.tidePeaksRow = true := by kernel_rfl
theorem inst : Try.f7.isInstance Try.pinned.checked.prog Rows.tidePeaksRow.origin Rows.tidePeaksRow.targs := of_decide_eq_true (by kernel_rfl)
theorem wrap : Try.f7.isWrapper Try.pinned.checked.prog Rows.tidePeaksRow.wrapper Rows.tidePeaksRow.mainSum := by unfold Func.isWrapper; rw [if_neg (of_decide_eq_false (by kernel_rfl))]; exact ⟨rfl, rfl⟩
end Go.Proofs.Ytphmekpaalfliaa.TidePeaks
