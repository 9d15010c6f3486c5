/- TideSame: closed facts of the program and of the statement. Conditions: none. Printed by a program (wip/tools/fctsplit.py). -/
import Derived.Test.YtphmekpaalfliaaRows
import Derived.WalkKit
import Derived.ProofKit
import Derived.OpenShut
import Derived.ChangeOld
import Derived.Below
set_option linter.unusedVariables false
namespace Go.Proofs.Ytphmekpaalfliaa.TideSame
open Go Go.ChangeShapes Go.WideShapes Go.ChangeAt Go.RowKit
theorem named : Try.pinned.checked.prog.funcNamed Rows.tideSameRow.func = some 11 := by kernel_rfl
theorem closed : joinedFacts Try.pinned.checked.prog 11 Try.f11 Rows.tideSameSpec Rows.tideSameRow = true := by kernel_rfl
theorem inst : Try.f11.isInstance Try.pinned.checked.prog Rows.tideSameRow.origin Rows.tideSameRow.targs := of_decide_eq_true (by kernel_rfl)
theorem wrap : Try.f11.isWrapper Try.pinned.checked.prog Rows.tideSameRow.wrapper Rows.tideSameRow.mainSum := by unfold Func.isWrapper; rw [if_neg (of_decide_eq_false (by kernel_rfl))]; exact ⟨rfl, rfl⟩
end Go.Proofs.Ytphmekpaalfliaa.TideSame
