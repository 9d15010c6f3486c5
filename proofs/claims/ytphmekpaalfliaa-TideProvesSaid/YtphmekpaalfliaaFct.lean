/- TideProves: closed facts of the program and of the statement. Conditions: none. Printed by a program (wip/tools/fctsplit.py). -/
import Derived.Test.YtphmekpaalfliaaRows
import Derived.WalkKit
import Derived.ProofKit
import Derived.OpenShut
import Derived.ChangeOld
import Derived.Below
set_option linter.unusedVariables false
namespace Go.Proofs.Ytphmekpaalfliaa.TideProves
open Go Go.ChangeShapes Go.WideShapes Go.ChangeAt Go.RowKit
theorem named : Try.pinned.checked.prog.funcNamed Rows.tideProvesRow.func = some 14 := by kernel_rfl
theorem closed : joinedFacts Try.pinned.checked.prog 14 Try.f14 Rows.tideProvesSpec Rows.tideProvesRow = true := by kernel_rfl
theorem inst : Try.f14.isInstance Try.pinned.checked.prog Rows.tideProvesRow.origin Rows.tideProvesRow.targs := of_decide_eq_true (by kernel_rfl)
theorem wrap : Try.f14.isWrapper Try.pinned.checked.prog Rows.tideProvesRow.wrapper Rows.tideProvesRow.mainSum := by unfold Func.isWrapper; rw [if_neg (of_decide_eq_false (by kernel_rfl))]; exact ⟨rfl, rfl⟩
end Go.Proofs.Ytphmekpaalfliaa.TideProves
