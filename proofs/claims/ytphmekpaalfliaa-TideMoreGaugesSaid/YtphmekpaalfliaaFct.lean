/- TideMoreGauges: closed facts of the program and of the statement. Conditions: none. Printed by a program (wip/tools/fctsplit.py). -/
import Derived.Test.YtphmekpaalfliaaRows
import Derived.WalkKit
import Derived.ProofKit
import Derived.OpenShut
import Derived.ChangeOld
import Derived.Below
set_option linter.unusedVariables false
namespace Go.Proofs.Ytphmekpaalfliaa.TideMoreGauges
open Go Go.ChangeShapes Go.WideShapes Go.ChangeAt Go.RowKit
theorem named : Try.pinned.checked.prog.funcNamed Rows.tideMoreGaugesRow.func = some 5 := by kernel_rfl
theorem closed : joinedFacts Try.pinned.checked.prog 5 Try.f5 Rows.tideMoreGaugesSpec Rows.tideMoreGaugesRow = true := by kernel_rfl
theorem inst : Try.f5.isInstance Try.pinned.checked.prog Rows.tideMoreGaugesRow.origin Rows.tideMoreGaugesRow.targs := of_decide_eq_true (by kernel_rfl)
theorem wrap : Try.f5.isWrapper Try.pinned.checked.prog Rows.tideMoreGaugesRow.wrapper Rows.tideMoreGaugesRow.mainSum := by unfold Func.isWrapper; rw [if_neg (of_decide_eq_false (by kernel_rfl))]; exact ⟨rfl, rfl⟩
end Go.Proofs.Ytphmekpaalfliaa.TideMoreGauges
