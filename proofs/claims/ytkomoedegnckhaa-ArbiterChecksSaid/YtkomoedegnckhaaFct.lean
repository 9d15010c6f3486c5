/- ArbiterChecks: closed facts of the program and of the statement. Conditions: none. Printed by a program (wip/tools/lawgen.py). -/
import Derived.Test.YtkomoedegnckhaaRows
import Derived.WalkKit
import Derived.ProofKit
import Derived.OpenShut
import Derived.ChangeOld
import Derived.Below
set_option linter.unusedVariables false
namespace Go.Proofs.Ytkomoedegnckhaa.ArbiterChecks
open Go Go.ChangeShapes Go.WideShapes Go.ChangeAt Go.RowKit
theorem named : Try.pinned.checked.prog.funcNamed Rows.arbiterChecksRow.func = some 9 := by kernel_rfl
theorem closed : joinedFacts Try.pinned.checked.prog 9 Try.f9 Rows.arbiterChecksSpec Rows.arbiterChecksRow = true := by kernel_rfl
theorem inst : Try.f9.isInstance Try.pinned.checked.prog Rows.arbiterChecksRow.origin Rows.arbiterChecksRow.targs := of_decide_eq_true (by kernel_rfl)
theorem wrap : Try.f9.isWrapper Try.pinned.checked.prog Rows.arbiterChecksRow.wrapper Rows.arbiterChecksRow.mainSum := by unfold Func.isWrapper; rw [if_neg (of_decide_eq_false (by kernel_rfl))]; exact ⟨rfl, rfl⟩
end Go.Proofs.Ytkomoedegnckhaa.ArbiterChecks
