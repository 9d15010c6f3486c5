/- ArbiterOnce: closed facts of the program and of the statement. Conditions: none. Printed by a program (wip/tools/lawgen.py). -/
import Derived.Test.YtkomoedegnckhaaRows
import Derived.WalkKit
import Derived.ProofKit
import Derived.OpenShut
import Derived.ChangeOld
import Derived.Below
set_option linter.unusedVariables false
namespace Go.Proofs.Ytkomoedegnckhaa.ArbiterOnce
open Go Go.ChangeShapes Go.WideShapes Go.ChangeAt Go.RowKit
theorem named : Try.pinned.checked.prog.funcNamed Rows.arbiterOnceRow.func = some 5 := by kernel_rfl
theorem closed : joinedFacts Try.pinned.checked.prog 5 Try.f5 Rows.arbiterOnceSpec Rows.arbiterOnceRow = true := by kernel_rfl
theorem inst : Try.f5.isInstance Try.pinned.checked.prog Rows.arbiterOnceRow.origin Rows.arbiterOnceRow.targs := of_decide_eq_true (by kernel_rfl)
theorem wrap : Try.f5.isWrapper Try.pinned.checked.prog Rows.arbiterOnceRow.wrapper Rows.arbiterOnceRow.mainSum := by unfold Func.isWrapper; rw [if_neg (of_decide_eq_false (by kernel_rfl))]; exact ⟨rfl, rfl⟩
end Go.Proofs.Ytkomoedegnckhaa.ArbiterOnce
