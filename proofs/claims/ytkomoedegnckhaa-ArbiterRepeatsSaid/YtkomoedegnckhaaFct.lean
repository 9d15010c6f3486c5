/- ArbiterRepeats: closed facts of the program and of the statement. Conditions: none. Printed by a program (wip/tools/lawgen.py). -/
import Derived.Test.YtkomoedegnckhaaRows
import Derived.WalkKit
import Derived.ProofKit
import Derived.OpenShut
import Derived.ChangeOld
import Derived.Below
set_option linter.unusedVariables false
namespace Go.Proofs.Ytkomoedegnckhaa.ArbiterRepeats
open Go Go.ChangeShapes Go.WideShapes Go.ChangeAt Go.RowKit
theorem named : Try.pinned.checked.prog.funcNamed Rows.arbiterRepeatsRow.func = some 7 := by kernel_rfl
theorem closed : joinedFacts Try.pinned.checked.prog 7 Try.f7 Rows.arbiterRepeatsSpec Rows.arbiterRepeatsRow = true := by kernel_rfl
theorem inst : Try.f7.isInstance Try.pinned.checked.prog Rows.arbiterRepeatsRow.origin Rows.arbiterRepeatsRow.targs := of_decide_eq_true (by kernel_rfl)
theorem wrap : Try.f7.isWrapper Try.pinned.checked.prog Rows.arbiterRepeatsRow.wrapper Rows.arbiterRepeatsRow.mainSum := by unfold Func.isWrapper; rw [if_neg (of_decide_eq_false (by kernel_rfl))]; exact ⟨rfl, rfl⟩
end Go.Proofs.Ytkomoedegnckhaa.ArbiterRepeats
