/- HullOrdered: closed facts of the program and of the statement. Conditions: none. Printed by a program (wip/tools/lawgen.py). -/
import Derived.Test.YthfnbjoecocfaaaRows
import Derived.WalkKit
import Derived.ProofKit
import Derived.OpenShut
import Derived.ChangeOld
import Derived.Below
set_option linter.unusedVariables false
namespace Go.Proofs.Ythfnbjoecocfaaa.HullOrdered
open Go Go.ChangeShapes Go.WideShapes Go.ChangeAt Go.RowKit
theorem named : Try.pinned.checked.prog.funcNamed Rows.hullOrderedRow.func = some 12 := by kernel_rfl
theorem closed : joinedFacts Try.pinned.checked.prog 12 Try.f12 Rows.hullOrderedSpec Rows.hullOrderedRow = true := by kernel_rfl
theorem inst : Try.f12.isInstance Try.pinned.checked.prog Rows.hullOrderedRow.origin Rows.hullOrderedRow.targs := of_decide_eq_true (by kernel_rfl)
theorem wrap : Try.f12.isWrapper Try.pinned.checked.prog Rows.hullOrderedRow.wrapper Rows.hullOrderedRow.mainSum := by unfold Func.isWrapper; rw [if_neg (of_decide_eq_false (by kernel_rfl))]; exact ⟨rfl, rfl⟩
end Go.Proofs.Ythfnbjoecocfaaa.HullOrdered
