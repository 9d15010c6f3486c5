/- BerthLent: closed facts of the program and of the statement. Conditions: none. Printed by a program (wip/tools/lawgen.py). -/
import Derived.Test.YthfnbjoecocfaaaRows
import Derived.WalkKit
import Derived.ProofKit
import Derived.OpenShut
import Derived.ChangeOld
import Derived.Below
set_option linter.unusedVariables false
namespace Go.Proofs.Ythfnbjoecocfaaa.BerthLent
open Go Go.ChangeShapes Go.WideShapes Go.ChangeAt Go.RowKit
theorem named : Try.pinned.checked.prog.funcNamed Rows.berthLentRow.func = some 11 := by kernel_rfl
theorem closed : joinedFacts Try.pinned.checked.prog 11 Try.f11 Rows.berthLentSpec Rows.berthLentRow = true := by kernel_rfl
theorem inst : Try.f11.isInstance Try.pinned.checked.prog Rows.berthLentRow.origin Rows.berthLentRow.targs := of_decide_eq_true (by kernel_rfl)
theorem wrap : Try.f11.isWrapper Try.pinned.checked.prog Rows.berthLentRow.wrapper Rows.berthLentRow.mainSum := by unfold Func.isWrapper; rw [if_neg (of_decide_eq_false (by kernel_rfl))]; exact ⟨rfl, rfl⟩
end Go.Proofs.Ythfnbjoecocfaaa.BerthLent
