/- HullSteady: closed facts of the program and of the statement. Conditions: none. Printed by a program (wip/tools/lawgen.py). -/
import Derived.Test.YthfnbjoecocfaaaGreatRows
import Derived.WalkKit
import Derived.ProofKit
import Derived.OpenShut
import Derived.ChangeOld
import Derived.Below
set_option linter.unusedVariables false
namespace Go.Proofs.YthfnbjoecocfaaaGreat.HullSteady
open Go Go.ChangeShapes Go.WideShapes Go.ChangeAt Go.RowKit
theorem named : Tryz.pinned.checked.prog.funcNamed Rows.hullSteadyRow.func = some 6 := by kernel_rfl
theorem closed : joinedFacts Tryz.pinned.checked.prog 6 Tryz.f6 Rows.hullSteadySpec Rows.hullSteadyRow = true := by kernel_rfl
theorem inst : Tryz.f6.isInstance Tryz.pinned.checked.prog Rows.hullSteadyRow.origin Rows.hullSteadyRow.targs := of_decide_eq_true (by kernel_rfl)
theorem wrap : Tryz.f6.isWrapper Tryz.pinned.checked.prog Rows.hullSteadyRow.wrapper Rows.hullSteadyRow.mainSum := by unfold Func.isWrapper; rw [if_neg (of_decide_eq_false (by kernel_rfl))]; exact ⟨rfl, rfl⟩
end Go.Proofs.YthfnbjoecocfaaaGreat.HullSteady
