/- ArbiterWorldsAreLawful: closed facts of the program and of the statement. Conditions: none. Printed by a program (wip/tools/lawgen.py). -/
import Derived.Test.YtfoafeaplgmhmaaGreatRows
import Derived.WalkKit
import Derived.ProofKit
import Derived.OpenShut
import Derived.ChangeOld
import Derived.Below
set_option linter.unusedVariables false
namespace Go.Proofs.YtfoafeaplgmhmaaGreat.ArbiterWorldsAreLawful
open Go Go.ChangeShapes Go.WideShapes Go.ChangeAt Go.RowKit
theorem named : Tryz.pinned.checked.prog.funcNamed Rows.arbiterWorldsAreLawfulRow.func = some 4 := by kernel_rfl
theorem closed : joinedFacts Tryz.pinned.checked.prog 4 Tryz.f4 Rows.arbiterWorldsAreLawfulSpec Rows.arbiterWorldsAreLawfulRow = true := by kernel_rfl
theorem inst : Tryz.f4.isInstance Tryz.pinned.checked.prog Rows.arbiterWorldsAreLawfulRow.origin Rows.arbiterWorldsAreLawfulRow.targs := of_decide_eq_true (by kernel_rfl)
theorem wrap : Tryz.f4.isWrapper Tryz.pinned.checked.prog Rows.arbiterWorldsAreLawfulRow.wrapper Rows.arbiterWorldsAreLawfulRow.mainSum := by unfold Func.isWrapper; rw [if_neg (of_decide_eq_false (by kernel_rfl))]; exact ⟨rfl, rfl⟩
end Go.Proofs.YtfoafeaplgmhmaaGreat.ArbiterWorldsAreLawful
