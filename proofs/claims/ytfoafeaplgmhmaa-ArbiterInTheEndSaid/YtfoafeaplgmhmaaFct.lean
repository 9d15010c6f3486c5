/- ArbiterInTheEnd: closed facts of the program and of the statement. Conditions: none. Printed by a program (wip/tools/lawgen.py). -/
import Derived.Test.YtfoafeaplgmhmaaRows
import Derived.WalkKit
import Derived.ProofKit
import Derived.OpenShut
import Derived.ChangeOld
import Derived.Below
set_option linter.unusedVariables false
namespace Go.Proofs.Ytfoafeaplgmhmaa.ArbiterInTheEnd
open Go Go.ChangeShapes Go.WideShapes Go.ChangeAt Go.RowKit
theorem named : Try.pinned.checked.prog.funcNamed Rows.arbiterInTheEndRow.func = some 3 := by kernel_rfl
theorem closed : joinedFacts Try.pinned.checked.prog 3 Try.f3 Rows.arbiterInTheEndSpec Rows.arbiterInTheEndRow = true := by kernel_rfl
theorem inst : Try.f3.isInstance Try.pinned.checked.prog Rows.arbiterInTheEndRow.origin Rows.arbiterInTheEndRow.targs := of_decide_eq_true (by kernel_rfl)
theorem wrap : Try.f3.isWrapper Try.pinned.checked.prog Rows.arbiterInTheEndRow.wrapper Rows.arbiterInTheEndRow.mainSum := by unfold Func.isWrapper; rw [if_neg (of_decide_eq_false (by kernel_rfl))]; exact ⟨rfl, rfl⟩
end Go.Proofs.Ytfoafeaplgmhmaa.ArbiterInTheEnd
