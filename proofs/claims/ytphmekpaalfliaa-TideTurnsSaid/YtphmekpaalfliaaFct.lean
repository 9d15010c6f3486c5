/- TideTurns: closed facts of the program and of the statement. Conditions: none. Printed by a program (wip/tools/fctsplit.py). -/
import Derived.Test.YtphmekpaalfliaaRows
import Derived.WalkKit
import Derived.ProofKit
import Derived.OpenShut
import Derived.ChangeOld
import Derived.Below
set_option linter.unusedVariables false
namespace Go.Proofs.Ytphmekpaalfliaa.TideTurns
open Go Go.ChangeShapes Go.WideShapes Go.ChangeAt Go.RowKit
theorem named : Try.pinned.checked.prog.funcNamed Rows.tideTurnsRow.func = some 9 := by kernel_rfl
theorem closed : joinedFacts Try.pinned.checked.prog 9 Try.f9 Rows.tideTurnsSpec Rows.tideTurnsRow = true := by kernel_rfl
theorem inst : Try.f9.isInstance Try.pinned.checked.prog Rows.tideTurnsRow.origin Rows.tideTurnsRow.targs := of_decide_eq_true (by kernel_rfl)
theorem wrap : Try.f9.isWrapper Try.pinned.checked.prog Rows.tideTurnsRow.wrapper Rows.tideTurnsRow.mainSum := by unfold Func.isWrapper; rw [if_neg (of_decide_eq_false (by kernel_rfl))]; exact ⟨rfl, rfl⟩
end Go.Proofs.Ytphmekpaalfliaa.TideTurns
