/- Contracts, and the rules by which a walk over terms goes on. Conditions: none. -/
import Derived.Test.YtphmekpaalfliaaRun
set_option linter.unusedVariables false
set_option linter.unusedSimpArgs false
namespace Go.Am
open Go Go.Wk Go.RowKit

/-- A call over frozen arguments hands back this. -/
def Ct (P : Program) (f : Nat) (args : List V) (v : V) : Prop := ExtOK P f args v ∧ ∀ (args : Array Value) (w : World), (callFunc f args).run P w = .ok (.enter f args) w

/-- What is asked of a body. -/
def Told (C : Cfg) (fn : Func) (v : V) : Ex → St → Prop := fun e s => ∃ v0, finA C fn e s = some v0 ∧ FrzTo s v0 v

end Go.Am
