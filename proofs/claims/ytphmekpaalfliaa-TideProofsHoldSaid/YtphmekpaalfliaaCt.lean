/- Contracts, and the rules by which a walk over terms goes on. Conditions: none. -/
import Derived.Test.YtphmekpaalfliaaRun
set_option linter.unusedVariables false
set_option linter.unusedSimpArgs false
namespace Go.Am
open Go Go.Wk Go.RowKit

/-- A call over frozen arguments hands back this. -/
def Ct (P : Program) (f : Nat) (args : List V) (v : V) : Prop := ExtOK P f args v ∧ ∀ (args : Array Value) (w : World), (callFunc f args).run P w = .ok (.enter f args) w

/-- What is asked of a body. -/
def Told (C : Cfg) (fn : Func) (v : V) : Ex → St → Prop := fun e s => ∃ v0, finA C fn e s = some v0 ∧ FrzTo s v0 v

theorem ct_of_gm {C : Cfg} (hC : C.OK) {f : Nat} {args : List V} {v : V} {c : Code} {fn : Func} (hb : bodyOf C f args.length = some (c, fn)) (h : Gm C [.code c] (St.call fn args [] 0) (Told C fn v)) : Ct C.P f args v := by
  refine ⟨fun m w us hm hr => ?_, (bodyOf_spec hC hb).2.2.2⟩
  have h2 := call_sound (H' := []) (lo' := 0) (w := w) hC hb rfl (gm_sound hC h) (fun e s1 ⟨v, h, _⟩ => ⟨v, h⟩) (Sim.nil _ w hm) (Nat.zero_le _) hr
  refine h2.mono ?_
  rintro e w' ⟨u, rfl, ex, s1, v1, I1, m1, ⟨v2, q1, q2⟩, h3, h4, h5, h6, h7, h8, h9⟩
  rw [h3] at q1
  cases q1
  have hnl : ∀ id, 0 ≤ id → ¬ Live ([] : List Blk) id := fun id _ ⟨B, hB, _⟩ => by simp [Am.get] at hB
  obtain ⟨m', z1, z2, z3, z4⟩ := frz_ro (H0 := []) h9 hnl h6 h5 h8 q2 h4
  refine ⟨u, m', rfl, ⟨h6.st.os, h6.st.tape, h6.st.output, h6.st.size, fun k hk => h6.same k hk fun id f h hl => absurd hl (hnl id h)⟩, fun k o hk => z1 k o (h7 k o hk), z2, z3, z4⟩

end Go.Am
