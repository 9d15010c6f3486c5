/-
  No cell of these rows narrows 'for every input' (looked for: loops, veiled, ifaces, maps, wideKeys, modest, calm, conditions, laid).
  DERIVED. THE GIVEN ROWS OF THIS SEAT. 4 by the template 'for every input the law returns true; each argument reads behind the call as it read before'; 0 by the template 'total and deterministic' (their statements: YthfnbjoecocfaaaGreatTotals.lean).
  GIVEN WITH THE SEED: the statements are not yours to turn. If you find one false, say at which input.
  Laid BY PROGRAM, IN A SANDBOX (cutbox-rows.mjs): the forced cells as the released guide's own fill.sh prints them over the translation 5fa4f9b86650b1a7… (all of the seat's roots in one cut). By AI agents, Wed Nov 11 2026. No macro, syntax, notation, axiom, sorry.
-/
import Derived.Test.YthfnbjoecocfaaaGreatChecked
import GoSem.Claim
import GoSem.ClaimJoined
import GoSem.ClaimMapViews
import Derived.JoinedTies
import Derived.KernelRfl
namespace Go.Proofs.YthfnbjoecocfaaaGreat
/- THE CELL 'sum', in the pinned program and in every row, IS THE sha256 OF THE DUMP (.gsa) THAT YthfnbjoecocfaaaGreatProg.lean LOADS. Nothing in Lean hashes anything: it is a label: what it is worth is what the hold of that sum in a sandbox is worth. -/
noncomputable def Tryz.pinned : Pinned := { name := "ythfnbjoecocfaaagreat", sum := "5fa4f9b86650b1a7b401101e47903f42752bfbeb5d4f4158032adbf52c4801f7", checked := Tryz.checked }
namespace Rows
def none {H : Type} : Left H := { results := [], args := [] }

/-- 'kentledgelaw03.HullFloats': WHATEVER THE INPUT: true; the input reads as it did. -/
def hullFloatsSpec : ChangeSpec := { name := "hullFloats", fn := fun _ => fun
  | [d1, d2, d3] => { results := [.lit (.bool true)], args := [d1, d2, d3] }
  | _ => none }
def hullFloatsRow : OpenClaim := { program := "ythfnbjoecocfaaagreat", sum := "5fa4f9b86650b1a7b401101e47903f42752bfbeb5d4f4158032adbf52c4801f7", func := "kentledge/kentledgelaw03.HullFloats", spec := "hullFloats", unfollowed := true, recurses := true, plainKeys := false, apart := false }
def HullFloatsSaid : Prop := hullFloatsRow.holds Tryz.pinned (OpenSpec.ofChange hullFloatsSpec)

/-- ITS FALSE NEIGHBOUR: 'it returns false'. Refute it at one input. -/
def hullFloatsWrong : ChangeSpec := { name := "hullFloats", fn := fun _ => fun
  | [d1, d2, d3] => { results := [.lit (.bool false)], args := [d1, d2, d3] }
  | _ => none }
def HullFloatsWrongFalsely : Prop := hullFloatsRow.holds Tryz.pinned (OpenSpec.ofChange hullFloatsWrong)

/-- 'kentledgelaw03.HullOrders': WHATEVER THE INPUT: true; the input reads as it did. -/
def hullOrdersSpec : ChangeSpec := { name := "hullOrders", fn := fun _ => fun
  | [d1, d2, d3, d4, d5] => { results := [.lit (.bool true)], args := [d1, d2, d3, d4, d5] }
  | _ => none }
def hullOrdersRow : OpenClaim := { program := "ythfnbjoecocfaaagreat", sum := "5fa4f9b86650b1a7b401101e47903f42752bfbeb5d4f4158032adbf52c4801f7", func := "kentledge/kentledgelaw03.HullOrders", spec := "hullOrders", unfollowed := true, recurses := true, plainKeys := false, apart := false }
def HullOrdersSaid : Prop := hullOrdersRow.holds Tryz.pinned (OpenSpec.ofChange hullOrdersSpec)

/-- ITS FALSE NEIGHBOUR: 'it returns false'. Refute it at one input. -/
def hullOrdersWrong : ChangeSpec := { name := "hullOrders", fn := fun _ => fun
  | [d1, d2, d3, d4, d5] => { results := [.lit (.bool false)], args := [d1, d2, d3, d4, d5] }
  | _ => none }
def HullOrdersWrongFalsely : Prop := hullOrdersRow.holds Tryz.pinned (OpenSpec.ofChange hullOrdersWrong)

/-- 'kentledgelaw03.HullDeep': WHATEVER THE INPUT: true; the input reads as it did. -/
def hullDeepSpec : ChangeSpec := { name := "hullDeep", fn := fun _ => fun
  | [d1, d2, d3, d4] => { results := [.lit (.bool true)], args := [d1, d2, d3, d4] }
  | _ => none }
def hullDeepRow : OpenClaim := { program := "ythfnbjoecocfaaagreat", sum := "5fa4f9b86650b1a7b401101e47903f42752bfbeb5d4f4158032adbf52c4801f7", func := "kentledge/kentledgelaw03.HullDeep", spec := "hullDeep", unfollowed := true, recurses := true, plainKeys := false, apart := false }
def HullDeepSaid : Prop := hullDeepRow.holds Tryz.pinned (OpenSpec.ofChange hullDeepSpec)

/-- ITS FALSE NEIGHBOUR: 'it returns false'. Refute it at one input. -/
def hullDeepWrong : ChangeSpec := { name := "hullDeep", fn := fun _ => fun
  | [d1, d2, d3, d4] => { results := [.lit (.bool false)], args := [d1, d2, d3, d4] }
  | _ => none }
def HullDeepWrongFalsely : Prop := hullDeepRow.holds Tryz.pinned (OpenSpec.ofChange hullDeepWrong)

/-- 'kentledgelaw03.HullSteady': WHATEVER THE INPUT: true; the input reads as it did. -/
def hullSteadySpec : ChangeSpec := { name := "hullSteady", fn := fun _ => fun
  | [d1, d2] => { results := [.lit (.bool true)], args := [d1, d2] }
  | _ => none }
def hullSteadyRow : OpenClaim := { program := "ythfnbjoecocfaaagreat", sum := "5fa4f9b86650b1a7b401101e47903f42752bfbeb5d4f4158032adbf52c4801f7", func := "kentledge/kentledgelaw03.HullSteady", spec := "hullSteady", unfollowed := true, recurses := true, plainKeys := false, apart := false }
def HullSteadySaid : Prop := hullSteadyRow.holds Tryz.pinned (OpenSpec.ofChange hullSteadySpec)

/-- ITS FALSE NEIGHBOUR: 'it returns false'. Refute it at one input. -/
def hullSteadyWrong : ChangeSpec := { name := "hullSteady", fn := fun _ => fun
  | [d1, d2] => { results := [.lit (.bool false)], args := [d1, d2] }
  | _ => none }
def HullSteadyWrongFalsely : Prop := hullSteadyRow.holds Tryz.pinned (OpenSpec.ofChange hullSteadyWrong)

/- THE SECOND FORM. 'bulk': how many values and letters a reading holds, each counted each time it is reached (what is shared counts as often as it is met; a slice's spare places count too). A statement '..UptoSaid' is the law's where the arguments, and the package variables that the reading takes, are together of bulk at most 1048576: NARROWER than '..Said'. Prove '..Said' where nothing that the law and all that it calls make is longer than what came in: it says more and counts as full. Else prove '..UptoSaid'. A law counts once. -/
mutual
def uptoBulk {H : Type} : DataW H → Nat
  | .lit (.string bytes) => bytes.length + 1
  | .lit _ => 1
  | .nil => 1
  | .ptr d => uptoBulk d + 1
  | .slice elems spare => uptoBulkAll elems + uptoBulkAll spare + 1
  | .agg parts => uptoBulkAll parts + 1
  | .iface _ d => uptoBulk d + 1
  | .map entries => uptoBulkEntries entries + 1
  | .held _ => 1
def uptoBulkAll {H : Type} : List (DataW H) → Nat
  | [] => 0
  | d :: r => uptoBulk d + uptoBulkAll r
def uptoBulkEntries {H : Type} : List (Lit × DataW H) → Nat
  | [] => 0
  | x :: r => uptoBulkEntry x + uptoBulkEntries r
def uptoBulkEntry {H : Type} : Lit × DataW H → Nat
  | (.string bytes, d) => bytes.length + uptoBulk d + 1
  | (_, d) => uptoBulk d + 1
 end
def uptoSmall : (H : Type) → List (DataW H) → Bool := fun _ ds => decide (uptoBulkAll ds ≤ 1048576)
def OpenSpec.upto (s : _root_.Go.ChangeSpec) : _root_.Go.OpenSpec := { _root_.Go.OpenSpec.ofChange s with cond := some uptoSmall }

/-- 'kentledgelaw03.HullFloats', WHERE WHAT IT READS IS OF BULK AT MOST 1048576: true; the input reads as it did. -/
def hullFloatsUptoRow : OpenClaim := { program := "ythfnbjoecocfaaagreat", sum := "5fa4f9b86650b1a7b401101e47903f42752bfbeb5d4f4158032adbf52c4801f7", func := "kentledge/kentledgelaw03.HullFloats", spec := "hullFloats", unfollowed := true, recurses := true, plainKeys := false, apart := false, narrowed := true }
def HullFloatsUptoSaid : Prop := hullFloatsUptoRow.holds Tryz.pinned (OpenSpec.upto hullFloatsSpec)

/-- 'kentledgelaw03.HullOrders', WHERE WHAT IT READS IS OF BULK AT MOST 1048576: true; the input reads as it did. -/
def hullOrdersUptoRow : OpenClaim := { program := "ythfnbjoecocfaaagreat", sum := "5fa4f9b86650b1a7b401101e47903f42752bfbeb5d4f4158032adbf52c4801f7", func := "kentledge/kentledgelaw03.HullOrders", spec := "hullOrders", unfollowed := true, recurses := true, plainKeys := false, apart := false, narrowed := true }
def HullOrdersUptoSaid : Prop := hullOrdersUptoRow.holds Tryz.pinned (OpenSpec.upto hullOrdersSpec)

/-- 'kentledgelaw03.HullDeep', WHERE WHAT IT READS IS OF BULK AT MOST 1048576: true; the input reads as it did. -/
def hullDeepUptoRow : OpenClaim := { program := "ythfnbjoecocfaaagreat", sum := "5fa4f9b86650b1a7b401101e47903f42752bfbeb5d4f4158032adbf52c4801f7", func := "kentledge/kentledgelaw03.HullDeep", spec := "hullDeep", unfollowed := true, recurses := true, plainKeys := false, apart := false, narrowed := true }
def HullDeepUptoSaid : Prop := hullDeepUptoRow.holds Tryz.pinned (OpenSpec.upto hullDeepSpec)

/-- 'kentledgelaw03.HullSteady', WHERE WHAT IT READS IS OF BULK AT MOST 1048576: true; the input reads as it did. -/
def hullSteadyUptoRow : OpenClaim := { program := "ythfnbjoecocfaaagreat", sum := "5fa4f9b86650b1a7b401101e47903f42752bfbeb5d4f4158032adbf52c4801f7", func := "kentledge/kentledgelaw03.HullSteady", spec := "hullSteady", unfollowed := true, recurses := true, plainKeys := false, apart := false, narrowed := true }
def HullSteadyUptoSaid : Prop := hullSteadyUptoRow.holds Tryz.pinned (OpenSpec.upto hullSteadySpec)

end Rows
end Go.Proofs.YthfnbjoecocfaaaGreat
