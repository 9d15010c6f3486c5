/-
  No cell of these rows narrows 'for every input' (looked for: loops, veiled, ifaces, maps, wideKeys, modest, calm, conditions, laid).
  DERIVED. THE GIVEN ROWS OF THIS SEAT. 13 by the template 'for every input the law returns true; each argument reads behind the call as it read before'; 0 by the template 'total and deterministic' (their statements: YthfnbjoecocfaaaTotals.lean).
  GIVEN WITH THE SEED: the statements are not yours to turn. If you find one false, say at which input.
  Laid BY PROGRAM, IN A SANDBOX (cutbox-rows.mjs): the forced cells as the released guide's own fill.sh prints them over the translation 68e996370e1ae7c4… (all of the seat's roots in one cut). By AI agents, Wed Nov 11 2026. No macro, syntax, notation, axiom, sorry.
-/
import Derived.Test.YthfnbjoecocfaaaChecked
import GoSem.Claim
import GoSem.ClaimJoined
import GoSem.ClaimMapViews
import Derived.JoinedTies
import Derived.KernelRfl
namespace Go.Proofs.Ythfnbjoecocfaaa
/- THE CELL 'sum', in the pinned program and in every row, IS THE sha256 OF THE DUMP (.gsa) THAT YthfnbjoecocfaaaProg.lean LOADS. Nothing in Lean hashes anything: it is a label: what it is worth is what the hold of that sum in a sandbox is worth. -/
noncomputable def Try.pinned : Pinned := { name := "ythfnbjoecocfaaa", sum := "68e996370e1ae7c451ea6f7e7315997d4eb972c4a33a275bc751605d0271088e", checked := Try.checked }
namespace Rows
def none {H : Type} : Left H := { results := [], args := [] }

/-- 'kentledgelaw03.HullBehind': WHATEVER THE INPUT: true; the input reads as it did. -/
def hullBehindSpec : ChangeSpec := { name := "hullBehind", fn := fun _ => fun
  | [d1, d2, d3] => { results := [.lit (.bool true)], args := [d1, d2, d3] }
  | _ => none }
def hullBehindRow : OpenClaim := { program := "ythfnbjoecocfaaa", sum := "68e996370e1ae7c451ea6f7e7315997d4eb972c4a33a275bc751605d0271088e", func := "kentledge/kentledgelaw03.HullBehind", spec := "hullBehind", unfollowed := true, recurses := true, plainKeys := false, apart := false }
def HullBehindSaid : Prop := hullBehindRow.holds Try.pinned (OpenSpec.ofChange hullBehindSpec)

/-- ITS FALSE NEIGHBOUR: 'it returns false'. Refute it at one input. -/
def hullBehindWrong : ChangeSpec := { name := "hullBehind", fn := fun _ => fun
  | [d1, d2, d3] => { results := [.lit (.bool false)], args := [d1, d2, d3] }
  | _ => none }
def HullBehindWrongFalsely : Prop := hullBehindRow.holds Try.pinned (OpenSpec.ofChange hullBehindWrong)

/-- 'kentledgelaw03.HullChecks': WHATEVER THE INPUT: true; the input reads as it did. -/
def hullChecksSpec : ChangeSpec := { name := "hullChecks", fn := fun _ => fun
  | [d1, d2, d3] => { results := [.lit (.bool true)], args := [d1, d2, d3] }
  | _ => none }
def hullChecksRow : OpenClaim := { program := "ythfnbjoecocfaaa", sum := "68e996370e1ae7c451ea6f7e7315997d4eb972c4a33a275bc751605d0271088e", func := "kentledge/kentledgelaw03.HullChecks", spec := "hullChecks", unfollowed := true, recurses := true, plainKeys := false, apart := false }
def HullChecksSaid : Prop := hullChecksRow.holds Try.pinned (OpenSpec.ofChange hullChecksSpec)

/-- ITS FALSE NEIGHBOUR: 'it returns false'. Refute it at one input. -/
def hullChecksWrong : ChangeSpec := { name := "hullChecks", fn := fun _ => fun
  | [d1, d2, d3] => { results := [.lit (.bool false)], args := [d1, d2, d3] }
  | _ => none }
def HullChecksWrongFalsely : Prop := hullChecksRow.holds Try.pinned (OpenSpec.ofChange hullChecksWrong)

/-- 'kentledgelaw03.HullNarrow': WHATEVER THE INPUT: true; the input reads as it did. -/
def hullNarrowSpec : ChangeSpec := { name := "hullNarrow", fn := fun _ => fun
  | [d1, d2, d3, d4] => { results := [.lit (.bool true)], args := [d1, d2, d3, d4] }
  | _ => none }
def hullNarrowRow : OpenClaim := { program := "ythfnbjoecocfaaa", sum := "68e996370e1ae7c451ea6f7e7315997d4eb972c4a33a275bc751605d0271088e", func := "kentledge/kentledgelaw03.HullNarrow", spec := "hullNarrow", unfollowed := true, recurses := true, plainKeys := false, apart := false }
def HullNarrowSaid : Prop := hullNarrowRow.holds Try.pinned (OpenSpec.ofChange hullNarrowSpec)

/-- ITS FALSE NEIGHBOUR: 'it returns false'. Refute it at one input. -/
def hullNarrowWrong : ChangeSpec := { name := "hullNarrow", fn := fun _ => fun
  | [d1, d2, d3, d4] => { results := [.lit (.bool false)], args := [d1, d2, d3, d4] }
  | _ => none }
def HullNarrowWrongFalsely : Prop := hullNarrowRow.holds Try.pinned (OpenSpec.ofChange hullNarrowWrong)

/-- 'kentledgelaw03.HullTaken': WHATEVER THE INPUT: true; the input reads as it did. -/
def hullTakenSpec : ChangeSpec := { name := "hullTaken", fn := fun _ => fun
  | [d1, d2, d3, d4, d5] => { results := [.lit (.bool true)], args := [d1, d2, d3, d4, d5] }
  | _ => none }
def hullTakenRow : OpenClaim := { program := "ythfnbjoecocfaaa", sum := "68e996370e1ae7c451ea6f7e7315997d4eb972c4a33a275bc751605d0271088e", func := "kentledge/kentledgelaw03.HullTaken", spec := "hullTaken", unfollowed := true, recurses := true, plainKeys := false, apart := false }
def HullTakenSaid : Prop := hullTakenRow.holds Try.pinned (OpenSpec.ofChange hullTakenSpec)

/-- ITS FALSE NEIGHBOUR: 'it returns false'. Refute it at one input. -/
def hullTakenWrong : ChangeSpec := { name := "hullTaken", fn := fun _ => fun
  | [d1, d2, d3, d4, d5] => { results := [.lit (.bool false)], args := [d1, d2, d3, d4, d5] }
  | _ => none }
def HullTakenWrongFalsely : Prop := hullTakenRow.holds Try.pinned (OpenSpec.ofChange hullTakenWrong)

/-- 'kentledgelaw03.HullMost': WHATEVER THE INPUT: true; the input reads as it did. -/
def hullMostSpec : ChangeSpec := { name := "hullMost", fn := fun _ => fun
  | [d1, d2, d3] => { results := [.lit (.bool true)], args := [d1, d2, d3] }
  | _ => none }
def hullMostRow : OpenClaim := { program := "ythfnbjoecocfaaa", sum := "68e996370e1ae7c451ea6f7e7315997d4eb972c4a33a275bc751605d0271088e", func := "kentledge/kentledgelaw03.HullMost", spec := "hullMost", unfollowed := true, recurses := true, plainKeys := false, apart := false }
def HullMostSaid : Prop := hullMostRow.holds Try.pinned (OpenSpec.ofChange hullMostSpec)

/-- ITS FALSE NEIGHBOUR: 'it returns false'. Refute it at one input. -/
def hullMostWrong : ChangeSpec := { name := "hullMost", fn := fun _ => fun
  | [d1, d2, d3] => { results := [.lit (.bool false)], args := [d1, d2, d3] }
  | _ => none }
def HullMostWrongFalsely : Prop := hullMostRow.holds Try.pinned (OpenSpec.ofChange hullMostWrong)

/-- 'kentledgelaw03.HullCheckMost': WHATEVER THE INPUT: true; the input reads as it did. -/
def hullCheckMostSpec : ChangeSpec := { name := "hullCheckMost", fn := fun _ => fun
  | [d1, d2, d3, d4, d5, d6] => { results := [.lit (.bool true)], args := [d1, d2, d3, d4, d5, d6] }
  | _ => none }
def hullCheckMostRow : OpenClaim := { program := "ythfnbjoecocfaaa", sum := "68e996370e1ae7c451ea6f7e7315997d4eb972c4a33a275bc751605d0271088e", func := "kentledge/kentledgelaw03.HullCheckMost", spec := "hullCheckMost", unfollowed := true, recurses := true, plainKeys := false, apart := false }
def HullCheckMostSaid : Prop := hullCheckMostRow.holds Try.pinned (OpenSpec.ofChange hullCheckMostSpec)

/-- ITS FALSE NEIGHBOUR: 'it returns false'. Refute it at one input. -/
def hullCheckMostWrong : ChangeSpec := { name := "hullCheckMost", fn := fun _ => fun
  | [d1, d2, d3, d4, d5, d6] => { results := [.lit (.bool false)], args := [d1, d2, d3, d4, d5, d6] }
  | _ => none }
def HullCheckMostWrongFalsely : Prop := hullCheckMostRow.holds Try.pinned (OpenSpec.ofChange hullCheckMostWrong)

/-- 'kentledgelaw03.HullPrices': WHATEVER THE INPUT: true; the input reads as it did. -/
def hullPricesSpec : ChangeSpec := { name := "hullPrices", fn := fun _ => fun
  | [d1, d2, d3, d4, d5] => { results := [.lit (.bool true)], args := [d1, d2, d3, d4, d5] }
  | _ => none }
def hullPricesRow : OpenClaim := { program := "ythfnbjoecocfaaa", sum := "68e996370e1ae7c451ea6f7e7315997d4eb972c4a33a275bc751605d0271088e", func := "kentledge/kentledgelaw03.HullPrices", spec := "hullPrices", unfollowed := true, recurses := true, plainKeys := false, apart := false }
def HullPricesSaid : Prop := hullPricesRow.holds Try.pinned (OpenSpec.ofChange hullPricesSpec)

/-- ITS FALSE NEIGHBOUR: 'it returns false'. Refute it at one input. -/
def hullPricesWrong : ChangeSpec := { name := "hullPrices", fn := fun _ => fun
  | [d1, d2, d3, d4, d5] => { results := [.lit (.bool false)], args := [d1, d2, d3, d4, d5] }
  | _ => none }
def HullPricesWrongFalsely : Prop := hullPricesRow.holds Try.pinned (OpenSpec.ofChange hullPricesWrong)

/-- 'kentledgelaw06.BerthLighters': WHATEVER THE INPUT: true; the input reads as it did. -/
def berthLightersSpec : ChangeSpec := { name := "berthLighters", fn := fun _ => fun
  | [d1, d2] => { results := [.lit (.bool true)], args := [d1, d2] }
  | _ => none }
def berthLightersRow : OpenClaim := { program := "ythfnbjoecocfaaa", sum := "68e996370e1ae7c451ea6f7e7315997d4eb972c4a33a275bc751605d0271088e", func := "kentledge/kentledgelaw06.BerthLighters", spec := "berthLighters", unfollowed := true, recurses := true, plainKeys := false, apart := false }
def BerthLightersSaid : Prop := berthLightersRow.holds Try.pinned (OpenSpec.ofChange berthLightersSpec)

/-- ITS FALSE NEIGHBOUR: 'it returns false'. Refute it at one input. -/
def berthLightersWrong : ChangeSpec := { name := "berthLighters", fn := fun _ => fun
  | [d1, d2] => { results := [.lit (.bool false)], args := [d1, d2] }
  | _ => none }
def BerthLightersWrongFalsely : Prop := berthLightersRow.holds Try.pinned (OpenSpec.ofChange berthLightersWrong)

/-- 'kentledgelaw06.BerthLent': WHATEVER THE INPUT: true; the input reads as it did. -/
def berthLentSpec : ChangeSpec := { name := "berthLent", fn := fun _ => fun
  | [d1, d2] => { results := [.lit (.bool true)], args := [d1, d2] }
  | _ => none }
def berthLentRow : OpenClaim := { program := "ythfnbjoecocfaaa", sum := "68e996370e1ae7c451ea6f7e7315997d4eb972c4a33a275bc751605d0271088e", func := "kentledge/kentledgelaw06.BerthLent", spec := "berthLent", unfollowed := true, recurses := true, plainKeys := false, apart := false }
def BerthLentSaid : Prop := berthLentRow.holds Try.pinned (OpenSpec.ofChange berthLentSpec)

/-- ITS FALSE NEIGHBOUR: 'it returns false'. Refute it at one input. -/
def berthLentWrong : ChangeSpec := { name := "berthLent", fn := fun _ => fun
  | [d1, d2] => { results := [.lit (.bool false)], args := [d1, d2] }
  | _ => none }
def BerthLentWrongFalsely : Prop := berthLentRow.holds Try.pinned (OpenSpec.ofChange berthLentWrong)

/-- 'kentledgelaw03.HullOrdered': WHATEVER THE INPUT: true; the input reads as it did. -/
def hullOrderedSpec : ChangeSpec := { name := "hullOrdered", fn := fun _ => fun
  | [d1, d2, d3, d4] => { results := [.lit (.bool true)], args := [d1, d2, d3, d4] }
  | _ => none }
def hullOrderedRow : OpenClaim := { program := "ythfnbjoecocfaaa", sum := "68e996370e1ae7c451ea6f7e7315997d4eb972c4a33a275bc751605d0271088e", func := "kentledge/kentledgelaw03.HullOrdered", spec := "hullOrdered", unfollowed := true, recurses := true, plainKeys := false, apart := false }
def HullOrderedSaid : Prop := hullOrderedRow.holds Try.pinned (OpenSpec.ofChange hullOrderedSpec)

/-- ITS FALSE NEIGHBOUR: 'it returns false'. Refute it at one input. -/
def hullOrderedWrong : ChangeSpec := { name := "hullOrdered", fn := fun _ => fun
  | [d1, d2, d3, d4] => { results := [.lit (.bool false)], args := [d1, d2, d3, d4] }
  | _ => none }
def HullOrderedWrongFalsely : Prop := hullOrderedRow.holds Try.pinned (OpenSpec.ofChange hullOrderedWrong)

/-- 'kentledgelaw03.HullDeepIn': WHATEVER THE INPUT: true; the input reads as it did. -/
def hullDeepInSpec : ChangeSpec := { name := "hullDeepIn", fn := fun _ => fun
  | [d1, d2, d3, d4, d5] => { results := [.lit (.bool true)], args := [d1, d2, d3, d4, d5] }
  | _ => none }
def hullDeepInRow : OpenClaim := { program := "ythfnbjoecocfaaa", sum := "68e996370e1ae7c451ea6f7e7315997d4eb972c4a33a275bc751605d0271088e", func := "kentledge/kentledgelaw03.HullDeepIn", spec := "hullDeepIn", unfollowed := true, recurses := true, plainKeys := false, apart := false }
def HullDeepInSaid : Prop := hullDeepInRow.holds Try.pinned (OpenSpec.ofChange hullDeepInSpec)

/-- ITS FALSE NEIGHBOUR: 'it returns false'. Refute it at one input. -/
def hullDeepInWrong : ChangeSpec := { name := "hullDeepIn", fn := fun _ => fun
  | [d1, d2, d3, d4, d5] => { results := [.lit (.bool false)], args := [d1, d2, d3, d4, d5] }
  | _ => none }
def HullDeepInWrongFalsely : Prop := hullDeepInRow.holds Try.pinned (OpenSpec.ofChange hullDeepInWrong)

/-- 'kentledgelaw03.HullCheckSteady': WHATEVER THE INPUT: true; the input reads as it did. -/
def hullCheckSteadySpec : ChangeSpec := { name := "hullCheckSteady", fn := fun _ => fun
  | [d1, d2, d3, d4, d5, d6] => { results := [.lit (.bool true)], args := [d1, d2, d3, d4, d5, d6] }
  | _ => none }
def hullCheckSteadyRow : OpenClaim := { program := "ythfnbjoecocfaaa", sum := "68e996370e1ae7c451ea6f7e7315997d4eb972c4a33a275bc751605d0271088e", func := "kentledge/kentledgelaw03.HullCheckSteady", spec := "hullCheckSteady", unfollowed := true, recurses := true, plainKeys := false, apart := false }
def HullCheckSteadySaid : Prop := hullCheckSteadyRow.holds Try.pinned (OpenSpec.ofChange hullCheckSteadySpec)

/-- ITS FALSE NEIGHBOUR: 'it returns false'. Refute it at one input. -/
def hullCheckSteadyWrong : ChangeSpec := { name := "hullCheckSteady", fn := fun _ => fun
  | [d1, d2, d3, d4, d5, d6] => { results := [.lit (.bool false)], args := [d1, d2, d3, d4, d5, d6] }
  | _ => none }
def HullCheckSteadyWrongFalsely : Prop := hullCheckSteadyRow.holds Try.pinned (OpenSpec.ofChange hullCheckSteadyWrong)

/-- 'kentledgelaw03.HullSteadyIn': WHATEVER THE INPUT: true; the input reads as it did. -/
def hullSteadyInSpec : ChangeSpec := { name := "hullSteadyIn", fn := fun _ => fun
  | [d1, d2, d3, d4] => { results := [.lit (.bool true)], args := [d1, d2, d3, d4] }
  | _ => none }
def hullSteadyInRow : OpenClaim := { program := "ythfnbjoecocfaaa", sum := "68e996370e1ae7c451ea6f7e7315997d4eb972c4a33a275bc751605d0271088e", func := "kentledge/kentledgelaw03.HullSteadyIn", spec := "hullSteadyIn", unfollowed := true, recurses := true, plainKeys := false, apart := false }
def HullSteadyInSaid : Prop := hullSteadyInRow.holds Try.pinned (OpenSpec.ofChange hullSteadyInSpec)

/-- ITS FALSE NEIGHBOUR: 'it returns false'. Refute it at one input. -/
def hullSteadyInWrong : ChangeSpec := { name := "hullSteadyIn", fn := fun _ => fun
  | [d1, d2, d3, d4] => { results := [.lit (.bool false)], args := [d1, d2, d3, d4] }
  | _ => none }
def HullSteadyInWrongFalsely : Prop := hullSteadyInRow.holds Try.pinned (OpenSpec.ofChange hullSteadyInWrong)

/- THE SECOND FORM. 'bulk': how many values and letters a reading holds, each counted each time it is reached (what is shared counts as often as it is met; a slice's spare places count too). A statement '..UptoSaid' is the law's where the arguments, and the package variables that the reading takes, are together of bulk at most 1048576: NARROWER than '..Said'. Prove '..Said' where nothing that the law and all that it calls make is longer than what came in: it says more and counts as full. Else prove '..UptoSaid'. A law counts once. -/
mutual
def uptoBulk {H : Type} : DataW H → Nat
  | .lit (.string bytes) => bytes.length + 1
  | .lit _ => 1
  | .nil => 1
  | .ptr d => uptoBulk d + 1
  | .slice elems spare => uptoBulkAll elems + uptoBulkAll spare + 1
  | .agg parts => uptoBulkAll parts + 1
  | .iface _ d => uptoBulk d + 1
  | .map entries => uptoBulkEntries entries + 1
  | .held _ => 1
def uptoBulkAll {H : Type} : List (DataW H) → Nat
  | [] => 0
  | d :: r => uptoBulk d + uptoBulkAll r
def uptoBulkEntries {H : Type} : List (Lit × DataW H) → Nat
  | [] => 0
  | x :: r => uptoBulkEntry x + uptoBulkEntries r
def uptoBulkEntry {H : Type} : Lit × DataW H → Nat
  | (.string bytes, d) => bytes.length + uptoBulk d + 1
  | (_, d) => uptoBulk d + 1
 end
def uptoSmall : (H : Type) → List (DataW H) → Bool := fun _ ds => decide (uptoBulkAll ds ≤ 1048576)
def OpenSpec.upto (s : _root_.Go.ChangeSpec) : _root_.Go.OpenSpec := { _root_.Go.OpenSpec.ofChange s with cond := some uptoSmall }

/-- 'kentledgelaw03.HullBehind', WHERE WHAT IT READS IS OF BULK AT MOST 1048576: true; the input reads as it did. -/
def hullBehindUptoRow : OpenClaim := { program := "ythfnbjoecocfaaa", sum := "68e996370e1ae7c451ea6f7e7315997d4eb972c4a33a275bc751605d0271088e", func := "kentledge/kentledgelaw03.HullBehind", spec := "hullBehind", unfollowed := true, recurses := true, plainKeys := false, apart := false, narrowed := true }
def HullBehindUptoSaid : Prop := hullBehindUptoRow.holds Try.pinned (OpenSpec.upto hullBehindSpec)

/-- 'kentledgelaw03.HullChecks', WHERE WHAT IT READS IS OF BULK AT MOST 1048576: true; the input reads as it did. -/
def hullChecksUptoRow : OpenClaim := { program := "ythfnbjoecocfaaa", sum := "68e996370e1ae7c451ea6f7e7315997d4eb972c4a33a275bc751605d0271088e", func := "kentledge/kentledgelaw03.HullChecks", spec := "hullChecks", unfollowed := true, recurses := true, plainKeys := false, apart := false, narrowed := true }
def HullChecksUptoSaid : Prop := hullChecksUptoRow.holds Try.pinned (OpenSpec.upto hullChecksSpec)

/-- 'kentledgelaw03.HullNarrow', WHERE WHAT IT READS IS OF BULK AT MOST 1048576: true; the input reads as it did. -/
def hullNarrowUptoRow : OpenClaim := { program := "ythfnbjoecocfaaa", sum := "68e996370e1ae7c451ea6f7e7315997d4eb972c4a33a275bc751605d0271088e", func := "kentledge/kentledgelaw03.HullNarrow", spec := "hullNarrow", unfollowed := true, recurses := true, plainKeys := false, apart := false, narrowed := true }
def HullNarrowUptoSaid : Prop := hullNarrowUptoRow.holds Try.pinned (OpenSpec.upto hullNarrowSpec)

/-- 'kentledgelaw03.HullTaken', WHERE WHAT IT READS IS OF BULK AT MOST 1048576: true; the input reads as it did. -/
def hullTakenUptoRow : OpenClaim := { program := "ythfnbjoecocfaaa", sum := "68e996370e1ae7c451ea6f7e7315997d4eb972c4a33a275bc751605d0271088e", func := "kentledge/kentledgelaw03.HullTaken", spec := "hullTaken", unfollowed := true, recurses := true, plainKeys := false, apart := false, narrowed := true }
def HullTakenUptoSaid : Prop := hullTakenUptoRow.holds Try.pinned (OpenSpec.upto hullTakenSpec)

/-- 'kentledgelaw03.HullMost', WHERE WHAT IT READS IS OF BULK AT MOST 1048576: true; the input reads as it did. -/
def hullMostUptoRow : OpenClaim := { program := "ythfnbjoecocfaaa", sum := "68e996370e1ae7c451ea6f7e7315997d4eb972c4a33a275bc751605d0271088e", func := "kentledge/kentledgelaw03.HullMost", spec := "hullMost", unfollowed := true, recurses := true, plainKeys := false, apart := false, narrowed := true }
def HullMostUptoSaid : Prop := hullMostUptoRow.holds Try.pinned (OpenSpec.upto hullMostSpec)

/-- 'kentledgelaw03.HullCheckMost', WHERE WHAT IT READS IS OF BULK AT MOST 1048576: true; the input reads as it did. -/
def hullCheckMostUptoRow : OpenClaim := { program := "ythfnbjoecocfaaa", sum := "68e996370e1ae7c451ea6f7e7315997d4eb972c4a33a275bc751605d0271088e", func := "kentledge/kentledgelaw03.HullCheckMost", spec := "hullCheckMost", unfollowed := true, recurses := true, plainKeys := false, apart := false, narrowed := true }
def HullCheckMostUptoSaid : Prop := hullCheckMostUptoRow.holds Try.pinned (OpenSpec.upto hullCheckMostSpec)

/-- 'kentledgelaw03.HullPrices', WHERE WHAT IT READS IS OF BULK AT MOST 1048576: true; the input reads as it did. -/
def hullPricesUptoRow : OpenClaim := { program := "ythfnbjoecocfaaa", sum := "68e996370e1ae7c451ea6f7e7315997d4eb972c4a33a275bc751605d0271088e", func := "kentledge/kentledgelaw03.HullPrices", spec := "hullPrices", unfollowed := true, recurses := true, plainKeys := false, apart := false, narrowed := true }
def HullPricesUptoSaid : Prop := hullPricesUptoRow.holds Try.pinned (OpenSpec.upto hullPricesSpec)

/-- 'kentledgelaw06.BerthLighters', WHERE WHAT IT READS IS OF BULK AT MOST 1048576: true; the input reads as it did. -/
def berthLightersUptoRow : OpenClaim := { program := "ythfnbjoecocfaaa", sum := "68e996370e1ae7c451ea6f7e7315997d4eb972c4a33a275bc751605d0271088e", func := "kentledge/kentledgelaw06.BerthLighters", spec := "berthLighters", unfollowed := true, recurses := true, plainKeys := false, apart := false, narrowed := true }
def BerthLightersUptoSaid : Prop := berthLightersUptoRow.holds Try.pinned (OpenSpec.upto berthLightersSpec)

/-- 'kentledgelaw06.BerthLent', WHERE WHAT IT READS IS OF BULK AT MOST 1048576: true; the input reads as it did. -/
def berthLentUptoRow : OpenClaim := { program := "ythfnbjoecocfaaa", sum := "68e996370e1ae7c451ea6f7e7315997d4eb972c4a33a275bc751605d0271088e", func := "kentledge/kentledgelaw06.BerthLent", spec := "berthLent", unfollowed := true, recurses := true, plainKeys := false, apart := false, narrowed := true }
def BerthLentUptoSaid : Prop := berthLentUptoRow.holds Try.pinned (OpenSpec.upto berthLentSpec)

/-- 'kentledgelaw03.HullOrdered', WHERE WHAT IT READS IS OF BULK AT MOST 1048576: true; the input reads as it did. -/
def hullOrderedUptoRow : OpenClaim := { program := "ythfnbjoecocfaaa", sum := "68e996370e1ae7c451ea6f7e7315997d4eb972c4a33a275bc751605d0271088e", func := "kentledge/kentledgelaw03.HullOrdered", spec := "hullOrdered", unfollowed := true, recurses := true, plainKeys := false, apart := false, narrowed := true }
def HullOrderedUptoSaid : Prop := hullOrderedUptoRow.holds Try.pinned (OpenSpec.upto hullOrderedSpec)

/-- 'kentledgelaw03.HullDeepIn', WHERE WHAT IT READS IS OF BULK AT MOST 1048576: true; the input reads as it did. -/
def hullDeepInUptoRow : OpenClaim := { program := "ythfnbjoecocfaaa", sum := "68e996370e1ae7c451ea6f7e7315997d4eb972c4a33a275bc751605d0271088e", func := "kentledge/kentledgelaw03.HullDeepIn", spec := "hullDeepIn", unfollowed := true, recurses := true, plainKeys := false, apart := false, narrowed := true }
def HullDeepInUptoSaid : Prop := hullDeepInUptoRow.holds Try.pinned (OpenSpec.upto hullDeepInSpec)

/-- 'kentledgelaw03.HullCheckSteady', WHERE WHAT IT READS IS OF BULK AT MOST 1048576: true; the input reads as it did. -/
def hullCheckSteadyUptoRow : OpenClaim := { program := "ythfnbjoecocfaaa", sum := "68e996370e1ae7c451ea6f7e7315997d4eb972c4a33a275bc751605d0271088e", func := "kentledge/kentledgelaw03.HullCheckSteady", spec := "hullCheckSteady", unfollowed := true, recurses := true, plainKeys := false, apart := false, narrowed := true }
def HullCheckSteadyUptoSaid : Prop := hullCheckSteadyUptoRow.holds Try.pinned (OpenSpec.upto hullCheckSteadySpec)

/-- 'kentledgelaw03.HullSteadyIn', WHERE WHAT IT READS IS OF BULK AT MOST 1048576: true; the input reads as it did. -/
def hullSteadyInUptoRow : OpenClaim := { program := "ythfnbjoecocfaaa", sum := "68e996370e1ae7c451ea6f7e7315997d4eb972c4a33a275bc751605d0271088e", func := "kentledge/kentledgelaw03.HullSteadyIn", spec := "hullSteadyIn", unfollowed := true, recurses := true, plainKeys := false, apart := false, narrowed := true }
def HullSteadyInUptoSaid : Prop := hullSteadyInUptoRow.holds Try.pinned (OpenSpec.upto hullSteadyInSpec)

end Rows
end Go.Proofs.Ythfnbjoecocfaaa
