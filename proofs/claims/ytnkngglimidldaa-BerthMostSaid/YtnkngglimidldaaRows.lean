/-
  No cell of these rows narrows 'for every input' (looked for: loops, veiled, ifaces, maps, wideKeys, modest, calm, conditions, laid).
  DERIVED. THE GIVEN ROWS OF THIS SEAT. 3 by the template 'for every input the law returns true; each argument reads behind the call as it read before'; 0 by the template 'total and deterministic' (their statements: YtnkngglimidldaaTotals.lean).
  GIVEN WITH THE SEED: the statements are not yours to turn. If you find one false, say at which input.
  Laid BY PROGRAM, IN A SANDBOX (cutbox-rows.mjs): the forced cells as the released guide's own fill.sh prints them over the translation e37fc2e49eedf44d… (all of the seat's roots in one cut). By AI agents, Wed Nov 11 2026. No macro, syntax, notation, axiom, sorry.
-/
import Derived.Test.YtnkngglimidldaaChecked
import GoSem.Claim
import GoSem.ClaimJoined
import GoSem.ClaimMapViews
import Derived.JoinedTies
import Derived.KernelRfl
namespace Go.Proofs.Ytnkngglimidldaa
/- THE CELL 'sum', in the pinned program and in every row, IS THE sha256 OF THE DUMP (.gsa) THAT YtnkngglimidldaaProg.lean LOADS. Nothing in Lean hashes anything: it is a label: what it is worth is what the hold of that sum in a sandbox is worth. -/
noncomputable def Try.pinned : Pinned := { name := "ytnkngglimidldaa", sum := "e37fc2e49eedf44dc62c387255d737edd463ef567e4b8dbd24137216ae500ee7", checked := Try.checked }
namespace Rows
def none {H : Type} : Left H := { results := [], args := [] }

/-- 'kentledgelaw06.BerthClear': WHATEVER THE INPUT: true; the input reads as it did. -/
def berthClearSpec : ChangeSpec := { name := "berthClear", fn := fun _ => fun
  | [d1, d2, d3] => { results := [.lit (.bool true)], args := [d1, d2, d3] }
  | _ => none }
def berthClearRow : OpenClaim := { program := "ytnkngglimidldaa", sum := "e37fc2e49eedf44dc62c387255d737edd463ef567e4b8dbd24137216ae500ee7", func := "kentledge/kentledgelaw06.BerthClear", spec := "berthClear", unfollowed := true, recurses := true, plainKeys := false, apart := false }
def BerthClearSaid : Prop := berthClearRow.holds Try.pinned (OpenSpec.ofChange berthClearSpec)

/-- ITS FALSE NEIGHBOUR: 'it returns false'. Refute it at one input. -/
def berthClearWrong : ChangeSpec := { name := "berthClear", fn := fun _ => fun
  | [d1, d2, d3] => { results := [.lit (.bool false)], args := [d1, d2, d3] }
  | _ => none }
def BerthClearWrongFalsely : Prop := berthClearRow.holds Try.pinned (OpenSpec.ofChange berthClearWrong)

/-- 'kentledgelaw06.BerthMost': WHATEVER THE INPUT: true; the input reads as it did. -/
def berthMostSpec : ChangeSpec := { name := "berthMost", fn := fun _ => fun
  | [d1, d2, d3, d4] => { results := [.lit (.bool true)], args := [d1, d2, d3, d4] }
  | _ => none }
def berthMostRow : OpenClaim := { program := "ytnkngglimidldaa", sum := "e37fc2e49eedf44dc62c387255d737edd463ef567e4b8dbd24137216ae500ee7", func := "kentledge/kentledgelaw06.BerthMost", spec := "berthMost", unfollowed := true, recurses := true, plainKeys := false, apart := false }
def BerthMostSaid : Prop := berthMostRow.holds Try.pinned (OpenSpec.ofChange berthMostSpec)

/-- ITS FALSE NEIGHBOUR: 'it returns false'. Refute it at one input. -/
def berthMostWrong : ChangeSpec := { name := "berthMost", fn := fun _ => fun
  | [d1, d2, d3, d4] => { results := [.lit (.bool false)], args := [d1, d2, d3, d4] }
  | _ => none }
def BerthMostWrongFalsely : Prop := berthMostRow.holds Try.pinned (OpenSpec.ofChange berthMostWrong)

/-- 'kentledgelaw06.BerthSure': WHATEVER THE INPUT: true; the input reads as it did. -/
def berthSureSpec : ChangeSpec := { name := "berthSure", fn := fun _ => fun
  | [d1, d2, d3] => { results := [.lit (.bool true)], args := [d1, d2, d3] }
  | _ => none }
def berthSureRow : OpenClaim := { program := "ytnkngglimidldaa", sum := "e37fc2e49eedf44dc62c387255d737edd463ef567e4b8dbd24137216ae500ee7", func := "kentledge/kentledgelaw06.BerthSure", spec := "berthSure", unfollowed := true, recurses := true, plainKeys := false, apart := false }
def BerthSureSaid : Prop := berthSureRow.holds Try.pinned (OpenSpec.ofChange berthSureSpec)

/-- ITS FALSE NEIGHBOUR: 'it returns false'. Refute it at one input. -/
def berthSureWrong : ChangeSpec := { name := "berthSure", fn := fun _ => fun
  | [d1, d2, d3] => { results := [.lit (.bool false)], args := [d1, d2, d3] }
  | _ => none }
def BerthSureWrongFalsely : Prop := berthSureRow.holds Try.pinned (OpenSpec.ofChange berthSureWrong)

/- THE SECOND FORM. 'bulk': how many values and letters a reading holds, each counted each time it is reached (what is shared counts as often as it is met; a slice's spare places count too). A statement '..UptoSaid' is the law's where the arguments, and the package variables that the reading takes, are together of bulk at most 1048576: NARROWER than '..Said'. Prove '..Said' where nothing that the law and all that it calls make is longer than what came in: it says more and counts as full. Else prove '..UptoSaid'. A law counts once. -/
mutual
def uptoBulk {H : Type} : DataW H → Nat
  | .lit (.string bytes) => bytes.length + 1
  | .lit _ => 1
  | .nil => 1
  | .ptr d => uptoBulk d + 1
  | .slice elems spare => uptoBulkAll elems + uptoBulkAll spare + 1
  | .agg parts => uptoBulkAll parts + 1
  | .iface _ d => uptoBulk d + 1
  | .map entries => uptoBulkEntries entries + 1
  | .held _ => 1
def uptoBulkAll {H : Type} : List (DataW H) → Nat
  | [] => 0
  | d :: r => uptoBulk d + uptoBulkAll r
def uptoBulkEntries {H : Type} : List (Lit × DataW H) → Nat
  | [] => 0
  | x :: r => uptoBulkEntry x + uptoBulkEntries r
def uptoBulkEntry {H : Type} : Lit × DataW H → Nat
  | (.string bytes, d) => bytes.length + uptoBulk d + 1
  | (_, d) => uptoBulk d + 1
 end
def uptoSmall : (H : Type) → List (DataW H) → Bool := fun _ ds => decide (uptoBulkAll ds ≤ 1048576)
def OpenSpec.upto (s : _root_.Go.ChangeSpec) : _root_.Go.OpenSpec := { _root_.Go.OpenSpec.ofChange s with cond := some uptoSmall }

/-- 'kentledgelaw06.BerthClear', WHERE WHAT IT READS IS OF BULK AT MOST 1048576: true; the input reads as it did. -/
def berthClearUptoRow : OpenClaim := { program := "ytnkngglimidldaa", sum := "e37fc2e49eedf44dc62c387255d737edd463ef567e4b8dbd24137216ae500ee7", func := "kentledge/kentledgelaw06.BerthClear", spec := "berthClear", unfollowed := true, recurses := true, plainKeys := false, apart := false, narrowed := true }
def BerthClearUptoSaid : Prop := berthClearUptoRow.holds Try.pinned (OpenSpec.upto berthClearSpec)

/-- 'kentledgelaw06.BerthMost', WHERE WHAT IT READS IS OF BULK AT MOST 1048576: true; the input reads as it did. -/
def berthMostUptoRow : OpenClaim := { program := "ytnkngglimidldaa", sum := "e37fc2e49eedf44dc62c387255d737edd463ef567e4b8dbd24137216ae500ee7", func := "kentledge/kentledgelaw06.BerthMost", spec := "berthMost", unfollowed := true, recurses := true, plainKeys := false, apart := false, narrowed := true }
def BerthMostUptoSaid : Prop := berthMostUptoRow.holds Try.pinned (OpenSpec.upto berthMostSpec)

/-- 'kentledgelaw06.BerthSure', WHERE WHAT IT READS IS OF BULK AT MOST 1048576: true; the input reads as it did. -/
def berthSureUptoRow : OpenClaim := { program := "ytnkngglimidldaa", sum := "e37fc2e49eedf44dc62c387255d737edd463ef567e4b8dbd24137216ae500ee7", func := "kentledge/kentledgelaw06.BerthSure", spec := "berthSure", unfollowed := true, recurses := true, plainKeys := false, apart := false, narrowed := true }
def BerthSureUptoSaid : Prop := berthSureUptoRow.holds Try.pinned (OpenSpec.upto berthSureSpec)

end Rows
end Go.Proofs.Ytnkngglimidldaa
