/- What a run of the abstract machine says: a judgement, by rules. Definitions. Conditions: none. -/
import Derived.Test.YtphmekpaalfliaaOpL
set_option linter.unusedVariables false
set_option linter.unusedSimpArgs false
namespace Go.Am
open Go Go.Wk Go.RowKit

/-- A value without any memory. -/
def flat : Nat → V → Bool
  | 0, _ => false
  | n + 1, v => match v with
    | .lit _ => true
    | .agg l => l.all (flat n)
    | .tup l => l.all (flat n)
    | .sl [] => true
    | _ => false

/-- An argument as the call sees it: what it shows becomes a part of it. -/
inductive CloArg (H : List Blk) : Bool → V → V → Prop where
  | shut {fl : Bool} {n : Nat} {v : V} : shut n v = true → CloArg H fl v v
  | nil {fl : Bool} {n : Nat} {v v' : V} : frz [] 0 n v = some v' → CloArg H fl v v'
  | frz {n : Nat} {v v' : V} : frz H 0 n v = some v' → CloArg H true v v'

inductive CloArgs (H : List Blk) (fl : Bool) : List V → List V → Prop where
  | nil : CloArgs H fl [] []
  | cons {v v' : V} {l l' : List V} : CloArg H fl v v' → CloArgs H fl l l' → CloArgs H fl (v :: l) (v' :: l')

/-- The result of a call, as its caller gets it. -/
def FrzTo (s1 : St) (v v' : V) : Prop := ∃ n, frz s1.H s1.lo n v = some v'

/-- The same numbers, some blocks out of sight. -/
def SubH (H' H : List Blk) : Prop := H'.length = H.length ∧ (∀ id B, get H' id = some B → B.live = true → get H id = some B) ∧ ∀ id, get H' id = some .free → get H id = some .free

/-- A call in a region that draws. -/
structure CallD where
  c : Code
  fn : Func
  args : List V
  H : List Blk

def St.call (fn : Func) (args : List V) (H : List Blk) (lo : Nat) : St := ⟨kargs 0 args, H, lo, none, fn.ntmps⟩

/-- What a call in a region that draws sees: no places kept for others. -/
def SubD (H' H : List Blk) : Prop := H'.length = H.length ∧ (∀ id B, get H' id = some B → B.live = true → get H id = some B) ∧ ∀ id, get H' id ≠ some .free

/-- What an operation looks at, its own place too. -/
def rdOf (o : Oper) (nid : Nat) (e : Eff) : List Nat := cond (allocs o.op) (nid :: e.rd) e.rd

/-- One operation of a region that draws: what it does, and the call in it. -/
inductive DStep (C : Cfg) (all : List Oper) (o : Oper) (nid : Nat) (s : St) : Eff → Option CallD → Prop where
  | skip : wants all s.K o.guard = some false → DStep C all o nid s ⟨undefV, [], []⟩ none
  | op {e : Eff} : wants all s.K o.guard = some true → opEff C s.K s.H s.lo nid o.op = some e → (allocs o.op = true → get s.H nid = some .free) → (∀ id, id ∈ wrIds e.wr → id < s.H.length) → DStep C all o nid s e none
  | ext {f : Nat} {args args' : List V} {v : V} : wants all s.K o.guard = some true → callee s.K o.op = some (.fn f args) → CloArgs [] false args args' → C.X f args' v → DStep C all o nid s ⟨v, [], []⟩ none
  | extF {f : Nat} {args args' : List V} {v : V} {H' : List Blk} : wants all s.K o.guard = some true → callee s.K o.op = some (.fn f args) → (H'.length = s.H.length ∧ ∀ id B, get H' id = some B → B.live = true → get s.H id = some B) → CloArgs H' true args args' → C.X f args' v → (∃ n, flat n v = true) → DStep C all o nid s ⟨v, [], liveIds H' 0⟩ none
  | clo {f : Nat} {args args' : List V} {v : V} {c : Code} {fn : Func} : wants all s.K o.guard = some true → callee s.K o.op = some (.fn f args) → bodyOf C f args.length = some (c, fn) → CloArgs [] false args args' → DStep C all o nid s ⟨v, [], []⟩ (some ⟨c, fn, args', []⟩)
  | sub {f : Nat} {args : List V} {v : V} {c : Code} {fn : Func} {H' : List Blk} : wants all s.K o.guard = some true → callee s.K o.op = some (.fn f args) → bodyOf C f args.length = some (c, fn) → SubD H' s.H → DStep C all o nid s ⟨v, [], liveIds H' 0⟩ (some ⟨c, fn, args, H'⟩)

/-- The operations of a region that draws, in the text's order. -/
inductive DRun (C : Cfg) (all : List Oper) : List Oper → Nat → Nat → St → List (Nat × List Nat × List Nat) → List (Eff × Option CallD) → St → Prop where
  | nil {i nid : Nat} {s : St} {log : List (Nat × List Nat × List Nat)} : DRun C all [] i nid s log [] s
  | cons {o : Oper} {os : List Oper} {i nid : Nat} {s s' : St} {log : List (Nat × List Nat × List Nat)} {e : Eff} {d : Option CallD} {es : List (Eff × Option CallD)} : DStep C all o nid s e d → logOK all i (rdOf o nid e) (wrIds e.wr) log = true →
      DRun C all os (i + 1) (cond (allocs o.op) (nid + 1) nid) (s.eff o.dst e) ((i, rdOf o nid e, wrIds e.wr) :: log) es s' → DRun C all (o :: os) i nid s log ((e, d) :: es) s'

/-- A number behind a cut: what it was. -/
def rid (N : Nat) (keep : List Nat) (id : Nat) : Option Nat := if id < N then some id else get keep (id - N)
/-- A value behind a cut: what it was. -/
def ren (N : Nat) (keep : List Nat) : Nat → V → Option V
  | 0, _ => none
  | n + 1, v => match v with
    | .lit w => some (.lit w)
    | .agg l => (mapO (ren N keep n) l).map .agg
    | .tup l => (mapO (ren N keep n) l).map .tup
    | .fn f l => (mapO (ren N keep n) l).map (.fn f)
    | .ptr id i off => (rid N keep id).map fun j => .ptr j i off
    | .osl id off len => (rid N keep id).map fun j => .osl j off len
    | .map id => (rid N keep id).map .map
    | .yld id => (rid N keep id).map .yld
    | v => some v
def renB (N : Nat) (keep : List Nat) (n : Nat) : Blk → Option Blk
  | .dead => some .dead
  | .rows es l => (mapO (ren N keep n) l).map (.rows es)
  | .map ks vs => match mapO (ren N keep n) ks, mapO (ren N keep n) vs with
    | some a, some b => some (.map a b)
    | _, _ => none
  | .iter ks vs left last => some (.iter ks vs left last)
  | _ => none

/-- Behind a piece of code that began with N blocks: which of the new ones are kept, and how it is told. -/
structure CutOK (N : Nat) (s1 : St) (keep : List Nat) (K : List (Nat × V)) (H : List Blk) : Prop where
  new : ∀ id, id ∈ keep → N ≤ id ∧ id < s1.H.length
  nodup : keep.Nodup
  len : H.length = N + keep.length
  slots : ∀ t v, kget K t = some v → ∃ n v1, ren N keep n v = some v1 ∧ kget s1.K t = some v1
  blocks : ∀ id B, get H id = some B → B.live = true → ∃ n j, rid N keep id = some j ∧ renB N keep n B = some (hget s1.H j)
  low : ∀ id, id < s1.lo → id < N → get H id = get s1.H id
  nofree : ∀ id, get H id ≠ some .free

inductive Gm (C : Cfg) : List It → St → (Ex → St → Prop) → Prop where
  | nil {s : St} {Q : Ex → St → Prop} : Q .normal s → Gm C [] s Q
  | drop {k : List It} {s : St} {Q : Ex → St → Prop} (K : List (Nat × V)) : (∀ t v, kget K t = some v → kget s.K t = some v) → Gm C k { s with K := K } Q → Gm C k s Q
  | cut {c : Code} {k : List It} {s : St} {Q : Ex → St → Prop} (Q1 : Ex → St → Prop) (keep : Ex → St → List Nat) (K : Ex → St → List (Nat × V)) (H : Ex → St → List Blk) : Gm C [.code c] s Q1 → (∀ e s1, Q1 e s1 → e ≠ .ret → CutOK s.H.length s1 (keep e s1) (K e s1) (H e s1)) → (∀ s1, Q1 .ret s1 → Q .ret s1) →
      (∀ s1, Q1 .normal s1 → Gm C k ⟨K .normal s1, H .normal s1, s.lo, s.rnd, s.n⟩ Q) → (∀ id k' s1, popTo id k = some k' → Q1 (.exit id) s1 → Gm C k' ⟨K (.exit id) s1, H (.exit id) s1, s.lo, s.rnd, s.n⟩ Q) → (∀ id s1, popTo id k = none → Q1 (.exit id) s1 → Q (.exit id) ⟨K (.exit id) s1, H (.exit id) s1, s.lo, s.rnd, s.n⟩) → Gm C (.code c :: k) s Q
  | skip {k : List It} {s : St} {Q : Ex → St → Prop} : Gm C k s Q → Gm C (.code .skip :: k) s Q
  | label {l : Nat} {k : List It} {s : St} {Q : Ex → St → Prop} : Gm C k s Q → Gm C (.code (.label l) :: k) s Q
  | seq {x y : Code} {k : List It} {s : St} {Q : Ex → St → Prop} : Gm C (.code x :: .code y :: k) s Q → Gm C (.code (.seq x y) :: k) s Q
  | condT {c : Operand} {x y : Code} {k : List It} {s : St} {Q : Ex → St → Prop} : kev s.K c = some (.b true) → Gm C (.code x :: k) s Q → Gm C (.code (.cond c x y) :: k) s Q
  | condF {c : Operand} {x y : Code} {k : List It} {s : St} {Q : Ex → St → Prop} : kev s.K c = some (.b false) → Gm C (.code y :: k) s Q → Gm C (.code (.cond c x y) :: k) s Q
  | block {id : Nat} {c : Code} {k : List It} {s : St} {Q : Ex → St → Prop} : Gm C (.code c :: .endB id :: k) s Q → Gm C (.code (.block id c) :: k) s Q
  | endB {id : Nat} {k : List It} {s : St} {Q : Ex → St → Prop} : Gm C k s Q → Gm C (.endB id :: k) s Q
  | loop {c : Code} {k : List It} {s : St} {Q : Ex → St → Prop} : Gm C (.code c :: .inLoop c :: k) s Q → Gm C (.code (.loop c) :: k) s Q
  | inLoop {c : Code} {k : List It} {s : St} {Q : Ex → St → Prop} : Gm C (.code c :: .inLoop c :: k) s Q → Gm C (.inLoop c :: k) s Q
  | exit {id : Nat} {k k' : List It} {s : St} {Q : Ex → St → Prop} : popTo id k = some k' → Gm C k' s Q → Gm C (.code (.exit id) :: k) s Q
  | exitOut {id : Nat} {k : List It} {s : St} {Q : Ex → St → Prop} : popTo id k = none → Q (.exit id) s → Gm C (.code (.exit id) :: k) s Q
  | ret {k : List It} {s : St} {Q : Ex → St → Prop} : Q .ret s → Gm C (.code .ret :: k) s Q
  | region {id : Nat} {ops : Array Oper} {k : List It} {s : St} {Q : Ex → St → Prop} : Gm C (.ops ops.toList ops.toList :: k) s Q → Gm C (.code (.region id ops false) :: k) s Q
  | opsNil {all : List Oper} {k : List It} {s : St} {Q : Ex → St → Prop} : Gm C k s Q → Gm C (.ops all [] :: k) s Q
  | opSkip {all os : List Oper} {o : Oper} {k : List It} {s : St} {Q : Ex → St → Prop} : wants all s.K o.guard = some false → Gm C (.ops all os :: k) (s.put o.dst undefV) Q → Gm C (.ops all (o :: os) :: k) s Q
  | op {all os : List Oper} {o : Oper} {k : List It} {s : St} {Q : Ex → St → Prop} {e : Eff} : wants all s.K o.guard = some true → opEff C s.K s.H s.lo s.H.length o.op = some e → Gm C (.ops all os :: k) (s.eff o.dst e) Q → Gm C (.ops all (o :: os) :: k) s Q
  | ext {all os : List Oper} {o : Oper} {k : List It} {s : St} {Q : Ex → St → Prop} {f : Nat} {args args' : List V} {v : V} {fl : Bool} : wants all s.K o.guard = some true → callee s.K o.op = some (.fn f args) → CloArgs s.H fl args args' → C.X f args' v → (fl = true → ∃ n, flat n v = true) →
      Gm C (.ops all os :: k) (s.put o.dst v) Q → Gm C (.ops all (o :: os) :: k) s Q
  | clo {all os : List Oper} {o : Oper} {k : List It} {s : St} {Q : Ex → St → Prop} {f : Nat} {args args' : List V} {fl : Bool} {c : Code} {fn : Func} (T : V → Prop) : wants all s.K o.guard = some true → callee s.K o.op = some (.fn f args) → bodyOf C f args.length = some (c, fn) → CloArgs s.H fl args args' →
      Gm C [.code c] (St.call fn args' [] 0) (fun e s1 => ∃ v v', finA C fn e s1 = some v ∧ FrzTo s1 v v' ∧ (fl = true → ∃ n, flat n v' = true) ∧ T v') → (∀ v', T v' → Gm C (.ops all os :: k) (s.put o.dst v') Q) → Gm C (.ops all (o :: os) :: k) s Q
  | sub {all os : List Oper} {o : Oper} {k : List It} {s : St} {Q : Ex → St → Prop} {f : Nat} {args : List V} {c : Code} {fn : Func} {H' : List Blk} (T : V → Prop) : wants all s.K o.guard = some true → callee s.K o.op = some (.fn f args) → bodyOf C f args.length = some (c, fn) → SubH H' s.H →
      Gm C [.code c] (St.call fn args H' H'.length) (fun e s1 => ∃ v v', finA C fn e s1 = some v ∧ FrzTo s1 v v' ∧ T v') → (∀ v', T v' → Gm C (.ops all os :: k) (s.put o.dst v') Q) → Gm C (.ops all (o :: os) :: k) s Q
  | im {all os : List Oper} {o : Oper} {k : List It} {s : St} {Q : Ex → St → Prop} {f : Nat} {args : List V} {c : Code} {fn : Func} (T : V → List Blk → Prop) : wants all s.K o.guard = some true → callee s.K o.op = some (.fn f args) → bodyOf C f args.length = some (c, fn) →
      Gm C [.code c] (St.call fn args s.H s.lo) (fun e s1 => ∃ v, finA C fn e s1 = some v ∧ T v s1.H) → (∀ v H, T v H → Gm C (.ops all os :: k) (St.put { s with H := H } o.dst v) Q) → Gm C (.ops all (o :: os) :: k) s Q
  | next {all os : List Oper} {o : Oper} {k : List It} {s : St} {Q : Ex → St → Prop} {x : Operand} {id : Nat} {ks vs : List V} {left : List Nat} {last : Option Nat} : o.op = .next x false → wants all s.K o.guard = some true → kev s.K x = some (.ptr id 0 0) → hget s.H id = .iter ks vs left last → s.lo ≤ id →
      (left = [] → Gm C (.ops all os :: k) (s.put o.dst (.tup [.b false])) Q) → (∀ j kv vv, j ∈ left → get ks j = some kv → get vs j = some vv → Gm C (.ops all os :: k) (St.put { s with H := hput s.H id (.iter ks vs (left.filter (· ≠ j)) (some j)) } o.dst (.tup [.b true, kv, vv])) Q) → Gm C (.ops all (o :: os) :: k) s Q
  | yld {all os : List Oper} {o : Oper} {k : List It} {s : St} {Q : Ex → St → Prop} {id : Nat} {args : List V} {r : LoopR} {K' : List (Nat × V)} (T1 T2 : St → Prop) : wants all s.K o.guard = some true → callee s.K o.op = some (.yld id args) → hget s.H id = .loop r → kputs r.K r.ps args = some K' → r.ps.all (fun p => Nat.blt p r.n) = true → s.lo ≤ id →
      Gm C [.code r.assign] ⟨K', s.H, s.lo, some id, r.n⟩ (fun e s1 => ∃ s1', beginA id e s1 = some s1' ∧ T1 s1') → (∀ s1', T1 s1' → Gm C [.code r.body] s1' (fun e s2 => ∃ s3, endRound id e s2 s o.dst = some s3 ∧ T2 s3)) →
      (∀ s3, T2 s3 → Gm C (.ops all os :: k) s3 Q) → Gm C (.ops all (o :: os) :: k) s Q
  | range {g : Operand} {ps : Array Tmp} {assign body : Code} {k : List It} {s : St} {Q : Ex → St → Prop} {f : Nat} {caps : List V} {c : Code} {fn : Func} (T : List It × St → Prop) : kev s.K g = some (.fn f caps) → bodyOf C f (caps.length + 1) = some (c, fn) → rndOK s = true →
      Gm C [.code c] (St.call fn (.yld s.H.length :: caps) (s.H ++ [.loop ⟨s.n, s.K, ps.toList, assign, body, .ready, none⟩]) s.lo) (fun e s' => ∃ v p, finA C fn e s' = some v ∧ endRange s.H.length e s' s k = some p ∧ T p) →
      (∀ p, T p → Gm C p.1 p.2 Q) → Gm C (.code (.rangeFunc g ps assign body) :: k) s Q
  | draw {id : Nat} {ops : Array Oper} {k : List It} {s sn : St} {Q : Ex → St → Prop} (es : List (Eff × Option CallD)) : regOK ops.toList = true → DRun C ops.toList ops.toList 0 s.H.length { s with H := s.H ++ addFree (allocN ops.toList) } [] es sn →
      (∀ (i : Nat) e d, es[i]? = some (e, some d) → Gm C [.code d.c] (St.call d.fn d.args d.H d.H.length) (fun x s1 => ∃ v, finA C d.fn x s1 = some v ∧ FrzTo s1 v e.v)) → Gm C k sn Q → Gm C (.code (.region id ops true) :: k) s Q

end Go.Am
