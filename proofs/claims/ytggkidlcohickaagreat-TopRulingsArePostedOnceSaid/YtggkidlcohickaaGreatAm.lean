/- An abstract machine for plain code: values that carry what they point to, blocks of the call's own, and a run that the kernel can compute. Definitions. Conditions: none. -/
import GoSem.Step
import Derived.Laws.Sem
set_option linter.unusedVariables false
namespace Go.Am
open Go
inductive V where
 | lit (v:Value)
 | agg (l:List V)
 | tup (l:List V)
 | ptr (id i off:Nat)
 | fptr (rows:List V) (i off:Nat)
 | sl (rows:List V)
 | osl (id off len:Nat)
 | fn (f:Nat) (caps:List V)
 | yld (id:Nat)
 | map (id:Nat)
 | fmap (ks vs:List V)
 | uns
 | omap (id:Nat) (ks vs:List V)
 deriving Inhabited
def V.cells : V→List V
 | .agg l=>l
 | v=>[v]
abbrev V.i (n:Int):V:=.lit (.int .i64 n)
abbrev V.b (x:Bool):V:=.lit (.bool x)
abbrev V.nil : V:=.lit (.slice none 0 0)
abbrev jA : V:=.lit (.tuple #[])
structure Fld where
 off:Nat
 size:Nat
 ty:Nat
inductive Kd where
 | plain
 | int (k:IntKind)
 | bool
 | ptr
 | func
 | struct (ps:List Fld)
 | slice (e es:Nat)
 | arr (n e es:Nat)
 | map (k e:Nat)
structure TI where
 agg:Bool
 size:Nat
 bytes:Nat
 zs:List Value
 kd:Kd
def TI.zero (T:TI):V:=if T.agg then .agg (T.zs.map .lit) else .lit (T.zs.headD undef)
inductive BT (α:Type) where
 | nil
 | node (k:Nat) (v:α) (l r:BT α)
def BT.get {α:Type}:BT α→Nat→Option α
 | .nil,_=>none
 | .node k v l r,n=>cond (Nat.beq n k) (some v) (cond (Nat.blt n k) (l.get n) (r.get n))
structure zCe where
 n:Nat
 K:List (Nat×V)
 ps:List Nat
 assign:Code
 body:Code
 st:LoopState
 pend:Option Code
inductive Blk where
 | dead
 | free
 | rows (es:Nat) (l:List V)
 | map (ks vs:List V)
 | loop (r:zCe)
 | iter (ks vs:List V) (left:List Nat) (last:Option Nat)
 | oiter (ks vs:List V) (left:List Nat) (last:Option Nat)
def get {α:Type}:List α→Nat→Option α
 | [],_=>none
 | x :: _,0=>some x
 | _ :: r,n+1=>get r n
def set {α:Type}:List α→Nat→α→List α
 | [],_,_=>[]
 | _ :: r,0,y=>y :: r
 | x :: r,n+1,y=>x :: set r n y
def hput : List Blk→Nat→Blk→List Blk
 | [],0,y=>[y]
 | [],_+1,_=>[]
 | _ :: r,0,y=>y :: r
 | x :: r,n+1,y=>x :: hput r n y
def hget (H:List Blk) (id:Nat):Blk:=match get H id with
 | some b=>b
 | none=>.dead
def JI {α:Type} (c:List α):Nat→Nat→Option (List α)
 | _,0=>some []
 | off,n+1=>match get c off,JI c (off+1) n with
  | some x,some r=>some (x :: r)
  | _,_=>none
def setAt {α:Type}:List α→Nat→List α→Option (List α)
 | c,_,[]=>some c
 | c,off,v :: r=>match get c off with
  | some _=>setAt (set c off v) (off+1) r
  | none=>none
def mapO {α β:Type} (f:α→Option β):List α→Option (List β)
 | []=>some []
 | x :: r=>match f x,mapO f r with
  | some y,some s=>some (y :: s)
  | _,_=>none
def kget : List (Nat×V)→Nat→Option V
 | [],_=>none
 | (k,v) :: r,t=>cond (Nat.beq k t) (some v) (kget r t)
def kput : List (Nat×V)→Nat→V→List (Nat×V)
 | [],d,v=>[(d,v)]
 | (k,u) :: r,d,v=>cond (Nat.beq k d) ((d,v) :: r) ((k,u) :: kput r d v)
def kputs : List (Nat×V)→List Nat→List V→Option (List (Nat×V))
 | K,[],[]=>some K
 | K,d :: ds,v :: vs=>kputs (kput K d v) ds vs
 | _,_,_=>none
def kev (K:List (Nat×V)):Operand→Option V
 | .tmp t=>kget K t
 | .const (.agg cs)=>if cs.toList.all (·.oneCell') then some (.agg (cs.toList.map .lit)) else none
 | .const v=>some (.lit v)
 | .func f=>bif Nat.blt f 1000000 then some (.fn f []) else none
 | .global _=>none
def kevs (K:List (Nat×V)):List Operand→Option (List V)
 | []=>some []
 | x :: r=>match kev K x,kevs K r with
  | some v,some vs=>some (v :: vs)
  | _,_=>none
def kargs : Nat→List V→List (Nat×V)
 | _,[]=>[]
 | i,v :: r=>(i,v) :: kargs (i+1) r
structure Cfg where
 P:Program
 ty:Nat→Option TI
 fn:Nat→Option Func
 X:Nat→List V→V→Prop
structure Eff where
 v:V
 wr:List (Nat×Blk)
 rd:List Nat
def Eff.pure (v:V):Eff:=⟨v,[],[]⟩
def Jy : IntKind→IntKind→Bool
 | .i8,.i8 | .i16,.i16 | .i32,.i32 | .i64,.i64 | .u8,.u8 | .u16,.u16 | .u32,.u32 | .u64,.u64=>true
 | _,_=>false
def intA (op:BinOp) (k:IntKind) (a b:Int):Option V :=
 match op with
 | .add=>some (.lit (.int k (k.wrap (a+b))))
 | .sub=>some (.lit (.int k (k.wrap (a - b))))
 | .mul=>some (.lit (.int k (k.wrap (a*b))))
 | .quo=>if b=0 then none else some (.lit (.int k (k.wrap (a.tdiv b))))
 | .rem=>if b=0 then none else some (.lit (.int k (a.tmod b)))
 | .and=>some (.lit (.int k (k.wrap (BitVec.ofInt k.bits a &&& BitVec.ofInt k.bits b).toNat)))
 | .or=>some (.lit (.int k (k.wrap (BitVec.ofInt k.bits a ||| BitVec.ofInt k.bits b).toNat)))
 | .xor=>some (.lit (.int k (k.wrap (BitVec.ofInt k.bits a ^^^ BitVec.ofInt k.bits b).toNat)))
 | .andNot=>some (.lit (.int k (k.wrap (BitVec.ofInt k.bits a &&& ~~~ BitVec.ofInt k.bits b).toNat)))
 | .eql=>some (.b (decide (a=b)))
 | .neq=>some (.b (!decide (a=b)))
 | .lss=>some (.b (decide (a<b)))
 | .leq=>some (.b (decide (a≤b)))
 | .gtr=>some (.b (decide (b<a)))
 | .geq=>some (.b (decide (b≤a)))
 | _=>none
def zIN (op:BinOp) (k:IntKind) (a b:Int):Option V :=
 if b<0 then none else
 match op with
 | .shl=>some (.lit (.int k (k.wrap (a*2 ^ (min b.toNat k.bits)))))
 | .shr=>some (.lit (.int k (a.fdiv (2 ^ (min b.toNat k.bits)))))
 | _=>none
def Jd (T:TI) (off:Nat) (cs:List V):Option V:=if T.agg then (JI cs off T.size).map .agg else get cs off
def YR (f:Nat→V→V→Option Bool) (part:Nat→Nat→List V→Option V) (xs ys:List V):List Fld→Option Bool
 | []=>some true
 | p :: ps=>match part p.ty p.off xs,part p.ty p.off ys with
  | some x,some y=>match f p.ty x y with
   | some true=>YR f part xs ys ps
   | some false=>some false
   | none=>none
  | _,_=>none
def qA (f:V→V→Option Bool) (part:Nat→List V→Option V) (es:Nat) (xs ys:List V):Nat→Nat→Option Bool
 | 0,_=>some true
 | n+1,i=>match part (i*es) xs,part (i*es) ys with
  | some x,some y=>match f x y with
   | some true=>qA f part es xs ys n (i+1)
   | some false=>some false
   | none=>none
  | _,_=>none
def eqT (ty:Nat→Option TI):Nat→Nat→V→V→Option Bool
 | 0,_,_,_=>none
 | d+1,t,x,y=>match ty t with
  | none=>none
  | some T=>match T.kd,x,y with
   | .int _,.lit (.int k a),.lit (.int k' b)=>if Jy k k' then some (decide (a=b)) else none
   | .bool,.lit (.bool a),.lit (.bool b)=>some (a==b)
   | .struct ps,.agg xs,.agg ys=>YR (eqT ty d) (fun t off cs=>match ty t with | some T=>Jd T off cs | none=>none) xs ys ps
   | .arr n e es,.agg xs,.agg ys=>qA (eqT ty d e) (fun off cs=>match ty e with | some T=>Jd T off cs | none=>none) es xs ys n 0
   | _,_,_=>none
def zKA : V→V→Option Bool
 | .lit (.pointer none),.lit (.pointer none)=>some true
 | .lit (.pointer none),.ptr .. => some false
 | .lit (.pointer none),.fptr .. => some false
 | .ptr ..,.lit (.pointer none)=>some false
 | .fptr ..,.lit (.pointer none)=>some false
 | _,_=>none
def zKB : V→V→Option Bool
 | .lit (.map none),.lit (.map none)=>some true
 | .lit (.map none),.map _=>some false
 | .lit (.map none),.fmap .. => some false
 | .map _,.lit (.map none)=>some false
 | .fmap ..,.lit (.map none)=>some false
 | _,_=>none
def eqFn : V→V→Option Bool
 | .lit .nilFunc,.lit .nilFunc=>some true
 | .lit .nilFunc,.fn .. => some false
 | .fn ..,.lit .nilFunc=>some false
 | _,_=>none
def eqA (ty:Nat→Option TI) (t:Nat) (x y:V):Option Bool:=match ty t with
 | none=>none
 | some T=>match T.kd with
  | .ptr=>zKA x y
  | .map _ _=>zKB x y
  | .func=>eqFn x y
  | _=>eqT ty 6 t x y
def binA (ty:Nat→Option TI) (op:BinOp) (t:Nat) (x y:V):Option V :=
 match op,x,y with
 | .shl,.lit (.int k a),.lit (.int _ b)=>zIN .shl k a b
 | .shr,.lit (.int k a),.lit (.int _ b)=>zIN .shr k a b
 | op,.lit (.int k a),.lit (.int k' b)=>if Jy k k' then intA op k a b else none
 | .eql,x,y=>(eqA ty t x y).map .b
 | .neq,x,y=>(eqA ty t x y).map fun r=>.b (!r)
 | _,_,_=>none
def unA (op:UnOp) (x:V):Option V:=match op,x with
 | .neg,.lit (.int k n)=>some (.lit (.int k (k.wrap (0 - n))))
 | .xor,.lit (.int k n)=>some (.lit (.int k (k.wrap (BitVec.ofInt k.bits (if k.signed then -1 else k.max) ^^^ BitVec.ofInt k.bits n).toNat)))
 | .not,.lit (.bool b)=>some (.b (!b))
 | _,_=>none
def rowsOf (H:List Blk):V→Option (List V×List Nat)
 | .lit (.slice none 0 0)=>some ([],[])
 | .sl l=>some (l,[])
 | .osl id off len=>match hget H id with
  | .rows es l=>(JI l off len).map fun r=>(r,[id])
  | _=>none
 | _=>none
def lenS : V→Option Nat
 | .lit (.slice none 0 0)=>some 0
 | .sl l=>some l.length
 | .osl _ _ len=>some len
 | _=>none
def lenM (H:List Blk):V→Option (Nat×List Nat)
 | .lit (.map none)=>some (0,[])
 | .fmap ks _=>some (ks.length,[])
 | .map id=>match hget H id with
  | .map ks _=>some (ks.length,[id])
  | _=>none
 | _=>none
def rowOK (es:Nat):Option V→Bool
 | some r=>Nat.beq r.cells.length es
 | none=>false
def zBW (H:List Blk) (T:TI) (x:V) (n:Int):Option (V×List Nat):=match T.kd,x with
 | .slice _ es,.sl l=>if 0≤n∧n<l.length∧rowOK es (get l n.toNat) then some (.fptr l n.toNat 0,[]) else none
 | .slice _ es,.osl id off len=>match hget H id with
  | .rows es' _=>if 0≤n∧n<len∧Nat.beq es es' then some (.ptr id (off+n.toNat) 0,[id]) else none
  | _=>none
 | .arr k _ es,.ptr id i off=>if 0≤n∧n<k then some (.ptr id i (off+n.toNat*es),[]) else none
 | .arr k _ es,.fptr l i off=>if 0≤n∧n<k then some (.fptr l i (off+n.toNat*es),[]) else none
 | _,_=>none
def jY (K:List (Nat×V)):Option Operand→Int→Option Int
 | none,d=>some d
 | some x,_=>match kev K x with
  | some (.lit (.int _ n))=>some n
  | _=>none
def rowOK' (es:Nat):Option V→Bool
 | some r=>Nat.beq r.cells.length es
 | none=>true
def zAY (H:List Blk) (es:Nat) (x:V) (lo hi:Int) (mx:Bool) (m:Int):Option (V×List Nat):=match x with
 | .sl l=>if 0≤lo∧lo≤hi∧hi≤m∧m≤l.length∧rowOK' es (get l lo.toNat) then some (.sl ((l.take hi.toNat).drop lo.toNat),[]) else none
 | .osl id off len=>if mx then none else match hget H id with
  | .rows es' l=>if 0≤lo∧lo≤hi∧off+hi≤l.length∧Nat.beq es es' then some (.osl id (off+lo.toNat) (hi.toNat - lo.toNat),[id]) else none
  | _=>none
 | .lit (.slice none 0 0)=>if lo=0∧hi=0∧!mx then some (.nil,[]) else none
 | _=>none
def V.one : V→Bool
 | .agg _=>false
 | .tup _=>false
 | .lit (.tuple _)=>false
 | .lit (.agg _)=>false
 | _=>true
def V.ok : V→Bool
 | .agg _=>true
 | v=>v.one
def Jr (T:TI) (v:V):Bool:=match v with
 | .agg l=>T.agg&&Nat.beq l.length T.size
 | v=>v.one && !T.agg&&Nat.beq T.size 1
def Q8 : Nat:=4294967296
def zEF (T:TI):List V→Bool
 | []=>true
 | r :: _=>Jr T r
def zAD (T:TI) (es:Nat) (l:List V) (lo nid id off len:Nat) (new:List V) (rd:List Nat):Option Eff :=
 if off+len=l.length then
  if off+len+new.length≤Q8∧T.bytes≤4096 then some ⟨.osl nid 0 (len+new.length),[(id,.dead),(nid,.rows es (l.drop off++new))],nid :: id :: rd⟩ else none
 else if off+len+new.length≤l.length then match setAt l (off+len) new with
  | some l' => some ⟨.osl id off (len+new.length),[(id,.rows es l')],id :: rd⟩
  | none=>none
 else none
def yt (T:TI) (H:List Blk) (lo nid:Nat) (x y:V):Option Eff:=match rowsOf H y with
 | none=>none
 | some (new,rd)=>cond (zEF T new) (match x with
  | .lit (.slice none 0 0)=>match new with
   | []=>some ⟨.nil,[],rd⟩
   | _=>if new.length≤Q8∧T.bytes≤4096 then some ⟨.osl nid 0 new.length,[(nid,.rows T.size new)],nid :: rd⟩ else none
  | .osl id off len=>if id<lo then none else match hget H id with
   | .rows es l=>cond (Nat.beq es T.size) (zAD T es l lo nid id off len new rd) none
   | _=>none
  | _=>none) none
def zAO (H:List Blk) (T:TI):V→Option (V×List Nat)
 | .ptr id i off=>match hget H id with
  | .rows es l=>match get l i with
   | some r=>(Jd T off r.cells).map fun v=>(v,[id])
   | none=>none
  | _=>none
 | .fptr l i off=>match get l i with
  | some r=>(Jd T off r.cells).map fun v=>(v,[])
  | none=>none
 | _=>none
def zDT (r:V) (off:Nat) (cs:List V):Option V:=match r with
 | .agg l=>(setAt l off cs).map .agg
 | _=>match off,cs with
  | 0,[c]=>some c
  | _,_=>none
def zBv (H:List Blk) (lo:Nat) (T:TI) (x v:V):Option Eff:=match x with
 | .ptr id i off=>if id<lo then none else if Jr T v then match hget H id with
  | .rows es l=>match get l i with
   | some r=>(zDT r off v.cells).map fun r' => ⟨jA,[(id,.rows es (set l i r'))],[id]⟩
   | none=>none
  | _=>none
  else none
 | _=>none
def zH4 (place:Nat→Option (Nat×Nat)):List V→List (Nat×V)→Option (List V)
 | cs,[]=>some cs
 | cs,(i,v) :: r=>match place i with
  | some (off,size)=>if Nat.beq v.cells.length size&&v.ok then match setAt cs off v.cells with
   | some cs' => zH4 place cs' r
   | none=>none
   else none
  | none=>none
def zJ8 (T:TI):List V→List (Nat×V)→Option (List V)
 | l,[]=>some l
 | l,(i,v) :: r=>if Jr T v then match get l i with
  | some _=>zJ8 T (set l i v) r
  | none=>none
  else none
def kparts (K:List (Nat×V)):List (Nat×Operand)→Option (List (Nat×V))
 | []=>some []
 | (i,x) :: r=>match kev K x,kparts K r with
  | some v,some vs=>some ((i,v) :: vs)
  | _,_=>none
def zDg : List V→Option (List (IntKind×Int))
 | []=>some []
 | .lit (.int k n) :: r=>match zDg r with
  | some s=>some ((k,n) :: s)
  | none=>none
 | _=>none
def zAR : List IntKind→List IntKind→Bool
 | [],[]=>true
 | a :: r,b :: s=>Jy a b&&zAR r s
 | _,_=>false
def QC : V→V→Option Bool
 | .lit (.int k a),.lit (.int k' b)=>if Jy k k' then some (decide (a=b)) else none
 | .lit (.bool a),.lit (.bool b)=>some (a==b)
 | .agg xs,.agg ys=>match zDg xs,zDg ys with
  | some a,some b=>if zAR (a.map (·.1)) (b.map (·.1)) then some (decide (a=b)) else none
  | _,_=>none
 | _,_=>none
def zFm (k:V):List V→Nat→Option (Option Nat)
 | [],_=>some none
 | x :: r,i=>match QC k x with
  | some true=>some (some i)
  | some false=>zFm k r (i+1)
  | none=>none
def qp (C:Cfg):Nat→List Fld→Option (List IntKind)
 | _,[]=>some []
 | o,p :: r=>cond (Nat.beq p.off o) (match C.ty p.ty with
  | some T=>match T.kd with
   | .int k=>cond T.agg none ((qp C (o+1) r).map (k :: ·))
   | _=>none
  | none=>none) none
def zK3 (C:Cfg):Kd→Option (List IntKind)
 | .struct ps=>qp C 0 ps
 | .arr n e 1=>match C.ty e with
  | some T=>match T.kd with
   | .int k=>cond T.agg none (some (List.replicate n k))
   | _=>none
  | none=>none
 | _=>none
def Q4 (C:Cfg):Kd→V→Bool
 | .int k,.lit (.int k' _)=>Jy k k'
 | kd,.agg l=>match zK3 C kd,zDg l with
  | some ks,some is=>zAR ks (is.map (·.1))
  | _,_=>false
 | _,_=>false
def Ya : V→List V→Nat
 | .lit (.int k a),.lit (.int k' b) :: r=>cond (decide (b<a)) (Ya (.lit (.int k a)) r+1) 0
 | _,_ :: r=>Ya (.b true) r+1
 | _,[]=>0
def ins {α:Type}:List α→Nat→α→List α
 | l,0,x=>x :: l
 | [],_+1,x=>[x]
 | y :: r,n+1,x=>y :: ins r n x
def zBk (C:Cfg) (t:Nat):Option (Kd×TI):=match C.ty t with
 | some T=>match T.kd with
  | .map kt e=>match C.ty kt,C.ty e with
   | some Tk,some Te=>some (Tk.kd,Te)
   | _,_=>none
  | _=>none
 | none=>none
def qi (Te:TI) (ok:Bool) (k:V) (ks vs:List V) (rd:List Nat):Option Eff:=match zFm k ks 0 with
 | some (some i)=>match get vs i with
  | some v=>some ⟨cond ok (.tup [v,.b true]) v,[],rd⟩
  | none=>none
 | some none=>some ⟨cond ok (.tup [Te.zero,.b false]) Te.zero,[],rd⟩
 | none=>none
def zCK (C:Cfg) (H:List Blk) (t:Nat) (x k:V) (ok:Bool):Option Eff:=match zBk C t with
 | some (kd,Te)=>cond (Q4 C kd k) (match x with
  | .lit (.map none)=>qi Te ok k [] [] []
  | .fmap ks vs=>qi Te ok k ks vs []
  | .map id=>match hget H id with
   | .map ks vs=>qi Te ok k ks vs [id]
   | _=>none
  | _=>none) none
 | none=>none
def Qy (C:Cfg) (H:List Blk) (lo:Nat) (t:Nat) (x k v:V):Option Eff:=match zBk C t with
 | some (kd,_)=>cond (Q4 C kd k) (match x with
  | .map id=>if id<lo then none else match hget H id with
   | .map ks vs=>match zFm k ks 0 with
    | some (some i)=>some ⟨jA,[(id,.map ks (set vs i v))],[id]⟩
    | some none=>some ⟨jA,[(id,.map (ins ks (Ya k ks) k) (ins vs (Ya k ks) v))],[id]⟩
    | none=>none
   | _=>none
  | _=>none) none
 | none=>none
def minR : V→List V→Option V
 | v,[]=>some v
 | .lit (.int k x),.lit (.int k' y) :: r=>if Jy k k' then minR (.lit (.int k (if y<x then y else x))) r else none
 | _,_=>none
def maxR : V→List V→Option V
 | v,[]=>some v
 | .lit (.int k x),.lit (.int k' y) :: r=>if Jy k k' then maxR (.lit (.int k (if x<y then y else x))) r else none
 | _,_=>none
def zBc (T:TI) (H:List Blk) (lo:Nat) (x:V):Option Eff:=match x with
 | .osl id off len=>if id<lo then none else match hget H id with
  | .rows es l=>cond (Nat.beq es T.size) (match setAt l off (List.replicate len T.zero) with
   | some l' => some ⟨jA,[(id,.rows es l')],[id]⟩
   | none=>none) none
  | _=>none
 | _=>none
def Z5 (C:Cfg) (t:Nat):Option TI:=match C.ty t with
 | some T=>match T.kd with
  | .slice e _=>C.ty e
  | _=>none
 | none=>none
def zAC (C:Cfg) (H:List Blk):List Nat→List V→Option Eff
 | [t],[x]=>match C.ty t with
  | some T=>match T.kd with
   | .slice _ _=>match lenS x with
    | some n=>some ⟨.i (n:Nat),[],[]⟩
    | none=>none
   | .map _ _=>match lenM H x with
    | some p=>some ⟨.i (p.1:Nat),[],p.2⟩
    | none=>none
   | _=>none
  | none=>none
 | _,_=>none
def Yb (C:Cfg) (H:List Blk) (lo nid:Nat):List Nat→List V→Option Eff
 | [t,t2],[x,y]=>cond (Nat.beq t t2) (match Z5 C t with
  | some Te=>yt Te H lo nid x y
  | none=>none) none
 | _,_=>none
def Jc : Option V→Option Eff
 | some v=>some ⟨v,[],[]⟩
 | none=>none
def zMH : List V→Option Eff
 | x :: r=>Jc (minR x r)
 | []=>none
def zMI : List V→Option Eff
 | x :: r=>Jc (maxR x r)
 | []=>none
def zC8 (C:Cfg) (H:List Blk) (lo:Nat):List Nat→List V→Option Eff
 | t :: _,[x]=>match Z5 C t with
  | some Te=>zBc Te H lo x
  | none=>none
 | _,_=>none
def Z0 (C:Cfg) (H:List Blk) (lo nid:Nat) (b:Builtin) (ats:List Nat) (args:List V):Option Eff:=match b with
 | .len=>zAC C H ats args
 | .append=>Yb C H lo nid ats args
 | .min=>zMH args
 | .max=>zMI args
 | .clear=>zC8 C H lo ats args
 | _=>none
section
variable (C:Cfg) (K:List (Nat×V)) (H:List Blk) (lo nid:Nat)
def zC6 (c a b:Operand):Option Eff:=match kev K c with
 | some (.lit (.bool true))=>Jc (kev K a)
 | some (.lit (.bool false))=>Jc (kev K b)
 | _=>none
def zG6 (t:Nat):Option Eff:=match C.ty t with
 | some T=>some ⟨.ptr nid 0 0,[(nid,.rows T.size [T.zero])],[nid]⟩
 | none=>none
def zIw (t:Nat) (x:Operand):Option Eff:=match C.ty t,kev K x with
 | some T,some v=>if Jr T v then some ⟨.ptr nid 0 0,[(nid,.rows T.size [v])],[nid]⟩ else none
 | _,_=>none
def zGx (fs:List Fld) (i:Nat):Option (Nat×Nat):=match get fs i with
 | some f=>some (f.off,f.size)
 | none=>none
def aggO : Option (List V)→Option Eff
 | some cs=>some ⟨.agg cs,[],[]⟩
 | none=>none
def zEd (t:Nat) (ps:List (Nat×Operand)):Option Eff:=match C.ty t,kparts K ps with
 | some T,some l=>match T.kd with
  | .struct fs=>aggO (zH4 (zGx fs) (T.zs.map .lit) l)
  | .arr _ _ es=>if es=0 then none else aggO (zH4 (fun i=>some (i*es,es)) (T.zs.map .lit) l)
  | _=>none
 | _,_=>none
def Jz (t n:Nat) (ps:List (Nat×Operand)):Option Eff:=match Z5 C t,kparts K ps with
 | some Te,some l=>if n*Te.size≤65536 then match zJ8 Te (List.replicate n Te.zero) l with
  | some rows=>some ⟨.osl nid 0 n,[(nid,.rows Te.size rows)],[nid]⟩
  | none=>none
  else none
 | _,_=>none
def QH (t:Nat) (x:Operand):Option Eff:=match C.ty t,kev K x with
 | some T,some a=>match zAO H T a with
  | some p=>some ⟨p.1,[],p.2⟩
  | none=>none
 | _,_=>none
def QG (t:Nat) (x y:Operand):Option Eff:=match C.ty t,kev K x,kev K y with
 | some T,some a,some v=>zBv H lo T a v
 | _,_,_=>none
def nilOK : V→Bool
 | .ptr .. => true
 | .fptr .. => true
 | .fn .. => true
 | .yld _=>true
 | .lit (.int _ _)=>true
 | .osl .. => true
 | .sl _=>true
 | _=>false
def zIv (x:Operand):Option Eff:=match kev K x with
 | some v=>cond (nilOK v) (some ⟨v,[],[]⟩) none
 | none=>none
def YF (op:BinOp) (t:Nat) (x y:Operand):Option Eff:=match kev K x,kev K y with
 | some a,some b=>Jc (binA C.ty op t a b)
 | _,_=>none
def zKE (op:UnOp) (x:Operand):Option Eff:=match kev K x with
 | some a=>Jc (unA op a)
 | none=>none
def zBb (s d:Nat) (x:Operand):Option Eff:=match C.ty s,C.ty d,kev K x with
 | some _,some D,some (.lit (.int _ n))=>match D.kd with
  | .int k=>some ⟨.lit (.int k (k.wrap n)),[],[]⟩
  | _=>none
 | _,_,_=>none
def zF4 (f:Fn) (first caps:List Operand):Option Eff:=match f with
 | .func f=>bif Nat.blt f 1000000 then (match first with
  | []=>match kevs K caps with
   | some vs=>some ⟨.fn f vs,[],[]⟩
   | none=>none
  | x :: r=>match caps,kevs K (x :: r) with
   | [],some vs=>some ⟨.fn (f+1000000) vs,[],[]⟩
   | _,_=>none) else none
 | _=>none
def qB (t:Nat) (l c:Operand):Option Eff:=match Z5 C t,kev K l,kev K c with
 | some Te,some (.lit (.int _ n)),some (.lit (.int _ m))=>if n=m∧0≤n∧n≤1048576∧Te.bytes≤4096 then some ⟨.osl nid 0 n.toNat,[(nid,.rows Te.size (List.replicate n.toNat Te.zero))],[nid]⟩ else none
 | _,_,_=>none
def YS (es:Nat) (v:V) (l h m:Option Operand):Option Eff:=if m.isSome&&h.isNone then none else match lenS v with
 | some n=>match jY K l 0,jY K h n with
  | some lo',some hi' => match jY K m hi' with
   | some m' => match zAY H es v lo' hi' m.isSome m' with
    | some p=>some ⟨p.1,[],p.2⟩
    | none=>none
   | none=>none
  | _,_=>none
 | none=>none
def YE (t:Nat) (x:Operand) (l h m:Option Operand):Option Eff:=match Z5 C t,kev K x with
 | some Te,some v=>YS K H Te.size v l h m
 | _,_=>none
def zJ9 (ps:List Fld) (f:Nat):V→Option Eff
 | .ptr id i off=>match get ps f with
  | some p=>some ⟨.ptr id i (off+p.off),[],[]⟩
  | none=>none
 | .fptr l i off=>match get ps f with
  | some p=>some ⟨.fptr l i (off+p.off),[],[]⟩
  | none=>none
 | _=>none
def qC (t:Nat) (x:Operand) (f:Nat):Option Eff:=match C.ty t,kev K x with
 | some T,some a=>match T.kd with
  | .struct ps=>zJ9 ps f a
  | _=>none
 | _,_=>none
def jV (t:Nat) (x i:Operand):Option Eff:=match C.ty t,kev K x,kev K i with
 | some T,some v,some (.lit (.int _ n))=>match zBW H T v n with
  | some p=>some ⟨p.1,[],p.2⟩
  | none=>none
 | _,_,_=>none
def zEc (t:Nat) (x i:Operand):Option Eff:=match C.ty t,kev K x,kev K i with
 | some T,some (.agg cs),some (.lit (.int _ n))=>match T.kd with
  | .arr k e es=>match C.ty e with
   | some Te=>if 0≤n∧n<k then Jc (Jd Te (n.toNat*es) cs) else none
   | none=>none
  | _=>none
 | _,_,_=>none
def idxs : Nat→Nat→List Nat
 | _,0=>[]
 | i,n+1=>i :: idxs (i+1) n
def zEb (t:Nat) (x:Operand):Option Eff:=match C.ty t,kev K x with
 | some T,some (.fmap ks vs)=>match T.kd with
  | .map _ _=>some ⟨.ptr nid 0 0,[(nid,.iter ks vs (idxs 0 ks.length) none)],[nid]⟩
  | _=>none
 | some T,some (.omap _ ks vs)=>match T.kd with
  | .map _ _=>some ⟨.ptr nid 0 0,[(nid,.oiter ks vs (idxs 0 ks.length) none)],[nid]⟩
  | _=>none
 | _,_=>none
def yg (t:Nat) (x k:Operand) (ok:Bool):Option Eff:=match kev K x,kev K k with
 | some v,some k=>zCK C H t v k ok
 | _,_=>none
def yF (t:Nat) (m k v:Operand):Option Eff:=match kev K m,kev K k,kev K v with
 | some m,some k,some v=>Qy C H lo t m k v
 | _,_,_=>none
def zBa (x:Operand) (i:Nat):Option Eff:=match kev K x with
 | some (.tup l)=>Jc (get l i)
 | _=>none
def Zd (c:Call):Option Eff:=match c.callee,kevs K c.args.toList with
 | .builtin b,some vs=>Z0 C H lo nid b c.argTypes.toList vs
 | _,_=>none
def zM : Op→Option Eff
 | .move x=>Jc (kev K x)
 | .assign x=>Jc (kev K x)
 | .pick c a b=>zC6 K c a b
 | .alloc t=>zG6 C nid t
 | .box t x=>zIw C K nid t x
 | .build t ps=>zEd C K t ps.toList
 | .buildSlice t n ps=>Jz C K nid t n ps.toList
 | .load t x=>QH C K H t x
 | .store t x y=>QG C K H lo t x y
 | .nilCheck x=>zIv K x
 | .binOp op t x y _=>YF C K op t x y
 | .unOp op _ x=>zKE K op x
 | .convert s d x=>zBb C K s d x
 | .makeFunc f first caps=>zF4 K f first.toList caps.toList
 | .makeMap _ none=>some ⟨.map nid,[(nid,.map [] [])],[nid]⟩
 | .makeSlice t l c=>qB C K nid t l c
 | .slice t x l h m=>YE C K H t x l h m
 | .fieldAddr t x f=>qC C K t x f
 | .indexAddr t x i=>jV C K H t x i
 | .index t x i=>zEc C K t x i
 | .lookup t x k ok=>yg C K H t x k ok
 | .mapUpdate t m k v=>yF C K H lo t m k v
 | .insert t m k v=>yF C K H lo t m k v
 | .extract x i=>zBa K x i
 | .range t x=>zEb C K nid t x
 | .call c=>Zd C K H lo nid c
 | _=>none
end
inductive Cl where
 | fn (f:Nat) (args:List V)
 | yld (id:Nat) (args:List V)
def callee (K:List (Nat×V)):Op→Option Cl
 | .call ⟨.value f,args,_⟩=>match kev K f,kevs K args.toList with
  | some (.fn f caps),some vs=>some (bif Nat.blt f 1000000 then .fn f (vs++caps) else .fn (f - 1000000) (caps++vs))
  | some (.yld id),some vs=>some (.yld id vs)
  | _,_=>none
 | _=>none
def frz (H:List Blk) (lo:Nat):Nat→V→Option V
 | 0,_=>none
 | n+1,v=>match v with
  | .lit (.slice none 0 0)=>some (.sl [])
  | .lit w=>some (.lit w)
  | .agg l=>(mapO (frz H lo n) l).map .agg
  | .tup l=>(mapO (frz H lo n) l).map .tup
  | .fn f l=>(mapO (frz H lo n) l).map (.fn f)
  | .ptr id i off=>if id<lo then none else match hget H id with
   | .rows es l=>(mapO (frz H lo n) l).map fun r=>.fptr r i off
   | _=>none
  | .osl id off len=>if id<lo then none else match hget H id with
   | .rows es l=>match JI l off len with
    | some r=>(mapO (frz H lo n) r).map .sl
    | none=>none
   | _=>none
  | .map id=>if id<lo then none else match hget H id with
   | .map ks vs=>match mapO (frz H lo n) ks,mapO (frz H lo n) vs with
    | some a,some b=>some (.fmap a b)
    | _,_=>none
   | _=>none
  | .yld _=>none
  | .omap _ _ _=>none
  | v=>some v
def shut : Nat→V→Bool
 | 0,_=>false
 | n+1,v=>match v with
  | .agg l=>l.all (shut n)
  | .tup l=>l.all (shut n)
  | .fn _ l=>l.all (shut n)
  | .ptr .. => false
  | .osl .. => false
  | .map _=>false
  | .yld _=>false
  | .omap _ _ _=>false
  | _=>true
structure St where
 K:List (Nat×V)
 H:List Blk
 lo:Nat
 rnd:Option Nat
 n:Nat
def St.put (s:St) (d:Option Nat) (v:V):St:=match d with
 | some d=>cond (Nat.blt d s.n) { s with K:=kput s.K d v } s
 | none=>s
def puts (H:List Blk):List (Nat×Blk)→List Blk
 | []=>H
 | (i,b) :: r=>puts (hput H i b) r
def St.eff (s:St) (d:Option Nat) (e:Eff):St:=St.put { s with H:=puts s.H e.wr } d e.v
def wants (ops:List Oper) (K:List (Nat×V)):Option (Nat×Bool)→Option Bool
 | none=>some true
 | some (j,want)=>match get ops j with
  | some o=>match o.dst with
   | some t=>match kget K t with
    | some (.lit (.bool b))=>some (b==want)
    | some (.lit (.tuple _))=>some false
    | _=>none
   | none=>none
  | none=>none
def resA (C:Cfg) (s:St):ResultVar→Option V
 | .tmp t=>kget s.K t
 | .cell a t=>match C.ty t,kget s.K a with
  | some T,some v=>(zAO s.H T v).map (·.1)
  | _,_=>none
def zB0 (C:Cfg) (fn:Func) (s:St):Option V:=match mapO (resA C s) fn.results.toList with
 | some [v]=>some v
 | some l=>some (.tup l)
 | none=>none
inductive It where
 | code (c:Code)
 | endB (id:Nat)
 | inLoop (c:Code)
 | ops (all:List Oper) (l:List Oper)
 | drw (all:List Oper) (l:List Oper) (i:Nat) (nid:Nat) (log:List (Nat×List Nat×List Nat))
inductive Ex where
 | normal
 | ret
 | exit (id:Nat)
def YU (id:Nat):List It→Option (List It)
 | []=>none
 | .endB i :: k=>cond (Nat.beq i id) (some k) (YU id k)
 | _ :: k=>YU id k
def JH (ops:List Oper):Nat→Nat→Nat→Bool
 | 0,_,_=>false
 | f+1,j,i=>match get ops j with
  | some oj=>oj.after.toList.any fun e=>Region.binds .any e&&(Nat.beq e.on i||(Nat.blt i e.on&&JH ops f e.on i))
  | none=>false
def allocs : Op→Bool
 | .alloc _ | .box .. | .buildSlice .. | .makeMap .. | .makeSlice .. | .range .. => true
 | .call ⟨.builtin .append,_,_⟩=>true
 | _=>false
def YV : List Oper→Nat
 | []=>0
 | o :: r=>cond (allocs o.op) (YV r+1) (YV r)
def memN (i:Nat):List Nat→Bool
 | []=>false
 | x :: r=>Nat.beq x i||memN i r
def meet : List Nat→List Nat→Bool
 | [],_=>false
 | x :: r,l=>memN x l||meet r l
def yA (ops:List Oper) (j:Nat) (rd wr:List Nat):List (Nat×List Nat×List Nat)→Bool
 | []=>true
 | (i,rd',wr') :: r=>(!(meet wr' rd||meet wr' wr||meet wr rd')||JH ops ops.length j i)&&yA ops j rd wr r
def qd (ops:List Oper) (o:Oper):List Nat :=
 o.op.operands.toList.filterMap (fun | .tmp t=>some t | _=>none)++(match o.guard with
  | some (j,_)=>match get ops j with
   | some g=>g.dst.toList
   | none=>[]
  | none=>[])
def zGR (ops:List Oper) (j:Nat) (oj:Oper):List Oper→Nat→Bool
 | [],_=>true
 | oi :: r,i=>(Nat.ble j i||(!(meet oi.dst.toList (qd ops oj)||meet oi.dst.toList oj.dst.toList||meet oj.dst.toList (qd ops oi))||JH ops ops.length j i))&&zGR ops j oj r (i+1)
def zDW (ops:List Oper):List Oper→Nat→Bool
 | [],_=>true
 | oj :: r,j=>oj.after.toList.all (fun e => !Region.binds .any e||Nat.blt e.on j)&&zGR ops j oj ops 0&&zDW ops r (j+1)
def plainOp : Op→Bool
 | .defer _ | .go _ | .select .. | .panic _=>false
 | _=>true
def zAI (ops:List Oper):Bool:=ops.all (fun o=>plainOp o.op)&&zDW ops ops 0
def Za : List (Nat×Blk)→List Nat
 | []=>[]
 | (i,_) :: r=>i :: Za r
def ym : List Blk→Nat→List Nat
 | [],_=>[]
 | .dead :: r,i=>ym r (i+1)
 | .free :: r,i=>ym r (i+1)
 | _ :: r,i=>i :: ym r (i+1)
def unfree : List Blk→List Blk
 | []=>[]
 | .free :: r=>.dead :: unfree r
 | b :: r=>b :: unfree r
def hide : List Blk→List Nat→List Blk
 | H,[]=>H
 | H,id :: r=>hide (hput H id .dead) r
def zCr (ops:List Oper) (j:Nat) (H:List Blk):List (Nat×List Nat×List Nat)→List Blk
 | []=>unfree H
 | (i,_,wr) :: r=>zCr ops j (cond (JH ops ops.length j i) H (hide H wr)) r
def zFJ : Option Blk→Bool
 | some .free=>true
 | _=>false
def zl : Nat→List Blk
 | 0=>[]
 | n+1=>.free :: zl n
structure Rn where
 C:Cfg
 im:Nat→Bool
 ctr:Nat→List V→Option V
def zJd : Ex→Bool
 | .exit _=>false
 | _=>true
inductive Nx where
 | fail
 | done (e:Ex) (s:St)
 | go (k:List It) (s:St)
 | callI (c:Code) (fn:Func) (s0:St) (k:List It) (s:St) (d:Option Nat)
 | callR (c:Code) (fn:Func) (s0:St) (k:List It) (s:St) (d:Option Nat)
 | round (id:Nat) (r:zCe) (s0:St) (k:List It) (s:St) (d:Option Nat)
 | rangeF (id:Nat) (c:Code) (fn:Func) (s0:St) (k:List It) (s:St)
def jM (C:Cfg) (f n:Nat):Option (Code×Func):=bif Nat.blt f 1000000 then (match C.fn f with
 | some fn=>match fn.body with
  | some c=>cond (Nat.ble n fn.ntmps) (some (c,fn)) none
  | none=>none
 | none=>none) else none
def nxCall (R:Rn) (f:Nat) (args:List V) (k:List It) (s:St) (d:Option Nat):Nx:=match R.ctr f args with
 | some v=>.go k (s.put d v)
 | none=>match jM R.C f args.length with
  | none=>.fail
  | some (c,fn)=>cond (R.im f) (.callI c fn ⟨kargs 0 args,s.H,s.lo,none,fn.ntmps⟩ k s d)
   (cond (args.all (shut 30)) (.callR c fn ⟨kargs 0 args,[],0,none,fn.ntmps⟩ k s d) (.callR c fn ⟨kargs 0 args,s.H,s.H.length,none,fn.ntmps⟩ k s d))
def nxYield (id:Nat) (args:List V) (k:List It) (s:St) (d:Option Nat):Nx:=match hget s.H id with
 | .loop r=>match r.st,kputs r.K r.ps args with
  | .ready,some K' => cond (Nat.blt id s.lo || !r.ps.all (fun p=>Nat.blt p r.n)) .fail (.round id r ⟨K',s.H,s.lo,some id,r.n⟩ k s d)
  | _,_=>.fail
 | _=>.fail
def nxEff (R:Rn) (o:Oper) (k:List It) (s:St):Nx:=match zM R.C s.K s.H s.lo s.H.length o.op with
 | some e=>.go k (s.eff o.dst e)
 | none=>.fail
def nxOp (R:Rn) (all:List Oper) (o:Oper) (k:List It) (s:St):Nx:=match wants all s.K o.guard with
 | none=>.fail
 | some false=>.go k (s.put o.dst jA)
 | some true=>match callee s.K o.op with
  | some (.fn f args)=>nxCall R f args k s o.dst
  | some (.yld id args)=>nxYield id args k s o.dst
  | none=>nxEff R o k s
def zMx (R:Rn) (all:List Oper) (f:Nat) (args:List V) (i:Nat) (log:List (Nat×List Nat×List Nat)) (k:List (Nat×List Nat×List Nat)→List It) (s:St) (d:Option Nat):Nx:=match R.ctr f args with
 | some v=>.go (k ((i,[],[]) :: log)) (s.put d v)
 | none=>match jM R.C f args.length with
  | none=>.fail
  | some (c,fn)=>cond (args.all (shut 30)) (.callR c fn ⟨kargs 0 args,[],0,none,fn.ntmps⟩ (k ((i,[],[]) :: log)) s d)
   (cond (yA all i (ym (zCr all i s.H log) 0) [] log&&Nat.beq (zCr all i s.H log).length s.H.length) (.callR c fn ⟨kargs 0 args,zCr all i s.H log,(zCr all i s.H log).length,none,fn.ntmps⟩ (k ((i,ym (zCr all i s.H log) 0,[]) :: log)) s d) .fail)
def wrIn (n:Nat):List (Nat×Blk)→Bool
 | []=>true
 | (i,_) :: r=>Nat.blt i n&&wrIn n r
def zN1 (R:Rn) (all:List Oper) (o:Oper) (i nid:Nat) (log:List (Nat×List Nat×List Nat)) (k:List (Nat×List Nat×List Nat)→List It) (s:St):Nx:=match zM R.C s.K s.H s.lo nid o.op with
 | some e=>cond (yA all i (cond (allocs o.op) (nid :: e.rd) e.rd) (Za e.wr) log&&(!allocs o.op||zFJ (get s.H nid))&&wrIn s.H.length e.wr) (.go (k ((i,cond (allocs o.op) (nid :: e.rd) e.rd,Za e.wr) :: log)) (s.eff o.dst e)) .fail
 | none=>.fail
def nxDrw (R:Rn) (all:List Oper) (o:Oper) (os:List Oper) (i nid:Nat) (log:List (Nat×List Nat×List Nat)) (k:List It) (s:St):Nx:=match wants all s.K o.guard with
 | none=>.fail
 | some false=>cond (yA all i (cond (allocs o.op) [nid] []) [] log) (.go (.drw all os (i+1) (cond (allocs o.op) (nid+1) nid) ((i,cond (allocs o.op) [nid] [],[]) :: log) :: k) (s.put o.dst jA)) .fail
 | some true=>match callee s.K o.op with
  | some (.fn f args)=>zMx R all f args i log (fun log=>.drw all os (i+1) nid log :: k) s o.dst
  | some (.yld _ _)=>.fail
  | none=>zN1 R all o i nid log (fun log=>.drw all os (i+1) (cond (allocs o.op) (nid+1) nid) log :: k) s
def nxCond (c:Operand) (a b:Code) (k:List It) (s:St):Nx:=match kev s.K c with
 | some (.lit (.bool true))=>.go (.code a :: k) s
 | some (.lit (.bool false))=>.go (.code b :: k) s
 | _=>.fail
def nxExit (id:Nat) (k:List It) (s:St):Nx:=match YU id k with
 | some k' => .go k' s
 | none=>.done (.exit id) s
def zN0 (ops:List Oper) (k:List It) (s:St):Bool→Nx
 | false=>.go (.ops ops ops :: k) s
 | true=>cond (zAI ops) (.go (.drw ops ops 0 s.H.length [] :: k) { s with H:=s.H++zl (YV ops) }) .fail
def zHc (s:St):Bool:=match s.rnd with
 | none=>true
 | some id=>match hget s.H id with
  | .loop _=>true
  | _=>false
def nxRange (R:Rn) (f:Operand) (ps:List Nat) (assign body:Code) (k:List It) (s:St):Nx:=match kev s.K f with
 | some (.fn f caps)=>match jM R.C f (caps.length+1) with
  | some (c,fn)=>cond (zHc s) (.rangeF s.H.length c fn ⟨kargs 0 (.yld s.H.length :: caps),s.H++[.loop ⟨s.n,s.K,ps,assign,body,.ready,none⟩],s.lo,none,fn.ntmps⟩ k s) .fail
  | none=>.fail
 | _=>.fail
def nxCode (R:Rn) (c:Code) (k:List It) (s:St):Nx:=match c with
 | .skip=>.go k s
 | .label _=>.go k s
 | .seq a b=>.go (.code a :: .code b :: k) s
 | .cond c a b=>nxCond c a b k s
 | .block id c=>.go (.code c :: .endB id :: k) s
 | .loop c=>.go (.code c :: .inLoop c :: k) s
 | .exit id=>nxExit id k s
 | .ret=>.done .ret s
 | .region _ ops d=>zN0 ops.toList k s d
 | .rangeFunc f ps assign body=>nxRange R f ps.toList assign body k s
 | _=>.fail
def nx (R:Rn):List It→St→Nx
 | [],s=>.done .normal s
 | .endB _ :: k,s=>.go k s
 | .inLoop c :: k,s=>.go (.code c :: .inLoop c :: k) s
 | .ops _ [] :: k,s=>.go k s
 | .ops all (o :: os) :: k,s=>nxOp R all o (.ops all os :: k) s
 | .drw _ [] _ _ _ :: k,s=>.go k s
 | .drw all (o :: os) i nid log :: k,s=>nxDrw R all o os i nid log k s
 | .code c :: k,s=>nxCode R c k s
def finA (C:Cfg) (fn:Func) (e:Ex) (s:St):Option V:=cond (zJd e) (zB0 C fn s) none
def finR (C:Cfg) (fn:Func) (e:Ex) (s:St):Option V:=match finA C fn e s with
 | some v=>frz s.H s.lo 30 v
 | none=>none
def zAi : Ex→Option Code
 | .normal=>none
 | .ret=>some .ret
 | .exit i=>some (.exit i)
def zDn (id:Nat) (e:Ex) (s1:St):Option St:=match e with
 | .normal=>match hget s1.H id with
  | .loop r=>match r.st with
   | .ready=>some { s1 with H:=hput s1.H id (.loop { r with st:=.busy }) }
   | _=>none
  | _=>none
 | _=>none
def endRound (id:Nat) (e:Ex) (s2 s:St) (d:Option Nat):Option St:=match hget s2.H id with
 | .loop r=>some (St.put { s with H:=hput s2.H id (.loop { r with st:=cond (zAi e).isNone .ready .done,pend:=zAi e }) } d (.b (zAi e).isNone))
 | _=>none
def Qq (id:Nat) (e:Ex) (s' s:St) (k:List It):Option (List It×St):=cond (zJd e) (match hget s'.H id with
 | .loop r=>match r.st,r.pend with
  | .busy,_=>none
  | _,none=>some (k,{ s with H:=hput s'.H id .dead })
  | _,some j=>some (.code j :: k,{ s with H:=hput s'.H id .dead })
 | _=>none) none
def run (R:Rn):Nat→List It→St→Option (Ex×St)
 | 0,_,_=>none
 | n+1,k,s=>match nx R k s with
  | .fail=>none
  | .done e s=>some (e,s)
  | .go k s=>run R n k s
  | .callI c fn s0 k s d=>match run R n [.code c] s0 with
   | some (e,s')=>match finA R.C fn e s' with
    | some v=>run R n k (St.put { s with H:=s'.H } d v)
    | none=>none
   | none=>none
  | .callR c fn s0 k s d=>match run R n [.code c] s0 with
   | some (e,s')=>match finR R.C fn e s' with
    | some v=>run R n k (s.put d v)
    | none=>none
   | none=>none
  | .round id r s0 k s d=>match run R n [.code r.assign] s0 with
   | some (e1,s1)=>match zDn id e1 s1 with
    | some s1' => match run R n [.code r.body] s1' with
     | some (e,s2)=>match endRound id e s2 s d with
      | some s3=>run R n k s3
      | none=>none
     | none=>none
    | none=>none
   | none=>none
  | .rangeF id c fn s0 k s=>match run R n [.code c] s0 with
   | some (e,s')=>match finA R.C fn e s',Qq id e s' s k with
    | some _,some (k',s1)=>run R n k' s1
    | _,_=>none
   | none=>none
end Go.Am
