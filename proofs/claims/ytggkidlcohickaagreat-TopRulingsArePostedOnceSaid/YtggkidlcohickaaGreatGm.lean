/- What a run of the abstract machine says: a judgement, by rules. Definitions. Conditions: none. -/
import Derived.Test.YtggkidlcohickaaGreatOpI
set_option linter.unusedVariables false
set_option linter.unusedSimpArgs false
namespace Go.Am
open Go Go.Wk Go.RowKit
def flat : Nat→V→Bool
 | 0,_=>false
 | n+1,v=>match v with
  | .lit _=>true
  | .agg l=>l.all (flat n)
  | .tup l=>l.all (flat n)
  | .sl []=>true
  | .uns=>true
  | _=>false
inductive zDp (H:List Blk):Bool→V→V→Prop where
 | shut {fl:Bool} {n:Nat} {v:V}:shut n v=true→zDp H fl v v
 | nil {fl:Bool} {n:Nat} {v v':V}:frz [] 0 n v=some v'→zDp H fl v v'
 | frz {n:Nat} {v v':V}:frz H 0 n v=some v'→zDp H true v v'
inductive ZB (H:List Blk) (fl:Bool):List V→List V→Prop where
 | nil:ZB H fl [] []
 | cons {v v':V} {l l':List V}:zDp H fl v v'→ZB H fl l l'→ZB H fl (v :: l) (v' :: l')
def Q5 (s1:St) (v v':V):Prop := ∃ n,frz s1.H s1.lo n v=some v'
def SubH (H' H:List Blk):Prop:=H'.length=H.length∧(∀ id B,get H' id=some B→B.live=true→get H id=some B)∧∀ id,get H' id=some .free→get H id=some .free
structure Yv where
 c:Code
 fn:Func
 args:List V
 H:List Blk
def St.call (fn:Func) (args:List V) (H:List Blk) (lo:Nat):St:=⟨kargs 0 args,H,lo,none,fn.ntmps⟩
def SubD (H' H:List Blk):Prop:=H'.length=H.length∧(∀ id B,get H' id=some B→B.live=true→get H id=some B)∧∀ id,get H' id≠some .free
def rdOf (o:Oper) (nid:Nat) (e:Eff):List Nat:=cond (allocs o.op) (nid :: e.rd) e.rd
inductive yM (C:Cfg) (all:List Oper) (o:Oper) (nid:Nat) (s:St):Eff→Option Yv→Prop where
 | skip:wants all s.K o.guard=some false→yM C all o nid s ⟨jA,[],[]⟩ none
 | op {e:Eff}:wants all s.K o.guard=some true→zM C s.K s.H s.lo nid o.op=some e→(allocs o.op=true→get s.H nid=some .free)→(∀ id,id∈Za e.wr→id<s.H.length)→yM C all o nid s e none
 | ext {f:Nat} {args args':List V} {v:V}:wants all s.K o.guard=some true→callee s.K o.op=some (.fn f args)→ZB [] false args args'→C.X f args' v→yM C all o nid s ⟨v,[],[]⟩ none
 | bld {t n es:Nat} {ps:Array (Nat×Operand)} {l:List V}:wants all s.K o.guard=some true→o.op = .buildSlice t n ps→zM C s.K s.H s.lo nid o.op=some ⟨.osl nid 0 l.length,[(nid,.rows es l)],[nid]⟩→get s.H nid=some .free→l.all (shut 9)=true→yM C all o nid s ⟨.sl l,[],[nid]⟩ none
 | extF {f:Nat} {args args':List V} {v:V} {H':List Blk}:wants all s.K o.guard=some true→callee s.K o.op=some (.fn f args)→(H'.length=s.H.length∧∀ id B,get H' id=some B→B.live=true→get s.H id=some B)→ZB H' true args args'→C.X f args' v→(∃ n,flat n v=true)→yM C all o nid s ⟨v,[],ym H' 0⟩ none
 | extO {f:Nat} {args args':List V} {v:V} {H':List Blk}:wants all s.K o.guard=some true→callee s.K o.op=some (.fn f args)→(H'.length=s.H.length∧∀ id B,get H' id=some B→B.live=true→get s.H id=some B)→ZB H' true args args'→FrC C.P f args' v→yM C all o nid s ⟨v,[],ym H' 0⟩ none
 | clo {f:Nat} {args args':List V} {v:V} {c:Code} {fn:Func}:wants all s.K o.guard=some true→callee s.K o.op=some (.fn f args)→jM C f args.length=some (c,fn)→ZB [] false args args'→yM C all o nid s ⟨v,[],[]⟩ (some ⟨c,fn,args',[]⟩)
 | sub {f:Nat} {args:List V} {v:V} {c:Code} {fn:Func} {H':List Blk}:wants all s.K o.guard=some true→callee s.K o.op=some (.fn f args)→jM C f args.length=some (c,fn)→SubD H' s.H→yM C all o nid s ⟨v,[],ym H' 0⟩ (some ⟨c,fn,args,H'⟩)
inductive DRun (C:Cfg) (all:List Oper):List Oper→Nat→Nat→St→List (Nat×List Nat×List Nat)→List (Eff×Option Yv)→St→Prop where
 | nil {i nid:Nat} {s:St} {log:List (Nat×List Nat×List Nat)}:DRun C all [] i nid s log [] s
 | cons {o:Oper} {os:List Oper} {i nid:Nat} {s s':St} {log:List (Nat×List Nat×List Nat)} {e:Eff} {d:Option Yv} {es:List (Eff×Option Yv)}:yM C all o nid s e d→yA all i (rdOf o nid e) (Za e.wr) log=true →
   DRun C all os (i+1) (cond (allocs o.op) (nid+1) nid) (s.eff o.dst e) ((i,rdOf o nid e,Za e.wr) :: log) es s'→DRun C all (o :: os) i nid s log ((e,d) :: es) s'
def rid (N:Nat) (keep:List Nat) (id:Nat):Option Nat:=if id<N then some id else get keep (id - N)
def ren (N:Nat) (keep:List Nat):Nat→V→Option V
 | 0,_=>none
 | n+1,v=>match v with
  | .lit w=>some (.lit w)
  | .agg l=>(mapO (ren N keep n) l).map .agg
  | .tup l=>(mapO (ren N keep n) l).map .tup
  | .fn f l=>(mapO (ren N keep n) l).map (.fn f)
  | .ptr id i off=>(rid N keep id).map fun j=>.ptr j i off
  | .osl id off len=>(rid N keep id).map fun j=>.osl j off len
  | .map id=>(rid N keep id).map .map
  | .yld id=>(rid N keep id).map .yld
  | .omap _ _ _=>none
  | v=>some v
def renB (N:Nat) (keep:List Nat) (n:Nat):Blk→Option Blk
 | .dead=>some .dead
 | .rows es l=>(mapO (ren N keep n) l).map (.rows es)
 | .map ks vs=>match mapO (ren N keep n) ks,mapO (ren N keep n) vs with
  | some a,some b=>some (.map a b)
  | _,_=>none
 | .iter ks vs left last=>some (.iter ks vs left last)
 | _=>none
structure zO9 (N:Nat) (s1:St) (keep:List Nat) (K:List (Nat×V)) (H:List Blk):Prop where
 new:∀ id,id∈keep→N≤id∧id<s1.H.length
 nodup:keep.Nodup
 len:H.length=N+keep.length
 slots:∀ t v,kget K t=some v→∃ n v1,ren N keep n v=some v1∧kget s1.K t=some v1
 blocks:∀ id B,get H id=some B→B.live=true→∃ n j,rid N keep id=some j∧renB N keep n B=some (hget s1.H j)
 low:∀ id,id<s1.lo→id<N→get H id=get s1.H id
 nofree:∀ id,get H id≠some .free
inductive Gm (C:Cfg):List It→St→(Ex→St→Prop)→Prop where
 | nil {s:St} {Q:Ex→St→Prop}:Q .normal s→Gm C [] s Q
 | drop {k:List It} {s:St} {Q:Ex→St→Prop} (K:List (Nat×V)):(∀ t v,kget K t=some v→kget s.K t=some v)→Gm C k { s with K:=K } Q→Gm C k s Q
 | cut {c:Code} {k:List It} {s:St} {Q:Ex→St→Prop} (Q1:Ex→St→Prop) (keep:Ex→St→List Nat) (K:Ex→St→List (Nat×V)) (H:Ex→St→List Blk):Gm C [.code c] s Q1→(∀ e s1,Q1 e s1→e≠.ret→zO9 s.H.length s1 (keep e s1) (K e s1) (H e s1))→(∀ s1,Q1 .ret s1→Q .ret s1) →
   (∀ s1,Q1 .normal s1→Gm C k ⟨K .normal s1,H .normal s1,s.lo,s.rnd,s.n⟩ Q)→(∀ id k' s1,YU id k=some k'→Q1 (.exit id) s1→Gm C k' ⟨K (.exit id) s1,H (.exit id) s1,s.lo,s.rnd,s.n⟩ Q)→(∀ id s1,YU id k=none→Q1 (.exit id) s1→Q (.exit id) ⟨K (.exit id) s1,H (.exit id) s1,s.lo,s.rnd,s.n⟩)→Gm C (.code c :: k) s Q
 | skip {k:List It} {s:St} {Q:Ex→St→Prop}:Gm C k s Q→Gm C (.code .skip :: k) s Q
 | label {l:Nat} {k:List It} {s:St} {Q:Ex→St→Prop}:Gm C k s Q→Gm C (.code (.label l) :: k) s Q
 | seq {x y:Code} {k:List It} {s:St} {Q:Ex→St→Prop}:Gm C (.code x :: .code y :: k) s Q→Gm C (.code (.seq x y) :: k) s Q
 | zCZ {c:Operand} {x y:Code} {k:List It} {s:St} {Q:Ex→St→Prop}:kev s.K c=some (.b true)→Gm C (.code x :: k) s Q→Gm C (.code (.cond c x y) :: k) s Q
 | zCa {c:Operand} {x y:Code} {k:List It} {s:St} {Q:Ex→St→Prop}:kev s.K c=some (.b false)→Gm C (.code y :: k) s Q→Gm C (.code (.cond c x y) :: k) s Q
 | block {id:Nat} {c:Code} {k:List It} {s:St} {Q:Ex→St→Prop}:Gm C (.code c :: .endB id :: k) s Q→Gm C (.code (.block id c) :: k) s Q
 | endB {id:Nat} {k:List It} {s:St} {Q:Ex→St→Prop}:Gm C k s Q→Gm C (.endB id :: k) s Q
 | loop {c:Code} {k:List It} {s:St} {Q:Ex→St→Prop}:Gm C (.code c :: .inLoop c :: k) s Q→Gm C (.code (.loop c) :: k) s Q
 | inLoop {c:Code} {k:List It} {s:St} {Q:Ex→St→Prop}:Gm C (.code c :: .inLoop c :: k) s Q→Gm C (.inLoop c :: k) s Q
 | exit {id:Nat} {k k':List It} {s:St} {Q:Ex→St→Prop}:YU id k=some k'→Gm C k' s Q→Gm C (.code (.exit id) :: k) s Q
 | zF3 {id:Nat} {k:List It} {s:St} {Q:Ex→St→Prop}:YU id k=none→Q (.exit id) s→Gm C (.code (.exit id) :: k) s Q
 | ret {k:List It} {s:St} {Q:Ex→St→Prop}:Q .ret s→Gm C (.code .ret :: k) s Q
 | region {id:Nat} {ops:Array Oper} {k:List It} {s:St} {Q:Ex→St→Prop}:Gm C (.ops ops.toList ops.toList :: k) s Q→Gm C (.code (.region id ops false) :: k) s Q
 | za {all:List Oper} {k:List It} {s:St} {Q:Ex→St→Prop}:Gm C k s Q→Gm C (.ops all [] :: k) s Q
 | zGT {all os:List Oper} {o:Oper} {k:List It} {s:St} {Q:Ex→St→Prop}:wants all s.K o.guard=some false→Gm C (.ops all os :: k) (s.put o.dst jA) Q→Gm C (.ops all (o :: os) :: k) s Q
 | op {all os:List Oper} {o:Oper} {k:List It} {s:St} {Q:Ex→St→Prop} {e:Eff}:wants all s.K o.guard=some true→zM C s.K s.H s.lo s.H.length o.op=some e→Gm C (.ops all os :: k) (s.eff o.dst e) Q→Gm C (.ops all (o :: os) :: k) s Q
 | ext {all os:List Oper} {o:Oper} {k:List It} {s:St} {Q:Ex→St→Prop} {f:Nat} {args args':List V} {v:V} {fl:Bool}:wants all s.K o.guard=some true→callee s.K o.op=some (.fn f args)→ZB s.H fl args args'→C.X f args' v→(fl=true→∃ n,flat n v=true) →
   Gm C (.ops all os :: k) (s.put o.dst v) Q→Gm C (.ops all (o :: os) :: k) s Q
 | clo {all os:List Oper} {o:Oper} {k:List It} {s:St} {Q:Ex→St→Prop} {f:Nat} {args args':List V} {fl:Bool} {c:Code} {fn:Func} (T:V→Prop):wants all s.K o.guard=some true→callee s.K o.op=some (.fn f args)→jM C f args.length=some (c,fn)→ZB s.H fl args args' →
   Gm C [.code c] (St.call fn args' [] 0) (fun e s1 => ∃ v v',finA C fn e s1=some v∧Q5 s1 v v'∧(fl=true→∃ n,flat n v'=true)∧T v')→(∀ v',T v'→Gm C (.ops all os :: k) (s.put o.dst v') Q)→Gm C (.ops all (o :: os) :: k) s Q
 | sub {all os:List Oper} {o:Oper} {k:List It} {s:St} {Q:Ex→St→Prop} {f:Nat} {args:List V} {c:Code} {fn:Func} {H':List Blk} (T:V→Prop):wants all s.K o.guard=some true→callee s.K o.op=some (.fn f args)→jM C f args.length=some (c,fn)→SubH H' s.H →
   Gm C [.code c] (St.call fn args H' H'.length) (fun e s1 => ∃ v v',finA C fn e s1=some v∧Q5 s1 v v'∧T v')→(∀ v',T v'→Gm C (.ops all os :: k) (s.put o.dst v') Q)→Gm C (.ops all (o :: os) :: k) s Q
 | im {all os:List Oper} {o:Oper} {k:List It} {s:St} {Q:Ex→St→Prop} {f:Nat} {args:List V} {c:Code} {fn:Func} (T:V→List Blk→Prop):wants all s.K o.guard=some true→callee s.K o.op=some (.fn f args)→jM C f args.length=some (c,fn) →
   Gm C [.code c] (St.call fn args s.H s.lo) (fun e s1 => ∃ v,finA C fn e s1=some v∧T v s1.H)→(∀ v H,T v H→Gm C (.ops all os :: k) (St.put { s with H:=H } o.dst v) Q)→Gm C (.ops all (o :: os) :: k) s Q
 | next {all os:List Oper} {o:Oper} {k:List It} {s:St} {Q:Ex→St→Prop} {x:Operand} {id:Nat} {ks vs:List V} {left:List Nat} {last:Option Nat}:o.op = .next x false→wants all s.K o.guard=some true→kev s.K x=some (.ptr id 0 0)→hget s.H id = .iter ks vs left last→s.lo≤id →
   (left=[]→Gm C (.ops all os :: k) (s.put o.dst (.tup [.b false])) Q)→(∀ j kv vv,j∈left→get ks j=some kv→get vs j=some vv→Gm C (.ops all os :: k) (St.put { s with H:=hput s.H id (.iter ks vs (left.filter (·≠j)) (some j)) } o.dst (.tup [.b true,kv,vv])) Q)→Gm C (.ops all (o :: os) :: k) s Q
 | yld {all os:List Oper} {o:Oper} {k:List It} {s:St} {Q:Ex→St→Prop} {id:Nat} {args:List V} {r:zCe} {K':List (Nat×V)} (T1 T2:St→Prop):wants all s.K o.guard=some true→callee s.K o.op=some (.yld id args)→hget s.H id = .loop r→kputs r.K r.ps args=some K'→r.ps.all (fun p=>Nat.blt p r.n)=true→s.lo≤id →
   Gm C [.code r.assign] ⟨K',s.H,s.lo,some id,r.n⟩ (fun e s1 => ∃ s1',zDn id e s1=some s1'∧T1 s1')→(∀ s1',T1 s1'→Gm C [.code r.body] s1' (fun e s2 => ∃ s3,endRound id e s2 s o.dst=some s3∧T2 s3)) →
   (∀ s3,T2 s3→Gm C (.ops all os :: k) s3 Q)→Gm C (.ops all (o :: os) :: k) s Q
 | range {g:Operand} {ps:Array Tmp} {assign body:Code} {k:List It} {s:St} {Q:Ex→St→Prop} {f:Nat} {caps:List V} {c:Code} {fn:Func} (T:List It×St→Prop):kev s.K g=some (.fn f caps)→jM C f (caps.length+1)=some (c,fn)→zHc s=true →
   Gm C [.code c] (St.call fn (.yld s.H.length :: caps) (s.H++[.loop ⟨s.n,s.K,ps.toList,assign,body,.ready,none⟩]) s.lo) (fun e s' => ∃ v p,finA C fn e s'=some v∧Qq s.H.length e s' s k=some p∧T p) →
   (∀ p,T p→Gm C p.1 p.2 Q)→Gm C (.code (.rangeFunc g ps assign body) :: k) s Q
 | draw {id:Nat} {ops:Array Oper} {k:List It} {s sn:St} {Q:Ex→St→Prop} (es:List (Eff×Option Yv)):zAI ops.toList=true→DRun C ops.toList ops.toList 0 s.H.length { s with H:=s.H++zl (YV ops.toList) } [] es sn →
   (∀ (i:Nat) e d,es[i]? = some (e,some d)→Gm C [.code d.c] (St.call d.fn d.args d.H d.H.length) (fun x s1 => ∃ v,finA C d.fn x s1=some v∧Q5 s1 v e.v))→Gm C k sn Q→Gm C (.code (.region id ops true) :: k) s Q
end Go.Am
namespace Go.Am
open Go Go.Wk Go.RowKit
section
variable {I:Ij} {m:Mem} {H:List Blk} {w w':World} {lo:Nat}
open Classical in
noncomputable def yE (I:Ij) (m:Mem) (H:List Blk) (lo:Nat) (w:World):Mem:=fun k=>match m k with
 | some o=>some o
 | none=>if ∃ id f,lo≤id∧Live H id∧I id=some f∧f.b=k then w.heap[k]? else none
theorem yf : m.Le (yE I m H lo w):=by
 intro k o h
 unfold yE
 rw [h]
theorem zDi (hs:Sim I m H w):(yE I m H lo w).Le (wmem w):=by
 intro k o h
 unfold yE at h
 split at h
 ·rename_i e; rw [← h]; exact hs.sub k _ e
 ·split at h
  ·exact h
  ·cases h
theorem zGt {id:Nat} {f:Inf} (hs:Sim I m H w) (hlo:lo≤id) (hl:Live H id) (hf:I id=some f):yE I m H lo w f.b=w.heap[f.b]?:=by
 unfold yE
 rw [hs.off id f hl hf]
 simp only
 rw [if_pos ⟨id,f,hlo,hl,hf,rfl⟩]
theorem zDj {k:Nat} {o:Obj} (h:yE I m H lo w k=some o):m k=some o∨∃ id f,lo≤id∧Live H id∧I id=some f∧f.b=k:=by
 unfold yE at h
 split at h
 ·rename_i e; rw [← h]; exact .inl e
 ·split at h
  ·rename_i e; exact .inr e
  ·cases h
theorem RepL.map {m':Mem} {I':Ij} {f:V→Option V}:∀ {l l':List V} {us:List Value},(∀ v v' u,v∈l→f v=some v'→Rep m v I u→Rep m' v' I' u)→mapO f l=some l'→RepL m l I us→RepL m' l' I' us
 | [],l',us,_,h,hr=>by simp only [mapO,Option.some.injEq] at h; subst h; unfold RepL at *; exact hr
 | x :: r,l',us,hf,h,hr=>by
  simp only [mapO] at h
  cases hx:f x with
  | none=>rw [hx] at h; cases h
  | some y =>
   cases hl:mapO f r with
   | none=>rw [hx,hl] at h; cases h
   | some s =>
    rw [hx,hl] at h
    simp only [Option.some.injEq] at h
    subst h
    unfold RepL at hr ⊢
    obtain ⟨u,us',rfl,h1,h2⟩:=hr
    exact ⟨u,us',rfl,hf x y u List.mem_cons_self hx h1,RepL.map (fun v v' u hv=>hf v v' u (List.mem_cons_of_mem _ hv)) hl h2⟩
theorem YQ (hs:Sim I m H w):∀ (n:Nat) (v v':V) (u:Value),frz H lo n v=some v'→Rep m v I u→Rep (yE I m H lo w) v' Ij.none u
 | 0,v,v',u,h,_=>by cases h
 | n+1,v,v',u,h,hr=>by
  have rows:∀ {id es:Nat} {l r l':List V} {off:Nat} {f:Inf},¬ id<lo→hget H id = .rows es l→I id=some f→(∀ (i:Nat) x,r[i]? = some x→l[off+i]? = some x)→mapO (frz H lo n) r=some l'→Zq (yE I m H lo w) l' Ij.none f.b (f.o+off*f.es) f.es:=by
   intro id es l r l' off f hlo hb hf hsub hm
   have hb':=YO hb
   obtain ⟨f',hf',hes,c,ty',hw,hc1,hc2,hc3,hc4,hc5⟩:=hs.blk id _ hb' rfl
   rw [hf] at hf'
   cases hf'
   obtain ⟨hl,hg⟩:=zGd hm
   refine Zq.mk fun i x hx=>?_
   have hir:i<r.length:=by rw [← hl]; exact (List.getElem?_eq_some_iff.1 hx).1
   obtain ⟨y,hy1,hy2⟩:=hg i _ (List.getElem?_eq_getElem hir)
   rw [hx] at hy1
   cases hy1
   obtain ⟨u',q1,q2⟩:=hc5 _ _ (hsub i _ (List.getElem?_eq_getElem hir))
   refine ⟨u',YQ hs n _ _ _ hy2 q1,by rw [hes]; exact q2.1,fun j z hz=>⟨(q2.2 j z hz).1,?_⟩⟩
   have:=(q2.2 j z hz).2
   unfold Mem.cell
   rw [zGt hs (by omega) ⟨_,hb',rfl⟩ hf,hw,hes]
   rwa [show f.o+(off+i)*es+j=f.o+off*es+i*es+j by rw [Nat.add_mul]; omega] at this
  have same:∀ (I':Ij) {v:V} {u:Value},Rep m v Ij.none u→Rep (yE I m H lo w) v Ij.none u:=fun _ _ _ h=>Rep.mono yf _ (Ij.Le.rfl' _) h
  unfold frz at h
  split at h
  ·simp only [Option.some.injEq] at h
   subst h
   rw [hr.lit]
   unfold Rep
   exact ⟨none,0,0,rfl,Nat.le_refl _,fun h=>absurd rfl h⟩
  ·simp only [Option.some.injEq] at h
   subst h
   unfold Rep at hr ⊢
   exact hr
  ·rename_i l
   simp only [Option.map_eq_some_iff] at h
   obtain ⟨l',h1,rfl⟩:=h
   unfold Rep at hr ⊢
   obtain ⟨us,rfl,h2,h3⟩:=hr
   exact ⟨us,rfl,h2,RepL.map (fun v v' u _=>YQ hs n v v' u) h1 h3⟩
  ·rename_i l
   simp only [Option.map_eq_some_iff] at h
   obtain ⟨l',h1,rfl⟩:=h
   unfold Rep at hr ⊢
   obtain ⟨us,rfl,h3⟩:=hr
   exact ⟨us,rfl,RepL.map (fun v v' u _=>YQ hs n v v' u) h1 h3⟩
  ·rename_i f l
   simp only [Option.map_eq_some_iff] at h
   obtain ⟨l',h1,rfl⟩:=h
   unfold Rep at hr ⊢
   obtain ⟨us,rfl,h3⟩:=hr
   exact ⟨us,rfl,RepL.map (fun v v' u _=>YQ hs n v v' u) h1 h3⟩
  ·rename_i id i off
   split at h
   ·cases h
   rename_i hlo
   split at h
   ·rename_i es l hb
    simp only [Option.map_eq_some_iff] at h
    obtain ⟨l',h1,rfl⟩:=h
    unfold Rep at hr
    obtain ⟨f,hf,rfl⟩:=hr
    have:=rows (off:=0) hlo hb hf (fun i x hx=>by simpa using hx) h1
    unfold Rep
    exact ⟨f.b,f.o,f.es,rfl,by simpa using this⟩
   ·cases h
  ·rename_i id off len
   split at h
   ·cases h
   rename_i hlo
   split at h
   ·rename_i es l hb
    split at h
    ·rename_i r htk
     simp only [Option.map_eq_some_iff] at h
     obtain ⟨l',h1,rfl⟩:=h
     unfold Rep at hr
     obtain ⟨f,ad,hf,rfl,g1,g2,g3⟩:=hr
     have hlen:=(zAn _ _ _ _ htk).1
     have hll:=(zGd h1).1
     have hr:=rows (off:=off) hlo hb hf (fun i x hx=>qQ htk i x hx) h1
     unfold Rep
     refine ⟨ad,_,f.es,by rw [hll,hlen],by rw [hll,hlen]; omega,fun hne=>?_⟩
     have:0<len:=by rw [← hlen,← hll]; exact List.length_pos_iff.2 hne
     exact ⟨_,_,g2 (by omega),hr⟩
    ·cases h
   ·cases h
  ·rename_i id
   split at h
   ·cases h
   rename_i hlo
   split at h
   ·rename_i ks vs hb
    split at h
    ·rename_i ks' vs' hk hv
     simp only [Option.some.injEq] at h
     subst h
     have hb':=JN hb rfl
     obtain ⟨f,hf,es,cl,hw,es',m1,m2,m3,m4,m5⟩:=hs.blk id _ hb' rfl
     unfold Rep at hr
     obtain ⟨f',hf',rfl⟩:=hr
     rw [hf] at hf'
     cases hf'
     unfold Rep
     exact ⟨f.b,es,es',cl,rfl,by rw [zGt hs (by omega) ⟨_,hb',rfl⟩ hf]; exact hw,m1,m2,RepL.map (fun v v' u _=>YQ hs n v v' u) hk m3,RepL.map (fun v v' u _=>YQ hs n v v' u) hv m4,m5⟩
    ·cases h
   ·cases h
  ·cases h
  ·cases h
  ·rename_i n1 n2 n3 n4 n5 n6 n7 n8 n9 n10
   simp only [Option.some.injEq] at h
   subst h
   cases v with
   | lit v=>exact absurd rfl (n2 v)
   | agg l=>exact absurd rfl (n3 l)
   | tup l=>exact absurd rfl (n4 l)
   | ptr a b c=>exact absurd rfl (n6 a b c)
   | fptr a b c=>unfold Rep at hr ⊢; obtain ⟨b,o,es,h1,h2⟩:=hr; exact ⟨b,o,es,h1,Zq.mono yf _ (Ij.Le.rfl' _) h2⟩
   | sl rows =>
    unfold Rep at hr ⊢
    obtain ⟨ad,cap,es,h1,h2,h3⟩:=hr
    refine ⟨ad,cap,es,h1,h2,fun hne=>?_⟩
    obtain ⟨b,o,h4,h5⟩:=h3 hne
    exact ⟨b,o,h4,Zq.mono yf _ (Ij.Le.rfl' _) h5⟩
   | osl a b c=>exact absurd rfl (n7 a b c)
   | fn f l=>exact absurd rfl (n5 f l)
   | yld a=>exact absurd rfl (n9 a)
   | map a=>exact absurd rfl (n8 a)
   | omap a b c=>exact absurd rfl (n10 a b c)
   | uns=>unfold Rep at hr ⊢; exact hr
   | fmap ks vs =>
    unfold Rep at hr ⊢
    obtain ⟨b,es,es',c,h1,h2,h5,h6,h3,h4,h7⟩:=hr
    exact ⟨b,es,es',c,h1,yf _ _ h2,h5,h6,RepL.mono yf ks (Ij.Le.rfl' _) h3,RepL.mono yf vs (Ij.Le.rfl' _) h4,h7⟩
theorem RepL.same {m':Mem} {I':Ij}:∀ {l:List V} {us:List Value},(∀ v u,v∈l→Rep m v I u→Rep m' v I' u)→RepL m l I us→RepL m' l I' us
 | [],us,_,hr=>by unfold RepL at *; exact hr
 | x :: r,us,hf,hr=>by
  unfold RepL at hr ⊢
  obtain ⟨u,us',rfl,h1,h2⟩:=hr
  exact ⟨u,us',rfl,hf x u List.mem_cons_self h1,RepL.same (fun v u hv=>hf v u (List.mem_cons_of_mem _ hv)) h2⟩
theorem QS : ∀ (n:Nat) (v:V) (u:Value),shut n v=true→Rep m v I u→Rep m v Ij.none u
 | 0,v,u,h,_=>by cases h
 | n+1,v,u,h,hr=>by
  unfold shut at h
  split at h
  ·rename_i l
   unfold Rep at hr ⊢
   obtain ⟨us,rfl,h2,h3⟩:=hr
   exact ⟨us,rfl,h2,RepL.same (fun v u hv=>QS n v u (List.all_eq_true.1 h v hv)) h3⟩
  ·rename_i l
   unfold Rep at hr ⊢
   obtain ⟨us,rfl,h3⟩:=hr
   exact ⟨us,rfl,RepL.same (fun v u hv=>QS n v u (List.all_eq_true.1 h v hv)) h3⟩
  ·rename_i f l
   unfold Rep at hr ⊢
   obtain ⟨us,rfl,h3⟩:=hr
   exact ⟨us,rfl,RepL.same (fun v u hv=>QS n v u (List.all_eq_true.1 h v hv)) h3⟩
  ·cases h
  ·cases h
  ·cases h
  ·cases h
  ·cases h
  ·rename_i n1 n2 n3 n4 n5 n6 n7 n8
   cases v with
   | agg l=>exact absurd rfl (n1 l)
   | tup l=>exact absurd rfl (n2 l)
   | fn f l=>exact absurd rfl (n3 f l)
   | ptr a b c=>exact absurd rfl (n4 a b c)
   | osl a b c=>exact absurd rfl (n5 a b c)
   | map a=>exact absurd rfl (n6 a)
   | yld a=>exact absurd rfl (n7 a)
   | omap a b c=>exact absurd rfl (n8 a b c)
   | _=>unfold Rep at hr ⊢; exact hr
theorem Yk {m':Mem} {I':Ij}:∀ (n:Nat) (v:V) (u:Value),flat n v=true→Rep m v I u→Rep m' v I' u
 | 0,v,u,h,_=>by cases h
 | n+1,v,u,h,hr=>by
  unfold flat at h
  split at h
  ·unfold Rep at hr ⊢; exact hr
  ·rename_i l
   unfold Rep at hr ⊢
   obtain ⟨us,rfl,h2,h3⟩:=hr
   exact ⟨us,rfl,h2,RepL.same (fun v u hv=>Yk n v u (List.all_eq_true.1 h v hv)) h3⟩
  ·rename_i l
   unfold Rep at hr ⊢
   obtain ⟨us,rfl,h3⟩:=hr
   exact ⟨us,rfl,RepL.same (fun v u hv=>Yk n v u (List.all_eq_true.1 h v hv)) h3⟩
  ·unfold Rep at hr ⊢
   obtain ⟨ad,cap,es,h1,h2,h3⟩:=hr
   exact ⟨ad,cap,es,h1,h2,fun h=>absurd rfl h⟩
  ·unfold Rep at hr ⊢; exact hr
  ·cases h
theorem J2 (hs:Sim I m H w) {fl:Bool}:∀ {l l':List V} {us:List Value},ZB H fl l l'→RepL m l I us→RepL (if fl then yE I m H 0 w else m) l' Ij.none us
 | [],l',us,h,hr=>by cases h; unfold RepL at *; exact hr
 | x :: r,l',us,h,hr=>by
  cases h
  rename_i v' l' hx hl
  unfold RepL at hr ⊢
  obtain ⟨u,us',rfl,h1,h2⟩:=hr
  refine ⟨u,us',rfl,?_,J2 hs hl h2⟩
  have hle:m.Le (if fl then yE I m H 0 w else m):=by
   split
   ·exact yf
   ·exact fun _ _ h=>h
  cases hx with
  | shut h3=>exact Rep.mono hle _ (Ij.Le.rfl' _) (QS _ _ _ h3 h1)
  | nil h3 =>
   -- with no blocks at all
   have key:∀ (n:Nat) (v v':V) (u:Value),frz [] 0 n v=some v'→Rep m v I u→Rep m v' Ij.none u:=by
    intro n
    induction n with
    | zero=>intro v v' u h _; cases h
    | succ n ih =>
     intro v v' u h hr
     unfold frz at h
     split at h
     ·simp only [Option.some.injEq] at h
      subst h
      rw [hr.lit]
      unfold Rep
      exact ⟨none,0,0,rfl,Nat.le_refl _,fun h=>absurd rfl h⟩
     ·simp only [Option.some.injEq] at h
      subst h
      unfold Rep at hr ⊢
      exact hr
     ·simp only [Option.map_eq_some_iff] at h
      obtain ⟨l',h1,rfl⟩:=h
      unfold Rep at hr ⊢
      obtain ⟨us,rfl,h2,h3⟩:=hr
      exact ⟨us,rfl,h2,RepL.map (fun v v' u _=>ih v v' u) h1 h3⟩
     ·simp only [Option.map_eq_some_iff] at h
      obtain ⟨l',h1,rfl⟩:=h
      unfold Rep at hr ⊢
      obtain ⟨us,rfl,h3⟩:=hr
      exact ⟨us,rfl,RepL.map (fun v v' u _=>ih v v' u) h1 h3⟩
     ·simp only [Option.map_eq_some_iff] at h
      obtain ⟨l',h1,rfl⟩:=h
      unfold Rep at hr ⊢
      obtain ⟨us,rfl,h3⟩:=hr
      exact ⟨us,rfl,RepL.map (fun v v' u _=>ih v v' u) h1 h3⟩
     ·rename_i id i off
      simp [hget,Am.get] at h
     ·rename_i id off len
      simp [hget,Am.get] at h
     ·rename_i id
      simp [hget,Am.get] at h
     ·cases h
     ·cases h
     ·rename_i n1 n2 n3 n4 n5 n6 n7 n8 n9 n10
      simp only [Option.some.injEq] at h
      subst h
      cases v with
      | lit v=>exact absurd rfl (n2 v)
      | agg l=>exact absurd rfl (n3 l)
      | tup l=>exact absurd rfl (n4 l)
      | ptr a b c=>exact absurd rfl (n6 a b c)
      | osl a b c=>exact absurd rfl (n7 a b c)
      | fn f l=>exact absurd rfl (n5 f l)
      | yld a=>exact absurd rfl (n9 a)
      | map a=>exact absurd rfl (n8 a)
      | omap a b c=>exact absurd rfl (n10 a b c)
      | _=>unfold Rep at hr ⊢; exact hr
   exact Rep.mono hle _ (Ij.Le.rfl' _) (key _ _ _ _ h3 h1)
  | frz h3=>exact YQ hs _ _ _ _ h3 h1
end
end Go.Am
namespace Go.Am
open Go Go.Wk Go.RowKit
def zES (P:Program) (ρ:Option Nat) (c:Code) (Q:Exit→Act→World→Prop) (a:Act) (w:World):Prop :=
 ∀ (b:Frame) (k:List Item) (cs:List Frame),b.roundOf=(Wd ρ).round→(Wd ρ).fn b.fn→(Wd ρ).room (cs.length+1+0) →
  ∃ e a' w',Q e a' w'∧ArrivesIn (Machine.fenced P (Wd ρ)) P (lone (b.atR a (.inLoop c :: k)) cs w) b k cs e a' w'
theorem zGI {P:Program} {ρ:Option Nat} {c:Code} {Q:Exit→Act→World→Prop} {a:Act} {w:World} (h:c.wpIn (Wd ρ) 0 P (Exit.then (zES P ρ c Q) Q) a w) (b:Frame) (k:List Item) (cs:List Frame) (hro:b.roundOf=(Wd ρ).round) (hb:(Wd ρ).fn b.fn) (hr:(Wd ρ).room (cs.length+1+0)) :
  ∃ e a' w',Q e a' w'∧ArrivesIn (Machine.fenced P (Wd ρ)) P (lone (b.atR a (.code c :: .inLoop c :: k)) cs w) b k cs e a' w':=by
 obtain ⟨e,a₁,w₁,hq,harr⟩:=h b (.inLoop c :: k) cs hro hb hr
 cases e with
 | normal =>
  obtain ⟨e₂,a₂,w₂,hq₂,harr₂⟩:=hq b k cs hro hb hr
  exact ⟨e₂,a₂,w₂,hq₂,.of_steps harr harr₂⟩
 | exit id=>exact ⟨_,a₁,w₁,hq,.pass (x:=.inLoop c) rfl (fun _ _=>.inl (by simp)) harr⟩
 | goto l=>exact ⟨_,a₁,w₁,hq,.pass (x:=.inLoop c) rfl (fun _ _=>.inl (by simp)) harr⟩
 | ret=>exact ⟨_,a₁,w₁,hq,.pass (x:=.inLoop c) rfl (fun _ _=>.inl (by simp)) harr⟩
 | panic ch=>exact ⟨_,a₁,w₁,hq,.pass (x:=.inLoop c) rfl (fun _ _=>.inl (by simp)) harr⟩
 | outgrown=>exact ⟨_,a₁,w₁,hq,.pass (x:=.inLoop c) rfl (fun _ _=>.inl (by simp)) harr⟩
theorem zGl {P:Program} {ρ:Option Nat} {c:Code} {Q:Exit→Act→World→Prop} {a:Act} {w:World} (h:c.wpIn (Wd ρ) 0 P (Exit.then (zES P ρ c Q) Q) a w):zES P ρ c Q a w:=by
 intro b k cs hro hb hr
 obtain ⟨e,a',w',hq,harr⟩:=zGI h b k cs hro hb hr
 exact ⟨e,a',w',hq,.of_steps (.one (fenced_calm hb hr rfl) stepR_inLoop) harr⟩
theorem zDu {P:Program} {ρ:Option Nat} {c:Code} {Q:Exit→Act→World→Prop} {a:Act} {w:World} (h:c.wpIn (Wd ρ) 0 P (Exit.then (zES P ρ c Q) Q) a w):(Code.loop c).wpIn (Wd ρ) 0 P Q a w:=by
 intro b k cs hro hb hr
 obtain ⟨e,a',w',hq,harr⟩:=zGI h b k cs hro hb hr
 exact ⟨e,a',w',hq,.of_steps (.one (fenced_calm hb hr rfl) stepR_loop) harr⟩
def SA (P:Program) (ρ:Option Nat) (Q:Exit→Act→World→Prop):List It→Exit→Act→World→Prop
 | []=>Q
 | .code c :: k=>Exit.then (c.wpIn (Wd ρ) 0 P (SA P ρ Q k)) (SA P ρ Q k)
 | .endB id :: k=>Exit.inBlock id (SA P ρ Q k)
 | .inLoop c :: k=>Exit.then (zES P ρ c (SA P ρ Q k)) (SA P ρ Q k)
 | .ops all l :: k=>Exit.then (wpListIn (Wd ρ) 0 P all.toArray (SA P ρ Q k) l) (SA P ρ Q k)
 | .drw _ _ _ _ _ :: k=>Exit.then (fun _ _=>False) (SA P ρ Q k)
section
variable {P:Program} {ρ:Option Nat} {Q:Exit→Act→World→Prop}
theorem zCc : ∀ (k:List It) (a:Act) (w:World),SA P ρ Q k .ret a w=Q .ret a w
 | [],_,_=>rfl
 | .code _ :: k,a,w=>zCc k a w
 | .endB _ :: k,a,w=>zCc k a w
 | .inLoop _ :: k,a,w=>zCc k a w
 | .ops _ _ :: k,a,w=>zCc k a w
 | .drw _ _ _ _ _ :: k,a,w=>zCc k a w
theorem Qj {id:Nat}:∀ (k:List It) (a:Act) (w:World),SA P ρ Q k (.exit id) a w=match YU id k with
  | some k' => SA P ρ Q k' .normal a w
  | none=>Q (.exit id) a w
 | [],_,_=>rfl
 | .endB i :: k,a,w=>by
  simp only [YU]
  cases hb:Nat.beq i id with
  | true =>
   have:=Nat.eq_of_beq_eq_true hb
   subst this
   simp [SA,Exit.inBlock]
  | false =>
   have hne:id≠i:=fun e=>Nat.ne_of_beq_eq_false hb e.symm
   simp only [cond_false,SA,Exit.inBlock,if_neg hne]
   exact Qj k a w
 | .code _ :: k,a,w=>Qj k a w
 | .inLoop _ :: k,a,w=>Qj k a w
 | .ops _ _ :: k,a,w=>Qj k a w
 | .drw _ _ _ _ _ :: k,a,w=>Qj k a w
end
structure Env where
 I0:Ij
 m0:Mem
 H0:List Blk
 w0:World
 lo:Nat
 rnd:Option Nat
 n:Nat
def Env.ρ (E:Env):Option Nat:=match E.rnd with
 | none=>none
 | some id=>(E.I0 id).map (·.b)
def marks (ds:List Nat):List Deferred:=ds.map fun D=>{ target:=.collected D,args := #[] }
def Dfr (E:Env) (I:Ij) (m:Mem) (H:List Blk) (w:World) (ds:List Nat):Prop:=ds.Nodup∧(∀ D∈ds,w.heap[D]? = some (.deferred (some []))∧E.w0.heap.size≤D∧m D=none∧∀ id f,Live H id→I id=some f→f.b≠D)∧(E.rnd≠none→ds=[])
structure SS (E:Env) (s:St) (I:Ij) (m:Mem) (a:Act) (w:World):Prop where
 sim:Sim I m s.H w
 slots:Slots m I s.K a.tmps
 size:a.tmps.size=E.n
 n:s.n=E.n
 lo:s.lo=E.lo
 rnd:s.rnd=E.rnd
 fx:Fx E.I0 E.H0 E.lo E.w0 I s.H w
 mem:E.m0.Le m
 fresh:∀ k o,m k=some o→E.m0 k=some o∨E.w0.heap.size≤k
 lole:E.lo≤E.H0.length
 dfr:∃ ds,a.defers=marks ds∧Dfr E I m s.H w ds
 rok:∀ id,E.rnd=some id→∃ f,E.I0 id=some f
def QA (E:Env) (Q:Ex→St→Prop):Exit→Act→World→Prop
 | .normal,a,w => ∃ s I m,Q .normal s∧SS E s I m a w
 | .ret,a,w => ∃ s I m,Q .ret s∧SS E s I m a w
 | .exit id,a,w => ∃ s I m,Q (.exit id) s∧SS E s I m a w
 | _,_,_=>False
section
variable {C:Cfg} {E:Env} {s:St} {I I':Ij} {m m':Mem} {a:Act} {w w':World} {H':List Blk}
theorem Dfr.step {H:List Blk} {ds:List Nat} {lo:Nat} (h:Dfr E I m H w ds) (hsim0:Sim I m H w) (hfx:Fx I H lo w I' H' w') (hfr:∀ k o,m' k=some o→m k=some o∨w.heap.size≤k) (hsim:Sim I' m' H' w'):Dfr E I' m' H' w' ds:=by
 refine ⟨h.1,fun D hD=>?_,h.2.2⟩
 obtain ⟨h1,h2,h3,h4⟩:=h.2.1 D hD
 have hlt:D<w.heap.size:=(Array.getElem?_eq_some_iff.1 h1).1
 refine ⟨by rw [hfx.same D hlt fun id f _ hl hf=>h4 id f hl hf]; exact h1,h2,?_,fun id f hl hf=>?_⟩
 ·cases hm:m' D with
  | none=>rfl
  | some o =>
   rcases hfr D o hm with h | h
   ·rw [h3] at h; cases h
   ·omega
 ·by_cases hid:lo≤id
  ·rcases hfx.own id f hid hl hf with h | ⟨i0,f0,_,h5,h6,h7⟩
   ·omega
   ·rw [← h7]; exact h4 i0 f0 h5 h6
  ·obtain ⟨B,hB,hlv⟩:=hl
   rw [hfx.low id (by omega)] at hB
   obtain ⟨f0,h5,_⟩:=hsim0.blk id B hB hlv
   have:=hfx.ij _ _ h5
   rw [hf] at this
   cases this
   exact h4 id f ⟨B,hB,hlv⟩ h5
theorem SS.step (h:SS E s I m a w) (hsim:Sim I' m' H' w') (hfx:Fx I s.H s.lo w I' H' w') (hm:m.Le m') (hfr:∀ k o,m' k=some o→m k=some o∨w.heap.size≤k):SS E { s with H:=H' } I' m' a w' where
 sim:=hsim
 slots:=h.slots.mono hm hfx.ij
 size:=h.size
 n:=h.n
 lo:=h.lo
 rnd:=h.rnd
 fx:=h.fx.tr (by rw [← h.lo]; exact hfx)
 mem:=fun k o hk=>hm k o (h.mem k o hk)
 fresh:=fun k o hk=>by
  rcases hfr k o hk with h1 | h1
  ·exact h.fresh k o h1
  ·exact .inr (Nat.le_trans h.fx.st.size h1)
 lole:=h.lole
 dfr:=by
  obtain ⟨ds,h1,h2⟩:=h.dfr
  exact ⟨ds,h1,h2.step h.sim hfx hfr hsim⟩
 rok:=h.rok
theorem SS.put (h:SS E s I m a w) {d:Option Nat} {v:V} {u:Value} (hv:Rep m v I u):SS E (s.put d v) I m (a.put d u) w:=by
 cases d with
 | none=>exact h
 | some d =>
  cases hb:Nat.blt d s.n with
  | true =>
   have e:s.put (some d) v = { s with K:=kput s.K d v }:=by
    unfold St.put
    simp only
    rw [hb]; rfl
   rw [e]
   have hd:d<a.tmps.size:=by rw [h.size,← h.n]; simpa using hb
   exact { h with
    slots:=fun t x hx=>by
     simp only [zCO] at hx
     split at hx
     ·rename_i he
      subst he
      simp only [Option.some.injEq] at hx
      subst hx
      exact ⟨u,by simp [Act.put,hd],hv⟩
     ·rename_i he
      obtain ⟨u',h1,h2⟩:=h.slots t x hx
      exact ⟨u',by simp only [Act.put]; rw [Array.getElem?_setIfInBounds_ne he]; exact h1,h2⟩
    size:=by simp [Act.put,h.size]
    dfr:=h.dfr }
  | false =>
   have e:s.put (some d) v=s:=by
    unfold St.put
    simp only
    rw [hb]; rfl
   rw [e]
   have hd:a.tmps.size≤d:=by
    rw [h.size,← h.n]
    rcases Nat.lt_or_ge d s.n with h1 | h1
    ·exfalso
     have:Nat.blt d s.n=true:=by simpa using h1
     rw [hb] at this; cases this
    ·exact h1
   exact { h with
    slots:=fun t x hx=>by
     obtain ⟨u',h1,h2⟩:=h.slots t x hx
     refine ⟨u',?_,h2⟩
     have hne:d≠t:=by rintro rfl; have:=(Array.getElem?_eq_some_iff.1 h1).1; omega
     simp only [Act.put]
     rw [Array.getElem?_setIfInBounds_ne hne]; exact h1
    size:=by simp [Act.put,h.size]
    dfr:=h.dfr }
theorem zBP {K:List (Nat×V)} {H:List Blk} {lo nid:Nat} {op:Op} {e:Eff} (h:zM C K H lo nid op=some e):Opnd op=true:=by
 cases op <;> first | rfl | (simp [zM] at h; done)
theorem zb (hs:Slots m I s.K a.tmps) {all:List Oper} {o:Oper} {b:Bool} (h:wants all s.K o.guard=some b):Region.wanted o (yielded all.toArray a.tmps)=b:=by
 unfold Region.wanted
 unfold wants at h
 split at h
 ·rename_i hg
  rw [hg]
  simp only [Option.some.injEq] at h
  exact h
 ·rename_i j want hg
  rw [hg]
  simp only
  split at h
  ·rename_i o' ho
   rw [zP] at ho
   split at h
   ·rename_i t ht
    split at h
    ·rename_i b' hk
     simp only [Option.some.injEq] at h
     obtain ⟨u,h1,h2⟩:=hs t _ hk
     have hu:=h2.lit
     subst hu
     have:yielded all.toArray a.tmps j=some b':=by simp [yielded,ho,ht,h1]
     rw [this,← h]
     simp
    ·rename_i vs hk
     simp only [Option.some.injEq] at h
     obtain ⟨u,h1,h2⟩:=hs t _ hk
     have hu:=h2.lit
     subst hu
     have:yielded all.toArray a.tmps j=none:=by simp [yielded,ho,ht,h1]
     rw [this,← h]
     simp
    ·cases h
   ·cases h
  ·cases h
theorem zIA {C:Cfg} {f N:Nat} {c:Code×Func} (h:jM C f N=some c):Nat.blt f 1000000=true:=by
 unfold jM at h
 cases hb:Nat.blt f 1000000 with
 | true=>rfl
 | false=>rw [hb] at h; cases h
theorem jE (hC:C.OK) {f N:Nat} {c:Code} {fn:Func} (h:jM C f N=some (c,fn)):C.P.funcs[f]? = some fn∧fn.body=some c∧N≤fn.ntmps∧∀ (args:Array Value) (w:World),(callFunc f args).run C.P w = .ok (.enter f args) w:=by
 have hlt:=zIA h
 unfold jM at h
 rw [hlt] at h
 simp only [_root_.cond_true] at h
 split at h
 ·rename_i fn' hf
  split at h
  ·rename_i c' hb
   cases hn:Nat.ble N fn'.ntmps with
   | false=>rw [hn] at h; cases h
   | true =>
    rw [hn] at h
    simp only [cond_true,Option.some.injEq,Prod.mk.injEq] at h
    obtain ⟨rfl,rfl⟩:=h
    exact ⟨(hC.fn _ _ hf).1,hb,Nat.le_of_ble_eq_true hn,(hC.fn _ _ hf).2⟩
  ·cases h
 ·cases h
theorem zHy : ∀ (l:List V) (i t:Nat) (v:V),kget (kargs i l) t=some v→i≤t∧l[t - i]? = some v
 | [],_,_,_,h=>by cases h
 | x :: r,i,t,v,h=>by
  simp only [kargs,kget] at h
  cases hb:Nat.beq i t with
  | true =>
   rw [hb] at h
   have:=Nat.eq_of_beq_eq_true hb
   subst this
   simpa using h
  | false =>
   rw [hb] at h
   have hne:=Nat.ne_of_beq_eq_false hb
   obtain ⟨h1,h2⟩:=zHy r (i+1) t v h
   refine ⟨by omega,?_⟩
   rw [show t - i=(t - (i+1))+1 by omega]
   simpa using h2
theorem zKn (hC:C.OK) (h:SS E s I m a w) {r:ResultVar} {v:V} (hr:resA C s r=some v):∃ u,(rdR a.tmps r).run C.P w = .ok u w∧Rep m v I u:=by
 unfold resA at hr
 split at hr
 ·rename_i t
  obtain ⟨u,h1,h2⟩:=h.slots t v hr
  exact ⟨u,by simp [rdR,Array.getD_eq_getD_getElem?,h1],h2⟩
 ·rename_i c t
  split at hr
  ·rename_i T av hT hk
   simp only [Option.map_eq_some_iff] at hr
   obtain ⟨p,h1,rfl⟩:=hr
   obtain ⟨u,h2,h3⟩:=h.slots c _ hk
   obtain ⟨ad,u',h4,h5,h6⟩:=zFf (hC.ty _ _ hT) h.sim h3 h1
   subst h4
   exact ⟨u',by simp [rdR,Array.getD_eq_getD_getElem?,h2,asAddr,h5],h6⟩
  ·cases hr
theorem zDV (hC:C.OK) (h:SS E s I m a w):∀ {rs:List ResultVar} {vs:List V},mapO (resA C s) rs=some vs→∃ us,(rs.mapM (rdR a.tmps)).run C.P w = .ok us w∧RepL m vs I us
 | [],vs,hr=>by
  simp only [mapO,Option.some.injEq] at hr
  subst hr
  exact ⟨[],by simp,by unfold RepL; rfl⟩
 | r :: rs,vs,hr=>by
  simp only [mapO] at hr
  cases hx:resA C s r with
  | none=>rw [hx] at hr; cases hr
  | some v =>
   cases hl:mapO (resA C s) rs with
   | none=>rw [hx,hl] at hr; cases hr
   | some vs' =>
    rw [hx,hl] at hr
    simp only [Option.some.injEq] at hr
    subst hr
    obtain ⟨u,h1,h2⟩:=zKn hC h hx
    obtain ⟨us,h3,h4⟩:=zDV hC h hl
    refine ⟨u :: us,by simp [List.mapM_cons,h1,h3],?_⟩
    unfold RepL
    exact ⟨u,us,rfl,h2,h4⟩
theorem zHL (hC:C.OK) (h:SS E s I m a w) {fn:Func} {v:V} (hr:zB0 C fn s=some v):∃ u,(results fn a.tmps).run C.P w = .ok u w∧Rep m v I u:=by
 unfold zB0 at hr
 have hm:∀ {us:List Value},(fn.results.toList.mapM (rdR a.tmps)).run C.P w = .ok us w→(fn.results.mapM (rdR a.tmps)).run C.P w = .ok us.toArray w:=fun h=>by
  rw [Array.mapM_eq_mapM_toList]
  simp [h]
 split at hr
 ·rename_i v' hl
  simp only [Option.some.injEq] at hr
  subst hr
  obtain ⟨us,h1,h2⟩:=zDV hC h hl
  obtain ⟨u,rfl,h3⟩:=h2.one'
  exact ⟨u,by rw [zGJ]; simp [hm h1],h3⟩
 ·rename_i l hne hl
  simp only [Option.some.injEq] at hr
  subst hr
  obtain ⟨us,h1,h2⟩:=zDV hC h hl
  have hsz:us.length≠1:=by
   rw [h2.len]
   intro e
   obtain ⟨x,hx⟩:=List.length_eq_one_iff.1 e
   exact hne x hx
  refine ⟨.tuple us.toArray,by rw [zGJ]; simp [hm h1,hsz],?_⟩
  unfold Rep
  exact ⟨us,rfl,h2⟩
 ·cases hr
theorem leavesDs' {fn:Func} {tmps:Array Value} {R:Ending→World→Prop} {P:Program} {B:World}:∀ (ds:List Nat) (w:World),jg B w→ds.Nodup→(∀ D∈ds,w.heap[D]? = some (.deferred (some []))) →
  (∀ w',jg B w'→w'.heap.size=w.heap.size→(∀ k,k∉ds→w'.heap[k]? = w.heap[k]?)→∃ v,(results fn tmps).run P w' = .ok v w'∧R (.returned v) w') →
  LeavesInM (Wd none) 0 P fn tmps R (marks ds) .returning w
 | [],w,hs,_,_,h=>by
  obtain ⟨v,h1,h2⟩:=h w hs rfl fun _ _=>rfl
  exact ⟨v,h1,h2⟩
 | D :: ds,w,hs,hnd,hD,h=>by
  have h1:=hD D List.mem_cons_self
  have hlt:D<w.heap.size:=(Array.getElem?_eq_some_iff.1 h1).1
  rw [List.nodup_cons] at hnd
  refine ⟨by simp,.inl ⟨D,_,rfl,takeD h1,leavesDs' ds _ ⟨⟨hs.os,hs.tape,hs.output,by simpa using hs.size⟩,hs.drawn⟩ hnd.2 (fun D' hD' => ?_) fun w' hs' hsz hk=>?_⟩⟩
  ·show (w.heap.setIfInBounds D _)[D']? = _
   rw [Array.getElem?_setIfInBounds_ne (by rintro rfl; exact hnd.1 hD')]
   exact hD D' (List.mem_cons_of_mem _ hD')
  ·refine h w' hs' (hsz.trans (by simp)) fun k hk' => ?_
   rw [List.mem_cons,not_or] at hk'
   rw [hk k hk'.2]
   show (w.heap.setIfInBounds D _)[k]? = _
   rw [Array.getElem?_setIfInBounds_ne (fun e=>hk'.1 e.symm)]
theorem YG (hC:C.OK) {f N lo':Nat} {c:Code} {fn:Func} (hb:jM C f N=some (c,fn)) {args:List V} (hN:args.length=N) {Q:Ex→St→Prop}
  (IH:∀ (E:Env) (I:Ij) (m:Mem) (a:Act) (w:World),SS E (St.call fn args H' lo') I m a w→SA C.P E.ρ (QA E Q) [.code c] .normal a w) (hQ:∀ e s1,Q e s1→∃ v,finA C fn e s1=some v) {us:List Value} (hs:Sim I m H' w) (hlo:lo'≤H'.length) (hr:RepL m args I us) :
  Calls C.P f us.toArray w (fun e w' => ∃ u,e = .returned u∧∃ ex s1 v I1 m1,Q ex s1∧finA C fn ex s1=some v∧Rep m1 v I1 u∧Sim I1 m1 s1.H w'∧Fx I H' lo' w I1 s1.H w'∧m.Le m1∧(∀ k o,m1 k=some o→m k=some o∨w.heap.size≤k)∧s1.lo=lo'):=by
 obtain ⟨hf,hbody,hn,_⟩:=jE hC hb
 let E:Env:=⟨I,m,H',w,lo',none,fn.ntmps⟩
 have hus:=hr.len
 have h0:SS E (St.call fn args H' lo') I m { tmps:=us.toArray++Array.replicate (fn.ntmps - us.toArray.size) undef,defers:=[] } w:={
  sim:=hs
  slots:=fun t v hv=>by
   obtain ⟨_,h2⟩:=zHy args 0 t v hv
   simp only [Nat.sub_zero] at h2
   obtain ⟨u,h3,h4⟩:=hr.get h2
   have hlt:=(List.getElem?_eq_some_iff.1 h3).1
   have h5:us[t]=u:=(List.getElem?_eq_some_iff.1 h3).2
   exact ⟨u,by simp [Array.getElem?_append,hlt,h5],h4⟩
  size:=by simp; show _=fn.ntmps; omega
  n:=rfl
  lo:=rfl
  rnd:=rfl
  fx:=Fx.rfl' _ _ _ _
  mem:=fun _ _ h=>h
  fresh:=fun _ _ h=>.inl h
  lole:=hlo
  dfr:=⟨[],rfl,List.nodup_nil,(fun D hD=>by cases hD),fun _=>rfl⟩
  rok:=fun id h=>by cases h }
 refine (zBd (ρ:=none) (n:=0)).1 (callsIn_of_wp_marks hf hbody trivial ?_ rfl)
 have h1:=IH E I m _ w h0
 refine Code.wpIn_mono ?_ h1
 have fin:∀ {e:Ex} {s1:St} {I1:Ij} {m1:Mem} {a1:Act} {w1:World},Q e s1→SS E s1 I1 m1 a1 w1→LeavesInM (Wd none) 0 C.P fn a1.tmps (fun e w' => ∃ u,e = .returned u∧∃ ex s1 v I1 m1,Q ex s1∧finA C fn ex s1=some v∧Rep m1 v I1 u∧Sim I1 m1 s1.H w'∧Fx I H' lo' w I1 s1.H w'∧m.Le m1∧(∀ k o,m1 k=some o→m k=some o∨w.heap.size≤k)∧s1.lo=lo') a1.defers .returning w1:=by
  intro e s1 I1 m1 a1 w1 hq hss
  obtain ⟨v,hv⟩:=hQ e s1 hq
  obtain ⟨ds,hds,hd⟩:=hss.dfr
  have hres:zB0 C fn s1=some v:=by
   unfold finA at hv
   cases ho:zJd e with
   | true=>rw [ho] at hv; exact hv
   | false=>rw [ho] at hv; cases hv
  have hDlt:∀ D∈ds,D<w1.heap.size:=fun D hD=>(Array.getElem?_eq_some_iff.1 (hd.2.1 D hD).1).1
  -- the blocks of deferred calls are shut
  have hsim':∀ w',jg w w'→(∀ k,k∉ds→w'.heap[k]? = w1.heap[k]?)→Stays w1 w'→Sim I1 m1 s1.H w':=fun w' _ hk _=>hss.sim.world (fun _ _ h=>h) (fun k o hko=>by
    show w'.heap[k]? = some o
    rw [hk k (fun hD=>by rw [(hd.2.1 k hD).2.2.1] at hko; cases hko)]; exact hss.sim.sub k o hko) (fun id f hl hf=>⟨hk _ (fun hD=>(hd.2.1 _ hD).2.2.2 id f hl hf rfl),hss.sim.off id f hl hf⟩)
  have key:∀ w',jg w w'→w'.heap.size=w1.heap.size→(∀ k,k∉ds→w'.heap[k]? = w1.heap[k]?)→∃ u,(results fn a1.tmps).run C.P w' = .ok u w'∧Rep m1 v I1 u:=by
   intro w' hst hsz hk
   have hst1:Stays w1 w':=⟨hst.os.trans hss.fx.st.os.symm,hst.tape.trans hss.fx.st.tape.symm,hst.output.trans hss.fx.st.output.symm,Nat.le_of_eq hsz.symm⟩
   have hss':SS E s1 I1 m1 { a1 with defers:=[] } w':={ hss with
    sim:=hsim' w' hst hk hst1
    fx:={ hss.fx with
     st:=hst
     same:=fun k hk' hn=>by
      have hk'':k<w.heap.size:=hk'
      rw [hk k (fun hD=>by have h1:w.heap.size≤k:=(hd.2.1 k hD).2.1; omega)]
      exact hss.fx.same k hk' hn }
    dfr:=⟨[],rfl,List.nodup_nil,(fun D hD=>by cases hD),fun _=>rfl⟩ }
   exact zHL hC hss' hres
  rw [hds]
  refine leavesDs' (B:=w) ds w1 hss.fx.st hd.1 (fun D hD=>(hd.2.1 D hD).1) fun w' hst hsz hk=>?_
  obtain ⟨u,hu1,hu2⟩:=key w' hst hsz hk
  have hst1:Stays w1 w':=⟨hst.os.trans hss.fx.st.os.symm,hst.tape.trans hss.fx.st.tape.symm,hst.output.trans hss.fx.st.output.symm,Nat.le_of_eq hsz.symm⟩
  refine ⟨u,hu1,u,rfl,e,s1,v,I1,m1,hq,hv,hu2,hsim' w' hst hk hst1,?_,hss.mem,hss.fresh,hss.lo⟩
  have hfx:Fx I H' lo' w I1 s1.H w1:=hss.fx
  exact { hfx with
   st:=hst
   same:=fun k hk' hn=>by
    rw [hk k (fun hD=>by have h1:w.heap.size≤k:=(hd.2.1 k hD).2.1; omega)]
    exact hfx.same k hk' hn }
 intro e a1 w1 he
 cases e with
 | normal=>obtain ⟨s1,I1,m1,h2,h3⟩:=he; exact fin h2 h3
 | ret=>obtain ⟨s1,I1,m1,h2,h3⟩:=he; exact fin h2 h3
 | exit id =>
  obtain ⟨s1,I1,m1,h2,h3⟩:=he
  obtain ⟨v,hv⟩:=hQ _ _ h2
  cases hv
 | goto l=>exact he.elim
 | panic ch=>exact he.elim
 | outgrown=>exact he.elim
end
end Go.Am
