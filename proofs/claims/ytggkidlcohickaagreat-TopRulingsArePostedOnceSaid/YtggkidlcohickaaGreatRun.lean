/- A run of the abstract machine is a proof of the judgement. Conditions: none. -/
import Derived.Test.YtggkidlcohickaaGreatLoc
import Derived.Laws.Closers25
set_option linter.unusedVariables false
set_option linter.unusedSimpArgs false
namespace Go.Am
open Go Go.Wk Go.RowKit
theorem zCJ : ∀ (l:List Nat),meet l []=false
 | []=>rfl
 | x :: r=>by simp [meet,memN,zCJ r]
theorem zCv {all:List Oper} {j:Nat}:∀ (log:List (Nat×List Nat×List Nat)),yA all j [] [] log=true
 | []=>rfl
 | (i,rd,wr) :: r=>by simp [yA,zCJ,meet,zCv r]
structure Rn.OK (R:Rn):Prop where
 ctr:∀ f args v,R.ctr f args=some v→∃ args',ZB [] false args args'∧R.C.X f args' v
section
variable {R:Rn}
theorem Gm.mono {C:Cfg} {k:List It} {s:St} {Q Q':Ex→St→Prop} (h:Gm C k s Q) (hq:∀ e s,Q e s→Q' e s):Gm C k s Q':=by
 induction h with
 | nil h=>exact .nil (hq _ _ h)
 | drop K hK _ IH=>exact .drop K hK (IH hq)
 | cut Q1 kp K H h1 hc hr _ _ hx _ IH2 IH3=>exact .cut Q1 kp K H h1 hc (fun s h=>hq _ _ (hr s h)) (fun s h=>IH2 s h hq) (fun id k' s h1 h2=>IH3 id k' s h1 h2 hq) (fun id s h1 h2=>hq _ _ (hx id s h1 h2))
 | skip _ IH=>exact .skip (IH hq)
 | label _ IH=>exact .label (IH hq)
 | seq _ IH=>exact .seq (IH hq)
 | zCZ hc _ IH=>exact .zCZ hc (IH hq)
 | zCa hc _ IH=>exact .zCa hc (IH hq)
 | block _ IH=>exact .block (IH hq)
 | endB _ IH=>exact .endB (IH hq)
 | loop _ IH=>exact .loop (IH hq)
 | inLoop _ IH=>exact .inLoop (IH hq)
 | exit hp _ IH=>exact .exit hp (IH hq)
 | zF3 hp h=>exact .zF3 hp (hq _ _ h)
 | ret h=>exact .ret (hq _ _ h)
 | region _ IH=>exact .region (IH hq)
 | za _ IH=>exact .za (IH hq)
 | zGT hw _ IH=>exact .zGT hw (IH hq)
 | op hw he _ IH=>exact .op hw he (IH hq)
 | ext hw hc hca hX hfl _ IH=>exact .ext hw hc hca hX hfl (IH hq)
 | clo T hw hc hb hca h1 _ _ IH2=>exact .clo T hw hc hb hca h1 fun v hv=>IH2 v hv hq
 | sub T hw hc hb hs h1 _ _ IH2=>exact .sub T hw hc hb hs h1 fun v hv=>IH2 v hv hq
 | im T hw hc hb h1 _ _ IH2=>exact .im T hw hc hb h1 fun v H hv=>IH2 v H hv hq
 | next hop hw hx hg hlo _ _ IH1 IH2=>exact .next hop hw hx hg hlo (fun h=>IH1 h hq) fun j kv vv h1 h2 h3=>IH2 j kv vv h1 h2 h3 hq
 | yld T1 T2 hw hc hg hK hps hlo h1 h2 _ _ _ IH3=>exact .yld T1 T2 hw hc hg hK hps hlo h1 h2 fun s hs=>IH3 s hs hq
 | range T hg hb hro h1 _ _ IH2=>exact .range T hg hb hro h1 fun p hp=>IH2 p hp hq
 | draw es hr hd hc _ _ IH2=>exact .draw es hr hd hc (IH2 hq)
end
end Go.Am
namespace Go.Am
def BT.All {α:Type} (p:Nat→α→Prop):BT α→Prop
 | .nil=>True
 | .node k v l r=>p k v∧l.All p∧r.All p
theorem BT.All.get {α:Type} {p:Nat→α→Prop}:∀ {b:BT α},b.All p→∀ {n:Nat} {v:α},b.get n=some v→p n v
 | .nil,_,_,_,h=>by cases h
 | .node k v l r,⟨h1,h2,h3⟩,n,u,h=>by
  simp only [BT.get] at h
  cases hb:Nat.beq n k with
  | true =>
   rw [hb] at h
   simp only [cond_true,Option.some.injEq] at h
   subst h
   rw [Nat.eq_of_beq_eq_true hb]; exact h1
  | false =>
   rw [hb] at h
   simp only [cond_false] at h
   cases hl:Nat.blt n k with
   | true=>rw [hl] at h; exact BT.All.get h2 h
   | false=>rw [hl] at h; exact BT.All.get h3 h
end Go.Am
namespace Go.Am
open Go Go.Wk Go.RowKit
def Ct (P:Program) (f:Nat) (args:List V) (v:V):Prop:=zO8 P f args v∧∀ (args:Array Value) (w:World),(callFunc f args).run P w = .ok (.enter f args) w
def Told (C:Cfg) (fn:Func) (v:V):Ex→St→Prop:=fun e s => ∃ v0,finA C fn e s=some v0∧Q5 s v0 v
end Go.Am
namespace Go.Am
open Go Go.Wk Go.RowKit
def gv (x:Bool) (v:V):V:=cond x v jA
namespace W
section
variable {C:Cfg} {all os:List Oper} {o:Oper} {k:List It} {K:List (Nat×V)} {H:List Blk} {lo n:Nat} {rnd:Option Nat} {Q:Ex→St→Prop} {dst:Option Nat} {d:Nat} {p:Op} {ty:TypeId} {pos:String} {after:Array Edge} {e:Eff} {v:V} {x y:Bool}
theorem front {s s':St} (hs:s.put (some d) v=s') (hd:Nat.blt d n=true) (h:Gm C k ⟨(d,v) :: K,H,lo,rnd,n⟩ Q) (e1:s=⟨K,H,lo,rnd,n⟩):Gm C k s' Q:=by
 subst e1
 subst hs
 have e2:St.put ⟨K,H,lo,rnd,n⟩ (some d) v=⟨kput K d v,H,lo,rnd,n⟩:=by unfold St.put; simp only; rw [hd]; rfl
 rw [e2]
 refine .drop ((d,v) :: K) (fun t u h=>?_) h
 simp only [kget] at h
 show kget (kput K d v) t=some u
 rw [zCO]
 cases hb:Nat.beq d t with
 | true=>rw [hb] at h; rw [if_pos (Nat.eq_of_beq_eq_true hb)]; exact h
 | false=>rw [hb] at h; rw [if_neg (Nat.ne_of_beq_eq_false hb)]; exact h
theorem op (he:zM C K H lo H.length p=some e) (hd:Nat.blt d n=true) (h:Gm C (.ops all os :: k) ⟨(d,e.v) :: K,puts H e.wr,lo,rnd,n⟩ Q):Gm C (.ops all (⟨some d,p,ty,pos,after,none⟩ :: os) :: k) ⟨K,H,lo,rnd,n⟩ Q :=
 .op rfl he (front rfl hd h rfl)
theorem op0 (he:zM C K H lo H.length p=some e) (h:Gm C (.ops all os :: k) ⟨K,puts H e.wr,lo,rnd,n⟩ Q):Gm C (.ops all (⟨none,p,ty,pos,after,none⟩ :: os) :: k) ⟨K,H,lo,rnd,n⟩ Q :=
 .op rfl he h
theorem call {f:Nat} {args args':List V} (hc:callee K p=some (.fn f args)) (ha:ZB H false args args') (hX:C.X f args' v) (hd:Nat.blt d n=true) (h:Gm C (.ops all os :: k) ⟨(d,v) :: K,H,lo,rnd,n⟩ Q):Gm C (.ops all (⟨some d,p,ty,pos,after,none⟩ :: os) :: k) ⟨K,H,lo,rnd,n⟩ Q :=
 .ext (fl:=false) rfl hc ha hX (fun h=>by cases h) (front rfl hd h rfl)
theorem zFu {j:Nat} {b want:Bool} {t:Nat} {o':Oper} (h1:Am.get all j=some o') (h2:o'.dst=some t) (h3:kget K t=some (.b b)):wants all K (some (j,want))=some (b==want):=by
 unfold wants
 simp only [h1,h2,h3]
theorem cond {c:Operand} {c1 c2:Code} (hc:kev K c=some (.b x)) (ht:x=true→Gm C (.code c1 :: k) ⟨K,H,lo,rnd,n⟩ Q) (hf:x=false→Gm C (.code c2 :: k) ⟨K,H,lo,rnd,n⟩ Q):Gm C (.code (.cond c c1 c2) :: k) ⟨K,H,lo,rnd,n⟩ Q:=by
 cases x with
 | true=>exact .zCZ hc (ht rfl)
 | false=>exact .zCa hc (hf rfl)
theorem region {id:Nat} {l:List Oper} {s:St} (h:Gm C (.ops l l :: k) s Q):Gm C (.code (.region id l.toArray false) :: k) s Q:=.region (by simpa using h)
theorem wrap64 {n:Int} (h1 : -9223372036854775808≤n) (h2:n≤9223372036854775807):IntKind.wrap .i64 n=n:=by
 rw [IntKind.wrap_i64]; omega
end
end W
end Go.Am
namespace Go.Am
open Go Go.Wk Go.RowKit
namespace W
section
variable {C:Cfg} {all os:List Oper} {o:Oper} {k:List It} {K:List (Nat×V)} {H H':List Blk} {lo n nid:Nat} {rnd:Option Nat} {Q:Ex→St→Prop} {d:Nat} {p:Op} {ty:TypeId} {pos:String} {after:Array Edge} {v v':V} {x y:Bool} {wr:List (Nat×Blk)} {rd:List Nat}
theorem opR (he:zM C K H lo H.length p=some ⟨v,[],rd⟩) (hd:Nat.blt d n=true) (h:Gm C (.ops all os :: k) ⟨(d,v) :: K,H,lo,rnd,n⟩ Q):Gm C (.ops all (⟨some d,p,ty,pos,after,none⟩ :: os) :: k) ⟨K,H,lo,rnd,n⟩ Q:=op he hd h
theorem opW (he:zM C K H lo H.length p=some ⟨v,wr,rd⟩) (hH:puts H wr=H') (hd:Nat.blt d n=true) (h:Gm C (.ops all os :: k) ⟨(d,v) :: K,H',lo,rnd,n⟩ Q):Gm C (.ops all (⟨some d,p,ty,pos,after,none⟩ :: os) :: k) ⟨K,H,lo,rnd,n⟩ Q:=op he hd (by subst hH; exact h)
theorem op0W (he:zM C K H lo H.length p=some ⟨v,wr,rd⟩) (hH:puts H wr=H') (h:Gm C (.ops all os :: k) ⟨K,H',lo,rnd,n⟩ Q):Gm C (.ops all (⟨none,p,ty,pos,after,none⟩ :: os) :: k) ⟨K,H,lo,rnd,n⟩ Q:=op0 he (by subst hH; exact h)
theorem addE {t t2:Nat} {a b:Int} {xo yo:Operand} (hx:kev K xo=some (.i a)) (hy:kev K yo=some (.i b)) (h : -9223372036854775808≤a+b∧a+b≤9223372036854775807):zM C K H lo nid (.binOp .add t xo yo t2)=some ⟨.i (a+b),[],[]⟩:=by
 simp [zM,YF,hx,hy,binA,Jy,intA,Jc,wrap64 h.1 h.2]
theorem subE {t t2:Nat} {a b:Int} {xo yo:Operand} (hx:kev K xo=some (.i a)) (hy:kev K yo=some (.i b)) (h : -9223372036854775808≤a - b∧a - b≤9223372036854775807):zM C K H lo nid (.binOp .sub t xo yo t2)=some ⟨.i (a - b),[],[]⟩:=by
 simp [zM,YF,hx,hy,binA,Jy,intA,Jc,wrap64 h.1 h.2]
theorem mulE {t t2:Nat} {a b:Int} {xo yo:Operand} (hx:kev K xo=some (.i a)) (hy:kev K yo=some (.i b)) (h : -9223372036854775808≤a*b∧a*b≤9223372036854775807):zM C K H lo nid (.binOp .mul t xo yo t2)=some ⟨.i (a*b),[],[]⟩:=by
 simp [zM,YF,hx,hy,binA,Jy,intA,Jc,wrap64 h.1 h.2]
theorem quo {t t2:Nat} {a b:Int} {xo yo:Operand} (hx:kev K xo=some (.i a)) (hy:kev K yo=some (.i b)) (h0 : -9223372036854775808≤a) (h1:a≤9223372036854775807) (hb:1≤b):zM C K H lo nid (.binOp .quo t xo yo t2)=some ⟨.i (a.tdiv b),[],[]⟩:=by
 have hb0:b≠0:=by omega
 have:=wrap_i64_tdiv a b h0 h1 hb
 simp [zM,YF,hx,hy,binA,Jy,intA,hb0,Jc,this]
theorem rem {t t2:Nat} {a b:Int} {xo yo:Operand} (hx:kev K xo=some (.i a)) (hy:kev K yo=some (.i b)) (hb:b≠0):zM C K H lo nid (.binOp .rem t xo yo t2)=some ⟨.i (a.tmod b),[],[]⟩:=by
 simp [zM,YF,hx,hy,binA,Jy,intA,hb,Jc]
def Sub (K' K:List (Nat×V)):Prop := ∀ t v,kget K' t=some v→kget K t=some v
theorem sub_nil : Sub [] K:=fun t v h=>by cases h
theorem zJE {K':List (Nat×V)} {t:Nat} (h:kget K t=some v) (h2:Sub K' K):Sub ((t,v) :: K') K:=fun t' u h' => by
 simp only [kget] at h'
 cases hb:Nat.beq t t' with
 | true =>
  rw [hb] at h'
  simp only [cond_true,Option.some.injEq] at h'
  rw [← Nat.eq_of_beq_eq_true hb,← h']; exact h
 | false=>rw [hb] at h'; exact h2 t' u h'
def LowH (N:Nat):List Blk→Prop
 | []=>True
 | B :: r=>B≠.free∧(B.live=true→∃ n,renB N [] n B=some B)∧LowH N r
theorem LowH.get {N:Nat}:∀ {H:List Blk} {id:Nat} {B:Blk},LowH N H→Am.get H id=some B→B≠.free∧(B.live=true→∃ n,renB N [] n B=some B)
 | [],_,_,_,h=>by cases h
 | A :: r,0,B,h,hg=>by simp only [Am.get,Option.some.injEq] at hg; subst hg; exact ⟨h.1,h.2.1⟩
 | A :: r,id+1,B,h,hg=>LowH.get h.2.2 (id:=id) hg
theorem zAU {f:Nat} {args args':List V} {m:Nat} (hc:callee K p=some (.fn f args)) (ha:ZB H true args args') (hX:C.X f args' v) (hf:flat m v=true) (hd:Nat.blt d n=true) (h:Gm C (.ops all os :: k) ⟨(d,v) :: K,H,lo,rnd,n⟩ Q):Gm C (.ops all (⟨some d,p,ty,pos,after,none⟩ :: os) :: k) ⟨K,H,lo,rnd,n⟩ Q :=
 .ext (fl:=true) rfl hc ha hX (fun _=>⟨m,hf⟩) (front rfl hd h rfl)
end
end W
end Go.Am
