/- Steps that are found by trying: a number of them at once. Conditions: none. -/
import Derived.Test.YtfoafeaplgmhmaaX
set_option linter.unusedVariables false
set_option linter.unusedSimpArgs false
namespace Go.Am
open Go Go.Wk Go.RowKit Go.Mx
structure Au (n:Nat) (A B:Prop):Prop where
  go:A→B
namespace Au
section
variable {C:Cfg} {N:Nat} {k:List It} {s:St} {K:List (Nat×V)} {H H':List Blk} {lo n d i nid id m j:Nat} {rnd:Option Nat} {Q:Ex→St→Prop} {all os:List Oper} {p:Op} {ty:TypeId} {pos:String} {after:Array Edge} {v:V} {rd:List Nat} {wr:List (Nat×Blk)} {A:Prop} {l:List Oper} {x y:Code} {xo yo:Operand} {t u:Nat} {b:Bool} {log:List (Nat×List Nat×List Nat)}
theorem az : Au 0 A A:=⟨fun a=>a⟩
theorem an (h:Au m A (GS C N k s Q)):Au (m+1) A (GS C N (.ops all [] :: k) s Q):=⟨fun a=>GS.opsNil (h.go a)⟩
theorem aS (h:Au m A (GS C N (.ops l l :: .code y :: k) s Q)):Au (m+1) A (GS C N (.code (.seq (.region id l.toArray false) y) :: k) s Q):=⟨fun a=>X.sq (h.go a)⟩
theorem as (h:Au m A (GS C N (.code x :: .code y :: k) s Q)):Au (m+1) A (GS C N (.code (.seq x y) :: k) s Q):=⟨fun a=>GS.seq (h.go a)⟩
theorem ar (h:Au m A (GS C N (.ops l l :: k) s Q)):Au (m+1) A (GS C N (.code (.region id l.toArray false) :: k) s Q):=⟨fun a=>GS.region (h.go a)⟩
theorem ak (h:Au m A (GS C N k s Q)):Au (m+1) A (GS C N (.code .skip :: k) s Q):=⟨fun a=>GS.skip (h.go a)⟩
theorem aq (h1:(opEff C K H lo H.length p,Nat.blt d n)=(some ⟨v,[],rd⟩,true)) (h:Au m A (GS C N (.ops all os :: k) ⟨(d,v) :: K,H,lo,rnd,n⟩ Q)):Au (m+1) A (GS C N (.ops all (⟨some d,p,ty,pos,after,none⟩ :: os) :: k) ⟨K,H,lo,rnd,n⟩ Q):=⟨fun a=>X.q (by rw [h1]; rfl) (h.go a)⟩
theorem len {bb xs ts} (h1:opEff C K H lo H.length (.call ⟨.builtin bb,xs,ts⟩)=some ⟨v,[],rd⟩) (h2:Nat.blt d n=true) (h:Au m A (GS C N (.ops all os :: k) ⟨(d,v) :: K,H,lo,rnd,n⟩ Q)):Au (m+1) A (GS C N (.ops all (⟨some d,.call ⟨.builtin bb,xs,ts⟩,ty,pos,after,none⟩ :: os) :: k) ⟨K,H,lo,rnd,n⟩ Q):=⟨fun a=>X.opR rfl h1 h2 (h.go a)⟩
theorem bin {bo} {tt:TypeId} (h1:opEff C K H lo H.length (.binOp bo tt xo yo u)=some ⟨v,[],rd⟩) (h2:Nat.blt d n=true) (h:Au m A (GS C N (.ops all os :: k) ⟨(d,v) :: K,H,lo,rnd,n⟩ Q)):Au (m+1) A (GS C N (.ops all (⟨some d,.binOp bo tt xo yo u,ty,pos,after,none⟩ :: os) :: k) ⟨K,H,lo,rnd,n⟩ Q):=⟨fun a=>X.opR rfl h1 h2 (h.go a)⟩
theorem una {bo} {tt:TypeId} (h1:opEff C K H lo H.length (.unOp bo tt xo)=some ⟨v,[],rd⟩) (h2:Nat.blt d n=true) (h:Au m A (GS C N (.ops all os :: k) ⟨(d,v) :: K,H,lo,rnd,n⟩ Q)):Au (m+1) A (GS C N (.ops all (⟨some d,.unOp bo tt xo,ty,pos,after,none⟩ :: os) :: k) ⟨K,H,lo,rnd,n⟩ Q):=⟨fun a=>X.opR rfl h1 h2 (h.go a)⟩
theorem idx (h1:opEff C K H lo H.length (.indexAddr t xo yo)=some ⟨v,[],rd⟩) (h2:Nat.blt d n=true) (h:Au m A (GS C N (.ops all os :: k) ⟨(d,v) :: K,H,lo,rnd,n⟩ Q)):Au (m+1) A (GS C N (.ops all (⟨some d,.indexAddr t xo yo,ty,pos,after,none⟩ :: os) :: k) ⟨K,H,lo,rnd,n⟩ Q):=⟨fun a=>X.opR rfl h1 h2 (h.go a)⟩
theorem lod (h1:opEff C K H lo H.length (.load t xo)=some ⟨v,[],rd⟩) (h2:Nat.blt d n=true) (h:Au m A (GS C N (.ops all os :: k) ⟨(d,v) :: K,H,lo,rnd,n⟩ Q)):Au (m+1) A (GS C N (.ops all (⟨some d,.load t xo,ty,pos,after,none⟩ :: os) :: k) ⟨K,H,lo,rnd,n⟩ Q):=⟨fun a=>X.opR rfl h1 h2 (h.go a)⟩
theorem pt {c a b:Operand} {x:Bool} (h1:kev K c=some (.b x)) (h3:x=true) (h4:kev K a=some v) (h2:Nat.blt d n=true) (h:Au m A (GS C N (.ops all os :: k) ⟨(d,v) :: K,H,lo,rnd,n⟩ Q)):Au (m+1) A (GS C N (.ops all (⟨some d,.pick c a b,ty,pos,after,none⟩ :: os) :: k) ⟨K,H,lo,rnd,n⟩ Q):=⟨fun e=>X.opR rfl (X.pick_t h1 h3 h4) h2 (h.go e)⟩
theorem pf {c a b:Operand} {x:Bool} (h1:kev K c=some (.b x)) (h3:x=false) (h4:kev K b=some v) (h2:Nat.blt d n=true) (h:Au m A (GS C N (.ops all os :: k) ⟨(d,v) :: K,H,lo,rnd,n⟩ Q)):Au (m+1) A (GS C N (.ops all (⟨some d,.pick c a b,ty,pos,after,none⟩ :: os) :: k) ⟨K,H,lo,rnd,n⟩ Q):=⟨fun e=>X.opR rfl (X.pick_f h1 h3 h4) h2 (h.go e)⟩
theorem ag (h0:wants all K (some (j,b))=some true) (h1:opEff C K H lo H.length p=some ⟨v,[],rd⟩) (h2:Nat.blt d n=true) (h:Au m A (GS C N (.ops all os :: k) ⟨(d,v) :: K,H,lo,rnd,n⟩ Q)):Au (m+1) A (GS C N (.ops all (⟨some d,p,ty,pos,after,some (j,b)⟩ :: os) :: k) ⟨K,H,lo,rnd,n⟩ Q):=⟨fun a=>X.opR h0 h1 h2 (h.go a)⟩
theorem ao (h0:wants all K (some (j,b))=some false) (h2:Nat.blt d n=true) (h:Au m A (GS C N (.ops all os :: k) ⟨(d,undefV) :: K,H,lo,rnd,n⟩ Q)):Au (m+1) A (GS C N (.ops all (⟨some d,p,ty,pos,after,some (j,b)⟩ :: os) :: k) ⟨K,H,lo,rnd,n⟩ Q):=⟨fun a=>X.off h0 h2 (h.go a)⟩
theorem ac (h1:opEff C K H lo nid p=some ⟨v,[],rd⟩) (h3:allocs p=false) (h2:Nat.blt d n=true) (h:Au m A (X.DC C N k Q all os (i+1) nid ⟨(d,v) :: K,H,lo,rnd,n⟩)):Au (m+1) A (X.DC C N k Q all (⟨some d,p,ty,pos,after,none⟩ :: os) i nid ⟨K,H,lo,rnd,n⟩):=⟨fun a=>X.cop rfl h1 h3 h2 (h.go a)⟩
theorem cg (h0:wants all K (some (j,b))=some true) (h1:opEff C K H lo nid p=some ⟨v,[],rd⟩) (h3:allocs p=false) (h2:Nat.blt d n=true) (h:Au m A (X.DC C N k Q all os (i+1) nid ⟨(d,v) :: K,H,lo,rnd,n⟩)):Au (m+1) A (X.DC C N k Q all (⟨some d,p,ty,pos,after,some (j,b)⟩ :: os) i nid ⟨K,H,lo,rnd,n⟩):=⟨fun a=>X.cop h0 h1 h3 h2 (h.go a)⟩
theorem co (h0:wants all K (some (j,b))=some false) (h3:allocs p=false) (h2:Nat.blt d n=true) (h:Au m A (X.DC C N k Q all os (i+1) nid ⟨(d,undefV) :: K,H,lo,rnd,n⟩)):Au (m+1) A (X.DC C N k Q all (⟨some d,p,ty,pos,after,some (j,b)⟩ :: os) i nid ⟨K,H,lo,rnd,n⟩):=⟨fun a=>X.coff h0 h3 h2 (h.go a)⟩
theorem ad (h1:opEff C K H lo nid p=some ⟨v,wr,rd⟩) (h3:(!allocs p||isFree (get H nid))=true) (h4:wrIn H.length wr=true) (h5:logOK all i (bif allocs p then nid :: rd else rd) (wrIds wr) log=true) (h6:puts H wr=H') (h2:Nat.blt d n=true)
    (h:Au m A (X.DW C N k Q all os (i+1) (bif allocs p then nid+1 else nid) ⟨(d,v) :: K,H',lo,rnd,n⟩ ((i,bif allocs p then nid :: rd else rd,wrIds wr) :: log))):Au (m+1) A (X.DW C N k Q all (⟨some d,p,ty,pos,after,none⟩ :: os) i nid ⟨K,H,lo,rnd,n⟩ log):=⟨fun a=>X.dop rfl h1 h3 h4 h5 h6 h2 (h.go a)⟩
theorem bl (h:Au m A (GS C N (.code x :: .endB id :: k) s Q)):Au (m+1) A (GS C N (.code (.block id x) :: k) s Q):=⟨fun a=>GS.block (h.go a)⟩
theorem eb (h:Au m A (GS C N k s Q)):Au (m+1) A (GS C N (.endB id :: k) s Q):=⟨fun a=>GS.endB (h.go a)⟩
theorem ex {k':List It} (h1:popTo id k=some k') (h:Au m A (GS C N k' s Q)):Au (m+1) A (GS C N (.code (.exit id) :: k) s Q):=⟨fun a=>GS.exit h1 (h.go a)⟩
theorem cn (h:Au m A (GS C N k s Q)):Au (m+1) A (X.DC C N k Q all [] i nid s):=⟨fun a=>X.cnil (h.go a)⟩
theorem dn (h:Au m A (GS C N k s Q)):Au (m+1) A (X.DW C N k Q all [] i nid s log):=⟨fun a=>X.dnil (h.go a)⟩
theorem ef {p:Op} {e:Option Eff} {nid:Nat} (h:opEff C K H lo nid p=e:=by
  first
    | ((with_reducible apply X.lenF) <;> rfl)
    | ((with_reducible apply X.lenN) <;> rfl)
    | ((with_reducible apply X.minE) <;> rfl)
    | ((with_reducible apply X.maxE) <;> rfl)
    | ((with_reducible apply X.addE) <;> rfl)
    | ((with_reducible apply X.subE) <;> rfl)
    | ((with_reducible apply X.mulE) <;> rfl)
    | ((with_reducible apply X.negE) <;> rfl)
    | ((with_reducible apply X.pick_t); · rfl
       · with_reducible assumption
       · rfl)
    | ((with_reducible apply X.pick_f); · rfl
       · with_reducible assumption
       · rfl)
    | rfl
    | exact X.indexF (by assumption) (by intro _; rfl) rfl rfl rfl rfl
    | exact X.loadF (by assumption) rfl rfl rfl):opEff C K H lo nid p=e:=h
theorem on (h:wants all K (some (j,b))=some true:=by first | ((with_reducible apply X.on_t); rfl; rfl; rfl; with_reducible assumption) | ((with_reducible apply X.on_f); rfl; rfl; rfl; with_reducible assumption)):wants all K (some (j,b))=some true:=h
end
end Au
namespace X
section
variable {C:Cfg} {N:Nat} {k:List It} {K:List (Nat×V)} {H:List Blk} {lo n d i nid:Nat} {rnd:Option Nat} {Q:Ex→St→Prop} {all os:List Oper} {p:Op} {ty:TypeId} {pos:String} {after:Array Edge} {g:Option (Nat×Bool)} {v:V} {f:Nat} {args args':List V} {log:List (Nat×List Nat×List Nat)}
theorem rt {fn:Func} {s:St} {v0:V} (h1:finA C fn .ret s=some v0:=by rfl) (h2:frz s.H s.lo 30 v0=some v:=by rfl):GS C N (.code .ret :: k) s (Told C fn v):=GS.ret ⟨v0,h1,30,h2⟩
theorem nm {K':List (Nat×V)} (h:GS C N k ⟨K',H,lo,rnd,n⟩ Q) (hK:getL K K'=someL K':=by rfl):GS C N k ⟨K,H,lo,rnd,n⟩ Q:=norm K' h rfl (sr hK)
end
end X
end Go.Am
