/- Steps that are found by trying: a number of them at once. Conditions: none. -/
import Derived.Test.YtggkidlcohickaaGreatX
set_option linter.unusedVariables false
set_option linter.unusedSimpArgs false
namespace Go.Am
open Go Go.Wk Go.RowKit Go.Mx
structure Au (n:Nat) (A B:Prop):Prop where
  go:A→B
namespace Au
section
variable {C:Cfg} {N:Nat} {k:List It} {s:St} {K:List (Nat×V)} {H H':List Blk} {lo n d i nid id m j:Nat} {rnd:Option Nat} {Q:Ex→St→Prop} {all os:List Oper} {p:Op} {ty:TypeId} {pos:String} {after:Array Edge} {v:V} {rd:List Nat} {wr:List (Nat×Blk)} {A:Prop} {l:List Oper} {x y:Code} {xo yo:Operand} {t u:Nat} {b:Bool} {log:List (Nat×List Nat×List Nat)}
theorem az : Au 0 A A:=⟨fun a=>a⟩
theorem an (h:Au m A (GS C N k s Q)):Au (m+1) A (GS C N (.ops all [] :: k) s Q):=⟨fun a=>GS.za (h.go a)⟩
theorem aS (h:Au m A (GS C N (.ops l l :: .code y :: k) s Q)):Au (m+1) A (GS C N (.code (.seq (.region id l.toArray false) y) :: k) s Q):=⟨fun a=>X.sq (h.go a)⟩
theorem as (h:Au m A (GS C N (.code x :: .code y :: k) s Q)):Au (m+1) A (GS C N (.code (.seq x y) :: k) s Q):=⟨fun a=>GS.seq (h.go a)⟩
theorem ar (h:Au m A (GS C N (.ops l l :: k) s Q)):Au (m+1) A (GS C N (.code (.region id l.toArray false) :: k) s Q):=⟨fun a=>GS.region (h.go a)⟩
theorem ak (h:Au m A (GS C N k s Q)):Au (m+1) A (GS C N (.code .skip :: k) s Q):=⟨fun a=>GS.skip (h.go a)⟩
theorem aq (h1:(zM C K H lo H.length p,Nat.blt d n)=(some ⟨v,[],rd⟩,true)) (h:Au m A (GS C N (.ops all os :: k) ⟨(d,v) :: K,H,lo,rnd,n⟩ Q)):Au (m+1) A (GS C N (.ops all (⟨some d,p,ty,pos,after,none⟩ :: os) :: k) ⟨K,H,lo,rnd,n⟩ Q):=⟨fun a=>X.q (by rw [h1]; rfl) (h.go a)⟩
theorem len {bb xs ts} (h1:zM C K H lo H.length (.call ⟨.builtin bb,xs,ts⟩)=some ⟨v,[],rd⟩) (h2:Nat.blt d n=true) (h:Au m A (GS C N (.ops all os :: k) ⟨(d,v) :: K,H,lo,rnd,n⟩ Q)):Au (m+1) A (GS C N (.ops all (⟨some d,.call ⟨.builtin bb,xs,ts⟩,ty,pos,after,none⟩ :: os) :: k) ⟨K,H,lo,rnd,n⟩ Q):=⟨fun a=>X.opR rfl h1 h2 (h.go a)⟩
theorem bin {bo} {tt:TypeId} (h1:zM C K H lo H.length (.binOp bo tt xo yo u)=some ⟨v,[],rd⟩) (h2:Nat.blt d n=true) (h:Au m A (GS C N (.ops all os :: k) ⟨(d,v) :: K,H,lo,rnd,n⟩ Q)):Au (m+1) A (GS C N (.ops all (⟨some d,.binOp bo tt xo yo u,ty,pos,after,none⟩ :: os) :: k) ⟨K,H,lo,rnd,n⟩ Q):=⟨fun a=>X.opR rfl h1 h2 (h.go a)⟩
theorem una {bo} {tt:TypeId} (h1:zM C K H lo H.length (.unOp bo tt xo)=some ⟨v,[],rd⟩) (h2:Nat.blt d n=true) (h:Au m A (GS C N (.ops all os :: k) ⟨(d,v) :: K,H,lo,rnd,n⟩ Q)):Au (m+1) A (GS C N (.ops all (⟨some d,.unOp bo tt xo,ty,pos,after,none⟩ :: os) :: k) ⟨K,H,lo,rnd,n⟩ Q):=⟨fun a=>X.opR rfl h1 h2 (h.go a)⟩
theorem idx (h1:zM C K H lo H.length (.indexAddr t xo yo)=some ⟨v,[],rd⟩) (h2:Nat.blt d n=true) (h:Au m A (GS C N (.ops all os :: k) ⟨(d,v) :: K,H,lo,rnd,n⟩ Q)):Au (m+1) A (GS C N (.ops all (⟨some d,.indexAddr t xo yo,ty,pos,after,none⟩ :: os) :: k) ⟨K,H,lo,rnd,n⟩ Q):=⟨fun a=>X.opR rfl h1 h2 (h.go a)⟩
theorem lod (h1:zM C K H lo H.length (.load t xo)=some ⟨v,[],rd⟩) (h2:Nat.blt d n=true) (h:Au m A (GS C N (.ops all os :: k) ⟨(d,v) :: K,H,lo,rnd,n⟩ Q)):Au (m+1) A (GS C N (.ops all (⟨some d,.load t xo,ty,pos,after,none⟩ :: os) :: k) ⟨K,H,lo,rnd,n⟩ Q):=⟨fun a=>X.opR rfl h1 h2 (h.go a)⟩
theorem aw (h1:zM C K H lo H.length p=some ⟨v,wr,rd⟩) (h2:puts H wr=H') (h3:Nat.blt d n=true) (h:Au m A (GS C N (.ops all os :: k) ⟨(d,v) :: K,H',lo,rnd,n⟩ Q)):Au (m+1) A (GS C N (.ops all (⟨some d,p,ty,pos,after,none⟩ :: os) :: k) ⟨K,H,lo,rnd,n⟩ Q):=⟨fun a=>X.opW rfl h1 h2 h3 (h.go a)⟩
theorem pt {c a b:Operand} {x:Bool} (h1:kev K c=some (.b x)) (h3:x=true) (h4:kev K a=some v) (h2:Nat.blt d n=true) (h:Au m A (GS C N (.ops all os :: k) ⟨(d,v) :: K,H,lo,rnd,n⟩ Q)):Au (m+1) A (GS C N (.ops all (⟨some d,.pick c a b,ty,pos,after,none⟩ :: os) :: k) ⟨K,H,lo,rnd,n⟩ Q):=⟨fun e=>X.opR rfl (X.zKr h1 h3 h4) h2 (h.go e)⟩
theorem pf {c a b:Operand} {x:Bool} (h1:kev K c=some (.b x)) (h3:x=false) (h4:kev K b=some v) (h2:Nat.blt d n=true) (h:Au m A (GS C N (.ops all os :: k) ⟨(d,v) :: K,H,lo,rnd,n⟩ Q)):Au (m+1) A (GS C N (.ops all (⟨some d,.pick c a b,ty,pos,after,none⟩ :: os) :: k) ⟨K,H,lo,rnd,n⟩ Q):=⟨fun e=>X.opR rfl (X.zKs h1 h3 h4) h2 (h.go e)⟩
theorem ag (h0:wants all K (some (j,b))=some true) (h1:zM C K H lo H.length p=some ⟨v,[],rd⟩) (h2:Nat.blt d n=true) (h:Au m A (GS C N (.ops all os :: k) ⟨(d,v) :: K,H,lo,rnd,n⟩ Q)):Au (m+1) A (GS C N (.ops all (⟨some d,p,ty,pos,after,some (j,b)⟩ :: os) :: k) ⟨K,H,lo,rnd,n⟩ Q):=⟨fun a=>X.opR h0 h1 h2 (h.go a)⟩
theorem ao (h0:wants all K (some (j,b))=some false) (h2:Nat.blt d n=true) (h:Au m A (GS C N (.ops all os :: k) ⟨(d,jA) :: K,H,lo,rnd,n⟩ Q)):Au (m+1) A (GS C N (.ops all (⟨some d,p,ty,pos,after,some (j,b)⟩ :: os) :: k) ⟨K,H,lo,rnd,n⟩ Q):=⟨fun a=>X.off h0 h2 (h.go a)⟩
theorem ac (h1:zM C K H lo nid p=some ⟨v,[],rd⟩) (h3:allocs p=false) (h2:Nat.blt d n=true) (h:Au m A (X.DC C N k Q all os (i+1) nid ⟨(d,v) :: K,H,lo,rnd,n⟩)):Au (m+1) A (X.DC C N k Q all (⟨some d,p,ty,pos,after,none⟩ :: os) i nid ⟨K,H,lo,rnd,n⟩):=⟨fun a=>X.cop rfl h1 h3 h2 (h.go a)⟩
theorem cg (h0:wants all K (some (j,b))=some true) (h1:zM C K H lo nid p=some ⟨v,[],rd⟩) (h3:allocs p=false) (h2:Nat.blt d n=true) (h:Au m A (X.DC C N k Q all os (i+1) nid ⟨(d,v) :: K,H,lo,rnd,n⟩)):Au (m+1) A (X.DC C N k Q all (⟨some d,p,ty,pos,after,some (j,b)⟩ :: os) i nid ⟨K,H,lo,rnd,n⟩):=⟨fun a=>X.cop h0 h1 h3 h2 (h.go a)⟩
theorem co (h0:wants all K (some (j,b))=some false) (h3:allocs p=false) (h2:Nat.blt d n=true) (h:Au m A (X.DC C N k Q all os (i+1) nid ⟨(d,jA) :: K,H,lo,rnd,n⟩)):Au (m+1) A (X.DC C N k Q all (⟨some d,p,ty,pos,after,some (j,b)⟩ :: os) i nid ⟨K,H,lo,rnd,n⟩):=⟨fun a=>X.coff h0 h3 h2 (h.go a)⟩
theorem ad (h1:zM C K H lo nid p=some ⟨v,wr,rd⟩) (h3:(!allocs p||zFJ (get H nid))=true) (h4:wrIn H.length wr=true) (h5:yA all i (bif allocs p then nid :: rd else rd) (Za wr) log=true) (h6:puts H wr=H') (h2:Nat.blt d n=true)
    (h:Au m A (X.DW C N k Q all os (i+1) (bif allocs p then nid+1 else nid) ⟨(d,v) :: K,H',lo,rnd,n⟩ ((i,bif allocs p then nid :: rd else rd,Za wr) :: log))):Au (m+1) A (X.DW C N k Q all (⟨some d,p,ty,pos,after,none⟩ :: os) i nid ⟨K,H,lo,rnd,n⟩ log):=⟨fun a=>X.dop rfl h1 h3 h4 h5 h6 h2 (h.go a)⟩
theorem bl (h:Au m A (GS C N (.code x :: .endB id :: k) s Q)):Au (m+1) A (GS C N (.code (.block id x) :: k) s Q):=⟨fun a=>GS.block (h.go a)⟩
theorem eb (h:Au m A (GS C N k s Q)):Au (m+1) A (GS C N (.endB id :: k) s Q):=⟨fun a=>GS.endB (h.go a)⟩
theorem ex {k':List It} (h1:YU id k=some k') (h:Au m A (GS C N k' s Q)):Au (m+1) A (GS C N (.code (.exit id) :: k) s Q):=⟨fun a=>GS.exit h1 (h.go a)⟩
theorem dr (h1:zAI l=true) (h2:YV l=0) (h:Au m A (X.DC C N k Q l l 0 H.length ⟨K,H,lo,rnd,n⟩)):Au (m+1) A (GS C N (.code (.region id l.toArray true) :: k) ⟨K,H,lo,rnd,n⟩ Q):=⟨fun a=>X.drawc h1 h2 (h.go a)⟩
theorem cn (h:Au m A (GS C N k s Q)):Au (m+1) A (X.DC C N k Q all [] i nid s):=⟨fun a=>X.cnil (h.go a)⟩
theorem dn (h:Au m A (GS C N k s Q)):Au (m+1) A (X.DW C N k Q all [] i nid s log):=⟨fun a=>X.dnil (h.go a)⟩
theorem ef {p:Op} {e:Option Eff} {nid:Nat} (h:zM C K H lo nid p=e:=by
  first
    | ((with_reducible apply X.lenF) <;> rfl)
    | ((with_reducible apply X.lenN) <;> rfl)
    | ((with_reducible apply X.minE) <;> rfl)
    | ((with_reducible apply X.maxE) <;> rfl)
    | ((with_reducible apply X.addE) <;> rfl)
    | ((with_reducible apply X.subE) <;> rfl)
    | ((with_reducible apply X.mulE) <;> rfl)
    | ((with_reducible apply X.negE) <;> rfl)
    | ((with_reducible apply X.zKr); · rfl
       · with_reducible assumption
       · rfl)
    | ((with_reducible apply X.zKs); · rfl
       · with_reducible assumption
       · rfl)
    | rfl
    | exact X.zBV (by assumption) (by intro _; rfl) rfl rfl rfl rfl
    | exact X.zEK (by assumption) rfl rfl rfl):zM C K H lo nid p=e:=h
theorem on (h:wants all K (some (j,b))=some true:=by first | ((with_reducible apply X.on_t); rfl; rfl; rfl; with_reducible assumption) | ((with_reducible apply X.on_f); rfl; rfl; rfl; with_reducible assumption)):wants all K (some (j,b))=some true:=h
end
end Au
theorem au {A B:Prop} (n:Nat) (h:A) (hs:Au n A B:=by
  repeat first
    | exact Au.az
    | with_reducible apply Au.an
    | with_reducible apply Au.aS
    | with_reducible apply Au.as
    | with_reducible apply Au.ar
    | with_reducible apply Au.ak
    | with_reducible apply Au.bl
    | with_reducible apply Au.eb
    | with_reducible apply Au.cn
    | with_reducible apply Au.dn
    | ((with_reducible apply Au.ex); · rfl)
    | ((with_reducible apply Au.dr); · kernel_rfl
       · rfl)
    | ((with_reducible apply Au.len); · first | ((with_reducible apply X.lenF) <;> rfl) | ((with_reducible apply X.lenN) <;> rfl) | ((with_reducible apply X.minE) <;> rfl) | ((with_reducible apply X.maxE) <;> rfl) | rfl
       · rfl)
    | ((with_reducible apply Au.bin); · first | ((with_reducible apply X.addE) <;> rfl) | ((with_reducible apply X.subE) <;> rfl) | ((with_reducible apply X.mulE) <;> rfl) | rfl
       · rfl)
    | ((with_reducible apply Au.una); · first | ((with_reducible apply X.negE) <;> rfl) | rfl
       · rfl)
    | ((with_reducible apply Au.idx); · first | rfl | exact X.zBV (by assumption) (by intro _; rfl) rfl rfl rfl rfl
       · rfl)
    | ((with_reducible apply Au.lod); · first | rfl | exact X.zEK (by assumption) rfl rfl rfl
       · rfl)
    | ((with_reducible apply Au.aq); · rfl)
    | ((with_reducible apply Au.pt); · rfl
       · with_reducible assumption
       · rfl
       · rfl)
    | ((with_reducible apply Au.pf); · rfl
       · with_reducible assumption
       · rfl
       · rfl)
    | ((with_reducible apply Au.aw); · rfl
       · rfl
       · rfl)
    | ((with_reducible apply Au.ag); · exact Au.on
       · exact Au.ef
       · rfl)
    | ((with_reducible apply Au.ao); · first | ((with_reducible apply X.zLj); rfl; rfl; rfl; with_reducible assumption) | ((with_reducible apply X.zLk); rfl; rfl; rfl; with_reducible assumption) | rfl
       · rfl)
    | ((with_reducible apply Au.ac); · exact Au.ef
       · rfl
       · rfl)
    | ((with_reducible apply Au.cg); · exact Au.on
       · exact Au.ef
       · rfl
       · rfl)
    | ((with_reducible apply Au.co); · first | ((with_reducible apply X.zLj); rfl; rfl; rfl; with_reducible assumption) | ((with_reducible apply X.zLk); rfl; rfl; rfl; with_reducible assumption) | rfl
       · rfl
       · rfl)
    | ((with_reducible apply Au.ad); · exact Au.ef
       · rfl
       · rfl
       · kernel_rfl
       · rfl
       · rfl)):B:=hs.go h
namespace X
section
variable {C:Cfg} {N:Nat} {k:List It} {K:List (Nat×V)} {H:List Blk} {lo n d i nid:Nat} {rnd:Option Nat} {Q:Ex→St→Prop} {all os:List Oper} {p:Op} {ty:TypeId} {pos:String} {after:Array Edge} {g:Option (Nat×Bool)} {v:V} {f:Nat} {args args':List V} {log:List (Nat×List Nat×List Nat)}
theorem rt {fn:Func} {s:St} {v0:V} (h1:finA C fn .ret s=some v0:=by rfl) (h2:frz s.H s.lo 30 v0=some v:=by rfl):GS C N (.code .ret :: k) s (Told C fn v):=GS.ret ⟨v0,h1,30,h2⟩
theorem ng {K':List (Nat×V)} {t:Nat} {v0 v:V} (h:GS C N k ⟨(t,v) :: K',H,lo,rnd,n⟩ Q) (h1:kget K t=some v0) (e:v0=v) (h2:getL K K'=zJH K':=by rfl):GS C N k ⟨K,H,lo,rnd,n⟩ Q:=norm _ h rfl (sub_eq h1 e (sr h2))
theorem nm {K':List (Nat×V)} (h:GS C N k ⟨K',H,lo,rnd,n⟩ Q) (hK:getL K K'=zJH K':=by rfl):GS C N k ⟨K,H,lo,rnd,n⟩ Q:=norm K' h rfl (sr hK)
theorem cm {σ:Type} {c:Operand} {c1 c2:Code} {x:Bool} {a b y:σ} (hM:(if x=true then a else b)=y) (ht:x=true→a=y→GS C N (.code c1 :: k) ⟨K,H,lo,rnd,n⟩ Q) (hf:x=false→b=y→GS C N (.code c2 :: k) ⟨K,H,lo,rnd,n⟩ Q) (hc:kev K c=some (.b x):=by rfl):GS C N (.code (.cond c c1 c2) :: k) ⟨K,H,lo,rnd,n⟩ Q:=cond hc (fun h=>ht h (zEN h hM)) fun h=>hf h (zEO h hM)
theorem gx {K':List (Nat×V)} {H':List Blk} (keep:List (Option Nat)) (h:GS C N k ⟨K',H',lo,rnd,n⟩ Q) (hlo:lo=0:=by rfl) (hk:kokL N H.length keep=true:=by rfl) (hl:Nat.beq H'.length (N+keep.length)=true:=by rfl) (hK:GK N keep K' K:=by first | exact ga rfl rfl | exact QY) (hH:GB N keep H 0 H':=by repeat first | exact ZT | refine gb9 rfl rfl rfl ?_ | refine zF1 9 rfl rfl (fun _=>rfl) ?_ | refine yD 9 rfl rfl (fun _=>rfl) ?_ | refine gb_pad' rfl ?_):GS C N k ⟨K,H,lo,rnd,n⟩ Q:=gc keep h hlo hk hl hK hH
theorem gy {K':List (Nat×V)} {H':List Blk} (keep:List (Option Nat)) (h:GS C N k ⟨K',H',lo,rnd,n⟩ Q) (hK:GK N keep K' K) (hlo:lo=0:=by rfl) (hk:kokL N H.length keep=true:=by rfl) (hl:Nat.beq H'.length (N+keep.length)=true:=by rfl) (hH:GB N keep H 0 H':=by repeat first | exact ZT | refine gb9 rfl rfl rfl ?_ | refine zF1 9 rfl rfl (fun _=>rfl) ?_ | refine yD 9 rfl rfl (fun _=>rfl) ?_ | refine gb_pad' rfl ?_):GS C N k ⟨K,H,lo,rnd,n⟩ Q:=gc keep h hlo hk hl hK hH
theorem ca (hX:C.X f args' v) (h:GS C N (.ops all os :: k) ⟨(d,v) :: K,H,lo,rnd,n⟩ Q) (hw:wants all K g=some true:=by first | rfl | exact Au.on) (hc:callee K p=some (.fn f args):=by rfl) (hd:Nat.blt d n=true:=by rfl) (ha:ZB H false args args':=by repeat first | exact .nil | refine .cons (.shut (n:=9) rfl) ?_ | refine .cons (.shut (n:=30) rfl) ?_ | refine .cons (.nil (n:=9) rfl) ?_):GS C N (.ops all (⟨some d,p,ty,pos,after,g⟩ :: os) :: k) ⟨K,H,lo,rnd,n⟩ Q:=call hX hw hc hd ha h
theorem cca (hX:C.X f args' v) (h:DC C N k Q all os (i+1) nid ⟨(d,v) :: K,H,lo,rnd,n⟩) (hw:wants all K g=some true:=by first | rfl | exact Au.on) (hc:callee K p=some (.fn f args):=by rfl) (hal:allocs p=false:=by rfl) (hd:Nat.blt d n=true:=by rfl) (ha:ZB [] false args args':=by repeat first | exact .nil | refine .cons (.shut (n:=9) rfl) ?_ | refine .cons (.shut (n:=30) rfl) ?_ | refine .cons (.nil (n:=9) rfl) ?_):DC C N k Q all (⟨some d,p,ty,pos,after,g⟩ :: os) i nid ⟨K,H,lo,rnd,n⟩:=ccall hX hw hc hal hd ha h
theorem dca (hX:C.X f args' v) (h:DW C N k Q all os (i+1) nid ⟨(d,v) :: K,H,lo,rnd,n⟩ ((i,[],[]) :: log)) (hw:wants all K g=some true:=by first | rfl | exact Au.on) (hc:callee K p=some (.fn f args):=by rfl) (hal:allocs p=false:=by rfl) (hl:yA all i [] [] log=true:=by kernel_rfl) (hd:Nat.blt d n=true:=by rfl) (ha:ZB [] false args args':=by repeat first | exact .nil | refine .cons (.shut (n:=9) rfl) ?_ | refine .cons (.shut (n:=30) rfl) ?_ | refine .cons (.nil (n:=9) rfl) ?_):DW C N k Q all (⟨some d,p,ty,pos,after,g⟩ :: os) i nid ⟨K,H,lo,rnd,n⟩ log:=dcall hX hw hc hal hl hd ha h
end
end X
end Go.Am
