/- Rules for walks that a program prints: whether a frozen slice is nil. Conditions: none. -/
import Derived.Test.YtdpifjmggnjagaaGreatX
set_option linter.unusedVariables false
set_option linter.unusedSimpArgs false
namespace Go.Am
open Go Go.Wk Go.RowKit Go.Mx
theorem zOj {P:Program} {w:World} (d:Nat) {t el:Nat} (hu:P.underlying t=some (.slice el)) (a:Option Addr) (n c:Nat):(Op.equalIn (d+1) t (.slice a n c) (.slice none 0 0)).run P w = .ok a.isNone w:=by
 cases a <;> simp [Op.equalIn,run_underlying hu]
theorem zQC {P:Program} {w:World} {t el:Nat} (hu:P.underlying t=some (.slice el)) (a:Option Addr) (n c:Nat):(Op.equal t (.slice a n c) (.slice none 0 0)).run P w = .ok a.isNone w:=zOj 9999 hu a n c
section
variable {C:Cfg} {N:Nat} {all os:List Oper} {o:Oper} {k:List It} {s:St} {Q:Ex→St→Prop}
theorem GS.zNG {x y:Operand} {t t2:Nat} {l:List V} {T:TI} {e es:Nat} (hop:o.op = .binOp .eql t x y t2) (hT:C.ty t=some T) (hk:T.kd = .slice e es) (hw:wants all s.K o.guard=some true) (hx:kev s.K x=some (.sl l)) (hy:kev s.K y=some .nil)
  (h1:l=[]→GS C N (.ops all os :: k) (s.put o.dst (.b true)) Q) (h2:GS C N (.ops all os :: k) (s.put o.dst (.b false)) Q):GS C N (.ops all (o :: os) :: k) s Q:=by
 intro hC E I m a w hE hs
 obtain ⟨dst,op,ty,pos,after,g⟩:=o
 simp only at hop
 subst hop
 have hrx:=Zp hs.slots hx
 have hry:=(Zp hs.slots hy).lit
 unfold Rep at hrx
 obtain ⟨ad,cap,es',hu,hcap,hrows⟩:=hrx
 have hkd:=(hC.ty _ _ hT).kd
 rw [hk] at hkd
 obtain ⟨hu2,_⟩:=hkd
 have hrun:(execOp a.eval ⟨dst,.binOp .eql t x y t2,ty,pos,after,g⟩).run C.P w = .ok (.value (.bool ad.isNone)) w:=by
  simp [execOp,hu,hry,eqGuard,binOp,zQC hu2]
 refine zFq (Zb hs.slots hw) rfl hrun (.inl rfl) ?_
 cases ad with
 | none =>
  have hl:l=[]:=by
   cases l with
   | nil=>rfl
   | cons z r=>obtain ⟨b,o,h,_⟩:=hrows (by simp); cases h
  exact h1 hl hC E I m _ w hE (hs.put Rep.bool)
 | some p=>exact h2 hC E I m _ w hE (hs.put Rep.bool)
theorem zDv {H:List Blk} {id:Nat} {B:Blk} (h:get (H++[.dead]) id=some B):get H id=some B∨(id=H.length∧B = .dead):=by
 rw [Zr] at h ⊢
 rcases Nat.lt_or_ge id H.length with h1 | h1
 ·rw [List.getElem?_append_left h1] at h; exact .inl h
 ·right
  have:=(List.getElem?_eq_some_iff.1 h).1
  simp only [List.length_append,cv,List.length_nil] at this
  have e:id=H.length:=by omega
  subst e
  rw [List.getElem?_append_right (dc _),Nat.sub_self] at h
  simp only [List.getElem?_cons_zero,ce] at h
  exact ⟨rfl,h.symm⟩
theorem zFv {H:List Blk} {id:Nat} (h:Live (H++[.dead]) id):Live H id:=by
 obtain ⟨B,hB,hl⟩:=h
 rcases zDv hB with h | ⟨_,rfl⟩
 ·exact ⟨B,h,hl⟩
 ·cases hl
theorem SS.pad {E:Env} {s:St} {I:Ij} {m:Mem} {a:Act} {w:World} (h:SS E s I m a w):SS E { s with H:=s.H++[.dead] } I m a w:=by
 have hlo:s.lo≤s.H.length:=by rw [h.lo]; exact Nat.le_trans h.lole h.fx.len
 refine h.step ⟨h.sim.sub,fun id B hB hl=>?_,fun id hf=>?_,fun id f hl hf=>h.sim.off id f (zFv hl) hf,fun i j f g hi hj hf hg=>h.sim.inj i j f g (zFv hi) (zFv hj) hf hg⟩ ⟨JZ.rfl' w,fun _ _ _=>rfl,Ij.Le.rfl' _,fun id f h1 h2 h3=>.inr ⟨id,f,h1,zFv h2,h3,rfl⟩,fun id hid=>?_,by simp⟩ (Mem.Le.rfl' _) (fun k o hk=>.inl hk)
 ·rcases zDv hB with hB | ⟨_,rfl⟩
  ·exact h.sim.blk id B hB hl
  ·cases hl
 ·rcases hf with hf | hf
  ·refine h.sim.free id (.inl ?_)
   rw [Qc] at hf ⊢
   simp only [List.length_append] at hf
   omega
  ·rcases zDv hf with hf | ⟨_,e⟩
   ·exact h.sim.free id (.inr hf)
   ·cases e
 ·rw [Zr,Zr,List.getElem?_append_left (by omega)]
theorem GS.pad (h:GS C N k { s with H:=s.H++[.dead] } Q):GS C N k s Q:=fun hC E I m a w hE hs=>h hC E I m a w hE hs.pad
end
namespace X
section
variable {C:Cfg} {N:Nat} {all os:List Oper} {k:List It} {K:List (Nat×V)} {H:List Blk} {lo n:Nat} {rnd:Option Nat} {Q:Ex→St→Prop} {d:Nat} {ty:TypeId} {pos:String} {after:Array Edge} {g:Option (Nat×Bool)}
theorem zNG {xo yo:Operand} {t t2:Nat} {l:List V} {T:TI} {e es:Nat} (hw:wants all K g=some true) (hT:C.ty t=some T) (hk:T.kd = .slice e es) (hx:kev K xo=some (.sl l)) (hy:kev K yo=some .nil) (hd:Nat.blt d n=true)
  (h1:l=[]→GS C N (.ops all os :: k) ⟨(d,.b true) :: K,H,lo,rnd,n⟩ Q) (h2:GS C N (.ops all os :: k) ⟨(d,.b false) :: K,H,lo,rnd,n⟩ Q):GS C N (.ops all (⟨some d,.binOp .eql t xo yo t2,ty,pos,after,g⟩ :: os) :: k) ⟨K,H,lo,rnd,n⟩ Q :=
 GS.zNG rfl hT hk hw hx hy (fun h=>front rfl hd (h1 h) rfl) (front rfl hd h2 rfl)
end
end X
def zJR (all:List Oper):List Nat→List Oper
 | []=>[]
 | i :: r=>match get all i with
  | some o=>o :: zJR all r
  | none=>zJR all r
section
variable {all:List Oper}
end
section
variable {F:Fence} {n:Nat} {P:Program} {Q:Exit→Act→World→Prop}
theorem zI7 (all:List Oper):∀ l:List Nat,wpOpsIn F n P all.toArray Q l=wpListIn F n P all.toArray Q (zJR all l)
 | []=>by funext a w; simp [wpOpsIn,wpListIn,zJR]
 | i :: r=>by
  funext a w
  have ih:=zI7 all r
  simp only [wpOpsIn,zJR,Zr,List.getElem?_toArray]
  cases hi:all[i]? with
  | none=>simp only [ih]
  | some o=>simp only [ih,wpListIn]
end
namespace X
theorem all_nil {p:List Nat→Prop}:∀ x∈([]:List (List Nat)),p x:=fun x h=>by cases h
theorem all_cons {p:List Nat→Prop} {a:List Nat} {l:List (List Nat)} (h:p a) (h2:∀ x∈l,p x):∀ x∈a :: l,p x:=fun x hx=>by
 rcases List.mem_cons.1 hx with rfl | hx
 ·exact h
 ·exact h2 x hx
end X
theorem zPL {α:Type} {pre l post:List α} {k:Nat} {x:α} (h:l[k]? = some x):get (pre++(l++post)) (pre.length+k)=some x:=by
 rw [Zr,List.getElem?_append_right (by omega),Nat.add_sub_cancel_left,List.getElem?_append_left (List.getElem?_eq_some_iff.1 h).1,h]
theorem set_mid {α:Type} {pre l post:List α} {k:Nat} {x:α} (h:k<l.length):set (pre++(l++post)) (pre.length+k) x=pre++(l.set k x++post):=by
 rw [zAl,List.set_append_right _ _ (by omega),Nat.add_sub_cancel_left,List.set_append_left _ _ h]
namespace X
section
variable {C:Cfg} {K:List (Nat×V)} {H:List Blk} {lo nid:Nat}
theorem QV {k:Nat} {l:List Int} {i y:Int} {t e es id i0 off:Nat} {T:TI} {xo io:Operand} {kd:IntKind} (h:ix l i=some y) (hT:C.ty t=some T) (hk:T.kd = .arr k e es) (hx:kev K xo=some (.ptr id i0 off)) (hi:kev K io=some (.lit (.int kd i))) (hl:l.length=k):zZ C K H lo nid (.indexAddr t xo io)=some ⟨.ptr id i0 (off+i.toNat*es),[],[]⟩:=by
 obtain ⟨h1,h2,_⟩:=zD8 h
 simp only [zZ,Jc,hT,hx,hi,zEb,hk]
 rw [ck ⟨h1,by omega⟩]
theorem zCi {l:List Int} {pre post:List V} {i y:Int} {t es id i0 off:Nat} {rows:List V} {r:V} {T:TI} {xo:Operand} (h:ix l i=some y) (hT:C.ty t=some T) (ha:T.agg=false) (hx:kev K xo=some (.ptr id i0 (off+i.toNat*1))) (hH:hget H id = .rows es rows) (hr:get rows i0=some r) (hc:r.cells=pre++(l.map V.i++post)) (ho:pre.length=off):zZ C K H lo nid (.load t xo)=some ⟨.i y,[],[id]⟩:=by
 obtain ⟨h1,h2,h3⟩:=zD8 h
 have hg:get (pre++(l.map V.i++post)) (off+i.toNat*1)=some (V.i y):=by
  rw [← ho,Nat.mul_one]; exact zPL (by rw [List.getElem?_map,h3]; rfl)
 simp only [zZ,zB8,hT,hx,zEp,hH,hr,hc,YA,ha,Bool.false_eq_true,if_false,hg,da]
theorem zJD {l l':List Int} {pre post cs:List V} {i y v:Int} {t es id i0 off:Nat} {rows:List V} {T:TI} {xo yo:Operand} (h:ix l i=some y) (hs:l'=Mx.put l i v) (hT:C.ty t=some T) (hsz:qA T (.i v)=true) (hx:kev K xo=some (.ptr id i0 (off+i.toNat*1))) (hy:kev K yo=some (.i v)) (hH:hget H id = .rows es rows) (hr:get rows i0=some (.agg cs)) (hc:cs=pre++(l.map V.i++post)) (ho:pre.length=off) (hlo:Nat.ble lo id=true) :
  zZ C K H lo nid (.store t xo yo)=some ⟨jT,[(id,.rows es (set rows i0 (.agg (pre++(l'.map V.i++post)))))],[id]⟩:=by
 obtain ⟨h1,h2,h3⟩:=zD8 h
 have hlen:i.toNat<(l.map V.i).length:=by rw [List.length_map]; exact (List.getElem?_eq_some_iff.1 h3).1
 have hg:get cs (off+i.toNat*1)=some (V.i y):=by
  rw [hc,← ho,Nat.mul_one]; exact zPL (by rw [List.getElem?_map,h3]; rfl)
 have hset:set cs (off+i.toNat*1) (V.i v)=pre++(l'.map V.i++post):=by
  rw [hc,← ho,Nat.mul_one,set_mid hlen,hs]; simp [Mx.put]
 have hlo' : ¬ id<lo:=by have:=cz hlo; omega
 simp only [zZ,qL,hT,hx,hy,zDk,hlo',if_false,hsz,if_true,hH,hr,zE3,V.cells,setAt,hg,hset,da]
end
end X
namespace X
theorem zRI {f:V→V→Option Bool} {part:Nat→List V→Option V} {es i:Nat} {xs ys:List V}:QP f part es xs ys 0 i=some true:=rfl
theorem eqel {f:V→V→Option Bool} {part:Nat→List V→Option V} {es n i:Nat} {xs ys:List V} {u v:V} {b c:Bool} (hx:part (i*es) xs=some u) (hy:part (i*es) ys=some v) (hf:f u v=some b) (h:QP f part es xs ys n (i+1)=some c):QP f part es xs ys (n+1) i=some (b&&c):=by
 simp only [QP,hx,hy,hf]
 cases b
 ·simp
 ·simpa using h
theorem eqArrs {ty:Nat→Option TI} {d t n e es:Nat} {T:TI} {xs ys:List V} {b:Bool} (hT:ty t=some T) (hk:T.kd = .arr n e es) (h:QP (eqT ty d e) (fun off cs=>match ty e with | some T=>YA T off cs | none=>none) es xs ys n 0=some b):eqT ty (d+1) t (.agg xs) (.agg ys)=some b:=by
 simp only [eqT,hT,hk]
 exact h
theorem eqArr {ty:Nat→Option TI} {t n e es:Nat} {T:TI} {xs ys:List V} {b:Bool} (hT:ty t=some T) (hk:T.kd = .arr n e es) (h:QP (eqT ty 5 e) (fun off cs=>match ty e with | some T=>YA T off cs | none=>none) es xs ys n 0=some b):eqA ty t (.agg xs) (.agg ys)=some b:=by
 simp only [eqA,hT,hk]
 exact eqArrs hT hk h
end X
end Go.Am
