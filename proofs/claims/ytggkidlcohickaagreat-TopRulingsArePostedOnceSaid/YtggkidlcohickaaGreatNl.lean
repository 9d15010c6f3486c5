/- Rules for walks that a program prints: whether a frozen slice is nil. Conditions: none. -/
import Derived.Test.YtggkidlcohickaaGreatX
set_option linter.unusedVariables false
set_option linter.unusedSimpArgs false
namespace Go.Am
open Go Go.Wk Go.RowKit Go.Mx
theorem zLK {P:Program} {w:World} (d:Nat) {t el:Nat} (hu:P.underlying t=some (.slice el)) (a:Option Addr) (n c:Nat):(Op.equalIn (d+1) t (.slice a n c) (.slice none 0 0)).run P w = .ok a.isNone w:=by
 cases a <;> simp [Op.equalIn,run_underlying hu]
theorem zNE {P:Program} {w:World} {t el:Nat} (hu:P.underlying t=some (.slice el)) (a:Option Addr) (n c:Nat):(Op.equal t (.slice a n c) (.slice none 0 0)).run P w = .ok a.isNone w:=zLK 9999 hu a n c
section
variable {C:Cfg} {N:Nat} {all os:List Oper} {o:Oper} {k:List It} {s:St} {Q:Ex→St→Prop}
theorem GS.zJe {x y:Operand} {t t2:Nat} {l:List V} {T:TI} {e es:Nat} (hop:o.op = .binOp .eql t x y t2) (hT:C.ty t=some T) (hk:T.kd = .slice e es) (hw:wants all s.K o.guard=some true) (hx:kev s.K x=some (.sl l)) (hy:kev s.K y=some .nil)
  (h1:l=[]→GS C N (.ops all os :: k) (s.put o.dst (.b true)) Q) (h2:GS C N (.ops all os :: k) (s.put o.dst (.b false)) Q):GS C N (.ops all (o :: os) :: k) s Q:=by
 intro hC E I m a w hE hs
 obtain ⟨dst,op,ty,pos,after,g⟩:=o
 simp only at hop
 subst hop
 have hrx:=ZA hs.slots hx
 have hry:=(ZA hs.slots hy).lit
 unfold Rep at hrx
 obtain ⟨ad,cap,es',hu,hcap,hrows⟩:=hrx
 have hkd:=(hC.ty _ _ hT).kd
 rw [hk] at hkd
 obtain ⟨hu2,_⟩:=hkd
 have hrun:(execOp a.eval ⟨dst,.binOp .eql t x y t2,ty,pos,after,g⟩).run C.P w = .ok (.value (.bool ad.isNone)) w:=by
  simp [execOp,hu,hry,eqGuard,binOp,zNE hu2]
 refine zBO (zb hs.slots hw) rfl hrun (.inl rfl) ?_
 cases ad with
 | none =>
  have hl:l=[]:=by
   cases l with
   | nil=>rfl
   | cons z r=>obtain ⟨b,o,h,_⟩:=hrows (by simp); cases h
  exact h1 hl hC E I m _ w hE (hs.put Rep.bool)
 | some p=>exact h2 hC E I m _ w hE (hs.put Rep.bool)
theorem zAj {H:List Blk} {id:Nat} {B:Blk} (h:get (H++[.dead]) id=some B):get H id=some B∨(id=H.length∧B = .dead):=by
 rw [zP] at h ⊢
 rcases Nat.lt_or_ge id H.length with h1 | h1
 ·rw [List.getElem?_append_left h1] at h; exact .inl h
 ·right
  have:=(List.getElem?_eq_some_iff.1 h).1
  simp only [List.length_append,List.length_cons,List.length_nil] at this
  have e:id=H.length:=by omega
  subst e
  rw [List.getElem?_append_right (Nat.le_refl _),Nat.sub_self] at h
  simp only [List.getElem?_cons_zero,Option.some.injEq] at h
  exact ⟨rfl,h.symm⟩
theorem zCw {H:List Blk} {id:Nat} (h:Live (H++[.dead]) id):Live H id:=by
 obtain ⟨B,hB,hl⟩:=h
 rcases zAj hB with h | ⟨_,rfl⟩
 ·exact ⟨B,h,hl⟩
 ·cases hl
theorem SS.pad {E:Env} {s:St} {I:Ij} {m:Mem} {a:Act} {w:World} (h:SS E s I m a w):SS E { s with H:=s.H++[.dead] } I m a w:=by
 have hlo:s.lo≤s.H.length:=by rw [h.lo]; exact Nat.le_trans h.lole h.fx.len
 refine h.step ⟨h.sim.sub,fun id B hB hl=>?_,fun id hf=>?_,fun id f hl hf=>h.sim.off id f (zCw hl) hf,fun i j f g hi hj hf hg=>h.sim.inj i j f g (zCw hi) (zCw hj) hf hg⟩ ⟨jg.rfl' w,fun _ _ _=>rfl,Ij.Le.rfl' _,fun id f h1 h2 h3=>.inr ⟨id,f,h1,zCw h2,h3,rfl⟩,fun id hid=>?_,by simp⟩ (Mem.Le.rfl' _) (fun k o hk=>.inl hk)
 ·rcases zAj hB with hB | ⟨_,rfl⟩
  ·exact h.sim.blk id B hB hl
  ·cases hl
 ·rcases hf with hf | hf
  ·refine h.sim.free id (.inl ?_)
   rw [ja] at hf ⊢
   simp only [List.length_append] at hf
   omega
  ·rcases zAj hf with hf | ⟨_,e⟩
   ·exact h.sim.free id (.inr hf)
   ·cases e
 ·rw [zP,zP,List.getElem?_append_left (by omega)]
theorem GS.pad (h:GS C N k { s with H:=s.H++[.dead] } Q):GS C N k s Q:=fun hC E I m a w hE hs=>h hC E I m a w hE hs.pad
end
namespace X
section
variable {C:Cfg} {N:Nat} {all os:List Oper} {k:List It} {K:List (Nat×V)} {H:List Blk} {lo n:Nat} {rnd:Option Nat} {Q:Ex→St→Prop} {d:Nat} {ty:TypeId} {pos:String} {after:Array Edge} {g:Option (Nat×Bool)}
theorem zJe {xo yo:Operand} {t t2:Nat} {l:List V} {T:TI} {e es:Nat} (hw:wants all K g=some true) (hT:C.ty t=some T) (hk:T.kd = .slice e es) (hx:kev K xo=some (.sl l)) (hy:kev K yo=some .nil) (hd:Nat.blt d n=true)
  (h1:l=[]→GS C N (.ops all os :: k) ⟨(d,.b true) :: K,H,lo,rnd,n⟩ Q) (h2:GS C N (.ops all os :: k) ⟨(d,.b false) :: K,H,lo,rnd,n⟩ Q):GS C N (.ops all (⟨some d,.binOp .eql t xo yo t2,ty,pos,after,g⟩ :: os) :: k) ⟨K,H,lo,rnd,n⟩ Q :=
 GS.zJe rfl hT hk hw hx hy (fun h=>front rfl hd (h1 h) rfl) (front rfl hd h2 rfl)
end
end X
def zGQ (all:List Oper):List Nat→List Oper
 | []=>[]
 | i :: r=>match get all i with
  | some o=>o :: zGQ all r
  | none=>zGQ all r
section
variable {all:List Oper}
end
section
variable {F:Fence} {n:Nat} {P:Program} {Q:Exit→Act→World→Prop}
theorem zF6 (all:List Oper):∀ l:List Nat,wpOpsIn F n P all.toArray Q l=wpListIn F n P all.toArray Q (zGQ all l)
 | []=>by funext a w; simp [wpOpsIn,wpListIn,zGQ]
 | i :: r=>by
  funext a w
  have ih:=zF6 all r
  simp only [wpOpsIn,zGQ,zP,List.getElem?_toArray]
  cases hi:all[i]? with
  | none=>simp only [ih]
  | some o=>simp only [ih,wpListIn]
end
namespace X
theorem all_nil {p:List Nat→Prop}:∀ x∈([]:List (List Nat)),p x:=fun x h=>by cases h
theorem all_cons {p:List Nat→Prop} {a:List Nat} {l:List (List Nat)} (h:p a) (h2:∀ x∈l,p x):∀ x∈a :: l,p x:=fun x hx=>by
 rcases List.mem_cons.1 hx with rfl | hx
 ·exact h
 ·exact h2 x hx
end X
namespace X
section
variable {C:Cfg} {K:List (Nat×V)} {H:List Blk} {lo nid:Nat}
end
end X
namespace X
end X
end Go.Am
