/- What is known of some blocks, whatever the others are; calls that write blocks of their caller. Conditions: none. -/
import Derived.Test.YtggkidlcohickaaGreatMp
set_option linter.unusedVariables false
set_option linter.unusedSimpArgs false
namespace Go.Am
open Go Go.Wk Go.RowKit Go.Mx
abbrev Hp := List (Nat×(Blk→Prop))
structure Has (H:List Blk) (L:Hp):Prop where
 nd:(L.map (·.1)).Nodup
 bl:∀ p∈L,∃ B,Am.get H p.1=some B∧p.2 B
def isB (B:Blk):Blk→Prop:=fun X=>X=B
section
variable {H H':List Blk} {L R:Hp} {k id id':Nat} {p q:Blk→Prop} {B:Blk}
theorem zIf : ∀ {l:List Nat},l.Nodup→∀ {i j a:Nat},l[i]? = some a→l[j]? = some a→i=j
 | [],_,i,j,a,h,_=>by simp at h
 | x :: r,hn,i,j,a,h1,h2=>by
  rw [List.nodup_cons] at hn
  cases i with
  | zero =>
   cases j with
   | zero=>rfl
   | succ j =>
    simp only [List.getElem?_cons_zero,Option.some.injEq] at h1
    subst h1
    exact absurd (List.mem_of_getElem? (by simpa using h2)) hn.1
  | succ i =>
   cases j with
   | zero =>
    simp only [List.getElem?_cons_zero,Option.some.injEq] at h2
    subst h2
    exact absurd (List.mem_of_getElem? (by simpa using h1)) hn.1
   | succ j=>exact congrArg Nat.succ (zIf hn.2 (a:=a) (by simpa using h1) (by simpa using h2))
theorem Has.nil : Has H []:=⟨List.nodup_nil,fun p h=>by cases h⟩
theorem Has.gt (h:Has H L) (hL:Am.get L k=some (id,p)):∃ B,Am.get H id=some B∧p B :=
 h.bl (id,p) (by rw [zP] at hL; exact List.mem_of_getElem? hL)
theorem Has.lt (h:Has H L) (hL:Am.get L k=some (id,p)):id<H.length:=by
 obtain ⟨B,h1,_⟩:=h.gt hL
 exact jm h1
theorem Has.blt (h:Has H L) (hL:Am.get L k=some (id,p)):Nat.blt id H.length=true:=by
 have:=h.lt hL
 simpa [Nat.blt_eq] using this
theorem Has.is (h:Has H L) (hL:Am.get L k=some (id,isB B)):hget H id=B:=by
 obtain ⟨B',h1,rfl⟩:=h.gt hL
 unfold hget
 rw [h1]
theorem Has.zN5 (h:Has H L) {i:Nat} (hi:i∈L.map (·.1)):i<H.length:=by
 obtain ⟨a,ha,rfl⟩:=List.mem_map.1 hi
 obtain ⟨B,h1,_⟩:=h.bl a ha
 exact jm h1
theorem Has.to (h:Has H L) (hL:Am.get L k=some (id,p)) (hid:id'=id∨H.length≤id') (hB:Am.get H' id'=some B) (hq:q B) (hs:∀ j,j≠id→j<H.length→Am.get H' j=Am.get H j):Has H' (Am.set L k (id',q)):=by
 rw [zP] at hL
 rw [Zy]
 have hkl:=(List.getElem?_eq_some_iff.1 hL).1
 have hother:∀ j a,j≠k→L[j]? = some a→a.1≠id:=fun j a hj ha e=>hj (zIf h.nd (a:=id) (by rw [List.getElem?_map,ha,← e]; rfl) (by rw [List.getElem?_map,hL]; rfl))
 have hold:∀ j a,j≠k→L[j]? = some a→a.1≠id':=fun j a hj ha e=>by
  rcases hid with rfl | hid
  ·exact hother j a hj ha e
  ·have:=h.zN5 (List.mem_map.2 ⟨a,List.mem_of_getElem? ha,rfl⟩); omega
 refine ⟨?_,fun a ha=>?_⟩
 ·rw [List.map_set]
  have hn:=h.nd
  have key:∀ (l:List Nat) (k:Nat),l.Nodup→(∀ j a,j≠k→l[j]? = some a→a≠id')→(l.set k id').Nodup:=by
   intro l
   induction l with
   | nil=>intro k _ _; simp
   | cons x r ih =>
    intro k hn ho
    rw [List.nodup_cons] at hn
    cases k with
    | zero =>
     rw [List.set_cons_zero,List.nodup_cons]
     refine ⟨fun hm=>?_,hn.2⟩
     obtain ⟨j,hj⟩:=List.mem_iff_getElem?.1 hm
     exact ho (j+1) id' (by omega) (by simpa using hj) rfl
    | succ k =>
     rw [List.set_cons_succ,List.nodup_cons]
     refine ⟨fun hm=>?_,ih k hn.2 fun j a hj ha=>ho (j+1) a (by omega) (by simpa using ha)⟩
     rcases List.mem_or_eq_of_mem_set hm with hm | hm
     ·exact hn.1 hm
     ·exact ho 0 x (by omega) rfl hm
  refine key _ _ hn fun j a hj ha=>?_
  rw [List.getElem?_map,Option.map_eq_some_iff] at ha
  obtain ⟨b,hb,rfl⟩:=ha
  exact hold j b hj hb
 ·obtain ⟨j,hj⟩:=List.mem_iff_getElem?.1 ha
  rw [List.getElem?_set] at hj
  by_cases e:k=j
  ·rw [if_pos e] at hj
   rw [if_pos (by omega)] at hj
   cases hj
   exact ⟨B,hB,hq⟩
  ·rw [if_neg e] at hj
   have hne:=hother j a (fun e' => e e'.symm) hj
   obtain ⟨B',h1,h2⟩:=h.bl a (List.mem_of_getElem? hj)
   exact ⟨B',by rw [hs _ hne (jm h1)]; exact h1,h2⟩
theorem Has.put (h:Has H L) (hL:Am.get L k=some (id,p)) (hq:q B):Has (hput H id B) (Am.set L k (id,q)) :=
 h.to hL (.inl rfl) (by rw [zh _ _ _ _ (Nat.le_of_lt (h.lt hL)),if_pos rfl]) hq fun j hj _=>by rw [zh _ _ _ _ (Nat.le_of_lt (h.lt hL)),if_neg fun e=>hj e.symm]
theorem Has.add (h:Has H L) (hid:H.length≤id) (hB:Am.get H' id=some B) (hq:q B) (hs:∀ j,j<H.length→Am.get H' j=Am.get H j):Has H' ((id,q) :: L):=by
 refine ⟨?_,fun a ha=>?_⟩
 ·rw [List.map_cons,List.nodup_cons]
  exact ⟨fun hm=>by have:=h.zN5 hm; simp only at this; omega,h.nd⟩
 ·rcases List.mem_cons.1 ha with rfl | ha
  ·exact ⟨B,hB,hq⟩
  ·obtain ⟨B',h1,h2⟩:=h.bl a ha
   exact ⟨B',by rw [hs _ (jm h1)]; exact h1,h2⟩
theorem Has.new (h:Has H L) (hq:q B):Has (H++[B]) ((H.length,q) :: L):=h.add (Nat.le_refl _) (by rw [zP]; simp) hq fun j hj=>by rw [zP,zP,List.getElem?_append_left hj]
theorem Has.tail {a:Nat×(Blk→Prop)} (h:Has H (a :: L)):Has H L:=⟨by have:=h.nd; rw [List.map_cons,List.nodup_cons] at this; exact this.2,fun p hp=>h.bl p (List.mem_cons_of_mem _ hp)⟩
theorem Has.perm {L':Hp} (h:Has H L) (hp:L.Perm L'):Has H L':=⟨(hp.map _).nodup_iff.1 h.nd,fun p h' => h.bl p (hp.mem_iff.2 h')⟩
theorem Has.pick {A:Hp} (is:List Nat) {L':Hp} (hp:mapO (Am.get A) is=some L') (hn:is.Nodup) (h:Has H (A++R)):Has H (L'++R):=by
 have hnd:=h.nd
 rw [List.map_append,List.nodup_append] at hnd
 have key:∀ (is:List Nat) (L':Hp),mapO (Am.get A) is=some L'→is.Nodup→(L'.map (·.1)).Nodup∧∀ a∈L',∃ i∈is,A[i]? = some a:=by
  intro is
  induction is with
  | nil=>intro L' h _; cases h; exact ⟨List.nodup_nil,fun a h=>by cases h⟩
  | cons i r ih =>
   intro L' h hn
   simp only [mapO] at h
   split at h
   ·rename_i y s hy hs
    cases h
    rw [List.nodup_cons] at hn
    obtain ⟨q1,q2⟩:=ih s hs hn.2
    rw [zP] at hy
    refine ⟨?_,fun a ha=>?_⟩
    ·rw [List.map_cons,List.nodup_cons]
     refine ⟨fun hm=>?_,q1⟩
     obtain ⟨a,ha,e⟩:=List.mem_map.1 hm
     obtain ⟨j,hj,hj2⟩:=q2 a ha
     have:i=j:=zIf hnd.1 (a:=y.1) (by rw [List.getElem?_map,hy]; rfl) (by rw [List.getElem?_map,hj2,← e]; rfl)
     subst this
     exact hn.1 hj
    ·rcases List.mem_cons.1 ha with rfl | ha
     ·exact ⟨i,List.mem_cons_self,hy⟩
     ·obtain ⟨j,hj,hj2⟩:=q2 a ha
      exact ⟨j,List.mem_cons_of_mem _ hj,hj2⟩
   ·cases h
 obtain ⟨q1,q2⟩:=key is L' hp hn
 refine ⟨?_,fun a ha=>?_⟩
 ·rw [List.map_append,List.nodup_append]
  refine ⟨q1,hnd.2.1,fun a ha b hb=>?_⟩
  obtain ⟨x,hx,rfl⟩:=List.mem_map.1 ha
  obtain ⟨i,_,hi⟩:=q2 x hx
  exact hnd.2.2 _ (List.mem_map.2 ⟨x,List.mem_of_getElem? hi,rfl⟩) b hb
 ·rcases List.mem_append.1 ha with ha | ha
  ·obtain ⟨i,_,hi⟩:=q2 a ha
   exact h.bl a (List.mem_append_left _ (List.mem_of_getElem? hi))
  ·exact h.bl a (List.mem_append_right _ ha)
theorem Has.ne {i j:Nat} {id':Nat} {q:Blk→Prop} (h:Has H L) (hi:Am.get L i=some (id,p)) (hj:Am.get L j=some (id',q)) (hij:i≠j):id≠id':=fun e=>hij (zIf h.nd (a:=id) (by rw [zP] at hi; rw [List.getElem?_map,hi]; rfl) (by rw [zP] at hj; rw [List.getElem?_map,hj,e]; rfl))
end
def ImCt (C:Cfg) (f:Nat) (args:List V) (L:Hp) (T:V→Hp→Prop):Prop :=
 ∃ c fn,jM C f args.length=some (c,fn)∧∀ (R:Hp) (H:List Blk),Has H (L++R)→GS C H.length [.code c] (St.call fn args H 0) (fun e s => ∃ v,finA C fn e s=some v∧∃ L',T v L'∧Has s.H (L'++R))
def RdCt (C:Cfg) (f:Nat) (args:List V) (L:Hp) (T:V→Prop):Prop :=
 ∃ c fn,jM C f args.length=some (c,fn)∧∀ (H:List Blk),Has H L→GS C H.length [.code c] (St.call fn args H H.length) (fun e s => ∃ v v',finA C fn e s=some v∧Q5 s v v'∧T v')
namespace GS
section
variable {C:Cfg} {N:Nat} {k:List It} {s:St} {Q:Ex→St→Prop} {all os:List Oper} {o:Oper}
theorem sub {f:Nat} {args:List V} {c:Code} {fn:Func} {H':List Blk} (T:V→Prop) (hw:wants all s.K o.guard=some true) (hc:callee s.K o.op=some (.fn f args)) (hb:jM C f args.length=some (c,fn)) (hsub:SubH H' s.H)
  (h1:GS C H'.length [.code c] (St.call fn args H' H'.length) (fun e s1 => ∃ v v',finA C fn e s1=some v∧Q5 s1 v v'∧T v')) (h2:∀ v',T v'→GS C N (.ops all os :: k) (s.put o.dst v') Q):GS C N (.ops all (o :: os) :: k) s Q:=by
 intro hC E I m a w hE hs
 obtain ⟨q1,us,q2,q3⟩:=Z9 hs.slots hc
 refine Jl (zb hs.slots hw) q1 ((q3 w).trans ((jE hC hb).2.2.2 _ w)) ((zGB hC hs hb rfl hsub q2 (GS.start (s:=St.call fn args H' H'.length) h1 hC)).mono ?_)
 rintro e w' ⟨u,rfl,v',m',hT,hv,hs'⟩
 exact ⟨u,rfl,h2 v' hT hC E I m' _ w' hE (hs'.put hv)⟩
end
end GS
namespace S
open X
section
variable {C:Cfg} {N:Nat} {k:List It} {K:List (Nat×V)} {H:List Blk} {L R:Hp} {lo n d:Nat} {rnd:Option Nat} {Q:Ex→St→Prop} {all os:List Oper} {p:Op} {ty:TypeId} {pos:String} {after:Array Edge} {g:Option (Nat×Bool)} {v:V} {rd:List Nat}
theorem b0 {id:Nat}:Nat.ble 0 id=true:=Nat.ble_eq_true_of_le (Nat.zero_le _)
theorem ixn {α:Type} {l:List α} {j:Nat} (h:j<l.length):ix l (j:Int)=some l[j]:=by
 unfold ix
 rw [if_pos (by omega),Int.toNat_natCast,List.getElem?_eq_getElem h]
theorem w64n {j m:Nat} (h:j<m) (hm:m≤9223372036854775807):w64 ((j:Int)+1)=((j+1:Nat):Int):=by
 unfold w64
 omega
theorem ld (kk:Nat) {id i off t es nid:Nat} {xo:Operand} {T:TI} {l:List V} {r:V} (hH:Has H L) (hx:kev K xo=some (.ptr id i off)) (hL:Am.get L kk=some (id,isB (.rows es l))) (hT:C.ty t=some T) (hr:Am.get l i=some r) (hp:Jd T off r.cells=some v):zM C K H lo nid (.load t xo)=some ⟨v,[],[id]⟩:=by
 simp only [zM,QH,hT,hx,zAO,hH.is hL,hr,hp,Option.map_some]
theorem st {id i off t es nid:Nat} {xo yo:Operand} {T:TI} {l:List V} {r r':V} (kk:Nat) (hH:Has H L) (hx:kev K xo=some (.ptr id i off)) (hy:kev K yo=some v) (hL:Am.get L kk=some (id,isB (.rows es l))) (hT:C.ty t=some T) (hs:Jr T v=true) (hr:Am.get l i=some r) (hp:zDT r off v.cells=some r'):zM C K H 0 nid (.store t xo yo)=some ⟨jA,[(id,.rows es (Am.set l i r'))],[id]⟩:=by
 simp only [zM,QG,hT,hx,hy,zBv,Nat.not_lt_zero,if_false,hs,if_true,hH.is hL,hr,hp,Option.map_some]
theorem zNH {α:Type} {z:Bool} {id:Nat} {l:List α}:(ovlz z id l).cells=[ovlz z id l]:=by cases z <;> cases l <;> rfl
theorem stO {α:Type} {z:Bool} {ids:Nat} {ls:List α} {id i off t es nid:Nat} {xo yo:Operand} {T:TI} {l:List V} {r r':V} (kk:Nat) (hH:Has H L) (hx:kev K xo=some (.ptr id i off)) (hy:kev K yo=some (ovlz z ids ls)) (hL:Am.get L kk=some (id,isB (.rows es l))) (hT:C.ty t=some T) (hs:Jr T .nil=true) (hr:Am.get l i=some r) (hp:zDT r off [ovlz z ids ls]=some r'):zM C K H 0 nid (.store t xo yo)=some ⟨jA,[(id,.rows es (Am.set l i r'))],[id]⟩ :=
 st kk hH hx hy hL hT (by cases z <;> cases ls <;> exact hs) hr (by rw [zNH]; exact hp)
theorem cut {s:St} {id:Nat} {l:List Oper} (b:Nat) (hb:(l.take b).length=b) (hreg:zAI l=true) (hcut:zG7 l b=true) (h0:YV (l.take b)=0) (h:DC C N (.ops l (l.drop b) :: k) Q l (l.take b) 0 s.H.length s):GS C N (.code (.region id l.toArray true) :: k) s Q:=by
 refine zEe b hb hreg hcut ?_
 rw [h0]
 have e:s.H++zl 0=s.H:=List.append_nil _
 rw [e]
 exact h [] (fun p hp=>by cases hp)
theorem w0 (kk:Nat) {id:Nat} {pp:Blk→Prop} {B:Blk} (hH:Has H L) (hL:Am.get L kk=some (id,pp)) (hw:wants all K g=some true) (he:zM C K H lo H.length p=some ⟨v,[(id,B)],rd⟩) (h:∀ H',Has H' (Am.set L kk (id,isB B))→GS C N (.ops all os :: k) ⟨K,H',lo,rnd,n⟩ Q):GS C N (.ops all (⟨none,p,ty,pos,after,g⟩ :: os) :: k) ⟨K,H,lo,rnd,n⟩ Q :=
 op0W hw he rfl (h _ (hH.put hL rfl))
theorem box {B:Blk} (hH:Has H L) (hw:wants all K g=some true) (he:zM C K H lo H.length p=some ⟨.ptr H.length 0 0,[(H.length,B)],rd⟩) (hd:Nat.blt d n=true) (h:∀ id H',Has H' ((id,isB B) :: L)→GS C N (.ops all os :: k) ⟨(d,.ptr id 0 0) :: K,H',lo,rnd,n⟩ Q):GS C N (.ops all (⟨some d,p,ty,pos,after,g⟩ :: os) :: k) ⟨K,H,lo,rnd,n⟩ Q :=
 opW hw he zAu hd (h _ _ (hH.new rfl))
theorem app (kk:Nat) {α:Type} {z:Bool} {f:α→V} {l:List α} {a:α} {xs r:List α} {t e es id:Nat} {T Te:TI} {xo yo:Operand} {yv:V} (hH:Has H L) (hL:Am.get L kk=some (id,isB (oblz z es f l))) (hm:Mx.app l (a :: xs)=some r) (hs:∀ a,Jr Te (f a)=true) (hw:wants all K g=some true) (hT:C.ty t=some T) (hk:T.kd = .slice e es) (hTe:C.ty e=some Te) (hes:Te.size=es) (hby:Nat.ble Te.bytes 4096=true) (hx:kev K xo=some (ovlz z id l)) (hlo:Nat.ble lo id=true) (hy:kev K yo=some yv) (hr:rowsOf H yv=some ((a :: xs).map f,rd)) (hd:Nat.blt d n=true)
  (h:∀ id H',Has H' (Am.set L kk (id,isB (oblz z es f r)))→GS C N (.ops all os :: k) ⟨(d,ovlz z id r) :: K,H',lo,rnd,n⟩ Q):GS C N (.ops all (⟨some d,.call ⟨.builtin .append,#[xo,yo],#[t,t]⟩,ty,pos,after,g⟩ :: os) :: k) ⟨K,H,lo,rnd,n⟩ Q:=by
 have hne:r≠[]:=by
  obtain ⟨_,rfl⟩:=yS hm
  simp
 have hid:=hH.lt hL
 refine appN hm hs hw hT hk hTe hes hby hx (hH.is hL) (hH.blt hL) hlo hy hr hd rfl ?_
 rw [← zAg (z:=z) (id:=H.length) hne]
 refine h _ _ (hH.to hL (.inr (Nat.le_refl _)) (B:=oblz z es f r) ?_ rfl fun j hj hlt=>?_)
 ·simp only [puts]
  rw [zh _ _ _ _ (by rw [zq _ _ _ (Nat.le_of_lt hid)]; omega),if_pos rfl,Yi hne]
 ·simp only [puts]
  rw [zh _ _ _ _ (by rw [zq _ _ _ (Nat.le_of_lt hid)]; omega),if_neg (by omega),zh _ _ _ _ (Nat.le_of_lt hid),if_neg fun e=>hj e.symm]
theorem appL (kk:Nat) {α:Type} {z:Bool} {f:α→V} {l xs r:List α} {t e es id:Nat} {T Te:TI} {xo yo:Operand} {yv:V} (hH:Has H L) (hL:Am.get L kk=some (id,isB (oblz z es f l))) (hm:Mx.app l xs=some r) (hs:∀ a,Jr Te (f a)=true) (hw:wants all K g=some true) (hT:C.ty t=some T) (hk:T.kd = .slice e es) (hTe:C.ty e=some Te) (hes:Te.size=es) (hby:Nat.ble Te.bytes 4096=true) (hx:kev K xo=some (ovlz z id l)) (hlo:Nat.ble lo id=true) (hy:kev K yo=some yv) (hr:rowsOf H yv=some (xs.map f,rd)) (hd:Nat.blt d n=true)
  (h:∀ id H',Has H' (Am.set L kk (id,isB (oblz z es f r)))→GS C N (.ops all os :: k) ⟨(d,ovlz z id r) :: K,H',lo,rnd,n⟩ Q):GS C N (.ops all (⟨some d,.call ⟨.builtin .append,#[xo,yo],#[t,t]⟩,ty,pos,after,g⟩ :: os) :: k) ⟨K,H,lo,rnd,n⟩ Q:=by
 cases xs with
 | cons a xs=>exact app kk hH hL hm hs hw hT hk hTe hes hby hx hlo hy hr hd h
 | nil =>
  obtain ⟨hmax,e0⟩:=yS hm
  rw [List.append_nil] at e0
  subst e0
  rcases Ju z id es f r with ⟨rfl,rfl⟩ | ⟨e1,e2⟩
  ·have ht:Nat.beq t t=true:=Nat.beq_refl t
   have he:zM C K H lo H.length (.call ⟨.builtin .append,#[xo,yo],#[t,t]⟩)=some ⟨.nil,[],rd⟩:=by
    simp only [zM,Zd,kevs,hx,hy,Z0,Yb,ht,_root_.cond_true,Z5,hT,hk,hTe,yt,hr,List.map_nil,zEF,ovlz]
   refine opR hw he hd (h id H (hH.to hL (.inl rfl) ?_ rfl fun _ _ _=>rfl))
   obtain ⟨B,h1,rfl⟩:=hH.gt hL
   exact h1
  ·have hid:=hH.lt hL
   have hg:=hH.is hL
   rw [e2] at hg
   rw [e1] at hx
   refine opW hw (appO (l:=r) (xs:=[]) (r:=r) hm hs hT hk hTe hes hby hx hg hlo hy hr) rfl hd ?_
   have e3:ovlz z H.length r = .osl H.length 0 r.length:=by
    rcases Ju z H.length es f r with ⟨rfl,rfl⟩ | ⟨e3,_⟩
    ·cases e1
    ·exact e3
   rw [← e3]
   refine h _ _ (hH.to hL (.inr (Nat.le_refl _)) (B:=oblz z es f r) ?_ rfl fun j hj hlt=>?_)
   ·simp only [puts]
    rw [zh _ _ _ _ (by rw [zq _ _ _ (Nat.le_of_lt hid)]; omega),if_pos rfl,e2]
   ·simp only [puts]
    rw [zh _ _ _ _ (by rw [zq _ _ _ (Nat.le_of_lt hid)]; omega),if_neg (by omega),zh _ _ _ _ (Nat.le_of_lt hid),if_neg fun e=>hj e.symm]
theorem im {f:Nat} {args:List V} {Lc:Hp} {T:V→Hp→Prop} (hX:ImCt C f args Lc T) (hH:Has H (Lc++R)) (hw:wants all K g=some true) (hc:callee K p=some (.fn f args)) (hd:Nat.blt d n=true) (h:∀ v L' H',T v L'→Has H' (L'++R)→GS C N (.ops all os :: k) ⟨(d,v) :: K,H',0,rnd,n⟩ Q):GS C N (.ops all (⟨some d,p,ty,pos,after,g⟩ :: os) :: k) ⟨K,H,0,rnd,n⟩ Q:=by
 obtain ⟨c,fn,hb,hx⟩:=hX
 refine GS.im (s:=⟨K,H,0,rnd,n⟩) (fun v H' => ∃ L',T v L'∧Has H' (L'++R)) hw hc hb (hx R H hH) ?_
 rintro v H' ⟨L',h1,h2⟩
 exact front rfl hd (h v L' H' h1 h2) rfl
theorem rdC {f:Nat} {args:List V} {Lc:Hp} {T:V→Prop} (hX:RdCt C f args Lc T) (hH:Has H Lc) (hw:wants all K g=some true) (hc:callee K p=some (.fn f args)) (hd:Nat.blt d n=true) (h:∀ v,T v→GS C N (.ops all os :: k) ⟨(d,v) :: K,H,lo,rnd,n⟩ Q):GS C N (.ops all (⟨some d,p,ty,pos,after,g⟩ :: os) :: k) ⟨K,H,lo,rnd,n⟩ Q:=by
 obtain ⟨c,fn,hb,hx⟩:=hX
 refine GS.sub (s:=⟨K,H,lo,rnd,n⟩) T hw hc hb ⟨rfl,fun _ _ h _=>h,fun _ h=>h⟩ (hx H hH) ?_
 intro v h1
 exact front rfl hd (h v h1) rfl
theorem pad (hH:Has H L) (h:∀ id H',Has H' ((id,isB .dead) :: L)→GS C N k ⟨K,H',lo,rnd,n⟩ Q):GS C N k ⟨K,H,lo,rnd,n⟩ Q:=fun hC E I m a w hE hs=>h _ _ (hH.new rfl) hC E I m a w hE hs.pad
end
end S
end Go.Am
