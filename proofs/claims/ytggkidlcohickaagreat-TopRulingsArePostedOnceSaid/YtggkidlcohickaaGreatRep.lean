/- What abstract values and blocks say of a world. Conditions: none. -/
import Derived.Test.YtggkidlcohickaaGreatAm
import Derived.Test.YtggkidlcohickaaGreatCore
set_option linter.unusedVariables false
set_option linter.unusedSimpArgs false
namespace Go.Am
open Go Go.Wk
structure Inf where
 b:Nat
 o:Nat
 es:Nat
 cap:Nat
abbrev Ij := Nat→Option Inf
def Ij.none : Ij:=fun _=>.none
def Ij.Le (I J:Ij):Prop := ∀ i f,I i=some f→J i=some f
theorem Ij.Le.rfl' (I:Ij):I.Le I:=fun _ _ h=>h
theorem Ij.Le.tr {a b c:Ij} (h:a.Le b) (k:b.Le c):a.Le c:=fun i o hi=>k i o (h i o hi)
theorem Ij.Qg (I:Ij):Ij.none.Le I:=fun _ _ h=>by cases h
def KeyS (b:Bool) (ks:List IntKind) (u:Value):Prop:=match b with
 | false => ∃ k n,ks=[k]∧u = .int k n
 | true => ∃ is:List (IntKind×Int),is.map (·.1)=ks∧u = .agg (is.map fun p=>Value.int p.1 p.2).toArray
def Uni (l:List Value):Prop := ∃ b ks,∀ x∈l,KeyS b ks x
def Born (es:List MapEntry) (c:Nat):Prop:=(∀ e∈es,e.born<c)∧(es.map (·.born)).Nodup
def At (m:Mem) (b o es:Nat) (u:Value):Prop:=u.cells.size=es∧∀ j x,u.cells[j]? = some x→x.oneCell'=true∧m.cell b (o+j)=some x
def fnv (f:Nat) (us:List Value):Value:=bif Nat.blt f 1000000 then .func (.func f) #[] us.toArray else .func (.func (f - 1000000)) us.toArray #[]
theorem zFO {f:Nat} (h:Nat.blt f 1000000=true) (us:List Value):fnv f us = .func (.func f) #[] us.toArray:=by unfold fnv; rw [h]; rfl
theorem zLI {f:Nat} (h:Nat.blt f 1000000=false) (us:List Value):fnv f us = .func (.func (f - 1000000)) us.toArray #[]:=by unfold fnv; rw [h]; rfl
theorem zFP (f:Nat) (us:List Value):∃ g l c,fnv f us = .func (.func g) l c:=by
 cases h:Nat.blt f 1000000 with
 | true=>exact ⟨_,_,_,zFO h us⟩
 | false=>exact ⟨_,_,_,zLI h us⟩
mutual
def Rep (m:Mem):V→Ij→Value→Prop
 | .lit v,_,u=>u=v∧∀ c,v≠.agg c
 | .agg l,I,u => ∃ us:List Value,u = .agg us.toArray∧(∀ x∈us,x.oneCell'=true)∧RepL m l I us
 | .tup l,I,u => ∃ us:List Value,u = .tuple us.toArray∧RepL m l I us
 | .ptr id i off,I,u => ∃ f,I id=some f∧u = .pointer (some ⟨f.b,f.o+i*f.es+off,none⟩)
 | .fptr rows i off,I,u => ∃ b o es,u = .pointer (some ⟨b,o+i*es+off,none⟩)∧Zq m rows Ij.none b o es
 | .sl rows,I,u => ∃ ad cap es,u = .slice ad rows.length cap∧rows.length≤cap∧(rows≠[]→∃ b o,ad=some ⟨b,o,none⟩∧Zq m rows Ij.none b o es)
 | .osl id off len,I,u => ∃ f ad,I id=some f∧u = .slice ad len (f.cap - off)∧off+len≤f.cap∧(off<f.cap→ad=some ⟨f.b,f.o+off*f.es,none⟩)∧(f.cap≤off→∃ b o,ad=some ⟨b,o,none⟩)
 | .fn f caps,I,u => ∃ us:List Value,u=fnv f us∧RepL m caps I us
 | .yld id,I,u => ∃ f,I id=some f∧u = .func (.yield f.b) #[] #[]
 | .map id,I,u => ∃ f,I id=some f∧u = .map (some f.b)
 | .fmap ks vs,I,u => ∃ (b:Nat) (es es':List MapEntry) (c:Nat),u = .map (some b)∧m b=some (.map es.toArray c)∧es.Perm es'∧(es'.map (·.key)).Nodup∧RepL m ks Ij.none (es'.map (·.key))∧RepL m vs Ij.none (es'.map (·.val))∧Uni (es'.map (·.key))∧Born es c
 | .uns,_,u => ∃ ad n cap,u = .slice ad n cap
 | .omap id ks vs,I,u => ∃ (f:Inf) (es es':List MapEntry) (c:Nat),I id=some f∧u = .map (some f.b)∧m f.b=some (.map es.toArray c)∧es.Perm es'∧(es'.map (·.key)).Nodup∧RepL m ks I (es'.map (·.key))∧RepL m vs I (es'.map (·.val))∧Uni (es'.map (·.key))∧Born es c
def RepL (m:Mem):List V→Ij→List Value→Prop
 | [],_,us=>us=[]
 | v :: r,I,us => ∃ u us',us=u :: us'∧Rep m v I u∧RepL m r I us'
def Zq (m:Mem):List V→Ij→Nat→Nat→Nat→Prop
 | [],_,_,_,_=>True
 | v :: r,I,b,o,es=>(∃ u,Rep m v I u∧At m b o es u)∧Zq m r I b (o+es) es
end
theorem At.mono {m m':Mem} (h:m.Le m') {b o es:Nat} {u:Value} (ha:At m b o es u):At m' b o es u:=⟨ha.1,fun j x hx=>⟨(ha.2 j x hx).1,h.cell (ha.2 j x hx).2⟩⟩
mutual
theorem Rep.mono {m m':Mem} (hm:m.Le m'):∀ (v:V) {I J:Ij} {u:Value},I.Le J→Rep m v I u→Rep m' v J u
 | .lit v,I,J,u,hI,h=>by unfold Rep at *; exact h
 | .agg l,I,J,u,hI,h=>by unfold Rep at *; obtain ⟨us,h1,h0,h2⟩:=h; exact ⟨us,h1,h0,RepL.mono hm l hI h2⟩
 | .tup l,I,J,u,hI,h=>by unfold Rep at *; obtain ⟨us,h1,h2⟩:=h; exact ⟨us,h1,RepL.mono hm l hI h2⟩
 | .ptr id i off,I,J,u,hI,h=>by unfold Rep at *; obtain ⟨f,h1,h2⟩:=h; exact ⟨f,hI _ _ h1,h2⟩
 | .fptr rows i off,I,J,u,hI,h=>by unfold Rep at *; obtain ⟨b,o,es,h1,h2⟩:=h; exact ⟨b,o,es,h1,Zq.mono hm rows (Ij.Le.rfl' _) h2⟩
 | .sl rows,I,J,u,hI,h=>by
  unfold Rep at *
  obtain ⟨ad,cap,es,h1,h2,h3⟩:=h
  refine ⟨ad,cap,es,h1,h2,fun hne=>?_⟩
  obtain ⟨b,o,h4,h5⟩:=h3 hne
  exact ⟨b,o,h4,Zq.mono hm rows (Ij.Le.rfl' _) h5⟩
 | .osl id off len,I,J,u,hI,h=>by unfold Rep at *; obtain ⟨f,ad,h1,h2⟩:=h; exact ⟨f,ad,hI _ _ h1,h2⟩
 | .fn f caps,I,J,u,hI,h=>by unfold Rep at *; obtain ⟨us,h1,h2⟩:=h; exact ⟨us,h1,RepL.mono hm caps hI h2⟩
 | .yld id,I,J,u,hI,h=>by unfold Rep at *; obtain ⟨f,h1,h2⟩:=h; exact ⟨f,hI _ _ h1,h2⟩
 | .map id,I,J,u,hI,h=>by unfold Rep at *; obtain ⟨f,h1,h2⟩:=h; exact ⟨f,hI _ _ h1,h2⟩
 | .uns,I,J,u,hI,h=>by unfold Rep at *; exact h
 | .omap id ks vs,I,J,u,hI,h=>by
  unfold Rep at *
  obtain ⟨f,es,es',c,h0,h1,h2,h5,h6,h3,h4,h7⟩:=h
  exact ⟨f,es,es',c,hI _ _ h0,h1,hm _ _ h2,h5,h6,RepL.mono hm ks hI h3,RepL.mono hm vs hI h4,h7⟩
 | .fmap ks vs,I,J,u,hI,h=>by
  unfold Rep at *
  obtain ⟨b,es,es',c,h1,h2,h5,h6,h3,h4,h7⟩:=h
  exact ⟨b,es,es',c,h1,hm _ _ h2,h5,h6,RepL.mono hm ks (Ij.Le.rfl' _) h3,RepL.mono hm vs (Ij.Le.rfl' _) h4,h7⟩
theorem RepL.mono {m m':Mem} (hm:m.Le m'):∀ (l:List V) {I J:Ij} {us:List Value},I.Le J→RepL m l I us→RepL m' l J us
 | [],I,J,us,hI,h=>by unfold RepL at *; exact h
 | v :: r,I,J,us,hI,h=>by unfold RepL at *; obtain ⟨u,us',h1,h2,h3⟩:=h; exact ⟨u,us',h1,Rep.mono hm v hI h2,RepL.mono hm r hI h3⟩
theorem Zq.mono {m m':Mem} (hm:m.Le m'):∀ (l:List V) {I J:Ij} {b o es:Nat},I.Le J→Zq m l I b o es→Zq m' l J b o es
 | [],I,J,b,o,es,hI,h=>by unfold Zq; trivial
 | v :: r,I,J,b,o,es,hI,h=>by unfold Zq at *; obtain ⟨⟨u,h1,h2⟩,h3⟩:=h; exact ⟨⟨u,Rep.mono hm v hI h1,h2.mono hm⟩,Zq.mono hm r hI h3⟩
end
theorem zP {α:Type}:∀ (l:List α) (n:Nat),get l n=l[n]?
 | [],_=>by simp [get]
 | _ :: _,0=>by simp [get]
 | _ :: r,n+1=>by simp [get,zP r n]
theorem Zy {α:Type}:∀ (l:List α) (n:Nat) (y:α),set l n y=l.set n y
 | [],_,_=>by simp [set]
 | _ :: _,0,_=>by simp [set]
 | _ :: r,n+1,y=>by simp [set,Zy r n]
theorem zAn {α:Type} (c:List α):∀ (n off:Nat) (r:List α),JI c off n=some r→r.length=n∧(n=0∨off+n≤c.length)∧r=(c.drop off).take n
 | 0,off,r,h=>by simp only [JI,Option.some.injEq] at h; subst h; simp
 | n+1,off,r,h=>by
  simp only [JI] at h
  cases hx:get c off with
  | none=>rw [hx] at h; cases h
  | some y =>
   cases hr:JI c (off+1) n with
   | none=>rw [hx,hr] at h; cases h
   | some r' =>
    rw [hx,hr] at h
    simp only [Option.some.injEq] at h
    subst h
    obtain ⟨h1,h2,h3⟩:=zAn c n (off+1) r' hr
    rw [zP] at hx
    have hlt:=(List.getElem?_eq_some_iff.1 hx).1
    refine ⟨by simp [h1],.inr (by omega),?_⟩
    rw [List.drop_eq_getElem_cons hlt,List.take_succ_cons,h3,(List.getElem?_eq_some_iff.1 hx).2]
theorem qQ {α:Type} {c:List α} {n off:Nat} {r:List α} (h:JI c off n=some r) (j:Nat) (x:α) (hj:r[j]? = some x):c[off+j]? = some x:=by
 obtain ⟨h1,_,h3⟩:=zAn c n off r h
 subst h3
 rw [List.getElem?_take] at hj
 split at hj
 ·rwa [List.getElem?_drop] at hj
 ·cases hj
theorem zCj {α:Type} (c:List α):∀ (n off:Nat),off+n≤c.length→JI c off n=some ((c.drop off).take n)
 | 0,off,_=>by simp [JI]
 | n+1,off,h=>by
  have hlt:off<c.length:=by omega
  simp only [JI,zP,List.getElem?_eq_getElem hlt,zCj c n (off+1) (by omega)]
  rw [List.drop_eq_getElem_cons hlt,List.take_succ_cons]
theorem Yz {α:Type}:∀ (r c:List α) (off:Nat) (c':List α),setAt c off r=some c'→c'.length=c.length∧(r≠[]→off+r.length≤c.length)∧∀ j,c'[j]? = if off≤j∧j<off+r.length then r[j - off]? else c[j]?
 | [],c,off,c',h=>by
  simp only [setAt,Option.some.injEq] at h
  subst h
  refine ⟨rfl,by simp,fun j=>?_⟩
  rw [if_neg (by simp)]
 | v :: r,c,off,c',h=>by
  simp only [setAt] at h
  cases hx:get c off with
  | none=>rw [hx] at h; cases h
  | some y =>
   rw [hx] at h
   obtain ⟨h1,h2,h3⟩:=Yz r (set c off v) (off+1) c' h
   rw [zP] at hx
   have hlt:=(List.getElem?_eq_some_iff.1 hx).1
   rw [Zy,List.length_set] at h1 h2
   refine ⟨h1,fun _=>?_,fun j=>?_⟩
   ·by_cases hr:r=[]
    ·subst hr; simp; omega
    ·have:=h2 hr; simp; omega
   ·rw [h3 j,Zy]
    simp only [List.length_cons]
    by_cases h4:off+1≤j∧j<off+1+r.length
    ·rw [if_pos h4,if_pos ⟨by omega,by omega⟩,show j - off=(j - (off+1))+1 by omega]
     simp
    ·rw [if_neg h4]
     by_cases h5:j=off
     ·subst h5
      rw [if_pos ⟨by omega,by omega⟩]
      simp [hlt]
     ·rw [if_neg (by omega),List.getElem?_set_ne (fun e=>h5 e.symm)]
theorem zh (H:List Blk):∀ (i j:Nat) (b:Blk),i≤H.length→get (hput H i b) j=if i=j then some b else get H j:=by
 induction H with
 | nil =>
  intro i j b h
  have:i=0:=by simpa using h
  subst this
  cases j <;> simp [hput,get]
 | cons x r ih =>
  intro i j b h
  cases i with
  | zero=>cases j <;> simp [hput,get]
  | succ i =>
   cases j with
   | zero=>simp [hput,get]
   | succ j =>
    simp only [hput,get]
    rw [ih i j b (by simpa using h)]
    simp
theorem zq (H:List Blk):∀ (i:Nat) (b:Blk),i≤H.length→(hput H i b).length=max H.length (i+1):=by
 induction H with
 | nil =>
     intro i b h; have:i=0:=by simpa using h
     subst this; simp [hput]
 | cons x r ih =>
  intro i b h
  cases i with
  | zero=>simp [hput]
  | succ i=>simp only [hput,List.length_cons]; rw [ih i b (by simpa using h)]; omega
theorem zAk {a b:Nat} (h:a≠b):Nat.beq a b=false:=by
 cases hb:Nat.beq a b with
 | false=>rfl
 | true=>exact absurd (Nat.eq_of_beq_eq_true hb) h
theorem zCO (K:List (Nat×V)) (d t:Nat) (v:V):kget (kput K d v) t=if d=t then some v else kget K t:=by
 induction K with
 | nil =>
  simp only [kput,kget]
  by_cases h:d=t
  ·subst h; simp
  ·rw [if_neg h,zAk h]; rfl
 | cons p r ih =>
  obtain ⟨k,u⟩:=p
  simp only [kput]
  cases hb:Nat.beq k d with
  | true =>
   have:=Nat.eq_of_beq_eq_true hb
   subst this
   simp only [cond_true,kget]
   by_cases h:k=t
   ·subst h; simp
   ·rw [if_neg h,zAk h]; rfl
  | false =>
   have hne:=Nat.ne_of_beq_eq_false hb
   simp only [cond_false,kget]
   cases hb2:Nat.beq k t with
   | true =>
    have:=Nat.eq_of_beq_eq_true hb2
    subst this
    rw [if_neg (fun e=>hne e.symm)]; rfl
   | false=>simp only [cond_false]; rw [ih]
theorem zGd {α β:Type} {f:α→Option β}:∀ {l:List α} {r:List β},mapO f l=some r→r.length=l.length∧∀ (i:Nat) x,l[i]? = some x→∃ y,r[i]? = some y∧f x=some y
 | [],r,h=>by simp only [mapO,Option.some.injEq] at h; subst h; simp
 | x :: l,r,h=>by
  simp only [mapO] at h
  cases hx:f x with
  | none=>rw [hx] at h; cases h
  | some y =>
   cases hr:mapO f l with
   | none=>rw [hx,hr] at h; cases h
   | some s =>
    rw [hx,hr] at h
    simp only [Option.some.injEq] at h
    subst h
    obtain ⟨h1,h2⟩:=zGd hr
    refine ⟨by simp [h1],fun i z hz=>?_⟩
    cases i with
    | zero=>simp only [List.getElem?_cons_zero,Option.some.injEq] at hz; subst hz; exact ⟨y,rfl,hx⟩
    | succ i=>exact h2 i z (by simpa using hz)
theorem RepL.len {m:Mem}:∀ {l:List V} {I:Ij} {us:List Value},RepL m l I us→us.length=l.length
 | [],I,us,h=>by unfold RepL at h; subst h; rfl
 | v :: r,I,us,h=>by unfold RepL at h; obtain ⟨u,us',h1,_,h2⟩:=h; subst h1; simp [RepL.len h2]
theorem RepL.get {m:Mem}:∀ {l:List V} {I:Ij} {us:List Value},RepL m l I us→∀ {i:Nat} {v:V},l[i]? = some v→∃ u,us[i]? = some u∧Rep m v I u
 | [],I,us,_,i,v,hv=>by simp at hv
 | x :: r,I,us,h,i,v,hv=>by
  unfold RepL at h
  obtain ⟨u,us',h1,h2,h3⟩:=h
  subst h1
  cases i with
  | zero=>simp only [List.getElem?_cons_zero,Option.some.injEq] at hv; subst hv; exact ⟨u,rfl,h2⟩
  | succ i=>simpa using RepL.get h3 (by simpa using hv)
theorem RepL.mk {m:Mem} {I:Ij}:∀ {l:List V} {us:List Value},us.length=l.length→(∀ (i:Nat) v u,l[i]? = some v→us[i]? = some u→Rep m v I u)→RepL m l I us
 | [],us,h,_=>by unfold RepL; exact List.eq_nil_of_length_eq_zero h
 | x :: r,[],h,_=>by simp at h
 | x :: r,u :: us,h,hv=>by
  unfold RepL
  exact ⟨u,us,rfl,hv 0 x u rfl rfl,RepL.mk (by simpa using h) fun i v w h1 h2=>hv (i+1) v w (by simpa using h1) (by simpa using h2)⟩
theorem RepL.append {m:Mem} {I:Ij}:∀ {l r:List V} {us vs:List Value},RepL m l I us→RepL m r I vs→RepL m (l++r) I (us++vs)
 | [],r,us,vs,h,h2=>by unfold RepL at h; subst h; simpa using h2
 | x :: l,r,us,vs,h,h2=>by
  unfold RepL at h
  obtain ⟨u,us',h1,h3,h4⟩:=h
  subst h1
  simp only [List.cons_append]
  unfold RepL
  exact ⟨u,_,rfl,h3,RepL.append h4 h2⟩
theorem Zq.get {m:Mem}:∀ {l:List V} {I:Ij} {b o es:Nat},Zq m l I b o es→∀ {i:Nat} {v:V},l[i]? = some v→∃ u,Rep m v I u∧At m b (o+i*es) es u
 | [],I,b,o,es,_,i,v,hv=>by simp at hv
 | x :: r,I,b,o,es,h,i,v,hv=>by
  unfold Zq at h
  obtain ⟨⟨u,h1,h2⟩,h3⟩:=h
  cases i with
  | zero=>simp only [List.getElem?_cons_zero,Option.some.injEq] at hv; subst hv; exact ⟨u,h1,by simpa using h2⟩
  | succ i =>
   obtain ⟨u',h4,h5⟩:=Zq.get h3 (i:=i) (v:=v) (by simpa using hv)
   refine ⟨u',h4,?_⟩
   rwa [show o+es+i*es=o+(i+1)*es by rw [Nat.add_mul]; omega] at h5
theorem Zq.mk {m:Mem} {I:Ij} {b es:Nat}:∀ {l:List V} {o:Nat},(∀ (i:Nat) v,l[i]? = some v→∃ u,Rep m v I u∧At m b (o+i*es) es u)→Zq m l I b o es
 | [],o,_=>by unfold Zq; trivial
 | x :: r,o,h=>by
  unfold Zq
  refine ⟨by simpa using h 0 x rfl,Zq.mk fun i v hv=>?_⟩
  have:=h (i+1) v (by simpa using hv)
  rwa [show o+(i+1)*es=o+es+i*es by rw [Nat.add_mul]; omega] at this
end Go.Am
