/- A layer over the walk: what is known of the slots, of the call's own blocks, and of all other memory; a stack of code; one lemma an operation. Conditions: none (laws over any program). -/
import Derived.WalkKit
import Derived.WalkLawsBesides
import Derived.WalkSpells
import Derived.Deep.Quiet
import Derived.Deep.LoopGhost
import Derived.OrdersIn
import Derived.TacticsIn
import Derived.RangeFuncLeaves
import Derived.RangeFuncRecord
import Derived.IntWalk
import Derived.Laws.Tables
import Derived.Laws.CopyRow
set_option linter.unusedSimpArgs false
set_option linter.unusedVariables false
namespace Go.Wk
open Go Go.RowKit
abbrev Ext (w w':World):Prop:=Below w.heap.size w w'
theorem Ext.rfl' (w:World):Ext w w:=Below.refl _ _
theorem Ext.tr {a b c:World} (h:Ext a b) (k:Ext b c):Ext a c:=h.trans (k.mono h.size)
def Mem := Nat→Option Obj
def Mem.Le (m m':Mem):Prop := ∀ k o,m k=some o→m' k=some o
theorem Mem.Le.rfl' (m:Mem):m.Le m:=fun _ _ h=>h
theorem Mem.Le.tr {a b c:Mem} (h:a.Le b) (k:b.Le c):a.Le c:=fun i o hi=>k i o (h i o hi)
def wmem (w:World):Mem:=fun k=>w.heap[k]?
def Mem.cell (m:Mem) (b off:Nat):Option Value:=match m b with
 | some (.cells c _ _)=>c[off]?
 | _=>none
theorem Mem.Le.cell {m m':Mem} (h:m.Le m') {b off:Nat} {v:Value} (hc:m.cell b off=some v):m'.cell b off=some v:=by
 unfold Mem.cell at *
 cases hm:m b with
 | none=>rw [hm] at hc; cases hc
 | some o=>rw [hm] at hc; rw [h _ _ hm]; exact hc
class Mono (F:Mem→Prop):Prop where
 mono:∀ m m':Mem,m.Le m'→F m→F m'
instance (p : Prop):Mono (fun _=>p):=⟨fun _ _ _ h=>h⟩
instance {F G:Mem→Prop} [Mono F] [Mono G]:Mono (fun m=>F m∧G m):=⟨fun m m' hl h=>⟨Mono.mono m m' hl h.1,Mono.mono m m' hl h.2⟩⟩
instance {F G:Mem→Prop} [Mono F] [Mono G]:Mono (fun m=>F m∨G m):=⟨fun m m' hl h=>h.imp (Mono.mono m m' hl) (Mono.mono m m' hl)⟩
instance {α : Sort _} {F:α→Mem→Prop} [∀ x,Mono (F x)]:Mono (fun m => ∃ x,F x m):=⟨fun m m' hl ⟨x,h⟩=>⟨x,Mono.mono m m' hl h⟩⟩
instance {α : Sort _} {F:α→Mem→Prop} [∀ x,Mono (F x)]:Mono (fun m => ∀ x,F x m):=⟨fun m m' hl h x=>Mono.mono m m' hl (h x)⟩
instance (b off:Nat) (v:Value):Mono (fun m=>m.cell b off=some v):=⟨fun _ _ hl h=>hl.cell h⟩
instance (b : Nat) (o:Obj):Mono (fun m=>m b=some o):=⟨fun _ _ hl h=>hl _ _ h⟩
def Kget : List (Nat×Value)→Nat→Option Value
 | [],_=>none
 | (k,v) :: r,t=>cond (Nat.beq k t) (some v) (Kget r t)
def Kev (K:List (Nat×Value)):Operand→Option Value
 | .tmp t=>Kget K t
 | .const v=>some v
 | .func f=>some (.func (.func f) #[] #[])
 | .global g=>some (.pointer (some ⟨g,0,none⟩))
def Nget {α:Type}:List α→Nat→Option α
 | [],_=>none
 | x :: _,0=>some x
 | _ :: r,n+1=>Nget r n
theorem QN {α:Type}:∀ (l:List α) (n:Nat),Nget l n=l[n]?
 | [],_=>by simp [Nget]
 | _ :: _,0=>by simp [Nget]
 | _ :: r,n+1=>by simp [Nget,QN r n]
def Nset {α:Type}:List α→Nat→α→List α
 | [],_,_=>[]
 | _ :: r,0,y=>y :: r
 | x :: r,n+1,y=>x :: Nset r n y
theorem zAX {α:Type}:∀ (l:List α) (n:Nat) (y:α),Nset l n y=l.set n y
 | [],_,_=>by simp [Nset]
 | _ :: _,0,_=>by simp [Nset]
 | _ :: r,n+1,y=>by simp [Nset,zAX r n]
def zDN {α:Type}:List α→Nat→α→Option (List α)
 | [],_,_=>none
 | _ :: r,0,y=>some (y :: r)
 | x :: r,n+1,y=>match zDN r n y with
  | some r' => some (x :: r')
  | none=>none
theorem zCd {α:Type}:∀ {l:List α} {n:Nat} {y:α} {l':List α},zDN l n y=some l'→l'=Nset l n y∧n<l.length
 | [],_,_,_,h=>by cases h
 | _ :: _,0,_,_,h=>by simp only [zDN,Option.some.injEq] at h; subst h; simp [Nset]
 | x :: r,n+1,y,l',h=>by
  simp only [zDN] at h
  cases hr:zDN r n y with
  | none=>rw [hr] at h; cases h
  | some r' =>
   rw [hr] at h
   simp only [Option.some.injEq] at h
   subst h
   obtain ⟨h1,h2⟩:=zCd hr
   subst h1
   exact ⟨rfl,by simp; omega⟩
abbrev bx (l:List Value) (t:TypeId):Obj:=.cells l.toArray t (0,0)
abbrev OwnL := List (Option Nat×Obj)
structure Stays (w w':World):Prop where
 os:w'.os=w.os
 tape:w'.tape=w.tape
 output:w'.output=w.output
 size:w.heap.size≤w'.heap.size
theorem Stays.rfl' (w:World):Stays w w:=⟨rfl,rfl,rfl,Nat.le_refl _⟩
theorem Stays.tr {w w' w'':World} (h:Stays w w') (h':Stays w' w''):Stays w w'':=⟨h'.os.trans h.os,h'.tape.trans h.tape,h'.output.trans h.output,Nat.le_trans h.size h'.size⟩
theorem Ext.stays {w w':World} (h:Ext w w'):Stays w w':=⟨h.os,h.tape,h.output,h.size⟩
theorem Stays.ext {w w':World} (h:Stays w w') (hk:(wmem w).Le (wmem w')):Ext w w':=by
 refine ⟨h.os,h.tape,h.output,h.size,fun k hk' => ?_⟩
 have:w.heap[k]? = some w.heap[k]:=Array.getElem?_eq_getElem hk'
 rw [this]
 exact hk k _ this
structure En where
 n:Nat
 B:World
 m:Mem
 keep:Mem
 sub:m.Le keep
 ds:List Nat
 hid:Nat→Bool
 W:World→Prop
 st:∀ w w',W w→Stays w w'→(∀ k,k<w.heap.size→k<B.heap.size∨hid k=true→w'.heap[k]? = w.heap[k]?)→W w'
def look (E:En) (L:OwnL) (w:World):Mem:=fun k=>if (L.any (fun p=>p.1==some k)||E.hid k)=true then none else if k<E.B.heap.size then E.m k else w.heap[k]?
def grow (m:Mem) (w w':World):Mem:=fun k=>if k<w.heap.size then m k else w'.heap[k]?
theorem zF0 (E:En) (L:OwnL) (w:World) (hb:E.keep.Le (wmem w)):(look E L w).Le (wmem w):=by
 intro k o h
 unfold look at h
 split at h
 ·cases h
 ·split at h
  ·exact hb k o (E.sub k o h)
  ·exact h
structure SP (E:En) (K:List (Nat×Value)) (L:OwnL) (F:Mem→Prop) (a:Act) (w:World):Prop where
 size:a.tmps.size=E.n
 defers:a.defers=E.ds.map fun D=>{ target:=.collected D,args := #[] }
 slots:∀ t v,Kget K t=some v→a.tmps[t]? = some v
 base:Stays E.B w
 keep:E.keep.Le (wmem w)
 hid:∀ k,E.hid k=true→k<w.heap.size
 dsk:∀ D∈E.ds,E.B.heap.size≤D∧E.hid D=true∧w.heap[D]? = some (.deferred (some []))
 dsn:E.ds.Nodup
 inv:E.W w
 own:∀ p∈L,∀ b,p.1=some b→(E.B.heap.size≤b∧E.hid b=false∧E.keep b=none)∧w.heap[b]? = some p.2
 nodup:(L.filterMap (·.1)).Nodup
 facts:F (look E L w)
section
variable {E:En} {K:List (Nat×Value)} {L:OwnL} {F:Mem→Prop} {a:Act} {w:World}
theorem SP.eval (h:SP E K L F a w) {x:Operand} {v:Value} (hx:Kev K x=some v):a.eval x=v:=by
 cases x with
 | tmp t=>have:=h.slots t v hx; simp [Act.eval,Array.getD_eq_getD_getElem?,this]
 | const c=>exact Option.some.inj hx
 | func f=>exact Option.some.inj hx
 | global g=>exact Option.some.inj hx
theorem SP.put (h:SP E K L F a w) {d:Nat} (hd:Nat.ble (d+1) E.n=true) (v:Value):SP E ((d,v) :: K) L F (a.put (some d) v) w:=by
 have hd':d<a.tmps.size:=by rw [h.size]; exact Nat.le_of_ble_eq_true hd
 refine { h with size:=by simp [Act.put,h.size],slots:=fun t u ht=>?_ }
 simp only [Kget] at ht
 cases hb:Nat.beq d t with
 | true =>
  rw [hb] at ht
  have:=Nat.eq_of_beq_eq_true hb
  subst this
  simp only [cond_true,Option.some.injEq] at ht
  subst ht
  simp [Act.put,hd']
 | false =>
  rw [hb] at ht
  have hne:d≠t:=Nat.ne_of_beq_eq_false hb
  simp only [cond_false] at ht
  have:=h.slots t u ht
  simp only [Act.put,Array.getElem?_setIfInBounds,if_neg hne]
  exact this
theorem SP.ext [hF:Mono F] {w':World} (h:SP E K L F a w) (he:Ext w w'):SP E K L F a w':=by
 have hkb:∀ {k:Nat} {o:Obj},w.heap[k]? = some o→w'.heap[k]? = some o:=fun {k o} hk=>by rw [he.block k (Array.getElem?_eq_some_iff.1 hk).1]; exact hk
 refine { h with base:=h.base.tr he.stays,keep:=fun k o hk=>hkb (h.keep k o hk),hid:=fun k hk=>Nat.lt_of_lt_of_le (h.hid k hk) he.size,dsk:=fun D hD=>⟨(h.dsk D hD).1,(h.dsk D hD).2.1,hkb (h.dsk D hD).2.2⟩,inv:=E.st _ _ h.inv he.stays fun k hk _=>he.block k hk,own:=fun p hp b hb=>?_,facts := ?_ }
 ·obtain ⟨h1,h2⟩:=h.own p hp b hb
  refine ⟨h1,?_⟩
  have hlt:b<w.heap.size:=(Array.getElem?_eq_some_iff.1 h2).1
  rw [he.block b hlt]; exact h2
 ·refine hF.mono _ _ ?_ h.facts
  intro k o hk
  unfold look at *
  split at hk
  ·cases hk
  ·rename_i hn
   rw [if_neg hn]
   split at hk
   ·rename_i h1; rw [if_pos h1]; exact hk
   ·rename_i h1
    rw [if_neg h1]
    have hlt:k<w.heap.size:=(Array.getElem?_eq_some_iff.1 hk).1
    rw [he.block k hlt]; exact hk
theorem SP.alloc (h:SP E K L F a w) (o:Obj):SP E K ((some w.heap.size,o) :: L) F a (w.alloc o):=by
 have hal:∀ {k:Nat} {o':Obj},w.heap[k]? = some o'→(w.alloc o).heap[k]? = some o':=fun {k o'} hk=>by rw [Below.heap_alloc w o k (Array.getElem?_eq_some_iff.1 hk).1]; exact hk
 have hsz:(w.alloc o).heap.size=w.heap.size+1:=by show (w.heap.push o).size=_; simp
 have hfresh:E.hid w.heap.size=false:=by
  cases hh:E.hid w.heap.size with
  | false=>rfl
  | true=>exact absurd (h.hid _ hh) (Nat.lt_irrefl _)
 refine { h with base := ?_,keep:=fun k o' hk=>hal (h.keep k o' hk),hid:=fun k hk=>by rw [hsz]; exact Nat.lt_succ_of_lt (h.hid k hk),dsk:=fun D hD=>⟨(h.dsk D hD).1,(h.dsk D hD).2.1,hal (h.dsk D hD).2.2⟩,inv:=E.st _ _ h.inv (Ext.stays ((Below.refl _ w).alloc (Nat.le_refl _) o)) fun k hk _=>Below.heap_alloc w o k hk,own:=fun p hp b hb=>?_,nodup := ?_,facts := ?_ }
 ·exact h.base.tr (Ext.stays ((Below.refl _ w).alloc (Nat.le_refl _) o))
 ·rcases List.mem_cons.1 hp with rfl | hp
  ·simp only [Option.some.injEq] at hb
   subst hb
   refine ⟨⟨h.base.size,hfresh,?_⟩,heap_alloc_new w o⟩
   cases hk:E.keep w.heap.size with
   | none=>rfl
   | some o' => exact absurd (Array.getElem?_eq_some_iff.1 (h.keep _ _ hk)).1 (Nat.lt_irrefl _)
  ·obtain ⟨h1,h2⟩:=h.own p hp b hb
   refine ⟨h1,?_⟩
   rw [Below.heap_alloc w o b (Array.getElem?_eq_some_iff.1 h2).1]; exact h2
 ·simp only [List.filterMap_cons,List.nodup_cons]
  refine ⟨?_,h.nodup⟩
  intro hm
  obtain ⟨p,hp,hb⟩:=List.mem_filterMap.1 hm
  have:=(Array.getElem?_eq_some_iff.1 (h.own p hp _ hb).2).1
  omega
 ·have:look E ((some w.heap.size,o) :: L) (w.alloc o)=look E L w:=by
   funext k
   unfold look
   by_cases hk:k=w.heap.size
   ·subst hk
    have:=h.base.size
    simp [Nat.not_lt.2 this]
   ·have hk' : ¬ w.heap.size=k:=fun e=>hk e.symm
    have:(w.heap.size==k)=false:=by simp [hk']
    simp only [List.any_cons,Option.some_beq_some,this,Bool.false_or]
    split
    ·rfl
    ·split
     ·rfl
     ·show (w.heap.push o)[k]? = _
      rw [Array.getElem?_push,if_neg hk]
  rw [this]; exact h.facts
theorem SP.zD9 (h:SP E K L F a w) {i b:Nat} {o:Obj} (hi:Nget L i=some (some b,o)):E.B.heap.size≤b∧w.heap[b]? = some o:=by
 rw [QN] at hi
 exact ⟨(h.own _ (List.mem_of_getElem? hi) b rfl).1.1,(h.own _ (List.mem_of_getElem? hi) b rfl).2⟩
theorem SP.own_at (h:SP E K L F a w) {i b:Nat} {o:Obj} (hi:Nget L i=some (some b,o)):E.B.heap.size≤b∧E.hid b=false∧E.keep b=none:=by
 rw [QN] at hi
 exact (h.own _ (List.mem_of_getElem? hi) b rfl).1
theorem zHO (L:OwnL):∀ (i b:Nat) (o o':Obj),L[i]? = some (some b,o)→(L.set i (some b,o')).filterMap (·.1)=L.filterMap (·.1):=by
 induction L with
 | nil=>intro i b o o' h; simp at h
 | cons p r ih =>
  intro i b o o' h
  cases i with
  | zero=>simp at h; subst h; simp
  | succ i =>
   simp at h
   simp only [List.set_cons_succ,List.filterMap_cons]
   rw [ih i b o o' h]
theorem any_set (L:OwnL) (k:Nat):∀ (i b:Nat) (o o':Obj),L[i]? = some (some b,o)→(L.set i (some b,o')).any (fun p=>p.1==some k)=L.any (fun p=>p.1==some k):=by
 induction L with
 | nil=>intro i b o o' h; simp at h
 | cons p r ih =>
  intro i b o o' h
  cases i with
  | zero=>simp at h; subst h; simp
  | succ i =>
   simp at h
   simp only [List.set_cons_succ,List.any_cons]
   rw [ih i b o o' h]
theorem zMy {L:OwnL} (hn:(L.filterMap (·.1)).Nodup):∀ {i j b:Nat} {o o':Obj},L[i]? = some (some b,o)→L[j]? = some (some b,o')→i=j:=by
 induction L with
 | nil=>intro i j b o o' h; simp at h
 | cons p r ih =>
  intro i j b o o' hi hj
  have hr:(r.filterMap (·.1)).Nodup:=by
   rw [List.filterMap_cons] at hn
   split at hn
   ·exact hn
   ·exact (List.nodup_cons.1 hn).2
  have key:∀ {k:Nat} {o:Obj},p.1=some b→r[k]? = some (some b,o)→False:=by
   intro k o hp hk
   rw [List.filterMap_cons] at hn
   rw [hp] at hn
   simp only [List.nodup_cons] at hn
   exact hn.1 (List.mem_filterMap.2 ⟨_,List.mem_of_getElem? hk,rfl⟩)
  cases i with
  | zero =>
   cases j with
   | zero=>rfl
   | succ j =>
    simp at hi hj
    exact (key (by rw [hi]) hj).elim
  | succ i =>
   cases j with
   | zero =>
    simp at hi hj
    exact (key (by rw [hj]) hi).elim
   | succ j =>
    simp at hi hj
    rw [ih hr hi hj]
theorem SP.turn (h:SP E K L F a w) {w':World} {i b:Nat} {o o':Obj} (hi:Nget L i=some (some b,o)) (hos:w'.os=w.os) (htape:w'.tape=w.tape) (hout:w'.output=w.output)
  (hsz:w.heap.size≤w'.heap.size) (hb:w'.heap[b]? = some o') (hk:∀ k,k≠b→w'.heap[k]? = w.heap[k]?):SP E K (Nset L i (some b,o')) F a w':=by
 have hi':=hi
 rw [QN] at hi'
 have hown:=h.zD9 hi
 have hil:i<L.length:=(List.getElem?_eq_some_iff.1 hi').1
 rw [zAX]
 have hat:=h.own_at hi
 refine { h with base := ?_,keep:=fun k o hk' => ?_,hid:=fun k hk' => Nat.lt_of_lt_of_le (h.hid k hk') hsz,dsk:=fun D hD=>⟨(h.dsk D hD).1,(h.dsk D hD).2.1,?_⟩,inv:=E.st _ _ h.inv ⟨hos,htape,hout,hsz⟩ (fun k _ hk' => hk k (by rintro rfl; rcases hk' with h1 | h1; omega; rw [hat.2.1] at h1; cases h1)),own:=fun p hp c hc=>?_,nodup := ?_,facts := ?_ }
 ·exact ⟨hos.trans h.base.os,htape.trans h.base.tape,hout.trans h.base.output,Nat.le_trans h.base.size hsz⟩
 ·show w'.heap[k]? = some o
  rw [hk k (by rintro rfl; rw [hat.2.2] at hk'; cases hk')]
  exact h.keep k o hk'
 ·rw [hk D (by rintro rfl; have:=(h.dsk D hD).2.1; rw [hat.2.1] at this; cases this)]
  exact (h.dsk D hD).2.2
 ·rcases List.mem_or_eq_of_mem_set hp with hp' | rfl
  ·obtain ⟨j,hj⟩:=List.mem_iff_getElem?.1 hp
   by_cases hij:i=j
   ·subst hij
    rw [List.getElem?_set_self hil] at hj
    simp only [Option.some.injEq] at hj
    subst hj
    simp only [Option.some.injEq] at hc
    subst hc
    exact ⟨hat,hb⟩
   ·rw [List.getElem?_set_ne hij] at hj
    obtain ⟨h1,h2⟩:=h.own p hp' c hc
    refine ⟨h1,?_⟩
    have:c≠b:=by
     rintro rfl
     have hp2:p=(some c,p.2):=by rw [← hc]
     rw [hp2] at hj
     exact hij (zMy h.nodup hi' hj)
    rw [hk c this]; exact h2
  ·simp only [Option.some.injEq] at hc
   subst hc
   exact ⟨hat,hb⟩
 ·rw [zHO L i b o o' hi']; exact h.nodup
 ·have:look E (L.set i (some b,o')) w'=look E L w:=by
   funext k
   unfold look
   rw [any_set L k i b o o' hi']
   split
   ·rfl
   ·rename_i hn
    split
    ·rfl
    refine hk k ?_
    rintro rfl
    exact hn (by rw [Bool.or_eq_true]; exact .inl (List.any_eq_true.2 ⟨_,List.mem_of_getElem? hi',by simp⟩))
  rw [this]; exact h.facts
theorem SP.store (h:SP E K L F a w) {i b:Nat} {c:List Value} {t:TypeId} (hi:Nget L i=some (some b,bx c t)) (off:Nat) (v:Value) :
  SP E K (Nset L i (some b,bx (Nset c off v) t)) F a (w.setCell ⟨b,off,none⟩ v):=by
 have hown:=h.zD9 hi
 refine h.turn hi rfl rfl rfl (by simp [World.setCell]) ?_ (fun k hk=>Below.heap_setCell _ _ _ _ hk)
 simp only [World.setCell,Array.getElem?_modify,hown.2,if_true,Option.map_some]
 simp [bx,zAX]
theorem SP.weaken {K':List (Nat×Value)} {F':Mem→Prop} (h:SP E K L F a w) (hK:∀ t v,Kget K' t=some v→Kget K t=some v) (hF:∀ m,F m→F' m):SP E K' L F' a w :=
 { h with slots:=fun t v ht=>h.slots t v (hK t v ht),facts:=hF _ h.facts }
theorem SP.letgo [hF:Mono F] {L':OwnL} (h:SP E K L F a w) (hL:L'.Sublist L):SP E K L' F a w:=by
 refine { h with own:=fun p hp=>h.own p (hL.subset hp),nodup:=(hL.filterMap _).nodup h.nodup,facts:=hF.mono _ _ ?_ h.facts }
 intro k o hk
 unfold look at *
 split at hk
 ·cases hk
 ·rename_i hn
  rw [if_neg]
  ·exact hk
  ·intro hc
   rw [Bool.or_eq_true] at hc hn
   rcases hc with hc | hc
   ·obtain ⟨p,hp,hpk⟩:=List.any_eq_true.1 hc
    exact hn (.inl (List.any_eq_true.2 ⟨p,hL.subset hp,hpk⟩))
   ·exact hn (.inr hc)
end
def KSub : List (Nat×Value)→List (Nat×Value)→Prop
 | [],_=>True
 | (k,v) :: r,K=>Kget K k=some v∧KSub r K
theorem KSub.get : ∀ {K' K:List (Nat×Value)},KSub K' K→∀ t v,Kget K' t=some v→Kget K t=some v
 | [],_,_,_,_,h=>by cases h
 | p :: r,K,hs,t,v,h=>by
  simp only [Kget] at h
  cases hb:Nat.beq p.1 t with
  | true =>
   rw [hb] at h
   have:=Nat.eq_of_beq_eq_true hb
   subst this
   simp only [cond_true,Option.some.injEq] at h
   subst h
   exact hs.1
  | false =>
   rw [hb] at h
   exact KSub.get hs.2 t v h
theorem SP.to {E:En} {K K':List (Nat×Value)} {L L':OwnL} {F F':Mem→Prop} {a:Act} {w:World} [Mono F] (h:SP E K L F a w) (hK:KSub K' K) (hL:L'.Sublist L) (hF:∀ m,F m→F' m):SP E K' L' F' a w :=
 (h.letgo hL).weaken hK.get hF
def Wd (ρ:Option Nat):Fence:={ Fence.wide with round:=ρ }
theorem zBd {ρ:Option Nat} {n:Nat} {P:Program} {f:FuncId} {args:Array Value} {w:World} {R:Ending→World→Prop}:CallsIn (Wd ρ) n P f args w R↔Calls P f args w R:=by
 have:CallsIn (Wd ρ) n P f args w R↔CallsIn Fence.wide n P f args w R:=Iff.rfl
 exact this.trans callsIn_wide
def Opnd : Op→Bool
 | .defer _=>false
 | _=>true
theorem semWd {ρ:Option Nat} {o:Oper} (h:Opnd o.op=true) (e:Operand→Value):o.semAt (Wd ρ).round e=execOp e o :=
 Oper.semAt_eq _ _ _ fun c hc=>by rw [hc] at h; cases h
theorem Qu {ρ:Option Nat} {n:Nat} {P:Program} {o:Oper} {a:Act} {next:Act→World→Prop} {Q:Exit→Act→World→Prop} {w:World} (hn:Opnd o.op=true)
  (h:o.uponIn (Wd ρ) n P a next Q ((execOp a.eval o).run P w)):o.wpIn (Wd ρ) n P a w next Q :=
 ⟨fun _ _=>trivial,by rw [semWd hn]; exact h⟩
inductive It where
 | code (c:Code)
 | endB (id:Nat)
 | mark (J:Act→World→Prop)
def S (P:Program) (ρ:Option Nat) (Q:Exit→Act→World→Prop):List It→Exit→Act→World→Prop
 | []=>Q
 | .code c :: k=>Exit.then (c.wpIn (Wd ρ) 0 P (S P ρ Q k)) (S P ρ Q k)
 | .endB id :: k=>Exit.inBlock id (S P ρ Q k)
 | .mark J :: k=>Exit.then J (S P ρ Q k)
def JS (P:Program) (ρ:Option Nat) (Q:Exit→Act→World→Prop) (A:Act→World→Prop) (k:List It):Prop := ∀ a w,A a w→S P ρ Q k .normal a w
def YU (id:Nat):List It→Option (List It)
 | []=>none
 | .endB i :: k=>cond (Nat.beq i id) (some k) (YU id k)
 | .code _ :: k=>YU id k
 | .mark _ :: k=>YU id k
section
variable {P:Program} {ρ:Option Nat} {Q:Exit→Act→World→Prop}
theorem zMN : ∀ (k:List It) (a:Act) (w:World),S P ρ Q k .ret a w=Q .ret a w
 | [],_,_=>rfl
 | .code _ :: k,a,w=>zMN k a w
 | .endB _ :: k,a,w=>zMN k a w
 | .mark _ :: k,a,w=>zMN k a w
theorem zI5 {id:Nat}:∀ {k k':List It},YU id k=some k'→∀ a w,S P ρ Q k (.exit id) a w=S P ρ Q k' .normal a w
 | [],_,h,_,_=>by cases h
 | .endB i :: k,k',h,a,w=>by
  simp only [YU] at h
  cases hb:Nat.beq i id with
  | true =>
   rw [hb] at h
   simp only [cond_true,Option.some.injEq] at h
   subst h
   have:=Nat.eq_of_beq_eq_true hb
   subst this
   simp [S,Exit.inBlock]
  | false =>
   rw [hb] at h
   have hne:id≠i:=fun e=>Nat.ne_of_beq_eq_false hb e.symm
   simp only [cond_false] at h
   have:=zI5 h a w
   simp only [S,Exit.inBlock,if_neg hne]
   exact this
 | .code _ :: k,k',h,a,w=>zI5 (k:=k) h a w
 | .mark _ :: k,k',h,a,w=>zI5 (k:=k) h a w
theorem JS.weaken {A A':Act→World→Prop} {k:List It} (h:JS P ρ Q A' k) (hA:∀ a w,A a w→A' a w):JS P ρ Q A k:=fun a w ha=>h a w (hA a w ha)
theorem JS.seq {A:Act→World→Prop} {x y:Code} {k:List It} (h:JS P ρ Q A (.code x :: .code y :: k)):JS P ρ Q A (.code (.seq x y) :: k) :=
 fun a w ha=>wpIn_seq (h a w ha)
theorem JS.skip {A:Act→World→Prop} {k:List It} (h:JS P ρ Q A k):JS P ρ Q A (.code .skip :: k):=fun a w ha=>wpIn_skip (h a w ha)
theorem JS.label {A:Act→World→Prop} {l:Nat} {k:List It} (h:JS P ρ Q A k):JS P ρ Q A (.code (.label l) :: k):=fun a w ha=>wpIn_label (h a w ha)
theorem JS.block {A:Act→World→Prop} {id:Nat} {c:Code} {k:List It} (h:JS P ρ Q A (.code c :: .endB id :: k)):JS P ρ Q A (.code (.block id c) :: k) :=
 fun a w ha=>wpIn_block (h a w ha)
theorem JS.endB {A:Act→World→Prop} {id:Nat} {k:List It} (h:JS P ρ Q A k):JS P ρ Q A (.endB id :: k):=fun a w ha=>h a w ha
theorem JS.exit {A:Act→World→Prop} {id:Nat} {k k':List It} (hk:YU id k=some k') (h:JS P ρ Q A k'):JS P ρ Q A (.code (.exit id) :: k) :=
 fun a w ha=>wpIn_exit (by rw [zI5 hk]; exact h a w ha)
theorem JS.ret {A:Act→World→Prop} {k:List It} (h:∀ a w,A a w→Q .ret a w):JS P ρ Q A (.code .ret :: k) :=
 fun a w ha=>wpIn_ret (by rw [zMN]; exact h a w ha)
theorem JS.nil {A:Act→World→Prop} (h:∀ a w,A a w→Q .normal a w):JS P ρ Q A []:=h
theorem JS.mark {A J:Act→World→Prop} {k:List It} (h:∀ a w,A a w→J a w):JS P ρ Q A (.mark J :: k):=h
theorem zDo {k k':List It} (hk:∀ e a w,S P ρ Q k e a w→S P ρ Q k' e a w):∀ (pre:List It) (e:Exit) (a:Act) (w:World),S P ρ Q (pre++k) e a w→S P ρ Q (pre++k') e a w
 | [],e,a,w,h=>hk e a w h
 | .code c :: pre,e,a,w,h=>by
  cases e <;> first | exact zDo hk pre _ a w h | skip
  exact Code.wpIn_mono (fun e a w h=>zDo hk pre e a w h) h
 | .endB id :: pre,e,a,w,h=>by
  cases e <;> try exact zDo hk pre _ a w h
  rename_i id'
  simp only [List.cons_append,S,Exit.inBlock] at *
  split at h
  ·rename_i e; rw [if_pos e]; exact zDo hk pre _ a w h
  ·rename_i e; rw [if_neg e]; exact zDo hk pre _ a w h
 | .mark J :: pre,e,a,w,h=>by
  cases e <;> first | exact zDo hk pre _ a w h | exact h
theorem JS.cut {A:Act→World→Prop} (D:Act→World→Prop) (pre:List It) {k:List It} (h:JS P ρ Q A (pre ++ .mark D :: k)) (hk:JS P ρ Q D k):JS P ρ Q A (pre++k):=by
 intro a w ha
 refine zDo (k:=.mark D :: k) (k':=k) ?_ pre _ a w (h a w ha)
 intro e a w he
 cases e <;> first | exact hk a w he | exact he
theorem zKZ {c:Code} {a:Act} {w:World} (I:Nat→Act→World→Prop) (n₀:Nat) (h₀:I n₀ a w)
  (round:∀ n a w,I n a w→c.wpIn (Wd ρ) 0 P (Exit.then (fun a' w' => ∃ n',n'<n∧I n' a' w') Q) a w):(Code.loop c).wpIn (Wd ρ) 0 P Q a w:=by
 refine wpIn_loop (fun a w => ∃ n,I n a w) (fun a w=>leastOf (fun n=>I n a w)) ⟨n₀,h₀⟩ ?_
 intro a w hI
 refine wpIn_mono (round _ a w (leastOf_spec hI).1) ?_
 intro e a' w' hq
 cases e <;> first | exact hq | skip
 obtain ⟨n',hlt,hn'⟩:=hq
 exact ⟨⟨n',hn'⟩,Nat.lt_of_le_of_lt ((leastOf_spec ⟨n',hn'⟩).2 n' hn') hlt⟩
theorem JS.loop {A:Act→World→Prop} {ι:Type} (I:ι→Act→World→Prop) (μ:ι→Nat) {c:Code} {k:List It} (h0:∀ a w,A a w→∃ i,I i a w)
  (h:∀ i,JS P ρ Q (I i) (.code c :: .mark (fun a w => ∃ j,μ j<μ i∧I j a w) :: k)):JS P ρ Q A (.code (.loop c) :: k):=by
 intro a w ha
 obtain ⟨i,hi⟩:=h0 a w ha
 refine zKZ (fun n a w => ∃ i,μ i=n∧I i a w) (μ i) ⟨i,rfl,hi⟩ ?_
 rintro n a w ⟨i,rfl,hi⟩
 refine Code.wpIn_mono ?_ (h i a w hi)
 intro e a w he
 cases e <;> first | exact he | skip
 obtain ⟨j,h1,h2⟩:=he
 exact ⟨_,h1,j,rfl,h2⟩
variable {E:En} {K:List (Nat×Value)} {L:OwnL} {F:Mem→Prop}
theorem JS.cond {t:Operand} {b:Bool} {x y:Code} {k:List It} (ht:Kev K t=some (.bool b))
  (h1:b=true→JS P ρ Q (SP E K L F) (.code x :: k)) (h2:b=false→JS P ρ Q (SP E K L F) (.code y :: k)):JS P ρ Q (SP E K L F) (.code (.cond t x y) :: k) :=
 fun a w ha=>wpIn_cond_split (ha.eval ht) (fun e=>h1 e a w ha) (fun e=>h2 e a w ha)
theorem JS.pre {k:List It} (h:∀ a w,SP E K L F a w→JS P ρ Q (SP E K L F) k):JS P ρ Q (SP E K L F) k:=fun a w ha=>h a w ha a w ha
theorem JS.to {k:List It} (K':List (Nat×Value)) (hK:KSub K' K) (h:JS P ρ Q (SP E K' L F) k):JS P ρ Q (SP E K L F) k :=
 fun a w ha=>h a w (ha.weaken hK.get fun _ h=>h)
theorem hdn {d n:Nat} {op:Op} (h:(Nat.ble (d+1) n&&Opnd op)=true):Nat.ble (d+1) n=true:=(Bool.and_eq_true_iff.1 h).1
theorem hdo {d n:Nat} {op:Op} (h:(Nat.ble (d+1) n&&Opnd op)=true):Opnd op=true:=(Bool.and_eq_true_iff.1 h).2
def JO (P:Program) (ρ:Option Nat) (Q:Exit→Act→World→Prop) (ops:Array Oper) (A:Act→World→Prop) (l:List Oper) (k:List It):Prop := ∀ a w,A a w→wpListIn (Wd ρ) 0 P ops (S P ρ Q k) l a w
theorem JS.region {A:Act→World→Prop} {id:Nat} {l:List Oper} {k:List It} (h:JO P ρ Q l.toArray A l k):JS P ρ Q A (.code (.region id l.toArray false) :: k) :=
 fun a w ha=>wpIn_region_lit (h a w ha)
variable {ops:Array Oper} {l:List Oper} {k:List It}
theorem JO.nil {A:Act→World→Prop} (h:JS P ρ Q A k):JO P ρ Q ops A [] k:=fun a w ha=>wpListIn_nil (h a w ha)
def Yld (P:Program) (op:Op) (ty:TypeId) (E:En) (K:List (Nat×Value)) (L:OwnL) (F:Mem→Prop) (v:Value):Prop :=
 ∀ (a:Act) (w:World) (dst:Option Tmp) (pos:String) (after:Array Edge) (g:Option (Nat×Bool)),SP E K L F a w →
  (execOp a.eval ⟨dst,op,ty,pos,after,g⟩).run P w = .ok (.value v) w
theorem zMW (g:Nat) (want b:Bool) {t:Nat} (o:Oper) (hg:o.guard=some (g,want)) {a:Act} {w:World} (ha:SP E K L F a w)
  (hj:(ops[g]?).bind (·.dst)=some t) (ht:Kget K t=some (.bool b)):Region.wanted o (yielded ops a.tmps)=(b==want):=by
 unfold Region.wanted
 rw [hg]
 simp only [yielded,hj,Option.bind_some,ha.slots t _ ht]
 rfl
def GOn (ops:Array Oper) (K:List (Nat×Value)):Option (Nat×Bool)→Prop
 | none=>True
 | some (g,want) => ∃ t b,(ops[g]?).bind (·.dst)=some t∧Kget K t=some (.bool b)∧(b==want)=true
theorem zEu {o:Oper} (hg:GOn ops K o.guard) {a:Act} {w:World} (ha:SP E K L F a w):Region.wanted o (yielded ops a.tmps)=true:=by
 cases h:o.guard with
 | none=>simp [Region.wanted,h]
 | some p =>
  obtain ⟨g,want⟩:=p
  rw [h] at hg
  obtain ⟨t,b,h1,h2,h3⟩:=hg
  rw [zMW g want b o h ha h1 h2]; exact h3
theorem JO.split {t:Nat} {b:Bool} (ht:Kget K t=some (.bool b)) (h1:b=true→JO P ρ Q ops (SP E ((t,.bool true) :: K) L F) l k) (h2:b=false→JO P ρ Q ops (SP E ((t,.bool false) :: K) L F) l k) :
  JO P ρ Q ops (SP E K L F) l k:=by
 intro a w ha
 have key:∀ v,Kget K t=some v→SP E ((t,v) :: K) L F a w:=fun v hv=>ha.weaken (by
  intro s u hs
  simp only [Kget] at hs
  cases hb:Nat.beq t s with
  | true =>
   rw [hb] at hs
   have:=Nat.eq_of_beq_eq_true hb
   subst this
   simp only [cond_true,Option.some.injEq] at hs
   subst hs; exact hv
  | false=>rw [hb] at hs; exact hs) fun _ h=>h
 cases b with
 | true=>exact h1 rfl a w (key _ ht)
 | false=>exact h2 rfl a w (key _ ht)
theorem JO.to {A' A:Act→World→Prop} (hA:∀ a w,A a w→A' a w) (h:JO P ρ Q ops A' l k):JO P ρ Q ops A l k:=fun a w ha=>h a w (hA a w ha)
def JQ (P:Program) (ρ:Option Nat) (Q:Exit→Act→World→Prop) (ops:Array Oper) (E:En) (K:List (Nat×Value)) (L:OwnL) (F:Mem→Prop) (l:List Oper) (k:List It):Prop :=
 ∀ (w0:World) (a:Act),(∀ w,Ext w0 w→SP E K L F a w)→wpQuiet P ops (fun w=>Ext w0 w) (fun a' => ∀ w,Ext w0 w→S P ρ Q k .normal a' w) l a
theorem zHI {C:World→Prop} {i:Nat} {a:Act} {K:Act→Prop} {K':Act→World→Prop} {Q':Exit→Act→World→Prop} {w:World} (hnd:∀ (i:Nat) (o:Oper),ops[i]? = some o→Opnd o.op=true) (hC:C w) (h:∀ a w',C w'→K a→K' a w') (hh:qOp P ops C i K a):wpOpIn (Wd ρ) 0 P ops Q' i K' a w:=by
 unfold qOp at hh
 unfold wpOpIn
 split
 ·rename_i ho; simp only [ho] at hh; exact h _ _ hC hh
 ·rename_i o ho
  simp only [ho] at hh
  split
  ·rename_i hw
   simp only [hw,if_true] at hh
   obtain ⟨v,h1,h2⟩:=hh
   have h3:=h1 w hC
   refine Qu (hnd i o ho) ?_
   unfold Oper.quietAt at h3
   generalize (execOp a.eval o).run P w=r at *
   cases r with
   | ok n w' =>
    cases n <;> simp only [Oper.quietUpon] at h3 <;> simp only [Oper.uponIn]
    case value u =>
     obtain ⟨e1,e2⟩:=h3
     rw [e1,e2]
     exact h _ _ hC h2
    case skip =>
     obtain ⟨e1,e2⟩:=h3
     rw [e1,← e2]
     exact h _ _ hC h2
    case enter f args =>
     obtain ⟨e1,hc⟩:=h3
     rw [e1]
     refine ⟨(fun h=>by cases h),zBd.2 ?_⟩
     exact hc.mono fun e w'' ⟨he,hw''⟩=>by subst he; exact h _ _ hw'' h2
   | halt x w' => simp only [Oper.quietUpon] at h3
  ·rename_i hw; simp only [hw] at hh; exact ⟨fun _ _=>trivial,h _ _ hC hh⟩
theorem wpAnyIn_of_quiet {C:World→Prop} {md:Region.Mode} {Qa:Act→Prop} {Q':Exit→Act→World→Prop} (hnd:∀ (i:Nat) (o:Oper),ops[i]? = some o→Opnd o.op=true) (hQ:∀ a w,C w→Qa a→Q' .normal a w):∀ (fuel:Nat) (listed:Array Bool) (a:Act) (w:World),C w →
  wpAnyQ P md ops C Qa fuel listed a→wpAnyIn (Wd ρ) 0 P md ops Q' fuel listed a w
 | 0,_,_,_,hw,h=>⟨h.1,hQ _ _ hw h.2⟩
 | fuel+1,_,_,_,hw,h=>⟨fun h0=>hQ _ _ hw (h.1 h0),fun i hi=>zHI hnd hw (fun a' w' hw' => wpAnyIn_of_quiet hnd hQ fuel _ a' w' hw') (h.2 i hi)⟩
theorem JS.draw [Mono F] {id:Nat} (hm:P.follows .mixedOrders=true) (hB:(Region.lexB .any l.toArray&&l.all (fun o=>Opnd o.op))=true) (h:JQ P ρ Q l.toArray E K L F l k) :
  JS P ρ Q (SP E K L F) (.code (.region id l.toArray true) :: k):=by
 intro a w ha
 rw [Bool.and_eq_true] at hB
 have hnd:∀ (i:Nat) (o:Oper),l.toArray[i]? = some o→Opnd o.op=true:=fun i o ho=>List.all_eq_true.1 hB.2 o (List.mem_of_getElem? (i:=i) (by simpa using ho))
 have hB1:=hB.1
 simp only [Region.lexB,Bool.and_eq_true] at hB1
 refine wpIn_region_any hm (wpAnyIn_of_quiet (C:=fun w' => Ext w w') (Qa:=fun a' => ∀ w',Ext w w'→S P ρ Q k .normal a' w') hnd (fun _ w' hw' h=>h w' hw') _ _ _ _ (Below.drew (Below.refl _ _)) ?_)
 have:=wpAnyQ_lex (C:=fun w' => Ext w w') (md:=.any) hB1.1 l.toArray.toList 0 (Array.replicate l.toArray.size false) a (by simp) (by simpa using hB1.2) (by simpa using h w a (fun w' hw' => ha.ext hw'))
 simpa using this
theorem JQ.nil (h:JS P ρ Q (SP E K L F) k):JQ P ρ Q ops E K L F [] k:=fun w0 a ha=>wpQuiet_nil fun w hw=>h a w (ha w hw)
theorem JQ.split {t:Nat} {b:Bool} (ht:Kget K t=some (.bool b)) (h1:b=true→JQ P ρ Q ops E ((t,.bool true) :: K) L F l k) (h2:b=false→JQ P ρ Q ops E ((t,.bool false) :: K) L F l k) :
  JQ P ρ Q ops E K L F l k:=by
 intro w0 a ha
 have key:∀ v,Kget K t=some v→∀ w,SP E K L F a w→SP E ((t,v) :: K) L F a w:=fun v hv w h=>h.weaken (by
  intro s u hs
  simp only [Kget] at hs
  cases hb:Nat.beq t s with
  | true =>
   rw [hb] at hs
   have:=Nat.eq_of_beq_eq_true hb
   subst this
   simp only [cond_true,Option.some.injEq] at hs
   subst hs; exact hv
  | false=>rw [hb] at hs; exact hs) fun _ h=>h
 cases b with
 | true=>exact h1 rfl w0 a fun w hw=>key _ ht w (ha w hw)
 | false=>exact h2 rfl w0 a fun w hw=>key _ ht w (ha w hw)
end
inductive Kd where
 | plain
 | struct (places:List (Nat×Nat))
 | slice (e es:Nat)
 | arr (len e es:Nat)
 | map (k e:Nat) (ik:IntKind)
structure Ti where
 agg:Bool
 size:Nat
 zs:List Value
 kd:Kd
def Ti.zc : Ti→Option (List Value)
 | ⟨_,_,zs,_⟩=>some zs
def Ti.zero (i:Ti):Value:=if i.agg then .agg i.zs.toArray else i.zs.headD undef
def zCf (P:Program):List (Nat×Nat)→List Field→Prop
 | [],[]=>True
 | o :: os,f :: fs=>f.offset=o.1∧o.2≠0∧(∀ w,(Go.sizeOf f.type).run P w = .ok o.2 w)∧zCf P os fs
 | _,_=>False
class TyOK (P:Program) (t:TypeId) (i:outParam Ti):Prop where
 agg:∀ w,(isAgg t).run P w = .ok i.agg w
 size:∀ w,(Go.sizeOf t).run P w = .ok i.size w
 zero:∀ w,(zeroValue t).run P w = .ok i.zero w
 zcells:i.zero.cells=i.zs.toArray
 kd:match i.kd with
  | .plain=>True
  | .struct ps => ∃ fs:Array Field,P.underlying t=some (.struct fs)∧zCf P ps fs.toList
  | .slice e es=>P.underlying t=some (.slice e)∧∀ w,(Go.sizeOf e).run P w = .ok es w
  | .arr len e es=>P.underlying t=some (.array len e)∧∀ w,(Go.sizeOf e).run P w = .ok es w
  | .map k e ik=>P.underlying t=some (.map k e)∧P.underlying k=some (.int ik)
class ElOK (P:Program) (e:TypeId) (z:outParam Value) (size bytes:outParam Nat):Prop where
 info:(P.info? e).map (fun i=>(i.zero,i.size,i.bytes))=some (some z,size,bytes)
 zs:z.cells.size=size
theorem ElOK.get {P:Program} {e:TypeId} {z:Value} {size bytes:Nat} (h:ElOK P e z size bytes):∃ i,P.info? e=some i∧i.zero=some z∧i.size=size∧i.bytes=bytes:=by
 have:=h.info
 cases hi:P.info? e with
 | none=>rw [hi] at this; cases this
 | some i =>
  rw [hi] at this
  simp only [Option.map_some,Option.some.injEq,Prod.mk.injEq] at this
  exact ⟨i,rfl,this⟩
theorem zCf.get {P:Program}:∀ {ps:List (Nat×Nat)} {fs:List Field},zCf P ps fs→∀ {i:Nat} {p:Nat×Nat},Nget ps i=some p→∃ f,fs[i]? = some f∧f.offset=p.1∧p.2≠0∧∀ w,(Go.sizeOf f.type).run P w = .ok p.2 w
 | [],[],_,_,_,h=>by cases h
 | o :: os,f :: fs,hf,i,p,h=>by
  cases i with
  | zero =>
   simp only [Nget,Option.some.injEq] at h
   subst h
   exact ⟨f,by simp,hf.1,hf.2.1,hf.2.2.1⟩
  | succ i =>
   obtain ⟨g,h1,h2⟩:=zCf.get hf.2.2.2 (i:=i) (p:=p) h
   exact ⟨g,by simpa using h1,h2⟩
 | [],_ :: _,hf,_,_,_=>hf.elim
 | _ :: _,[],hf,_,_,_=>hf.elim
theorem Addr.Qr (b o n:Nat):Addr.add ⟨b,o,none⟩ n=⟨b,o+n,none⟩:=by
 unfold Addr.add
 split
 ·rename_i h; subst h; rfl
 ·rfl
theorem YT (w:World) (b off:Nat):w.cell? ⟨b,off,none⟩=(wmem w).cell b off:=by
 unfold World.cell? Mem.cell wmem
 cases w.heap[b]? with
 | none=>rfl
 | some o=>cases o <;> simp
def Sl {α:Type} (n:Nat) (enc:α→List Value) (ad:Option Addr) (xs:List α) (m:Mem):Prop :=
 ∀ i x,xs[i]? = some x→∃ b o,ad=some ⟨b,o,none⟩∧∀ j u,(enc x)[j]? = some u→m.cell b (o+i*n+j)=some u
instance {α : Type} (n:Nat) (enc:α→List Value) (ad:Option Addr) (xs:List α):Mono (Sl n enc ad xs):=by unfold Sl; infer_instance
theorem Sl.nil {α:Type} (n:Nat) (enc:α→List Value) (ad:Option Addr) (m:Mem):Sl n enc ad [] m:=fun i x h=>by simp at h
theorem Sl.ad {α:Type} {n:Nat} {enc:α→List Value} {ad:Option Addr} {xs:List α} {m:Mem} (h:Sl n enc ad xs m) (hx:xs≠[]):∃ b o,ad=some ⟨b,o,none⟩:=by
 cases xs with
 | nil=>exact absurd rfl hx
 | cons x r=>obtain ⟨b,o,h1,_⟩:=h 0 x rfl; exact ⟨b,o,h1⟩
theorem Sl.cell {α:Type} {n:Nat} {enc:α→List Value} {b o:Nat} {xs:List α} {m:Mem} (h:Sl n enc (some ⟨b,o,none⟩) xs m) {i:Nat} {x:α} (hx:xs[i]? = some x) {j:Nat} {u:Value} (hj:(enc x)[j]? = some u) :
  m.cell b (o+i*n+j)=some u:=by
 obtain ⟨b',o',h1,h2⟩:=h i x hx
 simp only [Option.some.injEq,Addr.mk.injEq,and_true] at h1
 obtain ⟨rfl,rfl⟩:=h1
 exact h2 j u hj
theorem Sl.take {α:Type} {n:Nat} {enc:α→List Value} {ad:Option Addr} {xs:List α} {m:Mem} (h:Sl n enc ad xs m) (k:Nat):Sl n enc ad (xs.take k) m:=by
 intro i x hx
 refine h i x ?_
 rw [List.getElem?_take] at hx
 split at hx
 ·exact hx
 ·cases hx
theorem Sl.drop {α:Type} {n:Nat} {enc:α→List Value} {b o:Nat} {xs:List α} {m:Mem} (h:Sl n enc (some ⟨b,o,none⟩) xs m) (k:Nat):Sl n enc (some ⟨b,o+k*n,none⟩) (xs.drop k) m:=by
 intro i x hx
 rw [List.getElem?_drop] at hx
 refine ⟨b,_,rfl,fun j u hj=>?_⟩
 have:=h.cell hx hj
 rwa [show o+(k+i)*n+j=o+k*n+i*n+j by rw [Nat.add_mul]; omega] at this
section
variable {P:Program} {ρ:Option Nat} {Q:Exit→Act→World→Prop} {E:En} {K:List (Nat×Value)} {L:OwnL} {F:Mem→Prop} {a:Act} {w:World}
theorem SP.zKJ (h:SP E K L F a w) {i b off:Nat} {c:List Value} {t:TypeId} {v:Value} (hi:Nget L i=some (some b,bx c t)) (hv:Nget c off=some v):w.cell? ⟨b,off,none⟩=some v:=by
 rw [YT]
 unfold Mem.cell wmem
 rw [(h.zD9 hi).2]
 simpa [bx,← QN] using hv
variable {ty:TypeId} {x y z:Operand} {v u:Value}
theorem Y.move (hx:Kev K x=some v):Yld P (.move x) ty E K L F v:=by
 intro a w _ _ _ _ ha
 simp only [execOp,ha.eval hx,Sem.run_pure]
theorem Y.assign (hx:Kev K x=some v):Yld P (.assign x) ty E K L F v:=by
 intro a w _ _ _ _ ha
 simp only [execOp,ha.eval hx,Sem.run_pure]
theorem Y.zKr (hc:Kev K x=some (.bool true)) (hy:Kev K y=some v):Yld P (.pick x y z) ty E K L F v:=by
 intro a w _ _ _ _ ha
 simp [execOp,ha.eval hc,ha.eval hy,asBool]
theorem Y.zKs (hc:Kev K x=some (.bool false)) (hz:Kev K z=some v):Yld P (.pick x y z) ty E K L F v:=by
 intro a w _ _ _ _ ha
 simp [execOp,ha.eval hc,ha.eval hz,asBool]
theorem Y.extract {l:List Value} {i:Nat} (hx:Kev K x=some (.tuple l.toArray)) (hv:Nget l i=some v):Yld P (.extract x i) ty E K L F v:=by
 intro a w _ _ _ _ ha
 rw [QN] at hv
 simp [execOp,ha.eval hx,Instr.extract,hv]
theorem Y.fieldAddr {t:TypeId} {i:Ti} {ps:List (Nat×Nat)} {f b o o1 s1:Nat} [ht:TyOK P t i] (hk:i.kd = .struct ps) (hx:Kev K x=some (.pointer (some ⟨b,o,none⟩))) (hp:Nget ps f=some (o1,s1)) :
  Yld P (.fieldAddr t x f) ty E K L F (.pointer (some ⟨b,o+o1,none⟩)):=by
 intro a w _ _ _ _ ha
 have h1:=ht.kd
 rw [hk] at h1
 obtain ⟨fs,hu,hf⟩:=h1
 obtain ⟨fd,h2,h3,h4,h5⟩:=hf.get hp
 have h2':fs[f]? = some fd:=by simpa using h2
 simp [execOp,ha.eval hx,Instr.fieldAt,run_underlying hu,h2',Instr.sureAddr,fieldPlace,h5,h4,Addr.Qr,h3]
theorem Y.field {t:TypeId} {i:Ti} {ps:List (Nat×Nat)} {f:Nat} {p:Nat×Nat} {l:List Value} [ht:TyOK P t i] (hk:i.kd = .struct ps) (hx:Kev K x=some (.agg l.toArray)) (hp:Nget ps f=some p)
  (hna:∀ fd:Field,(∀ w,(Go.sizeOf fd.type).run P w = .ok p.2 w)→∀ w,(isAgg fd.type).run P w = .ok false w) (hv:Nget l p.1=some v) :
  Yld P (.field t x f) ty E K L F v:=by
 intro a w _ _ _ _ ha
 have h1:=ht.kd
 rw [hk] at h1
 obtain ⟨fs,hu,hf⟩:=h1
 obtain ⟨fd,h2,h3,h4,h5⟩:=hf.get hp
 have h2':fs[f]? = some fd:=by simpa using h2
 rw [QN] at hv
 simp [execOp,ha.eval hx,Instr.field,run_underlying hu,h2',asAgg,part,hna fd h5,h3,hv]
def JI (c:List Value):Nat→Nat→Option (List Value)
 | _,0=>some []
 | off,n+1=>match Nget c off,JI c (off+1) n with
  | some x,some r=>some (x :: r)
  | _,_=>none
theorem qQ (c:List Value):∀ (n off:Nat) (r:List Value),JI c off n=some r→r.length=n∧∀ j v,r[j]? = some v→Nget c (off+j)=some v
 | 0,off,r,h=>by simp only [JI,Option.some.injEq] at h; subst h; simp
 | n+1,off,r,h=>by
  simp only [JI] at h
  cases hx:Nget c off with
  | none=>rw [hx] at h; cases h
  | some y =>
   cases hr:JI c (off+1) n with
   | none=>rw [hx,hr] at h; cases h
   | some r' =>
    rw [hx,hr] at h
    simp only [Option.some.injEq] at h
    subst h
    obtain ⟨h1,h2⟩:=qQ c n (off+1) r' hr
    refine ⟨by simp [h1],fun j v hj=>?_⟩
    cases j with
    | zero=>simp at hj; subst hj; simpa using hx
    | succ j =>
     simp at hj
     have:=h2 j v hj
     rwa [show off+1+j=off+(j+1) by omega] at this
theorem Y.indexAddr {t:TypeId} {i:Ti} {e es b o len cap:Nat} {k:IntKind} {j:Int} [ht:TyOK P t i] (hk:i.kd = .slice e es) {ad:Option Addr} (hx:Kev K x=some (.slice ad len cap)) (had:ad=some ⟨b,o,none⟩) (hy:Kev K y=some (.int k j)) (h0:0≤j) (h1:j<len) :
  Yld P (.indexAddr t x y) ty E K L F (.pointer (some ⟨b,o+j.toNat*es,none⟩)):=by
 intro a w _ _ _ _ ha
 have h2:=ht.kd
 rw [hk] at h2
 subst had
 simp [execOp,ha.eval hx,ha.eval hy,Instr.indexAt,asIntOf,run_underlying h2.1,h0,h1,h2.2,Addr.Qr]
theorem Y.len {t:TypeId} {i:Ti} {e es len cap:Nat} {ad:Option Addr} [ht:TyOK P t i] (hk:i.kd = .slice e es) (hx:Kev K x=some (.slice ad len cap)) :
  Yld P (.call { callee:=.builtin .len,args := #[x],argTypes := #[t] }) ty E K L F (.int .i64 len):=by
 intro a w _ _ _ _ ha
 have h2:=ht.kd
 rw [hk] at h2
 simp [execOp,resolve,invoke,builtin,ha.eval hx,Builtin.len_,run_underlying h2.1,goInt]
def evals (K:List (Nat×Value)):List Operand→Option (List Value)
 | []=>some []
 | x :: r=>match Kev K x,evals K r with
  | some v,some vs=>some (v :: vs)
  | _,_=>none
theorem zFQ (ha:SP E K L F a w):∀ {xs:List Operand} {vs:List Value},evals K xs=some vs→xs.map a.eval=vs
 | [],vs,h=>by simp only [evals,Option.some.injEq] at h; subst h; rfl
 | x :: r,vs,h=>by
  simp only [evals] at h
  cases hx:Kev K x with
  | none=>rw [hx] at h; cases h
  | some v =>
   cases hr:evals K r with
   | none=>rw [hx,hr] at h; cases h
   | some vs' =>
    rw [hx,hr] at h
    simp only [Option.some.injEq] at h
    subst h
    simp [ha.eval hx,zFQ ha hr]
variable {p q:Int} {k:IntKind} {t t2:TypeId}
theorem Y.add (hx:Kev K x=some (.int k p)) (hy:Kev K y=some (.int k q)):Yld P (.binOp .add t x y t2) ty E K L F (.int k (k.wrap (p+q))):=by
 intro a w _ _ _ _ ha
 simp [execOp,eqGuard,binOp,Op.intArith,ha.eval hx,ha.eval hy]
theorem Y.sub (hx:Kev K x=some (.int k p)) (hy:Kev K y=some (.int k q)):Yld P (.binOp .sub t x y t2) ty E K L F (.int k (k.wrap (p - q))):=by
 intro a w _ _ _ _ ha
 simp [execOp,eqGuard,binOp,Op.intArith,ha.eval hx,ha.eval hy]
theorem Y.mul (hx:Kev K x=some (.int k p)) (hy:Kev K y=some (.int k q)):Yld P (.binOp .mul t x y t2) ty E K L F (.int k (k.wrap (p*q))):=by
 intro a w _ _ _ _ ha
 simp [execOp,eqGuard,binOp,Op.intArith,ha.eval hx,ha.eval hy]
theorem Y.quo (hx:Kev K x=some (.int k p)) (hy:Kev K y=some (.int k q)) (h0:q≠0):Yld P (.binOp .quo t x y t2) ty E K L F (.int k (k.wrap (p.tdiv q))):=by
 intro a w _ _ _ _ ha
 simp [execOp,eqGuard,binOp,Op.intDiv,ha.eval hx,ha.eval hy,h0]
theorem Y.rem (hx:Kev K x=some (.int k p)) (hy:Kev K y=some (.int k q)) (h0:q≠0):Yld P (.binOp .rem t x y t2) ty E K L F (.int k (p.tmod q)):=by
 intro a w _ _ _ _ ha
 simp [execOp,eqGuard,binOp,Op.intDiv,ha.eval hx,ha.eval hy,h0]
theorem Y.lss (hx:Kev K x=some (.int k p)) (hy:Kev K y=some (.int k q)):Yld P (.binOp .lss t x y t2) ty E K L F (.bool (decide (p<q))):=by
 intro a w _ _ _ _ ha
 simp [execOp,eqGuard,binOp,Op.intCmp,ha.eval hx,ha.eval hy]
theorem Y.leq (hx:Kev K x=some (.int k p)) (hy:Kev K y=some (.int k q)):Yld P (.binOp .leq t x y t2) ty E K L F (.bool (decide (p≤q))):=by
 intro a w _ _ _ _ ha
 simp [execOp,eqGuard,binOp,Op.intCmp,ha.eval hx,ha.eval hy]
theorem Y.gtr (hx:Kev K x=some (.int k p)) (hy:Kev K y=some (.int k q)):Yld P (.binOp .gtr t x y t2) ty E K L F (.bool (decide (q<p))):=by
 intro a w _ _ _ _ ha
 simp [execOp,eqGuard,binOp,Op.intCmp,ha.eval hx,ha.eval hy]
theorem Y.geq (hx:Kev K x=some (.int k p)) (hy:Kev K y=some (.int k q)):Yld P (.binOp .geq t x y t2) ty E K L F (.bool (decide (q≤p))):=by
 intro a w _ _ _ _ ha
 simp [execOp,eqGuard,binOp,Op.intCmp,ha.eval hx,ha.eval hy]
theorem Y.eql (hx:Kev K x=some (.int k p)) (hy:Kev K y=some (.int k q)):Yld P (.binOp .eql t x y t2) ty E K L F (.bool (decide (p=q))):=by
 intro a w _ _ _ _ ha
 simp [execOp,eqGuard,binOp,Op.intCmp,ha.eval hx,ha.eval hy,BEq.beq]
theorem Y.neq (hx:Kev K x=some (.int k p)) (hy:Kev K y=some (.int k q)):Yld P (.binOp .neq t x y t2) ty E K L F (.bool (!decide (p=q))):=by
 intro a w _ _ _ _ ha
 simp [execOp,eqGuard,binOp,Op.intCmp,ha.eval hx,ha.eval hy,bne,BEq.beq]
theorem Y.not {b:Bool} (hx:Kev K x=some (.bool b)):Yld P (.unOp .not t x) ty E K L F (.bool (!b)):=by
 intro a w _ _ _ _ ha
 simp [execOp,Op.unary,ha.eval hx]
theorem Y.neg (hx:Kev K x=some (.int k p)):Yld P (.unOp .neg t x) ty E K L F (.int k (k.wrap (0 - p))):=by
 intro a w _ _ _ _ ha
 simp [execOp,Op.unary,Op.intArith,ha.eval hx]
variable {ops:Array Oper} {l:List Oper} {kk:List It}
theorem JO.new {d:Nat} {op:Op} {pos:String} {after:Array Edge} {o:Obj} (hd:(Nat.ble (d+1) E.n&&Opnd op)=true)
  (hy:∀ a w,SP E K L F a w→(execOp a.eval ⟨some d,op,ty,pos,after,none⟩).run P w = .ok (.value (.pointer (some ⟨w.heap.size,0,none⟩))) (w.alloc o))
  (h:∀ b,JO P ρ Q ops (SP E ((d,.pointer (some ⟨b,0,none⟩)) :: K) ((some b,o) :: L) F) l kk):JO P ρ Q ops (SP E K L F) (⟨some d,op,ty,pos,after,none⟩ :: l) kk:=by
 intro a w ha
 refine wpListIn_plain rfl fun K' hK=>?_
 refine Qu (hdo hd) ?_
 rw [hy a w ha]
 exact hK _ _ (h w.heap.size _ _ ((ha.alloc o).put (hdn hd) _))
theorem JO.newV {d:Nat} {op:Op} {pos:String} {after:Array Edge} {o:Obj} (f:Nat→Value) (hd:(Nat.ble (d+1) E.n&&Opnd op)=true)
  (hy:∀ a w,SP E K L F a w→(execOp a.eval ⟨some d,op,ty,pos,after,none⟩).run P w = .ok (.value (f w.heap.size)) (w.alloc o))
  (h:∀ b,JO P ρ Q ops (SP E ((d,f b) :: K) ((some b,o) :: L) F) l kk):JO P ρ Q ops (SP E K L F) (⟨some d,op,ty,pos,after,none⟩ :: l) kk:=by
 intro a w ha
 refine wpListIn_plain rfl fun K' hK=>?_
 refine Qu (hdo hd) ?_
 rw [hy a w ha]
 exact hK _ _ (h w.heap.size _ _ ((ha.alloc o).put (hdn hd) _))
theorem JO.makeMap {d:Nat} {pos:String} {after:Array Edge} (hd:(Nat.ble (d+1) E.n&&Opnd (.makeMap t none))=true)
  (h:∀ b,JO P ρ Q ops (SP E ((d,.map (some b)) :: K) ((some b,.map #[] 0) :: L) F) l kk):JO P ρ Q ops (SP E K L F) (⟨some d,.makeMap t none,ty,pos,after,none⟩ :: l) kk:=by
 refine JO.newV (fun b=>.map (some b)) hd (fun a w ha=>?_) h
 simp [execOp,Instr.makeMap]
theorem JO.box {d:Nat} {pos:String} {after:Array Edge} {c:List Value} (hx:Kev K x=some (.agg c.toArray)) (hd:(Nat.ble (d+1) E.n&&Opnd (.box t x))=true)
  (h:∀ b,JO P ρ Q ops (SP E ((d,.pointer (some ⟨b,0,none⟩)) :: K) ((some b,bx c t) :: L) F) l kk):JO P ρ Q ops (SP E K L F) (⟨some d,.box t x,ty,pos,after,none⟩ :: l) kk:=by
 refine JO.new (o:=bx c t) hd (fun a w ha=>?_) h
 simp [execOp,Instr.box,newVar,newRow,ha.eval hx,Value.cells]
theorem JO.alloc {d:Nat} {pos:String} {after:Array Edge} {i:Ti} {c:List Value} [ht:TyOK P t i] (hz:i.zc=some c) (hd:(Nat.ble (d+1) E.n&&Opnd (.alloc t))=true)
  (h:∀ b,JO P ρ Q ops (SP E ((d,.pointer (some ⟨b,0,none⟩)) :: K) ((some b,bx c t) :: L) F) l kk):JO P ρ Q ops (SP E K L F) (⟨some d,.alloc t,ty,pos,after,none⟩ :: l) kk:=by
 refine JO.new (o:=bx c t) hd (fun a w ha=>?_) h
 have:c=i.zs:=by cases i; simpa [Ti.zc] using hz.symm
 subst this
 simp [execOp,Instr.alloc,newVar,newRow,ht.zero,ht.zcells]
def setAt (c:List Value) (off:Nat):List Value→List Value
 | []=>c
 | v :: r=>setAt (Nset c off v) (off+1) r
theorem zFs (c:List Value) (i:Nat) (v:Value):(Nset c i v).length=c.length:=by rw [zAX]; simp
theorem zHF (L:OwnL):∀ (j:Nat) (p q:Option Nat×Obj),Nget L j=some p→Nget (Nset L j q) j=some q:=by
 intro j p q h
 rw [QN] at *
 rw [zAX,List.getElem?_set_self (List.getElem?_eq_some_iff.1 h).1]
theorem zNM (L:OwnL) (j:Nat) (p q:Option Nat×Obj):Nset (Nset L j p) j q=Nset L j q:=by simp [zAX]
theorem SP.zE3 {j b:Nat} {t':TypeId}:∀ (vs:List Value) (i:Nat) (c:List Value) (L:OwnL) (w:World),SP E K L F a w→Nget L j=some (some b,bx c t')→∀ off,off+i+vs.length≤c.length→(∀ v∈vs,v.oneCell'=true) →
  ∃ w',(storeCells ⟨b,off,none⟩ vs i).run P w = .ok () w'∧SP E K (Nset L j (some b,bx (setAt c (off+i) vs) t')) F a w'
 | [],i,c,L,w,h,hj,off,_,_=>by
  refine ⟨w,by simp [storeCells],?_⟩
  have:Nset L j (some b,bx (setAt c (off+i) []) t')=L:=by
   rw [zAX]
   apply List.ext_getElem?
   intro k
   rw [QN] at hj
   by_cases hk:j=k
   ·subst hk
    rw [List.getElem?_set_self (List.getElem?_eq_some_iff.1 hj).1,hj]; rfl
   ·rw [List.getElem?_set_ne hk]
  rw [this]; exact h
 | v :: vs,i,c,L,w,h,hj,off,hl,h1=>by
  simp only [List.length_cons] at hl
  have hv:v.oneCell'=true:=h1 v List.mem_cons_self
  have hcell:w.cell? ⟨b,off+i,none⟩=some (c.getD (off+i) undef):=h.zKJ hj (by rw [QN,List.getD,List.getElem?_eq_getElem (by omega)]; rfl)
  have hfr:w.frozen? ⟨b,off+i,none⟩=false:=by
   unfold World.frozen?
   rw [(h.zD9 hj).2]
   simp [bx]
  have h2:=h.store hj (off+i) v
  obtain ⟨w',hr,hsp⟩:=SP.zE3 vs (i+1) (Nset c (off+i) v) _ _ h2 (zHF _ _ _ _ hj) off (by rw [zFs]; omega) (fun u hu=>h1 u (List.mem_cons_of_mem _ hu))
  refine ⟨w',?_,?_⟩
  ·simp only [storeCells,Sem.run_bind,Addr.Qr,run_store _ _ _ _ _ hv,hcell,hfr,Bool.false_eq_true,if_false,Result.andThen_ok]
   exact hr
  ·rw [zNM] at hsp
   exact hsp
def zGE : List Value→Nat→List Value→Option (List Value)
 | c,_,[]=>some c
 | c,off,v :: r=>match zDN c off v with
  | some c' => zGE c' (off+1) r
  | none=>none
theorem zHU : ∀ {r c:List Value} {off:Nat} {c':List Value},zGE c off r=some c'→c'=setAt c off r∧(r≠[]→off+r.length≤c.length)
 | [],c,off,c',h=>by simp only [zGE,Option.some.injEq] at h; subst h; simp [setAt]
 | v :: r,c,off,c',h=>by
  simp only [zGE] at h
  cases hr:zDN c off v with
  | none=>rw [hr] at h; cases h
  | some c1 =>
   rw [hr] at h
   obtain ⟨h1,h2⟩:=zCd hr
   subst h1
   obtain ⟨h3,h4⟩:=zHU h
   refine ⟨h3,fun _=>?_⟩
   rw [zFs] at h4
   by_cases hr0:r=[]
   ·subst hr0; simp; omega
   ·have:=h4 hr0; simp; omega
theorem JO.store {pos:String} {after:Array Edge} {i:Ti} {j b off:Nat} {c c':List Value} {t':TypeId} {L':OwnL} [ht:TyOK P t i] (hx:Kev K x=some (.pointer (some ⟨b,off,none⟩))) (hy:Kev K y=some v) (hv:v.cells = #[v]) (hi:i.size=1) (h1:v.oneCell'=true)
  (hj:Nget L j=some (some b,bx c t')) (hc:zDN c off v=some c') (hL:zDN L j (some b,bx c' t')=some L')
  (h:JO P ρ Q ops (SP E K L' F) l kk):JO P ρ Q ops (SP E K L F) (⟨none,.store t x y,ty,pos,after,none⟩ :: l) kk:=by
 obtain ⟨rfl,hl⟩:=zCd hc
 obtain ⟨rfl,_⟩:=zCd hL
 intro a w ha
 refine wpListIn_plain rfl fun K' hK=>?_
 refine Qu rfl ?_
 obtain ⟨w',hr,hsp⟩:=SP.zE3 (P:=P) [v] 0 c L w ha hj off (by simp; omega) (by simpa using h1)
 have:(execOp a.eval ⟨none,.store t x y,ty,pos,after,none⟩).run P w = .ok .skip w':=by
  simp [execOp,Instr.storeAt,Instr.sureAddr,ha.eval hx,ha.eval hy,storeVar,hv,ht.size,hi,hr]
 rw [this]
 exact hK _ _ (h _ _ hsp)
theorem JO.zE3 {pos:String} {after:Array Edge} {i:Ti} {j b off:Nat} {c c' vs:List Value} {t':TypeId} {L':OwnL} [ht:TyOK P t i] (hx:Kev K x=some (.pointer (some ⟨b,off,none⟩))) (hy:Kev K y=some (.agg vs.toArray)) (hi:i.size=vs.length) (h1:vs.all (·.oneCell')=true)
  (hj:Nget L j=some (some b,bx c t')) (hc:zGE c off vs=some c') (hL:zDN L j (some b,bx c' t')=some L')
  (h:JO P ρ Q ops (SP E K L' F) l kk):JO P ρ Q ops (SP E K L F) (⟨none,.store t x y,ty,pos,after,none⟩ :: l) kk:=by
 obtain ⟨rfl,hl⟩:=zHU hc
 obtain ⟨rfl,_⟩:=zCd hL
 intro a w ha
 refine wpListIn_plain rfl fun K' hK=>?_
 refine Qu rfl ?_
 have hsp':∃ w',(storeCells ⟨b,off,none⟩ vs 0).run P w = .ok () w'∧SP E K (Nset L j (some b,bx (setAt c (off+0) vs) t')) F a w':=by
  by_cases h0:vs=[]
  ·subst h0
   refine ⟨w,by simp [storeCells],?_⟩
   have:Nset L j (some b,bx (setAt c (off+0) []) t')=L:=by
    rw [zAX]
    apply List.ext_getElem?
    intro k
    rw [QN] at hj
    by_cases hk:j=k
    ·subst hk
     rw [List.getElem?_set_self (List.getElem?_eq_some_iff.1 hj).1,hj]; rfl
    ·rw [List.getElem?_set_ne hk]
   rw [this]; exact ha
  ·exact SP.zE3 (P:=P) vs 0 c L w ha hj off (by have:=hl h0; omega) (by simpa using h1)
 obtain ⟨w',hr,hsp⟩:=hsp'
 have:(execOp a.eval ⟨none,.store t x y,ty,pos,after,none⟩).run P w = .ok .skip w':=by
  simp [execOp,Instr.storeAt,Instr.sureAddr,ha.eval hx,ha.eval hy,storeVar,Value.cells,ht.size,hi,hr]
 rw [this]
 exact hK _ _ (h _ _ hsp)
def Hp (E:En) (K:List (Nat×Value)) (L:OwnL) (F:Mem→Prop) (b:Nat) (o:Obj):Prop := ∀ a w,SP E K L F a w→w.heap[b]? = some o
theorem Hp.own {j b:Nat} {o:Obj} (h:Nget L j=some (some b,o)):Hp E K L F b o:=fun a w ha=>(ha.zD9 h).2
theorem Hp.ext {b:Nat} {o:Obj} (h:∀ m,F m→m b=some o):Hp E K L F b o:=fun a w ha=>zF0 E L w ha.keep b o (h _ ha.facts)
theorem checkKey_int' {e:Bool} {kt:TypeId} {ik:IntKind} {n:Int} (h:P.underlying kt=some (.int ik)) (w:World) (d:Nat):(Instr.checkKey e (d+1) kt (.int ik n)).run P w = .ok () w:=by
 simp [Instr.checkKey,run_underlying h]
theorem zEj {e:Bool} {kt:TypeId} {ik:IntKind} {n:Int} (h:P.underlying kt=some (.int ik)) (w:World):(Instr.checkKey e 10000 kt (.int ik n)).run P w = .ok () w :=
 checkKey_int' h w 9999
theorem qm {r:Nat} {es:Array MapEntry} {c:Nat} (h:w.heap[r]? = some (.map es c)):(getObj r).run P w = .ok (.map es c) w:=by
 simp [getObj,Sem.run,h]
def zDI (ik:IntKind) (n:Int) (es:List MapEntry) (i:Nat):Option (Option (Nat×Value)):=Instr.findNow (.int ik) (.int ik n) es i
theorem zG1 {ik:IntKind} {n:Int}:∀ {es:List MapEntry} {i:Nat},(∀ e∈es,∃ k,e.key = .int ik k∧k≠n)→zDI ik n es i=some none
 | [],_,_=>rfl
 | e :: es,i,h=>by
  obtain ⟨k,h1,h2⟩:=h e List.mem_cons_self
  have h3:(n==k)=false:=by simp; exact fun e=>h2 e.symm
  unfold zDI
  simp only [Instr.findNow,Instr.sameNow,h1,if_true,h3]
  exact zG1 fun e he=>h e (List.mem_cons_of_mem _ he)
theorem zG0 {ik:IntKind} {n:Int} {v:Value} {b:Nat}:∀ {es:List MapEntry} {j i:Nat},(∀ k e,k<j→es[k]? = some e→∃ k,e.key = .int ik k∧k≠n)→es[j]? = some (MapEntry.mk (.int ik n) v b)→zDI ik n es i=some (some (i+j,v))
 | [],_,_,_,h=>by simp at h
 | e :: es,0,i,_,h=>by
  simp only [List.getElem?_cons_zero,Option.some.injEq] at h
  subst h
  unfold zDI
  simp [Instr.findNow,Instr.sameNow]
 | e :: es,j+1,i,h0,h=>by
  obtain ⟨k,h1,h2⟩:=h0 0 e (by omega) rfl
  have h3:(n==k)=false:=by simp; exact fun e=>h2 e.symm
  unfold zDI
  simp only [Instr.findNow,Instr.sameNow,h1,if_true,h3]
  have:=zG0 (ik:=ik) (n:=n) (v:=v) (b:=b) (es:=es) (j:=j) (i:=i+1) (fun k e hk he=>h0 (k+1) e (by omega) (by simpa using he)) (by simpa using h)
  unfold zDI at this
  rw [this]
  congr 3
  omega
theorem Y.lookup {t:TypeId} {i:Ti} {kt e:Nat} {ik:IntKind} {b c j:Nat} {n:Int} {es:List MapEntry} [ht:TyOK P t i] (hk:i.kd = .map kt e ik) (hx:Kev K x=some (.map (some b))) (hy:Kev K y=some (.int ik n)) (hm:Hp E K L F b (.map es.toArray c)) (hf:zDI ik n es 0=some (some (j,v))) :
  Yld P (.lookup t x y false) ty E K L F v:=by
 intro a w _ _ _ _ ha
 have h2:=ht.kd
 rw [hk] at h2
 have h3:=hm a w ha
 unfold zDI at hf
 simp [execOp,ha.eval hx,ha.eval hy,Instr.lookup,run_underlying h2.1,run_underlying h2.2,qm h3,zEj h2.2,Instr.findKey,hf]
theorem run_setObj_map {r:Nat} {es:Array MapEntry} {c:Nat} (h:w.heap[r]? = some (.map es c)) (o:Obj):(setObj r o).run P w = .ok () { w with heap:=w.heap.setIfInBounds r o }:=by
 simp [setObj,Sem.run,h]
class zFa (P:Program) (f:FuncId):Prop where
 call:∀ (args:Array Value) (w:World),(callFunc f args).run P w = .ok (.enter f args) w
def Does (P:Program) (f:FuncId) (args:List Value) (pre:Mem→Prop) (post:Value→Mem→Prop):Prop :=
 ∀ (m:Mem) (w:World),m.Le (wmem w)→pre m→Calls P f args.toArray w (fun e w' => ∃ v,e = .returned v∧Ext w w'∧post v (grow m w w'))
def Ent (P:Program) (op:Op) (ty:TypeId) (E:En) (K:List (Nat×Value)) (L:OwnL) (F:Mem→Prop) (f:FuncId) (args:List Value):Prop :=
 ∀ (a:Act) (w:World) (dst:Option Tmp) (pos:String) (after:Array Edge) (g:Option (Nat×Bool)),SP E K L F a w →
  (execOp a.eval ⟨dst,op,ty,pos,after,g⟩).run P w = .ok (.enter f args.toArray) w
theorem Ent.func {f:FuncId} {xs:List Operand} {vs:List Value} {ts:Array TypeId} [hc:zFa P f] (hv:evals K xs=some vs) :
  Ent P (.call { callee:=.value (.func f),args:=xs.toArray,argTypes:=ts }) ty E K L F f vs:=by
 intro a w _ _ _ _ ha
 have:=zFQ ha hv
 simp [execOp,resolve,Deferred.ofValue,invoke,Act.eval,hc.call,this]
theorem Ent.value {f:FuncId} {x:Operand} {caps:List Value} {xs:List Operand} {vs:List Value} {ts:Array TypeId} (hx:Kev K x=some (.func (.func f) #[] caps.toArray)) [hc:zFa P f] (hv:evals K xs=some vs) :
  Ent P (.call { callee:=.value x,args:=xs.toArray,argTypes:=ts }) ty E K L F f (vs++caps):=by
 intro a w _ _ _ _ ha
 have:=zFQ ha hv
 simp [execOp,resolve,Deferred.ofValue,invoke,ha.eval hx,hc.call,this]
theorem zNA (ha:SP E K L F a w) {w':World} (he:Ext w w'):(grow (look E L w) w w').Le (look E L w'):=by
 intro k o h
 unfold grow at h
 split at h
 ·rename_i hk
  unfold look at *
  split at h
  ·cases h
  ·rename_i hn
   rw [if_neg hn]
   split at h
   ·rename_i h1; rw [if_pos h1]; exact h
   ·rename_i h1; rw [if_neg h1,he.block k hk]; exact h
 ·rename_i hk
  unfold look
  have : ¬ ((L.any (fun p=>p.1==some k)||E.hid k)=true):=by
   intro hc
   rw [Bool.or_eq_true] at hc
   rcases hc with hc | hc
   ·obtain ⟨p,hp,hpk⟩:=List.any_eq_true.1 hc
    have:=(ha.own p hp k (by simpa using hpk)).2
    exact hk (Array.getElem?_eq_some_iff.1 this).1
   ·exact hk (ha.hid k hc)
  rw [if_neg this,if_neg (by have:=ha.base.size; omega)]
  exact h
theorem JO.call [Mono F] {d:Nat} {op:Op} {pos:String} {after:Array Edge} {f:FuncId} {args:List Value} {pre:Mem→Prop} {post:Value→Mem→Prop} {g:Option (Nat×Bool)} (hg:GOn ops K g) (hc:Ent P op ty E K L F f args) (hs:Does P f args pre post) (hpre:∀ m,F m→pre m) [hm:∀ v,Mono (post v)]
  (hd:(Nat.ble (d+1) E.n&&Opnd op)=true) (h:∀ v,JO P ρ Q ops (SP E ((d,v) :: K) L (fun m=>F m∧post v m)) l kk):JO P ρ Q ops (SP E K L F) (⟨some d,op,ty,pos,after,g⟩ :: l) kk:=by
 intro a w ha
 refine wpListIn_step fun K' hK=>?_
 rw [zEu hg ha,if_pos rfl]
 refine Qu (hdo hd) ?_
 rw [hc a w _ _ _ _ ha]
 refine ⟨(fun h=>by cases h),zBd.2 ?_⟩
 refine (hs (look E L w) w (zF0 E L w ha.keep) (hpre _ ha.facts)).mono ?_
 rintro e w' ⟨v,rfl,he,hp⟩
 refine hK _ _ (h v _ _ (SP.put ?_ (hdn hd) v))
 have h2:=ha.ext he
 exact { h2 with facts:=⟨h2.facts,(hm v).mono _ _ (zNA ha he) hp⟩ }
theorem JO.zAU [Mono F] {d:Nat} {op:Op} {pos:String} {after:Array Edge} {f:FuncId} {args:List Value} {v:Value} {g:Option (Nat×Bool)} (hg:GOn ops K g) (hc:Ent P op ty E K L F f args) (hs:∀ m,F m→Does P f args (fun m' => m.Le m') (fun u _=>u=v))
  (hd:(Nat.ble (d+1) E.n&&Opnd op)=true) (h:JO P ρ Q ops (SP E ((d,v) :: K) L F) l kk):JO P ρ Q ops (SP E K L F) (⟨some d,op,ty,pos,after,g⟩ :: l) kk:=by
 intro a w ha
 refine wpListIn_step fun K' hK=>?_
 rw [zEu hg ha,if_pos rfl]
 refine Qu (hdo hd) ?_
 rw [hc a w _ _ _ _ ha]
 refine ⟨(fun h=>by cases h),zBd.2 ?_⟩
 refine (hs _ ha.facts (wmem w) w (Mem.Le.rfl' _) (zF0 E L w ha.keep)).mono ?_
 rintro e w' ⟨u,rfl,he,hp⟩
 rw [hp]
 exact hK _ _ (h _ _ ((ha.ext he).put (hdn hd) v))
theorem JQ.zAU [Mono F] {d:Nat} {op:Op} {pos:String} {after:Array Edge} {f:FuncId} {args:List Value} {v:Value} {g:Option (Nat×Bool)} (hg:GOn ops K g) (hc:Ent P op ty E K L F f args) (hs:∀ m,F m→Does P f args (fun m' => m.Le m') (fun u _=>u=v))
  (hd:(Nat.ble (d+1) E.n&&Opnd op)=true) (h:JQ P ρ Q ops E ((d,v) :: K) L F l kk):JQ P ρ Q ops E K L F (⟨some d,op,ty,pos,after,g⟩ :: l) kk:=by
 intro w0 a ha
 refine wpQuiet_step fun K' hK=>?_
 rw [zEu hg (ha w0 (Ext.rfl' _)),if_pos rfl]
 refine ⟨v,fun w hw=>?_,hK _ (h w0 _ fun w hw=>(ha w hw).put (hdn hd) v)⟩
 unfold Oper.quietAt
 rw [hc a w _ _ _ _ (ha w hw)]
 refine ⟨rfl,(hs _ (ha w hw).facts (wmem w) w (Mem.Le.rfl' _) (zF0 E L w (ha w hw).keep)).mono ?_⟩
 rintro e w' ⟨u,rfl,he,hp⟩
 rw [hp]
 exact ⟨rfl,hw.tr he⟩
def RetP (P:Program) (fn:Func) (B:World) (m:Mem) (post:Value→Mem→Prop):Exit→Act→World→Prop :=
 bodyPostM (Wd none) 0 P fn (fun e w' => ∃ v,e = .returned v∧Ext B w'∧post v (grow m B w'))
def rdR (tmps:Array Value):ResultVar→Sem Value
 | .tmp t=>pure (tmps.getD t undef)
 | .cell a t=>do loadVar t (← asAddr (tmps.getD a undef))
theorem zGJ (fn:Func) (tmps:Array Value):results fn tmps=(do
  let vs ← fn.results.mapM (rdR tmps)
  pure (if h:vs.size=1 then vs[0] else .tuple vs)):=rfl
def Rsl (P:Program) (E:En) (K:List (Nat×Value)) (L:OwnL) (F:Mem→Prop) (r:ResultVar) (v:Value):Prop :=
 ∀ a w,SP E K L F a w→(rdR a.tmps r).run P w = .ok v w
theorem Rsl.tmp {t:Tmp} (h:Kget K t=some v):Rsl P E K L F (.tmp t) v:=by
 intro a w ha
 have:=ha.slots t v h
 simp [rdR,Array.getD_eq_getD_getElem?,this]
theorem Rsl.cell {c:Tmp} {i:Ti} {j b off:Nat} {cs:List Value} {t':TypeId} [ht:TyOK P t i] (ha':i.agg=false) (h:Kget K c=some (.pointer (some ⟨b,off,none⟩))) (hj:Nget L j=some (some b,bx cs t')) (hv:Nget cs off=some v):Rsl P E K L F (.cell c t) v:=by
 intro a w ha
 have h1:=ha.slots c _ h
 have h2:=ha.zKJ hj hv
 simp [rdR,Array.getD_eq_getD_getElem?,h1,asAddr,loadVar,ht.agg,ha',run_load,h2]
theorem takeD {D:Nat} (h:w.heap[D]? = some (.deferred (some []))):(Instr.takeDeferred D).run P w = .ok [] { w with heap:=w.heap.setIfInBounds D (.deferred none) }:=by
 simp [Instr.takeDeferred,getObj,setObj,Sem.run,h]
theorem SP.shut (ha:SP E K L F a w) {w':World} (hs:Stays E.B w') (hsz:w'.heap.size=w.heap.size) (hkeep:∀ D∈E.ds,E.keep D=none) (hk:∀ k,k∉E.ds→w'.heap[k]? = w.heap[k]?) (hW:E.W w'):SP { E with ds:=[] } K L F { a with defers:=[] } w':=by
 have hnd:∀ k,E.hid k=false→k∉E.ds:=fun k hh hD=>by rw [(ha.dsk k hD).2.1] at hh; cases hh
 refine { size:=ha.size,defers:=rfl,slots:=ha.slots,base:=hs,keep:=fun k o hk' => ?_,hid:=fun k hk' => by rw [hsz]; exact ha.hid k hk',dsk:=fun D hD=>(by cases hD),dsn:=List.nodup_nil,inv:=hW,own:=fun p hp b hb=>?_,nodup:=ha.nodup,facts := ?_ }
 ·show w'.heap[k]? = some o
  rw [hk k (fun hD=>by rw [hkeep k hD] at hk'; cases hk')]
  exact ha.keep k o hk'
 ·obtain ⟨h1,h2⟩:=ha.own p hp b hb
  exact ⟨h1,by rw [hk b (hnd b h1.2.1)]; exact h2⟩
 ·have:look { E with ds:=[] } L w'=look E L w:=by
   funext k
   unfold look
   split
   ·rfl
   ·rename_i hn
    split
    ·rfl
    ·rw [Bool.or_eq_true,not_or] at hn
     exact hk k (hnd k (by simpa using hn.2))
  rw [this]; exact ha.facts
theorem JS.mk {A:Act→World→Prop} {k:List It} (h:∀ a w,A a w→S P ρ Q k .normal a w):JS P ρ Q A k:=h
theorem JS.out {A:Act→World→Prop} {k:List It} (h:JS P ρ Q A k):∀ a w,A a w→S P ρ Q k .normal a w:=h
theorem JO.mk {A:Act→World→Prop} (h:∀ a w,A a w→wpListIn (Wd ρ) 0 P ops (S P ρ Q kk) l a w):JO P ρ Q ops A l kk:=h
theorem JO.out {A:Act→World→Prop} (h:JO P ρ Q ops A l kk):∀ a w,A a w→wpListIn (Wd ρ) 0 P ops (S P ρ Q kk) l a w:=h
theorem Yld.mk {op:Op} (h:∀ (a:Act) (w:World) (dst:Option Tmp) (pos:String) (after:Array Edge) (g:Option (Nat×Bool)),SP E K L F a w →
  (execOp a.eval ⟨dst,op,ty,pos,after,g⟩).run P w = .ok (.value v) w):Yld P op ty E K L F v:=h
theorem Yld.out {op:Op} (h:Yld P op ty E K L F v):∀ (a:Act) (w:World) (dst:Option Tmp) (pos:String) (after:Array Edge) (g:Option (Nat×Bool)),SP E K L F a w →
  (execOp a.eval ⟨dst,op,ty,pos,after,g⟩).run P w = .ok (.value v) w:=h
theorem Ent.mk {op:Op} {f:FuncId} {args:List Value} (h:∀ (a:Act) (w:World) (dst:Option Tmp) (pos:String) (after:Array Edge) (g:Option (Nat×Bool)),SP E K L F a w →
  (execOp a.eval ⟨dst,op,ty,pos,after,g⟩).run P w = .ok (.enter f args.toArray) w):Ent P op ty E K L F f args:=h
theorem Ent.out {op:Op} {f:FuncId} {args:List Value} (h:Ent P op ty E K L F f args):∀ (a:Act) (w:World) (dst:Option Tmp) (pos:String) (after:Array Edge) (g:Option (Nat×Bool)),SP E K L F a w →
  (execOp a.eval ⟨dst,op,ty,pos,after,g⟩).run P w = .ok (.enter f args.toArray) w:=h
theorem Does.mk {f:FuncId} {args:List Value} {pre:Mem→Prop} {post:Value→Mem→Prop} (h:∀ (m:Mem) (w:World),m.Le (wmem w)→pre m→Calls P f args.toArray w (fun e w' => ∃ v,e = .returned v∧Ext w w'∧post v (grow m w w'))):Does P f args pre post:=h
theorem Does.out {f:FuncId} {args:List Value} {pre:Mem→Prop} {post:Value→Mem→Prop} (h:Does P f args pre post):∀ (m:Mem) (w:World),m.Le (wmem w)→pre m→Calls P f args.toArray w (fun e w' => ∃ v,e = .returned v∧Ext w w'∧post v (grow m w w')):=h
theorem Does.weaken {f:FuncId} {args:List Value} {pre pre':Mem→Prop} {post post':Value→Mem→Prop} (h:Does P f args pre post) (h1:∀ m,pre' m→pre m) (h2:∀ v m,post v m→post' v m):Does P f args pre' post' :=
 fun m w hm hp=>(h m w hm (h1 m hp)).mono fun e w' ⟨v,he,hx,hq⟩=>⟨v,he,hx,h2 v _ hq⟩
end
attribute [irreducible] JS JO JQ Yld Ent Does Rsl RetP
end Go.Wk
