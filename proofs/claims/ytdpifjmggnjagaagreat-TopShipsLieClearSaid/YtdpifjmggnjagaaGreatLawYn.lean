/- Part of the proof of TopShipsLieClear: plain laws about the functions of M, no program in sight. Conditions: none. -/
import Derived.Test.YtdpifjmggnjagaaGreatLawYk
set_option linter.unusedVariables false
set_option linter.unusedSimpArgs false
namespace Go.Mx
theorem zRH {l:List zV} (hd:l.Pairwise (fun a b=>a.ID≠b.ID)) {j:Nat} (hj:j<l.length):zCb (fun b:zV=>decide (b.ID=l[j].ID)) l 0=(j:Int):=by
 rcases zDf (fun b:zV=>decide (b.ID=l[j].ID)) l 0 with ⟨h1,h2⟩ | ⟨i,h1,h2,h3,h4⟩
 ·have:=h2 _ (bz hj); simp at this
 ·rw [show (0:Int)=((0:Nat):Int) from rfl,h1,Nat.zero_add]
  have e:l[i].ID=l[j].ID:=by simpa using h3
  rcases Nat.lt_trichotomy i j with c | c | c
  ·exact absurd e (List.pairwise_iff_getElem.1 hd i j h2 hj c)
  ·rw [c]
  ·exact absurd e.symm (List.pairwise_iff_getElem.1 hd j i hj h2 c)
def inM (m:List (Int×Bool)) (i:Nat):Bool:=(za (i:Int) m).getD false
def idsL (l:List zV) (p:Nat→Bool):List Int:=((List.range l.length).filter p).map fun i=>(l.getD i default).ID
def nbL (b:zI) (p:Nat→Bool):List Nat:=(List.range b.slots.length).filter fun k=>(List.range b.calls.length).any fun j=>canB b j k&&p j
def Yz (b:zI) (p:Nat→Bool):Zu:=⟨srtI (idsL b.calls p),(nbL b p).map fun k=>b.slots.getD k default⟩
theorem zQ9 (l:List zV) (p:Nat→Bool):(idsL l p).length≤l.length:=by
 unfold idsL
 rw [List.length_map]
 have:=List.length_filter_le p (List.range l.length)
 simpa using this
theorem nbL_len (b:zI) (p:Nat→Bool):(nbL b p).length≤b.slots.length:=by
 unfold nbL
 have:=List.length_filter_le (fun k=>(List.range b.calls.length).any fun j=>canB b j k&&p j) (List.range b.slots.length)
 simpa using this
theorem zDg (p:Nat→Bool) (n:Nat):(List.range (n+1)).filter p=(List.range n).filter p++if p n=true then [n] else []:=by
 rw [List.range_succ,List.filter_append,List.filter_cons]
 simp
theorem zKJ {h:zN} {l:List zV} (hg:JL h l) (ships:List (Int×Bool)):yL (zg h l) ships=some (Yz (zg h l) (inM ships)):=by
 have hn:=hg.n
 have hB:=zEX hg
 have ns:=hB.ns
 have ec:(zg h l).calls=l:=rfl
 have contains:∀ k,k<(zg h l).slots.length→ZQ l (zg h l) ((zg h l).slots.getD k default) ships=some ((List.range l.length).any fun j=>canB (zg h l) j k&&inM ships j):=fun k hk=>by
  unfold ZQ
  have hc1:∀ j (hj:j<l.length),yZ l[j] (zg h l) ((zg h l).slots.getD k default) ships=some (canB (zg h l) j k&&inM ships j):=fun j hj=>by
   unfold yZ
   rw [ec,zH3 l (by unfold Len; omega),zRH hg.d hj,ba,zB5 (d:=[]) (by simpa [zg] using hj),ba]
   rfl
  obtain ⟨r,h1,h2⟩:∃ r,ZV l (zg h l) ((zg h l).slots.getD k default) ships=some r∧decide (0≤r)=(List.range l.length).any fun j=>canB (zg h l) j k&&inM ships j:=by
   unfold ZV
   refine lp_inv' (fun i s=>s=(i:Int)∧∀ j,j<i→(canB (zg h l) j k&&inM ships j)=false) _ l.length (by omega) ⟨rfl,fun j hj=>by omega⟩ fun i s hi hI=>?_
   obtain ⟨rfl,hI⟩:=hI
   unfold jA
   by_cases e:i<l.length
   ·rw [bi (by simpa using e),ZY e,ba,hc1 i e,ba]
    by_cases c:(canB (zg h l) i k&&inM ships i)=true
    ·rw [bi c]
     refine .inr ⟨_,rfl,?_⟩
     rw [show decide ((0:Int)≤(i:Int))=true by simp]
     symm
     rw [List.any_eq_true]
     exact ⟨i,List.mem_range.2 e,c⟩
    ·rw [bg c]
     refine .inl ⟨e,_,rfl,w64s' e (by omega),fun j hj=>?_⟩
     by_cases w:j=i
     ·subst w; simpa using c
     ·exact hI j (by omega)
   ·rw [bg (by simpa using e)]
    refine .inr ⟨-1,rfl,?_⟩
    symm
    rw [show decide ((0:Int)≤-1)=false by decide,List.any_eq_false]
    intro x hx
    rw [hI x (by rw [cd] at hx; omega)]; simp
  rw [h1,ba,h2]
 unfold yL
 obtain ⟨⟨x,ids⟩,⟨rfl,h1⟩,h2⟩:=Qz (body:=yA (zg h l) ships) (X:=fun s=>JR (zg h l) ships s.2) (s0:=(0,[]))
  (fun j s=>s.1=(j:Int)∧s.2=((List.range j).filter (inM ships)).map fun i=>(l.getD i default).ID) l.length (by omega) ⟨rfl,rfl⟩
  (fun j s hj hI=>by
   obtain ⟨x,ids⟩:=s
   simp only at hI
   obtain ⟨rfl,rfl⟩:=hI
   have hlen:((List.range j).filter (inM ships)).length≤j:=by have:=List.length_filter_le (inM ships) (List.range j); simpa using this
   have hj6:∀ z,jk (j:Int) z=some (.inl (((j+1:Nat):Int),z)):=fun z=>by unfold jk; rw [w64s' hj (by omega)]
   unfold yA
   simp only [ec]
   rw [bi (by simpa using hj),zB5 (d:=default) hj,ba,show (za (j:Int) ships).getD false=inM ships j from rfl]
   by_cases c:inM ships j=true
   ·rw [bi c,Js (by simp; omega),ba,hj6]
    exact ⟨_,rfl,rfl,by simp only; rw [zDg,bi c,List.map_append]; rfl⟩
   ·rw [bg c,hj6]
    exact ⟨_,rfl,rfl,by simp only; rw [zDg,bg c,List.append_nil]⟩)
  (fun s hI=>by
   obtain ⟨x,ids⟩:=s
   simp only at hI
   obtain ⟨rfl,_⟩:=hI
   unfold yA
   simp only [ec]
   rw [bg (by simp)])
 simp only at h1 h2
 have hids:ids=idsL l (inM ships):=h1
 have hil:=zQ9 l (inM ships)
 rw [h2,hids]
 unfold JR srtO
 rw [bi (by omega),ba]
 obtain ⟨⟨x,sl⟩,⟨rfl,g1⟩,g2⟩:=Qz (body:=yB (zg h l) ships (srtI (idsL l (inM ships)))) (X:=fun s=>J9 (srtI (idsL l (inM ships))) s.2) (s0:=(0,[]))
  (fun q s=>s.1=(q:Int)∧s.2=((List.range q).filter fun k=>(List.range l.length).any fun j=>canB (zg h l) j k&&inM ships j).map fun k=>(zg h l).slots.getD k default) (zg h l).slots.length (by omega) ⟨rfl,rfl⟩
  (fun q s hq hI=>by
   obtain ⟨x,sl⟩:=s
   simp only at hI
   obtain ⟨rfl,rfl⟩:=hI
   have hlen:((List.range q).filter fun k=>(List.range l.length).any fun j=>canB (zg h l) j k&&inM ships j).length≤q:=by have:=List.length_filter_le (fun k=>(List.range l.length).any fun j=>canB (zg h l) j k&&inM ships j) (List.range q); simpa using this
   have hj4:∀ z,jm (q:Int) z=some (.inl (((q+1:Nat):Int),z)):=fun z=>by unfold jm; rw [w64s' hq (by omega)]
   unfold yB
   simp only
   rw [bi (by simpa using hq),zB5 (d:=default) hq,ba,ec,contains q hq,ba]
   by_cases c:((List.range l.length).any fun j=>canB (zg h l) j q&&inM ships j)=true
   ·rw [bi c,Js (by simp; omega),ba,hj4]
    exact ⟨_,rfl,rfl,by simp only; rw [zDg,bi c,List.map_append]; rfl⟩
   ·rw [bg c,hj4]
    exact ⟨_,rfl,rfl,by simp only; rw [zDg,bg c,List.append_nil]⟩)
  (fun s hI=>by
   obtain ⟨x,sl⟩:=s
   simp only at hI
   obtain ⟨rfl,_⟩:=hI
   unfold yB
   simp only
   rw [bg (by simp)])
 simp only at g1 g2
 rw [g2,g1]; rfl
theorem eqI (a b:List Int) (ha:a.length≤1000000):slices_Equal_int a b=some (decide (a=b)):=by
 unfold slices_Equal_int
 by_cases e:a.length=b.length
 ·rw [bg (by simp [e])]
  refine (jK a (by omega) (fun (_:Unit) i=>i) (fun _ r=>decide (r=b.drop (a.length - r.length))) (fun _ _=>True) (a:=()) rfl trivial (fun _ i hi _=>?_) fun _ _=>?_).trans (by simp)
  ·have e1:a.length - (a[i] :: a.drop (i+1)).length=i:=by simp only [bt,List.length_drop]; omega
   have e2:a.length - (a.drop (i+1)).length=i+1:=by simp only [List.length_drop]; omega
   rw [e1,e2,List.drop_eq_getElem_cons (l:=b) (i:=i) (by omega)]
   unfold Yl
   rw [bi (by simpa using hi),ZY hi,ba,ZY (by omega),ba]
   by_cases c:a[i]=b[i]
   ·left; rw [bg (by simp [c]),w64s' hi (by omega)]; exact ⟨(),rfl,by simp only [List.cons.injEq,c,true_and],trivial⟩
   ·right; rw [bi (by simp [c])]; simp only [List.cons.injEq,c,false_and,decide_false]
  ·unfold Yl yS
   rw [bg (by simp)]
   simp; omega
 ·rw [bi (by simp; omega),decide_eq_false (fun q=>e (by rw [q]))]
theorem eqS (a b:List zK) (ha:a.length≤1000000):Jk a b=some (decide (a=b)):=by
 unfold Jk
 by_cases e:a.length=b.length
 ·rw [bg (by simp [e])]
  refine (jK a (by omega) (fun (_:Unit) i=>i) (fun _ r=>decide (r=b.drop (a.length - r.length))) (fun _ _=>True) (a:=()) rfl trivial (fun _ i hi _=>?_) fun _ _=>?_).trans (by simp)
  ·have e1:a.length - (a[i] :: a.drop (i+1)).length=i:=by simp only [bt,List.length_drop]; omega
   have e2:a.length - (a.drop (i+1)).length=i+1:=by simp only [List.length_drop]; omega
   rw [e1,e2,List.drop_eq_getElem_cons (l:=b) (i:=i) (by omega)]
   unfold Ju
   rw [bi (by simpa using hi),ZY hi,ba,ZY (by omega),ba]
   by_cases c:a[i]=b[i]
   ·left; rw [bg (by simp [c]),w64s' hi (by omega)]; exact ⟨(),rfl,by simp only [List.cons.injEq,c,true_and],trivial⟩
   ·right; rw [bi (by simp [c])]; simp only [List.cons.injEq,c,false_and,decide_false]
  ·unfold Ju JI
   rw [bg (by simp)]
   simp; omega
 ·rw [bi (by simp; omega),decide_eq_false (fun q=>e (by rw [q]))]
def zPM (b:zI) (x:Zu):Int×Int :=
 if x.Calls=[]∨x.Calls≠(Yz b fun i=>decide (i<b.calls.length∧(b.calls.getD i default).ID∈x.Calls)).Calls∨x.Slots≠(Yz b fun i=>decide (i<b.calls.length∧(b.calls.getD i default).ID∈x.Calls)).Slots∨x.Calls.length≤x.Slots.length then (0,8) else ((x.Calls.length:Int) - (x.Slots.length:Int),0)
theorem zHY {b:zI} {p q:Nat→Bool} (h:∀ i,i<b.calls.length→p i=q i):Yz b p=Yz b q:=by
 unfold Yz idsL nbL
 have e1:(List.range b.calls.length).filter p=(List.range b.calls.length).filter q:=List.filter_congr fun i hi=>h i (List.mem_range.1 hi)
 have e2:(fun k=>(List.range b.calls.length).any fun j=>canB b j k&&p j)=fun k=>(List.range b.calls.length).any fun j=>canB b j k&&q j:=by
  funext k
  rw [Bool.eq_iff_iff,List.any_eq_true,List.any_eq_true]
  constructor <;> rintro ⟨j,hj,hj2⟩ <;> refine ⟨j,hj,?_⟩
  ·rw [← h j (List.mem_range.1 hj)]; exact hj2
  ·rw [h j (List.mem_range.1 hj)]; exact hj2
 rw [e1,e2]
theorem zMn {h:zN} {l:List zV} (hh:LenH h) (hl:Len l) (ec:zB9 h l=0) {x:Zu} (hx:x.Calls.length≤1000) (hx2:x.Slots.length≤1000):Qk h l x=some (zPM (zg h l) x):=by
 have hg:=JL.of hh ec
 have hn:=hg.n
 have ecl:(zg h l).calls=l:=rfl
 unfold Qk
 rw [zCF h hh l hl,ba,bg (by simp [ec])]
 obtain ⟨⟨q,m⟩,⟨rfl,h1⟩,h2⟩:=Qz (body:=YE h l x) (X:=fun s=>Jq h l x s.2) (s0:=(0,[]))
  (fun j s=>s.1=(j:Int)∧∀ (i:Nat) (hi:i<l.length),inM s.2 i=decide (l[i].ID∈x.Calls.take j)) x.Calls.length (by omega) ⟨rfl,fun i hi=>by simp [inM,za]⟩
  (fun j s hj hI=>by
   obtain ⟨q,m⟩:=s
   simp only at hI
   obtain ⟨rfl,hI⟩:=hI
   have hj3:∀ z,JN (j:Int) z=some (.inl (((j+1:Nat):Int),z)):=fun z=>by unfold JN; rw [w64s' hj (by omega)]
   unfold YE
   simp only
   rw [bi (by simpa using hj),ZY hj,ba,zH3 l hl,ba]
   rcases zDf (fun b:zV=>decide (b.ID=x.Calls[j])) l 0 with ⟨a1,a2⟩ | ⟨r,a1,a2,a3,a4⟩
   ·rw [show (0:Int)=((0:Nat):Int) from rfl,a1,bg (by decide),hj3]
    refine ⟨_,rfl,rfl,fun i hi=>?_⟩
    simp only
    rw [hI i hi,List.take_succ_eq_append_getElem hj,decide_eq_decide,List.mem_append,cb]
    have:=a2 _ (bz hi)
    simp only [decide_eq_false_iff_not] at this
    simp [this]
   ·rw [show (0:Int)=((0:Nat):Int) from rfl,a1,Nat.zero_add,bi (by simp),hj3]
    refine ⟨_,rfl,rfl,fun i hi=>?_⟩
    simp only
    have e3:l[r].ID=x.Calls[j]:=by simpa using a3
    unfold inM
    rw [zFu,List.take_succ_eq_append_getElem hj]
    by_cases c:i=r
    ·subst c
     rw [bi rfl,decide_eq_true (List.mem_append_right _ (by rw [e3]; exact List.mem_singleton.2 rfl))]; rfl
    ·rw [bg (by omega)]
     have:=hI i hi
     unfold inM at this
     rw [this,decide_eq_decide,List.mem_append,cb]
     have hne:l[i].ID≠x.Calls[j]:=fun e=>by
      rw [← e3] at e
      rcases Nat.lt_trichotomy i r with w | w | w
      ·exact List.pairwise_iff_getElem.1 hg.d i r hi a2 w e
      ·exact c w
      ·exact List.pairwise_iff_getElem.1 hg.d r i a2 hi w e.symm
     simp [hne])
  (fun s hI=>by
   obtain ⟨q,m⟩:=s
   simp only at hI
   obtain ⟨rfl,_⟩:=hI
   unfold YE
   simp only
   rw [bg (by simp)])
 simp only at h1 h2
 rw [h2]
 unfold Jq
 have hcr:Yz (zg h l) (inM m)=Yz (zg h l) fun i=>decide (i<(zg h l).calls.length∧((zg h l).calls.getD i default).ID∈x.Calls):=zHY fun i hi=>by
  have hi':i<l.length:=hi
  rw [h1 i hi',List.take_length,ecl,getD_lt hi',decide_eq_decide]
  simp [hi']
 rw [zMI hg.h hg.n (fun c hc=>zCV.of (hg.r c hc)),ba,zKJ hg,ba,hcr]
 unfold zPM
 generalize Yz (zg h l) (fun i=>decide (i<(zg h l).calls.length∧((zg h l).calls.getD i default).ID∈x.Calls))=y
 by_cases c0:x.Calls=[]
 ·rw [bi (.inl c0)]
  simp [gb,c0]
 ·have cl : ¬ ((x.Calls.length:Int)=0):=by
   have:0<x.Calls.length:=List.length_pos_iff.2 c0
   omega
  simp only [gb,cl,decide_false,Bool.not_false,if_true,Bool.false_or]
  rw [eqI _ _ (by omega),ba]
  by_cases c1:x.Calls=y.Calls
  ·rw [decide_eq_true c1]
   simp only [Bool.not_true,Bool.not_false,if_true,Bool.false_or]
   rw [eqS _ _ (by omega),ba]
   by_cases c2:x.Slots=y.Slots
   ·rw [decide_eq_true c2]
    simp only [Bool.not_true,Bool.false_or,bj]
    by_cases c3:x.Calls.length≤x.Slots.length
    ·have r1:(if x.Calls=[]∨x.Calls≠y.Calls∨x.Slots≠y.Slots∨x.Calls.length≤x.Slots.length then ((0:Int),(8:Int)) else ((x.Calls.length:Int) - (x.Slots.length:Int),0))=(0,8):=bi (.inr (.inr (.inr c3)))
     rw [r1,bi (by omega)]
    ·have r1:(if x.Calls=[]∨x.Calls≠y.Calls∨x.Slots≠y.Slots∨x.Calls.length≤x.Slots.length then ((0:Int),(8:Int)) else ((x.Calls.length:Int) - (x.Slots.length:Int),0))=((x.Calls.length:Int) - (x.Slots.length:Int),0):=bg (by
      rintro (z | z | z | z)
      ·exact c0 z
      ·exact z c1
      ·exact z c2
      ·exact c3 z)
     rw [r1,bg (by omega),zw (by omega) (by omega)]
   ·have r1:(if x.Calls=[]∨x.Calls≠y.Calls∨x.Slots≠y.Slots∨x.Calls.length≤x.Slots.length then ((0:Int),(8:Int)) else ((x.Calls.length:Int) - (x.Slots.length:Int),0))=(0,8):=bi (.inr (.inr (.inl c2)))
    rw [r1,decide_eq_false c2]; rfl
  ·have r1:(if x.Calls=[]∨x.Calls≠y.Calls∨x.Slots≠y.Slots∨x.Calls.length≤x.Slots.length then ((0:Int),(8:Int)) else ((x.Calls.length:Int) - (x.Slots.length:Int),0))=(0,8):=bi (.inr (.inl c1))
   rw [r1,decide_eq_false c1]; rfl
theorem zFw {α:Type} (p:α→Bool):∀ l:List α,(l.filter p).length+(l.filter fun x => !p x).length=l.length
 | []=>rfl
 | a :: l=>by
  have:=zFw p l
  rw [List.filter_cons,List.filter_cons]
  cases p a <;> simp <;> omega
theorem zEc (m:List (Int×Bool)) (i r:Nat):inM (putM posI m (i:Int) true) r=(decide (r=i)||inM m r):=by
 unfold inM
 rw [zFu]
 by_cases e:r=i
 ·rw [bi (by omega)]; simp [e]
 ·rw [bg (by omega)]; simp [e]
theorem putM_ne {α β:Type} [DecidableEq α] (pos:α→List α→Nat) (m:List (α×β)) (k:α) (v:β):putM pos m k v≠[]:=fun e=>by
 have:=zFu pos k k v m
 rw [e,bi rfl] at this
 cases this
def cntM (b:zI) (m:List (Int×Bool)):Nat:=((List.range b.calls.length).filter (inM m)).length
theorem cnt_le (b:zI) (m:List (Int×Bool)):cntM b m≤b.calls.length:=by
 unfold cntM
 have:=List.length_filter_le (inM m) (List.range b.calls.length)
 simpa using this
theorem cnt_mono {b:zI} {m m':List (Int×Bool)} (h:∀ r,inM m r=true→inM m' r=true):cntM b m≤cntM b m' :=
 zBC (List.Nodup.sublist List.filter_sublist List.nodup_range) fun x hx=>by
  rw [List.mem_filter] at hx ⊢; exact ⟨hx.1,h x hx.2⟩
theorem cnt_lt {b:zI} {m m':List (Int×Bool)} (h:∀ r,inM m r=true→inM m' r=true) {i:Nat} (hi:i<b.calls.length) (h1:inM m i=false) (h2:inM m' i=true):cntM b m<cntM b m':=by
 have:=zBC (l:=i :: (List.range b.calls.length).filter (inM m)) (r:=(List.range b.calls.length).filter (inM m')) (List.nodup_cons.2 ⟨fun q=>(by rw [List.mem_filter,h1] at q; cases q.2),List.Nodup.sublist List.filter_sublist List.nodup_range⟩) fun x hx=>by
  rcases List.mem_cons.1 hx with rfl | hx
  ·exact List.mem_filter.2 ⟨List.mem_range.2 hi,h2⟩
  ·rw [List.mem_filter] at hx ⊢; exact ⟨hx.1,h x hx.2⟩
 exact this
structure AltI (b:zI) (μ0:Nat→Option Nat) (m0:Nat) (m:List (Int×Bool)):Prop where
 u:∀ i,i<b.calls.length→μ0 i=none→inM m i=true
 a:∀ s,s<b.calls.length→inM m s=true→∃ μ,Mat b μ∧m0≤(dom b μ).length∧μ s=none∧(∀ r,inM m r=false→μ r=μ0 r)∧∀ r k,μ r=some k→∃ q,μ0 q=some k
theorem zPB {b:zI} {μ:Nat→Option Nat} (h:Mat b μ) {j k:Nat} (hj:j<b.calls.length) (hk:k<b.slots.length) (hc:canB b j k=true) (hf:∀ r,μ r=some k→r=j):Mat b (fun r=>if r=j then some k else μ r):=by
 refine ⟨fun r q e=>?_,fun r q x e1 e2=>?_⟩
 ·by_cases c:r=j
  ·rw [bi c] at e; cases e; rw [c]; exact ⟨hj,hk,hc⟩
  ·rw [bg c] at e; exact h.c r q e
 ·by_cases c:r=j
  ·by_cases d:q=j
   ·rw [c,d]
   ·rw [bi c] at e1; rw [bg d] at e2
    cases e1
    exact absurd (hf q e2) d
  ·rw [bg c] at e1
   by_cases d:q=j
   ·rw [bi d] at e2
    cases e2
    exact absurd (hf r e1) c
   ·rw [bg d] at e2
    exact h.i r q x e1 e2
theorem mat_cut {b:zI} {μ:Nat→Option Nat} (h:Mat b μ) (i:Nat):Mat b (fun r=>if r=i then none else μ r):=by
 refine ⟨fun r q e=>?_,fun r q x e1 e2=>?_⟩
 ·by_cases c:r=i
  ·rw [bi c] at e; cases e
  ·rw [bg c] at e; exact h.c r q e
 ·by_cases c:r=i
  ·rw [bi c] at e1; cases e1
  ·by_cases d:q=i
   ·rw [bi d] at e2; cases e2
   ·rw [bg c] at e1; rw [bg d] at e2; exact h.i r q x e1 e2
theorem zPR {b:zI} {μ:Nat→Option Nat} {j k:Nat} (hj:j<b.calls.length) (h0:μ j=none):(dom b μ).length+1≤(dom b (fun r=>if r=j then some k else μ r)).length :=
 zBC (l:=j :: dom b μ) (List.nodup_cons.2 ⟨fun q=>(by rw [zIw,h0] at q; cases q.2),zLa b μ⟩) fun x hx=>by
  rw [zIw]
  rcases List.mem_cons.1 hx with rfl | hx
  ·exact ⟨hj,by rw [bi rfl]; rfl⟩
  ·rw [zIw] at hx
   refine ⟨hx.1,?_⟩
   split
   ·rfl
   ·exact hx.2
theorem dom_cut {b:zI} {μ:Nat→Option Nat} (i:Nat):(dom b μ).length≤(dom b (fun r=>if r=i then none else μ r)).length+1 :=
 zBC (l:=dom b μ) (r:=i :: dom b (fun r=>if r=i then none else μ r)) (zLa b μ) fun x hx=>by
  by_cases c:x=i
  ·rw [c]; exact bp
  ·refine bq _ ?_
   rw [zIw] at hx ⊢
   exact ⟨hx.1,by rw [bg c]; exact hx.2⟩
theorem AltI.put {b:zI} {μ0:Nat→Option Nat} {m0:Nat} {m:List (Int×Bool)} (hM:Mat b μ0) (h:AltI b μ0 m0 m) {i j k:Nat} (hi:μ0 i=some k) (hj:j<b.calls.length) (hjm:inM m j=true) (hc:canB b j k=true):AltI b μ0 m0 (putM posI m (i:Int) true):=by
 obtain ⟨i1,i2,i3⟩:=hM.c i k hi
 by_cases e:inM m i=true
 ·have es:∀ r,inM (putM posI m (i:Int) true) r=inM m r:=fun r=>by
   rw [zEc]
   by_cases c:r=i
   ·rw [c,e]; simp
   ·simp [c]
  refine ⟨fun r hr h0=>by rw [es]; exact h.u r hr h0,fun s hs hs2=>?_⟩
  rw [es] at hs2
  obtain ⟨μ,a1,a2,a3,a4,a5⟩:=h.a s hs hs2
  exact ⟨μ,a1,a2,a3,fun r hr=>a4 r (by rw [← es]; exact hr),a5⟩
 ·have e':inM m i=false:=by simpa using e
  refine ⟨fun r hr h0=>by rw [zEc,h.u r hr h0]; simp,fun s hs hs2=>?_⟩
  rw [zEc] at hs2
  have hout:∀ r,inM (putM posI m (i:Int) true) r=false→r≠i∧inM m r=false:=fun r hr=>by
   rw [zEc] at hr
   simpa using hr
  by_cases c:s=i
  ·subst c
   obtain ⟨μ,a1,a2,a3,a4,a5⟩:=h.a j hj hjm
   have hji:j≠s:=fun q=>by rw [q,e'] at hjm; cases hjm
   have hμi:μ s=some k:=by rw [a4 s e']; exact hi
   have b1:=mat_cut a1 s
   have b2:=zPB b1 hj i2 hc (fun r hr=>by
    by_cases d:r=s
    ·rw [bi d] at hr; cases hr
    ·rw [bg d] at hr; exact absurd (a1.i r s k hr hμi) d)
   have b3:=dom_cut (b:=b) (μ:=μ) s
   have b4:=zPR (b:=b) (μ:=fun r=>if r=s then none else μ r) (j:=j) (k:=k) hj (by rw [bg hji]; exact a3)
   refine ⟨_,b2,by omega,by show (if s=j then some k else if s=s then none else μ s)=none; rw [bg (fun q=>hji q.symm),bi rfl],fun r hr=>?_,fun r q hr=>?_⟩
   ·obtain ⟨r1,r2⟩:=hout r hr
    show (if r=j then some k else if r=s then none else μ r)=μ0 r
    rw [bg (fun q=>by rw [q,hjm] at r2; cases r2),bg r1]
    exact a4 r r2
   ·replace hr:(if r=j then some k else if r=s then none else μ r)=some q:=hr
    by_cases d:r=j
    ·rw [bi d] at hr; cases hr; exact ⟨s,hi⟩
    ·rw [bg d] at hr
     by_cases f:r=s
     ·rw [bi f] at hr; cases hr
     ·rw [bg f] at hr; exact a5 r q hr
  ·have hs3:inM m s=true:=by simpa [c] using hs2
   obtain ⟨μ,a1,a2,a3,a4,a5⟩:=h.a s hs hs3
   exact ⟨μ,a1,a2,a3,fun r hr=>a4 r (hout r hr).2,a5⟩
def ClosedAt (b:zI) (μ0:Nat→Option Nat) (m:List (Int×Bool)) (k:Nat):Prop := ∀ i j,μ0 i=some k→j<b.calls.length→canB b j k=true→inM m j=true→inM m i=true
theorem zNk {b:zI} {μ0:Nat→Option Nat} {m0:Nat} {m:List (Int×Bool)} (hX:MaxM b m0) (hM:Mat b μ0) (hm:(dom b μ0).length=m0) (h:AltI b μ0 m0 m) (hc:∀ k,k<b.slots.length→ClosedAt b μ0 m k):((List.range b.calls.length).filter (inM m)).length=(nbL b (inM m)).length+(b.calls.length - m0):=by
 have hN:∀ k,k∈nbL b (inM m)↔k<b.slots.length∧∃ j,j<b.calls.length∧canB b j k=true∧inM m j=true:=fun k=>by
  unfold nbL
  rw [List.mem_filter,cd,List.any_eq_true]
  constructor
  ·rintro ⟨h1,j,h2,h3⟩
   rw [bn] at h3
   exact ⟨h1,j,List.mem_range.1 h2,h3⟩
  ·rintro ⟨h1,j,h2,h3,h4⟩
   exact ⟨h1,j,List.mem_range.2 h2,by rw [h3,h4]; rfl⟩
 have h1:=zFw (fun i=>(μ0 i).isSome) ((List.range b.calls.length).filter (inM m))
 have h2:(((List.range b.calls.length).filter (inM m)).filter fun i => !(μ0 i).isSome)=(List.range b.calls.length).filter fun i => !(μ0 i).isSome:=by
  rw [List.filter_filter]
  refine List.filter_congr fun i hi=>?_
  cases e:μ0 i with
  | none=>rw [h.u i (List.mem_range.1 hi) e]; rfl
  | some k=>simp
 have h3:=zFw (fun i=>(μ0 i).isSome) (List.range b.calls.length)
 have h4:((List.range b.calls.length).filter fun i=>(μ0 i).isSome).length=m0:=hm
 rw [List.length_range] at h3
 have h5:(((List.range b.calls.length).filter (inM m)).filter fun i=>(μ0 i).isSome).length=(nbL b (inM m)).length:=by
  have nd:(((List.range b.calls.length).filter (inM m)).filter fun i=>(μ0 i).isSome).Nodup:=List.Nodup.sublist List.filter_sublist (List.Nodup.sublist List.filter_sublist List.nodup_range)
  have mem:∀ i,i∈(((List.range b.calls.length).filter (inM m)).filter fun i=>(μ0 i).isSome)↔i<b.calls.length∧inM m i=true∧(μ0 i).isSome=true:=fun i=>by
   rw [List.mem_filter,List.mem_filter,cd,and_assoc]
  have key:∀ i,i∈(((List.range b.calls.length).filter (inM m)).filter fun i=>(μ0 i).isSome)→∃ k,μ0 i=some k∧(μ0 i).getD 0=k:=fun i hi=>by
   have:=((mem i).1 hi).2.2
   cases e:μ0 i with
   | none=>rw [e] at this; cases this
   | some k=>exact ⟨k,rfl,rfl⟩
  have ndm:((((List.range b.calls.length).filter (inM m)).filter fun i=>(μ0 i).isSome).map fun i=>(μ0 i).getD 0).Nodup:=by
   rw [List.nodup_iff_pairwise_ne,List.pairwise_map]
   refine List.Pairwise.imp_of_mem (R:=fun a b=>a≠b) (fun {x y} hx hy hxy e=>?_) (List.nodup_iff_pairwise_ne.1 nd)
   obtain ⟨k,q1,q2⟩:=key x hx
   obtain ⟨k',q3,q4⟩:=key y hy
   exact hxy (hM.i x y k q1 (by rw [q3,← q4,← e,q2]))
  refine Nat.le_antisymm ?_ ?_
  ·have:=zBC ndm (r:=nbL b (inM m)) fun k hk=>by
    rw [List.mem_map] at hk
    obtain ⟨i,hi,rfl⟩:=hk
    obtain ⟨k,q1,q2⟩:=key i hi
    obtain ⟨c1,c2,c3⟩:=hM.c i k q1
    rw [q2,hN]
    exact ⟨c2,i,c1,c3,((mem i).1 hi).2.1⟩
   rwa [List.length_map] at this
  ·have:=zBC (l:=nbL b (inM m)) (r:=(((List.range b.calls.length).filter (inM m)).filter fun i=>(μ0 i).isSome).map fun i=>(μ0 i).getD 0) (List.Nodup.sublist List.filter_sublist List.nodup_range) fun k hk=>by
    obtain ⟨k1,j,j1,j2,j3⟩:=(hN k).1 hk
    have:∃ i,μ0 i=some k:=by
     refine Classical.byContradiction fun hn=>?_
     obtain ⟨μ,a1,a2,a3,a4,a5⟩:=h.a j j1 j3
     have b2:=zPB a1 j1 k1 j2 fun r hr=>absurd (a5 r k hr) hn
     have b4:=zPR (b:=b) (μ:=μ) (j:=j) (k:=k) j1 a3
     have:=hX.m _ b2
     omega
    obtain ⟨i,hi⟩:=this
    rw [List.mem_map]
    exact ⟨i,(mem i).2 ⟨(hM.c i k hi).1,hc k k1 i j hi j1 j2 j3,by rw [hi]; rfl⟩,by rw [hi]; rfl⟩
   rwa [List.length_map] at this
 rw [h2] at h1
 omega
theorem zP8 {h:zN} {l:List zV} (hg:JL h l) {μ0:Nat→Option Nat} {m0:Nat} {own:List (Int×Int)} (hM:Mat (zg h l) μ0) (hown:∀ (k:Nat) (v:Int),za (k:Int) own=some v↔∃ i:Nat,μ0 i=some k∧v=(i:Int)) {m:List (Int×Bool)} (h0:AltI (zg h l) μ0 m0 m) :
  ∃ m',AltI (zg h l) μ0 m0 m'∧(∀ k,k<(zg h l).slots.length→ClosedAt (zg h l) μ0 m' k)∧Lp (Qu l (zg h l) own) fuel (true,m)=J4 (zg h l) m':=by
 have hn:=hg.n
 have ns:=(zEX hg).ns
 have ecl:(zg h l).calls=l:=rfl
 obtain ⟨r,h1,m',h2,h3,h4⟩:=lp_meas (body:=Qu l (zg h l) own) (s0:=(true,m)) (fun s=>AltI (zg h l) μ0 m0 s.2∧(s.1=false→∀ k,k<(zg h l).slots.length→ClosedAt (zg h l) μ0 s.2 k)) (fun s=>2*(l.length - cntM (zg h l) s.2)+if s.1=true then 1 else 0)
  (fun r => ∃ m',AltI (zg h l) μ0 m0 m'∧(∀ k,k<(zg h l).slots.length→ClosedAt (zg h l) μ0 m' k)∧some r=J4 (zg h l) m') (by simp only [if_true]; omega) ⟨h0,fun q=>by cases q⟩ fun s hI=>by
   obtain ⟨more,m⟩:=s
   obtain ⟨i1,i2⟩:=hI
   simp only at i1 i2
   cases more with
   | false =>
    right
    unfold Qu
    simp only [Bool.false_eq_true,if_false]
    have:∃ r,J4 (zg h l) m=some r:=by unfold J4; rw [zKJ hg]; exact ⟨_,rfl⟩
    obtain ⟨r,hr⟩:=this
    exact ⟨r,by rw [hr]; rfl,m,i1,i2 rfl,hr.symm⟩
   | true =>
    left
    unfold Qu
    simp only [if_true]
    obtain ⟨r,g1,more',m',rfl,g2,g3,g4,g5⟩:=lp_inv' (body:=zCD l (zg h l) own) (s0:=(false,0,m)) (fun k s=>s.2.1=(k:Int)∧AltI (zg h l) μ0 m0 s.2.2∧(∀ r,inM m r=true→inM s.2.2 r=true)∧(s.1=true→cntM (zg h l) m<cntM (zg h l) s.2.2)∧(s.1=false→s.2.2=m∧∀ q,q<k→ClosedAt (zg h l) μ0 m q))
     (fun r => ∃ (more':Bool) (m':List (Int×Bool)),r = .inl (more',m')∧AltI (zg h l) μ0 m0 m'∧(∀ r,inM m r=true→inM m' r=true)∧(more'=true→cntM (zg h l) m<cntM (zg h l) m')∧(more'=false→∀ q,q<(zg h l).slots.length→ClosedAt (zg h l) μ0 m' q)) (zg h l).slots.length (by omega) ⟨rfl,i1,fun r hr=>hr,fun q=>(by cases q),fun _=>⟨rfl,fun q hq=>by omega⟩⟩ (fun k s hk hJ=>by
      obtain ⟨mo,x,m6⟩:=s
      simp only at hJ
      obtain ⟨rfl,j1,j2,j3,j4⟩:=hJ
      have hj5:∀ a b,Yh (k:Int) a b=some (.inl (a,((k+1:Nat):Int),b)):=fun a b=>by unfold Yh; rw [zw (by omega) (by omega)]; rfl
      unfold zCD
      simp only
      by_cases hks:k<(zg h l).slots.length
      ·rw [bi (by simpa using hks),zB5 (d:=default) hks,ba]
       left
       refine ⟨hks,?_⟩
       by_cases hskip:(!(za (k:Int) own).isSome||(za ((za (k:Int) own).getD 0) m6).getD false)=true
       ·rw [bi hskip,hj5]
        refine ⟨_,rfl,rfl,j1,j2,j3,fun q=>⟨(j4 q).1,fun x hx=>?_⟩⟩
        by_cases c:x=k
        ·subst c
         intro i j hi hj hcan hin
         have e1:=(hown x (i:Int)).2 ⟨i,hi,rfl⟩
         rw [e1] at hskip
         have e2:(za (i:Int) m6).getD false=true:=by simpa using hskip
         rw [← (j4 q).1]; exact e2
        ·exact (j4 q).2 x (by omega)
       ·rw [bg hskip]
        simp only [Bool.or_eq_true,not_or,Bool.not_eq_true',Bool.not_eq_false] at hskip
        obtain ⟨v,hv⟩:=Option.isSome_iff_exists.1 (by simpa using hskip.1)
        obtain ⟨i,hi,rfl⟩:=(hown k v).1 hv
        have hif:inM m6 i=false:=by have:=hskip.2; rw [hv] at this; simpa [inM] using this
        have hin:=(hM.c i k hi).1
        obtain ⟨r,g1,mo',m5,rfl,g2⟩:=lp_inv' (body:=zCC l (zg h l) own (k:Int) ((zg h l).slots.getD k default)) (s0:=(mo,0,m6)) (fun j s=>s.2.1=(j:Int)∧((s.1=mo∧s.2.2=m6∧∀ q,q<j→¬ (canB (zg h l) q k=true∧inM m6 q=true))∨(s.1=true∧AltI (zg h l) μ0 m0 s.2.2∧(∀ r,inM m6 r=true→inM s.2.2 r=true)∧inM s.2.2 i=true)))
         (fun r => ∃ (mo':Bool) (m5:List (Int×Bool)),r = .inl (mo',((k+1:Nat):Int),m5)∧((mo'=mo∧m5=m6∧∀ q,q<l.length→¬ (canB (zg h l) q k=true∧inM m6 q=true))∨(mo'=true∧AltI (zg h l) μ0 m0 m5∧(∀ r,inM m6 r=true→inM m5 r=true)∧inM m5 i=true))) l.length (by omega) ⟨rfl,.inl ⟨rfl,rfl,fun q hq=>by omega⟩⟩ (fun j s hj hK=>by
          obtain ⟨mo2,x,m5⟩:=s
          simp only at hK
          obtain ⟨rfl,hK⟩:=hK
          unfold zCC
          simp only
          by_cases hjl:j<l.length
          ·have hj7:∀ a b,Yg (j:Int) a b=some (.inl (a,((j+1:Nat):Int),b)):=fun a b=>by unfold Yg; rw [zw (by omega) (by omega)]; rfl
           rw [bi (by simpa using hjl),zB5 (d:=[]) (by simpa [zg] using hjl),ba,show ((za ((zg h l).slots.getD k default) ((zg h l).can.getD j [])).isSome&&(za (j:Int) m5).getD false)=(canB (zg h l) j k&&inM m5 j) from rfl,hv]
           simp only [Option.getD_some]
           left
           refine ⟨hjl,?_⟩
           by_cases c:(canB (zg h l) j k&&inM m5 j)=true
           ·rw [bi c,hj7]
            rw [bn] at c
            have a5:AltI (zg h l) μ0 m0 m5∧∀ r,inM m6 r=true→inM m5 r=true:=by
             rcases hK with ⟨_,rfl,_⟩ | ⟨_,q1,q2,_⟩
             ·exact ⟨j1,fun r hr=>hr⟩
             ·exact ⟨q1,q2⟩
            refine ⟨_,rfl,rfl,.inr ⟨rfl,a5.1.put hM hi hjl c.2 c.1,fun r hr=>?_,?_⟩⟩
            ·simp only; rw [zEc,a5.2 r hr]; simp
            ·simp only; rw [zEc]; simp
           ·rw [bg c,hj7]
            refine ⟨_,rfl,rfl,?_⟩
            rcases hK with ⟨q1,q2,q3⟩ | q
            ·refine .inl ⟨q1,q2,fun q hq=>?_⟩
             by_cases w:q=j
             ·subst w; rw [← q2]; rw [bn] at c; exact c
             ·exact q3 q (by omega)
            ·exact .inr q
          ·have e:j=l.length:=by omega
           subst e
           rw [bg (by simp),hj5]
           exact .inr ⟨_,rfl,_,_,rfl,hK⟩)
        refine ⟨_,g1,rfl,?_⟩
        simp only
        rcases g2 with ⟨rfl,rfl,q3⟩ | ⟨rfl,q1,q2,q3⟩
        ·refine ⟨j1,j2,j3,fun q=>⟨(j4 q).1,fun x hx=>?_⟩⟩
         by_cases c:x=k
         ·subst c
          intro i' j hi' hj hcan hinj
          exact absurd ⟨hcan,by rw [(j4 q).1]; exact hinj⟩ (q3 j hj)
         ·exact (j4 q).2 x (by omega)
        ·refine ⟨q1,fun r hr=>q2 r (j2 r hr),fun _=>?_,fun q=>by cases q⟩
         have:=cnt_mono (b:=zg h l) j2
         have:=cnt_lt (b:=zg h l) q2 hin hif q3
         omega
      ·have e:k=(zg h l).slots.length:=by omega
       subst e
       rw [bg (by simp)]
       refine .inr ⟨_,rfl,mo,m6,rfl,j1,j2,j3,fun q=>?_⟩
       obtain ⟨e1,e2⟩:=j4 q
       rw [e1]; exact e2)
    refine ⟨_,g1,⟨g2,g5⟩,?_⟩
    have c1:=cnt_mono (b:=zg h l) g3
    have c2:=cnt_le (zg h l) m'
    rw [ecl] at c2
    simp only [if_true]
    cases more' with
    | false=>simp only [Bool.false_eq_true,if_false]; omega
    | true=>have:=g4 rfl; simp only [if_true]; omega
 exact ⟨m',h2,h3,by rw [h1]; exact h4⟩
theorem zLg {h:zN} {l:List zV} (hh:LenH h) (hl:Len l) (ec:zB9 h l=0) {m0:Nat} (hX:MaxM (zg h l) m0) :
  (m0=l.length∧zBw h l=some (⟨[],[]⟩,false,0))∨(m0<l.length∧∃ p,zBw h l=some (Yz (zg h l) p,true,0)∧((List.range l.length).filter p).length=(nbL (zg h l) p).length+(l.length - m0)):=by
 have hg:=JL.of hh ec
 have hn:=hg.n
 have hB:=zEX hg
 have ns:=hB.ns
 have ecl:(zg h l).calls=l:=rfl
 obtain ⟨m,out,want,b1,b2,b4,b5,b6⟩:=zQw hB (zJv h l)
 have em:=hX.uniq b4
 subst em
 obtain ⟨w0,w1⟩:=zKN hB b2
 have hM:=zOT b2.a w1
 have hol:out.length=l.length:=b2.l
 have hnn:∀ r,r<l.length→0≤gI out r:=b2.nn
 unfold zBw
 rw [zCF h hh l hl,ba,bg (by simp [ec]),zMI hg.h hg.n (fun c hc=>zCV.of (hg.r c hc)),ba,b1,ba]
 obtain ⟨⟨x,m,own⟩,⟨rfl,h1,h2,h3⟩,h4⟩:=Qz (body:=zAc l (zg h l) (out,want)) (X:=fun s=>Qt l (zg h l) s.2.1 s.2.2) (s0:=(0,[],[]))
  (fun j s=>s.1=(j:Int)∧(∀ (i:Nat),inM s.2.1 i=decide (i<j∧((zg h l).slots.length:Int)≤gI out i))∧(s.2.1=[]↔∀ i,i<j→gI out i<((zg h l).slots.length:Int))∧∀ (k:Nat) (v:Int),za (k:Int) s.2.2=some v↔∃ i:Nat,(i<j∧gI out i<((zg h l).slots.length:Int)∧gI out i=(k:Int))∧v=(i:Int)) l.length (by omega)
  ⟨rfl,fun i=>by simp [inM,za],⟨fun _ i hi=>by omega,fun _=>rfl⟩,fun k v=>⟨fun q=>(by cases q),fun ⟨i,q,_⟩=>by omega⟩⟩
  (fun j s hj hI=>by
   obtain ⟨x,m,own⟩:=s
   simp only at hI
   obtain ⟨rfl,h1,h2,h3⟩:=hI
   have hj9:∀ a b,Yf (j:Int) a b=some (.inl (((j+1:Nat):Int),a,b)):=fun a b=>by unfold Yf; rw [zw (by omega) (by omega)]; rfl
   unfold zAc
   simp only
   rw [bi (by simp; omega),jU (by omega),ba]
   by_cases e:((zg h l).slots.length:Int)≤gI out j
   ·rw [bi (by simpa using e),hj9]
    refine ⟨_,rfl,rfl,fun i=>?_,⟨fun q=>absurd q (putM_ne _ _ _ _),fun q=>absurd (q j (by omega)) (by omega)⟩,fun k v=>?_⟩
    ·simp only
     rw [zEc,h1 i]
     by_cases c:i=j
     ·subst c; simp [e]
     ·rw [decide_eq_false c,Bool.false_or,decide_eq_decide]
      constructor
      ·rintro ⟨a,b⟩; exact ⟨by omega,b⟩
      ·rintro ⟨a,b⟩; exact ⟨by omega,b⟩
    ·simp only
     rw [h3 k v]
     constructor
     ·rintro ⟨i,⟨a,b,c⟩,d⟩; exact ⟨i,⟨by omega,b,c⟩,d⟩
     ·rintro ⟨i,⟨a,b,c⟩,d⟩
      refine ⟨i,⟨?_,b,c⟩,d⟩
      by_cases w:i=j
      ·subst w; omega
      ·omega
   ·have hnj:=hnn j hj
    rw [bg (by simpa using e),hj9]
    refine ⟨_,rfl,rfl,fun i=>?_,?_,fun k v=>?_⟩
    ·simp only
     rw [h1 i,decide_eq_decide]
     constructor
     ·rintro ⟨a,b⟩; exact ⟨by omega,b⟩
     ·rintro ⟨a,b⟩
      refine ⟨?_,b⟩
      by_cases w:i=j
      ·subst w; omega
      ·omega
    ·simp only
     rw [h2]
     constructor
     ·intro q i hi
      by_cases w:i=j
      ·subst w; omega
      ·exact q i (by omega)
     ·intro q i hi; exact q i (by omega)
    ·simp only
     rw [zFu]
     by_cases c:(k:Int)=gI out j
     ·rw [bi c]
      constructor
      ·intro q; cases q; exact ⟨j,⟨by omega,by omega,c.symm⟩,rfl⟩
      ·rintro ⟨i,⟨a,b,d⟩,rfl⟩
       have:i=j:=b2.a.inj i j (show i<l.length by omega) hj (show (gI out i).toNat=(gI out j).toNat by omega)
       rw [this]
     ·rw [bg c,h3 k v]
      constructor
      ·rintro ⟨i,⟨a,b,d⟩,f⟩; exact ⟨i,⟨by omega,b,d⟩,f⟩
      ·rintro ⟨i,⟨a,b,d⟩,f⟩
       refine ⟨i,⟨?_,b,d⟩,f⟩
       by_cases w:i=j
       ·subst w; exact absurd d.symm c
       ·omega)
  (fun s hI=>by
   obtain ⟨x,m,own⟩:=s
   simp only at hI
   obtain ⟨rfl,_⟩:=hI
   unfold zAc
   simp only
   rw [bg (by simp; omega)])
 simp only at h1 h2 h3 h4
 rw [h4]
 unfold Qt
 have hmu:∀ i k:Nat,muOf (zg h l) (fun r=>(gI out r).toNat) i=some k↔i<l.length∧gI out i<((zg h l).slots.length:Int)∧gI out i=(k:Int):=fun i k=>by
  rw [zFr,ecl]
  constructor
  ·rintro ⟨a,b,c⟩; have:=hnn i a; exact ⟨a,by omega,by omega⟩
  ·rintro ⟨a,b,c⟩; exact ⟨a,by omega,by omega⟩
 have hsplit:=zFw (fun r=>(muOf (zg h l) (fun r=>(gI out r).toNat) r).isSome) (List.range l.length)
 rw [List.length_range] at hsplit
 have hdl:((List.range l.length).filter fun r=>(muOf (zg h l) (fun r=>(gI out r).toNat) r).isSome).length=m0:=b6.symm
 have hnone:∀ i,i<l.length→(muOf (zg h l) (fun r=>(gI out r).toNat) i=none↔((zg h l).slots.length:Int)≤gI out i):=fun i hi=>by
  have:=hnn i hi
  unfold muOf
  constructor
  ·intro q
   by_cases c:i<(zg h l).calls.length∧(gI out i).toNat<(zg h l).slots.length
   ·rw [bi c] at q; cases q
   ·rw [ecl] at c; omega
  ·intro q
   rw [bg (fun z=>by have:(gI out i).toNat<(zg h l).slots.length:=z.2; omega)]
 by_cases e:m=[]
 ·left
  have hall:=h2.1 e
  have hz:((List.range l.length).filter fun r => !(muOf (zg h l) (fun r=>(gI out r).toNat) r).isSome)=[]:=by
   rw [List.filter_eq_nil_iff]
   intro r hr
   rw [cd] at hr
   have:=hall r hr
   cases q:muOf (zg h l) (fun r=>(gI out r).toNat) r with
   | none=>have:=(hnone r hr).1 q; omega
   | some k=>simp
  rw [hz] at hsplit
  refine ⟨by simp only [List.length_nil] at hsplit; omega,?_⟩
  rw [bi (by simp [e])]
 ·right
  have hlt:m0<l.length:=by
   refine Nat.lt_of_not_le fun w=>?_
   have hz:((List.range l.length).filter fun r => !(muOf (zg h l) (fun r=>(gI out r).toNat) r).isSome).length=0:=by omega
   have hz2:=List.length_eq_zero_iff.1 hz
   rw [List.filter_eq_nil_iff] at hz2
   refine e (h2.2 fun i hi=>?_)
   have:=hz2 i (List.mem_range.2 hi)
   refine Int.lt_of_not_ge fun w2=>?_
   rw [(hnone i hi).2 w2] at this
   exact this rfl
  refine ⟨hlt,?_⟩
  rw [bg (by simp; exact e)]
  have hA:AltI (zg h l) (muOf (zg h l) (fun r=>(gI out r).toNat)) m0 m:=by
   refine ⟨fun i hi h0=>?_,fun s hs hs2=>⟨_,hM,by omega,?_,fun _ _=>rfl,fun r k q=>⟨r,q⟩⟩⟩
   ·rw [h1 i,bj]; exact ⟨hi,(hnone i hi).1 h0⟩
   ·rw [h1 s,bj] at hs2
    exact (hnone s hs).2 hs2.2
  obtain ⟨m',a1,a2,a3⟩:=zP8 hg hM (own:=own) (fun k v=>by
   rw [h3 k v]
   constructor
   ·rintro ⟨i,q,r⟩; exact ⟨i,(hmu i k).2 q,r⟩
   ·rintro ⟨i,q,r⟩; exact ⟨i,(hmu i k).1 q,r⟩) hA
  refine ⟨inM m',?_,zNk hX hM b6.symm a1 a2⟩
  rw [a3]
  unfold J4
  rw [zKJ hg,ba]
theorem zKI (b:zI) (p:Nat→Bool):(Yz b p).Calls.length=((List.range b.calls.length).filter p).length∧(Yz b p).Slots.length=(nbL b p).length:=by
 unfold Yz idsL
 simp only [List.length_map]
 rw [(zKx _).1.length_eq,List.length_map]
 constructor <;> first | rfl | trivial
theorem zPv {b:zI} {p:Nat→Bool} {x:Int}:x∈(Yz b p).Calls↔∃ i,i<b.calls.length∧p i=true∧(b.calls.getD i default).ID=x:=by
 unfold Yz idsL
 simp only
 rw [(zKx _).1.mem_iff,List.mem_map]
 constructor
 ·rintro ⟨i,hi,rfl⟩
  rw [List.mem_filter,cd] at hi
  exact ⟨i,hi.1,hi.2,rfl⟩
 ·rintro ⟨i,h1,h2,rfl⟩
  exact ⟨i,List.mem_filter.2 ⟨List.mem_range.2 h1,h2⟩,rfl⟩
theorem zRF {h:zN} {l:List zV} (hg:JL h l) {p:Nat→Bool} {m0:Nat} (hm:m0<l.length) (hc:((List.range l.length).filter p).length=(nbL (zg h l) p).length+(l.length - m0)):zPM (zg h l) (Yz (zg h l) p)=((l.length:Int) - (m0:Int),0):=by
 obtain ⟨l1,l2⟩:=zKI (zg h l) p
 have ecl:(zg h l).calls=l:=rfl
 rw [ecl] at l1
 have hq:Yz (zg h l) (fun i=>decide (i<(zg h l).calls.length∧((zg h l).calls.getD i default).ID∈(Yz (zg h l) p).Calls))=Yz (zg h l) p:=zHY fun i hi=>by
  rw [Bool.eq_iff_iff,bj,zPv]
  constructor
  ·rintro ⟨_,j,h1,h2,h3⟩
   have hi':i<l.length:=hi
   have hj':j<l.length:=h1
   rw [ecl,getD_lt hi',getD_lt hj'] at h3
   rcases Nat.lt_trichotomy i j with w | w | w
   ·exact absurd h3.symm (List.pairwise_iff_getElem.1 hg.d i j hi' hj' w)
   ·rw [w]; exact h2
   ·exact absurd h3 (List.pairwise_iff_getElem.1 hg.d j i hj' hi' w)
  ·intro q; exact ⟨hi,i,hi,q,rfl⟩
 unfold zPM
 rw [hq,bg,l1,l2]
 ·rw [show ((((List.range l.length).filter p).length:Nat):Int) - ((nbL (zg h l) p).length:Int)=(l.length:Int) - (m0:Int) by omega]
 ·rintro (z | z | z | z)
  ·rw [z] at l1; simp only [List.length_nil] at l1; omega
  ·exact z rfl
  ·exact z rfl
  ·omega
end Go.Mx
