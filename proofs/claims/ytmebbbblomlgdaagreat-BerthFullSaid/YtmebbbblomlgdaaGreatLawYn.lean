/- Part of the proof of BerthFull: plain laws about the functions of M, no program in sight. Conditions: none. -/
import Derived.Test.YtmebbbblomlgdaaGreatLawYl
import Derived.Test.YtmebbbblomlgdaaGreatLawYp
set_option linter.unusedVariables false
set_option linter.unusedSimpArgs false
namespace Go.Mx
theorem zEU {α:Type} (p:α→Bool):∀ l:List α,(l.filter p).length+(l.filter fun x => !p x).length=l.length
 | []=>rfl
 | a :: l=>by
  have:=zEU p l
  rw [List.filter_cons,List.filter_cons]
  cases p a <;> simp <;> omega
theorem zDD (m:List (Int×Bool)) (i r:Nat):inM (putM posI m (i:Int) true) r=(decide (r=i)||inM m r):=by
 unfold inM
 rw [zES]
 by_cases e:r=i
 ·rw [if_pos (by omega)]; simp [e]
 ·rw [if_neg (by omega)]; simp [e]
theorem putM_ne {α β:Type} [DecidableEq α] (pos:α→List α→Nat) (m:List (α×β)) (k:α) (v:β):putM pos m k v≠[]:=fun e=>by
 have:=zES pos k k v m
 rw [e,if_pos rfl] at this
 cases this
def cntM (b:zL) (m:List (Int×Bool)):Nat:=((List.range b.calls.length).filter (inM m)).length
theorem cnt_le (b:zL) (m:List (Int×Bool)):cntM b m≤b.calls.length:=by
 unfold cntM
 have:=List.length_filter_le (inM m) (List.range b.calls.length)
 simpa using this
theorem cnt_mono {b:zL} {m m':List (Int×Bool)} (h:∀ r,inM m r=true→inM m' r=true):cntM b m≤cntM b m' :=
 JB (List.Nodup.sublist List.filter_sublist List.nodup_range) fun x hx=>by
  rw [List.mem_filter] at hx ⊢; exact ⟨hx.1,h x hx.2⟩
theorem cnt_lt {b:zL} {m m':List (Int×Bool)} (h:∀ r,inM m r=true→inM m' r=true) {i:Nat} (hi:i<b.calls.length) (h1:inM m i=false) (h2:inM m' i=true):cntM b m<cntM b m':=by
 have:=JB (l:=i :: (List.range b.calls.length).filter (inM m)) (r:=(List.range b.calls.length).filter (inM m')) (List.nodup_cons.2 ⟨fun q=>(by rw [List.mem_filter,h1] at q; cases q.2),List.Nodup.sublist List.filter_sublist List.nodup_range⟩) fun x hx=>by
  rcases List.mem_cons.1 hx with rfl | hx
  ·exact List.mem_filter.2 ⟨List.mem_range.2 hi,h2⟩
  ·rw [List.mem_filter] at hx ⊢; exact ⟨hx.1,h x hx.2⟩
 exact this
structure AltI (b:zL) (μ0:Nat→Option Nat) (m0:Nat) (m:List (Int×Bool)):Prop where
 u:∀ i,i<b.calls.length→μ0 i=none→inM m i=true
 a:∀ s,s<b.calls.length→inM m s=true→∃ μ,Mat b μ∧m0≤(dom b μ).length∧μ s=none∧(∀ r,inM m r=false→μ r=μ0 r)∧∀ r k,μ r=some k→∃ q,μ0 q=some k
theorem zMb {b:zL} {μ:Nat→Option Nat} (h:Mat b μ) {j k:Nat} (hj:j<b.calls.length) (hk:k<b.slots.length) (hc:canB b j k=true) (hf:∀ r,μ r=some k→r=j):Mat b (fun r=>if r=j then some k else μ r):=by
 refine ⟨fun r q e=>?_,fun r q x e1 e2=>?_⟩
 ·by_cases c:r=j
  ·rw [if_pos c] at e; cases e; rw [c]; exact ⟨hj,hk,hc⟩
  ·rw [if_neg c] at e; exact h.c r q e
 ·by_cases c:r=j
  ·by_cases d:q=j
   ·rw [c,d]
   ·rw [if_pos c] at e1; rw [if_neg d] at e2
    cases e1
    exact absurd (hf q e2) d
  ·rw [if_neg c] at e1
   by_cases d:q=j
   ·rw [if_pos d] at e2
    cases e2
    exact absurd (hf r e1) c
   ·rw [if_neg d] at e2
    exact h.i r q x e1 e2
theorem mat_cut {b:zL} {μ:Nat→Option Nat} (h:Mat b μ) (i:Nat):Mat b (fun r=>if r=i then none else μ r):=by
 refine ⟨fun r q e=>?_,fun r q x e1 e2=>?_⟩
 ·by_cases c:r=i
  ·rw [if_pos c] at e; cases e
  ·rw [if_neg c] at e; exact h.c r q e
 ·by_cases c:r=i
  ·rw [if_pos c] at e1; cases e1
  ·by_cases d:q=i
   ·rw [if_pos d] at e2; cases e2
   ·rw [if_neg c] at e1; rw [if_neg d] at e2; exact h.i r q x e1 e2
theorem zMm {b:zL} {μ:Nat→Option Nat} {j k:Nat} (hj:j<b.calls.length) (h0:μ j=none):(dom b μ).length+1≤(dom b (fun r=>if r=j then some k else μ r)).length :=
 JB (l:=j :: dom b μ) (List.nodup_cons.2 ⟨fun q=>(by rw [zCK,h0] at q; cases q.2),zCw b μ⟩) fun x hx=>by
  rw [zCK]
  rcases List.mem_cons.1 hx with rfl | hx
  ·exact ⟨hj,by rw [if_pos rfl]; rfl⟩
  ·rw [zCK] at hx
   refine ⟨hx.1,?_⟩
   split
   ·rfl
   ·exact hx.2
theorem dom_cut {b:zL} {μ:Nat→Option Nat} (i:Nat):(dom b μ).length≤(dom b (fun r=>if r=i then none else μ r)).length+1 :=
 JB (l:=dom b μ) (r:=i :: dom b (fun r=>if r=i then none else μ r)) (zCw b μ) fun x hx=>by
  by_cases c:x=i
  ·rw [c]; exact List.mem_cons_self
  ·refine List.mem_cons_of_mem _ ?_
   rw [zCK] at hx ⊢
   exact ⟨hx.1,by rw [if_neg c]; exact hx.2⟩
theorem AltI.put {b:zL} {μ0:Nat→Option Nat} {m0:Nat} {m:List (Int×Bool)} (hM:Mat b μ0) (h:AltI b μ0 m0 m) {i j k:Nat} (hi:μ0 i=some k) (hj:j<b.calls.length) (hjm:inM m j=true) (hc:canB b j k=true):AltI b μ0 m0 (putM posI m (i:Int) true):=by
 obtain ⟨i1,i2,i3⟩:=hM.c i k hi
 by_cases e:inM m i=true
 ·have es:∀ r,inM (putM posI m (i:Int) true) r=inM m r:=fun r=>by
   rw [zDD]
   by_cases c:r=i
   ·rw [c,e]; simp
   ·simp [c]
  refine ⟨fun r hr h0=>by rw [es]; exact h.u r hr h0,fun s hs hs2=>?_⟩
  rw [es] at hs2
  obtain ⟨μ,a1,a2,a3,a4,a5⟩:=h.a s hs hs2
  exact ⟨μ,a1,a2,a3,fun r hr=>a4 r (by rw [← es]; exact hr),a5⟩
 ·have e':inM m i=false:=by simpa using e
  refine ⟨fun r hr h0=>by rw [zDD,h.u r hr h0]; simp,fun s hs hs2=>?_⟩
  rw [zDD] at hs2
  have hout:∀ r,inM (putM posI m (i:Int) true) r=false→r≠i∧inM m r=false:=fun r hr=>by
   rw [zDD] at hr
   simpa using hr
  by_cases c:s=i
  ·subst c
   obtain ⟨μ,a1,a2,a3,a4,a5⟩:=h.a j hj hjm
   have hji:j≠s:=fun q=>by rw [q,e'] at hjm; cases hjm
   have hμi:μ s=some k:=by rw [a4 s e']; exact hi
   have b1:=mat_cut a1 s
   have b2:=zMb b1 hj i2 hc (fun r hr=>by
    by_cases d:r=s
    ·rw [if_pos d] at hr; cases hr
    ·rw [if_neg d] at hr; exact absurd (a1.i r s k hr hμi) d)
   have b3:=dom_cut (b:=b) (μ:=μ) s
   have b4:=zMm (b:=b) (μ:=fun r=>if r=s then none else μ r) (j:=j) (k:=k) hj (by rw [if_neg hji]; exact a3)
   refine ⟨_,b2,by omega,by show (if s=j then some k else if s=s then none else μ s)=none; rw [if_neg (fun q=>hji q.symm),if_pos rfl],fun r hr=>?_,fun r q hr=>?_⟩
   ·obtain ⟨r1,r2⟩:=hout r hr
    show (if r=j then some k else if r=s then none else μ r)=μ0 r
    rw [if_neg (fun q=>by rw [q,hjm] at r2; cases r2),if_neg r1]
    exact a4 r r2
   ·replace hr:(if r=j then some k else if r=s then none else μ r)=some q:=hr
    by_cases d:r=j
    ·rw [if_pos d] at hr; cases hr; exact ⟨s,hi⟩
    ·rw [if_neg d] at hr
     by_cases f:r=s
     ·rw [if_pos f] at hr; cases hr
     ·rw [if_neg f] at hr; exact a5 r q hr
  ·have hs3:inM m s=true:=by simpa [c] using hs2
   obtain ⟨μ,a1,a2,a3,a4,a5⟩:=h.a s hs hs3
   exact ⟨μ,a1,a2,a3,fun r hr=>a4 r (hout r hr).2,a5⟩
def ClosedAt (b:zL) (μ0:Nat→Option Nat) (m:List (Int×Bool)) (k:Nat):Prop := ∀ i j,μ0 i=some k→j<b.calls.length→canB b j k=true→inM m j=true→inM m i=true
theorem zLB {b:zL} {μ0:Nat→Option Nat} {m0:Nat} {m:List (Int×Bool)} (hX:MaxM b m0) (hM:Mat b μ0) (hm:(dom b μ0).length=m0) (h:AltI b μ0 m0 m) (hc:∀ k,k<b.slots.length→ClosedAt b μ0 m k):((List.range b.calls.length).filter (inM m)).length=(nbL b (inM m)).length+(b.calls.length - m0):=by
 have hN:∀ k,k∈nbL b (inM m)↔k<b.slots.length∧∃ j,j<b.calls.length∧canB b j k=true∧inM m j=true:=fun k=>by
  unfold nbL
  rw [List.mem_filter,List.mem_range,List.any_eq_true]
  constructor
  ·rintro ⟨h1,j,h2,h3⟩
   rw [Bool.and_eq_true] at h3
   exact ⟨h1,j,List.mem_range.1 h2,h3⟩
  ·rintro ⟨h1,j,h2,h3,h4⟩
   exact ⟨h1,j,List.mem_range.2 h2,by rw [h3,h4]; rfl⟩
 have h1:=zEU (fun i=>(μ0 i).isSome) ((List.range b.calls.length).filter (inM m))
 have h2:(((List.range b.calls.length).filter (inM m)).filter fun i => !(μ0 i).isSome)=(List.range b.calls.length).filter fun i => !(μ0 i).isSome:=by
  rw [List.filter_filter]
  refine List.filter_congr fun i hi=>?_
  cases e:μ0 i with
  | none=>rw [h.u i (List.mem_range.1 hi) e]; rfl
  | some k=>simp
 have h3:=zEU (fun i=>(μ0 i).isSome) (List.range b.calls.length)
 have h4:((List.range b.calls.length).filter fun i=>(μ0 i).isSome).length=m0:=hm
 rw [List.length_range] at h3
 have h5:(((List.range b.calls.length).filter (inM m)).filter fun i=>(μ0 i).isSome).length=(nbL b (inM m)).length:=by
  have nd:(((List.range b.calls.length).filter (inM m)).filter fun i=>(μ0 i).isSome).Nodup:=List.Nodup.sublist List.filter_sublist (List.Nodup.sublist List.filter_sublist List.nodup_range)
  have mem:∀ i,i∈(((List.range b.calls.length).filter (inM m)).filter fun i=>(μ0 i).isSome)↔i<b.calls.length∧inM m i=true∧(μ0 i).isSome=true:=fun i=>by
   rw [List.mem_filter,List.mem_filter,List.mem_range,and_assoc]
  have key:∀ i,i∈(((List.range b.calls.length).filter (inM m)).filter fun i=>(μ0 i).isSome)→∃ k,μ0 i=some k∧(μ0 i).getD 0=k:=fun i hi=>by
   have:=((mem i).1 hi).2.2
   cases e:μ0 i with
   | none=>rw [e] at this; cases this
   | some k=>exact ⟨k,rfl,rfl⟩
  have ndm:((((List.range b.calls.length).filter (inM m)).filter fun i=>(μ0 i).isSome).map fun i=>(μ0 i).getD 0).Nodup:=by
   rw [List.nodup_iff_pairwise_ne,List.pairwise_map]
   refine List.Pairwise.imp_of_mem (R:=fun a b=>a≠b) (fun {x y} hx hy hxy e=>?_) (List.nodup_iff_pairwise_ne.1 nd)
   obtain ⟨k,q1,q2⟩:=key x hx
   obtain ⟨k',q3,q4⟩:=key y hy
   exact hxy (hM.i x y k q1 (by rw [q3,← q4,← e,q2]))
  refine Nat.le_antisymm ?_ ?_
  ·have:=JB ndm (r:=nbL b (inM m)) fun k hk=>by
    rw [List.mem_map] at hk
    obtain ⟨i,hi,rfl⟩:=hk
    obtain ⟨k,q1,q2⟩:=key i hi
    obtain ⟨c1,c2,c3⟩:=hM.c i k q1
    rw [q2,hN]
    exact ⟨c2,i,c1,c3,((mem i).1 hi).2.1⟩
   rwa [List.length_map] at this
  ·have:=JB (l:=nbL b (inM m)) (r:=(((List.range b.calls.length).filter (inM m)).filter fun i=>(μ0 i).isSome).map fun i=>(μ0 i).getD 0) (List.Nodup.sublist List.filter_sublist List.nodup_range) fun k hk=>by
    obtain ⟨k1,j,j1,j2,j3⟩:=(hN k).1 hk
    have:∃ i,μ0 i=some k:=by
     refine Classical.byContradiction fun hn=>?_
     obtain ⟨μ,a1,a2,a3,a4,a5⟩:=h.a j j1 j3
     have b2:=zMb a1 j1 k1 j2 fun r hr=>absurd (a5 r k hr) hn
     have b4:=zMm (b:=b) (μ:=μ) (j:=j) (k:=k) j1 a3
     have:=hX.m _ b2
     omega
    obtain ⟨i,hi⟩:=this
    rw [List.mem_map]
    exact ⟨i,(mem i).2 ⟨(hM.c i k hi).1,hc k k1 i j hi j1 j2 j3,by rw [hi]; rfl⟩,by rw [hi]; rfl⟩
   rwa [List.length_map] at this
 rw [h2] at h1
 omega
theorem zNO {h:zG} {l:List zJ} (hg:QU h l) {μ0:Nat→Option Nat} {m0:Nat} {own:List (Int×Int)} (hM:Mat (zR h l) μ0) (hown:∀ (k:Nat) (v:Int),ZE (k:Int) own=some v↔∃ i:Nat,μ0 i=some k∧v=(i:Int)) {m:List (Int×Bool)} (h0:AltI (zR h l) μ0 m0 m) :
  ∃ m',AltI (zR h l) μ0 m0 m'∧(∀ k,k<(zR h l).slots.length→ClosedAt (zR h l) μ0 m' k)∧Lp (Jo l (zR h l) own) fuel (true,m)=jS (zR h l) m':=by
 have hn:=hg.n
 have ns:=(zFc hg).ns
 have ecl:(zR h l).calls=l:=rfl
 obtain ⟨r,h1,m',h2,h3,h4⟩:=lp_meas (body:=Jo l (zR h l) own) (s0:=(true,m)) (fun s=>AltI (zR h l) μ0 m0 s.2∧(s.1=false→∀ k,k<(zR h l).slots.length→ClosedAt (zR h l) μ0 s.2 k)) (fun s=>2*(l.length - cntM (zR h l) s.2)+if s.1=true then 1 else 0)
  (fun r => ∃ m',AltI (zR h l) μ0 m0 m'∧(∀ k,k<(zR h l).slots.length→ClosedAt (zR h l) μ0 m' k)∧some r=jS (zR h l) m') (by simp only [if_true]; omega) ⟨h0,fun q=>by cases q⟩ fun s hI=>by
   obtain ⟨more,m⟩:=s
   obtain ⟨i1,i2⟩:=hI
   simp only at i1 i2
   cases more with
   | false =>
    right
    unfold Jo
    simp only [Bool.false_eq_true,if_false]
    have:∃ r,jS (zR h l) m=some r:=by unfold jS; rw [zIX hg]; exact ⟨_,rfl⟩
    obtain ⟨r,hr⟩:=this
    exact ⟨r,by rw [hr]; rfl,m,i1,i2 rfl,hr.symm⟩
   | true =>
    left
    unfold Jo
    simp only [if_true]
    obtain ⟨r,g1,more',m',rfl,g2,g3,g4,g5⟩:=lp_inv' (body:=qE l (zR h l) own) (s0:=(false,0,m)) (fun k s=>s.2.1=(k:Int)∧AltI (zR h l) μ0 m0 s.2.2∧(∀ r,inM m r=true→inM s.2.2 r=true)∧(s.1=true→cntM (zR h l) m<cntM (zR h l) s.2.2)∧(s.1=false→s.2.2=m∧∀ q,q<k→ClosedAt (zR h l) μ0 m q))
     (fun r => ∃ (more':Bool) (m':List (Int×Bool)),r = .inl (more',m')∧AltI (zR h l) μ0 m0 m'∧(∀ r,inM m r=true→inM m' r=true)∧(more'=true→cntM (zR h l) m<cntM (zR h l) m')∧(more'=false→∀ q,q<(zR h l).slots.length→ClosedAt (zR h l) μ0 m' q)) (zR h l).slots.length (by omega) ⟨rfl,i1,fun r hr=>hr,fun q=>(by cases q),fun _=>⟨rfl,fun q hq=>by omega⟩⟩ (fun k s hk hJ=>by
      obtain ⟨mo,x,m6⟩:=s
      simp only at hJ
      obtain ⟨rfl,j1,j2,j3,j4⟩:=hJ
      have hj5:∀ a b,yR (k:Int) a b=some (.inl (a,((k+1:Nat):Int),b)):=fun a b=>by unfold yR; rw [zf (by omega) (by omega)]; rfl
      unfold qE
      simp only
      by_cases hks:k<(zR h l).slots.length
      ·rw [if_pos (by simpa using hks),zBi (d:=default) hks,Option.bind_some]
       left
       refine ⟨hks,?_⟩
       by_cases hskip:(!(ZE (k:Int) own).isSome||(ZE ((ZE (k:Int) own).getD 0) m6).getD false)=true
       ·rw [if_pos hskip,hj5]
        refine ⟨_,rfl,rfl,j1,j2,j3,fun q=>⟨(j4 q).1,fun x hx=>?_⟩⟩
        by_cases c:x=k
        ·subst c
         intro i j hi hj hcan hin
         have e1:=(hown x (i:Int)).2 ⟨i,hi,rfl⟩
         rw [e1] at hskip
         have e2:(ZE (i:Int) m6).getD false=true:=by simpa using hskip
         rw [← (j4 q).1]; exact e2
        ·exact (j4 q).2 x (by omega)
       ·rw [if_neg hskip]
        simp only [Bool.or_eq_true,not_or,Bool.not_eq_true',Bool.not_eq_false] at hskip
        obtain ⟨v,hv⟩:=Option.isSome_iff_exists.1 (by simpa using hskip.1)
        obtain ⟨i,hi,rfl⟩:=(hown k v).1 hv
        have hif:inM m6 i=false:=by have:=hskip.2; rw [hv] at this; simpa [inM] using this
        have hin:=(hM.c i k hi).1
        obtain ⟨r,g1,mo',m5,rfl,g2⟩:=lp_inv' (body:=zA0 l (zR h l) own (k:Int) ((zR h l).slots.getD k default)) (s0:=(mo,0,m6)) (fun j s=>s.2.1=(j:Int)∧((s.1=mo∧s.2.2=m6∧∀ q,q<j→¬ (canB (zR h l) q k=true∧inM m6 q=true))∨(s.1=true∧AltI (zR h l) μ0 m0 s.2.2∧(∀ r,inM m6 r=true→inM s.2.2 r=true)∧inM s.2.2 i=true)))
         (fun r => ∃ (mo':Bool) (m5:List (Int×Bool)),r = .inl (mo',((k+1:Nat):Int),m5)∧((mo'=mo∧m5=m6∧∀ q,q<l.length→¬ (canB (zR h l) q k=true∧inM m6 q=true))∨(mo'=true∧AltI (zR h l) μ0 m0 m5∧(∀ r,inM m6 r=true→inM m5 r=true)∧inM m5 i=true))) l.length (by omega) ⟨rfl,.inl ⟨rfl,rfl,fun q hq=>by omega⟩⟩ (fun j s hj hK=>by
          obtain ⟨mo2,x,m5⟩:=s
          simp only at hK
          obtain ⟨rfl,hK⟩:=hK
          unfold zA0
          simp only
          by_cases hjl:j<l.length
          ·have hj7:∀ a b,yQ (j:Int) a b=some (.inl (a,((j+1:Nat):Int),b)):=fun a b=>by unfold yQ; rw [zf (by omega) (by omega)]; rfl
           rw [if_pos (by simpa using hjl),zBi (d:=[]) (by simpa [zR] using hjl),Option.bind_some,show ((ZE ((zR h l).slots.getD k default) ((zR h l).can.getD j [])).isSome&&(ZE (j:Int) m5).getD false)=(canB (zR h l) j k&&inM m5 j) from rfl,hv]
           simp only [Option.getD_some]
           left
           refine ⟨hjl,?_⟩
           by_cases c:(canB (zR h l) j k&&inM m5 j)=true
           ·rw [if_pos c,hj7]
            rw [Bool.and_eq_true] at c
            have a5:AltI (zR h l) μ0 m0 m5∧∀ r,inM m6 r=true→inM m5 r=true:=by
             rcases hK with ⟨_,rfl,_⟩ | ⟨_,q1,q2,_⟩
             ·exact ⟨j1,fun r hr=>hr⟩
             ·exact ⟨q1,q2⟩
            refine ⟨_,rfl,rfl,.inr ⟨rfl,a5.1.put hM hi hjl c.2 c.1,fun r hr=>?_,?_⟩⟩
            ·simp only; rw [zDD,a5.2 r hr]; simp
            ·simp only; rw [zDD]; simp
           ·rw [if_neg c,hj7]
            refine ⟨_,rfl,rfl,?_⟩
            rcases hK with ⟨q1,q2,q3⟩ | q
            ·refine .inl ⟨q1,q2,fun q hq=>?_⟩
             by_cases w:q=j
             ·subst w; rw [← q2]; rw [Bool.and_eq_true] at c; exact c
             ·exact q3 q (by omega)
            ·exact .inr q
          ·have e:j=l.length:=by omega
           subst e
           rw [if_neg (by simp),hj5]
           exact .inr ⟨_,rfl,_,_,rfl,hK⟩)
        refine ⟨_,g1,rfl,?_⟩
        simp only
        rcases g2 with ⟨rfl,rfl,q3⟩ | ⟨rfl,q1,q2,q3⟩
        ·refine ⟨j1,j2,j3,fun q=>⟨(j4 q).1,fun x hx=>?_⟩⟩
         by_cases c:x=k
         ·subst c
          intro i' j hi' hj hcan hinj
          exact absurd ⟨hcan,by rw [(j4 q).1]; exact hinj⟩ (q3 j hj)
         ·exact (j4 q).2 x (by omega)
        ·refine ⟨q1,fun r hr=>q2 r (j2 r hr),fun _=>?_,fun q=>by cases q⟩
         have:=cnt_mono (b:=zR h l) j2
         have:=cnt_lt (b:=zR h l) q2 hin hif q3
         omega
      ·have e:k=(zR h l).slots.length:=by omega
       subst e
       rw [if_neg (by simp)]
       refine .inr ⟨_,rfl,mo,m6,rfl,j1,j2,j3,fun q=>?_⟩
       obtain ⟨e1,e2⟩:=j4 q
       rw [e1]; exact e2)
    refine ⟨_,g1,⟨g2,g5⟩,?_⟩
    have c1:=cnt_mono (b:=zR h l) g3
    have c2:=cnt_le (zR h l) m'
    rw [ecl] at c2
    simp only [if_true]
    cases more' with
    | false=>simp only [Bool.false_eq_true,if_false]; omega
    | true=>have:=g4 rfl; simp only [if_true]; omega
 exact ⟨m',h2,h3,by rw [h1]; exact h4⟩
theorem zNb {h:zG} {l:List zJ} (hh:LenH h) (hl:Len l) (ec:jm h l=0) {m0:Nat} (hX:MaxM (zR h l) m0) :
  (m0=l.length∧J2 h l=some (⟨[],[]⟩,false,0))∨(m0<l.length∧∃ p,J2 h l=some (Jj (zR h l) p,true,0)∧((List.range l.length).filter p).length=(nbL (zR h l) p).length+(l.length - m0)):=by
 have hg:=QU.of hh ec
 have hn:=hg.n
 have hB:=zFc hg
 have ns:=hB.ns
 have ecl:(zR h l).calls=l:=rfl
 obtain ⟨m,out,want,b1,b2,b3,b4,b5,b6,b7⟩:=zMa hB (zKu h l)
 have em:=hX.uniq b4
 subst em
 obtain ⟨w0,w1⟩:=zLL hB b2
 have hM:=zOF b2.a w1
 have hol:out.length=l.length:=b2.l
 have hnn:∀ r,r<l.length→0≤gI out r:=b2.nn
 unfold J2
 rw [Yu h hh l hl,Option.bind_some,if_neg (by simp [ec]),zJ8 hg.h hg.n (fun c hc=>zDX.of (hg.r c hc)),Option.bind_some,b1,Option.bind_some]
 obtain ⟨⟨x,m,own⟩,⟨rfl,h1,h2,h3⟩,h4⟩:=YU (body:=yS l (zR h l) (out,want)) (X:=fun s=>Jn l (zR h l) s.2.1 s.2.2) (s0:=(0,[],[]))
  (fun j s=>s.1=(j:Int)∧(∀ (i:Nat),inM s.2.1 i=decide (i<j∧((zR h l).slots.length:Int)≤gI out i))∧(s.2.1=[]↔∀ i,i<j→gI out i<((zR h l).slots.length:Int))∧∀ (k:Nat) (v:Int),ZE (k:Int) s.2.2=some v↔∃ i:Nat,(i<j∧gI out i<((zR h l).slots.length:Int)∧gI out i=(k:Int))∧v=(i:Int)) l.length (by omega)
  ⟨rfl,fun i=>by simp [inM,ZE],⟨fun _ i hi=>by omega,fun _=>rfl⟩,fun k v=>⟨fun q=>(by cases q),fun ⟨i,q,_⟩=>by omega⟩⟩
  (fun j s hj hI=>by
   obtain ⟨x,m,own⟩:=s
   simp only at hI
   obtain ⟨rfl,h1,h2,h3⟩:=hI
   have hj9:∀ a b,JF (j:Int) a b=some (.inl (((j+1:Nat):Int),a,b)):=fun a b=>by unfold JF; rw [zf (by omega) (by omega)]; rfl
   unfold yS
   simp only
   rw [if_pos (by simp; omega),YD (by omega),Option.bind_some]
   by_cases e:((zR h l).slots.length:Int)≤gI out j
   ·rw [if_pos (by simpa using e),hj9]
    refine ⟨_,rfl,rfl,fun i=>?_,⟨fun q=>absurd q (putM_ne _ _ _ _),fun q=>absurd (q j (by omega)) (by omega)⟩,fun k v=>?_⟩
    ·simp only
     rw [zDD,h1 i]
     by_cases c:i=j
     ·subst c; simp [e]
     ·rw [decide_eq_false c,Bool.false_or,decide_eq_decide]
      constructor
      ·rintro ⟨a,b⟩; exact ⟨by omega,b⟩
      ·rintro ⟨a,b⟩; exact ⟨by omega,b⟩
    ·simp only
     rw [h3 k v]
     constructor
     ·rintro ⟨i,⟨a,b,c⟩,d⟩; exact ⟨i,⟨by omega,b,c⟩,d⟩
     ·rintro ⟨i,⟨a,b,c⟩,d⟩
      refine ⟨i,⟨?_,b,c⟩,d⟩
      by_cases w:i=j
      ·subst w; omega
      ·omega
   ·have hnj:=hnn j hj
    rw [if_neg (by simpa using e),hj9]
    refine ⟨_,rfl,rfl,fun i=>?_,?_,fun k v=>?_⟩
    ·simp only
     rw [h1 i,decide_eq_decide]
     constructor
     ·rintro ⟨a,b⟩; exact ⟨by omega,b⟩
     ·rintro ⟨a,b⟩
      refine ⟨?_,b⟩
      by_cases w:i=j
      ·subst w; omega
      ·omega
    ·simp only
     rw [h2]
     constructor
     ·intro q i hi
      by_cases w:i=j
      ·subst w; omega
      ·exact q i (by omega)
     ·intro q i hi; exact q i (by omega)
    ·simp only
     rw [zES]
     by_cases c:(k:Int)=gI out j
     ·rw [if_pos c]
      constructor
      ·intro q; cases q; exact ⟨j,⟨by omega,by omega,c.symm⟩,rfl⟩
      ·rintro ⟨i,⟨a,b,d⟩,rfl⟩
       have:i=j:=b2.a.inj i j (show i<l.length by omega) hj (show (gI out i).toNat=(gI out j).toNat by omega)
       rw [this]
     ·rw [if_neg c,h3 k v]
      constructor
      ·rintro ⟨i,⟨a,b,d⟩,f⟩; exact ⟨i,⟨by omega,b,d⟩,f⟩
      ·rintro ⟨i,⟨a,b,d⟩,f⟩
       refine ⟨i,⟨?_,b,d⟩,f⟩
       by_cases w:i=j
       ·subst w; exact absurd d.symm c
       ·omega)
  (fun s hI=>by
   obtain ⟨x,m,own⟩:=s
   simp only at hI
   obtain ⟨rfl,_⟩:=hI
   unfold yS
   simp only
   rw [if_neg (by simp; omega)])
 simp only at h1 h2 h3 h4
 rw [h4]
 unfold Jn
 have hmu:∀ i k:Nat,muOf (zR h l) (fun r=>(gI out r).toNat) i=some k↔i<l.length∧gI out i<((zR h l).slots.length:Int)∧gI out i=(k:Int):=fun i k=>by
  rw [zEQ,ecl]
  constructor
  ·rintro ⟨a,b,c⟩; have:=hnn i a; exact ⟨a,by omega,by omega⟩
  ·rintro ⟨a,b,c⟩; exact ⟨a,by omega,by omega⟩
 have hsplit:=zEU (fun r=>(muOf (zR h l) (fun r=>(gI out r).toNat) r).isSome) (List.range l.length)
 rw [List.length_range] at hsplit
 have hdl:((List.range l.length).filter fun r=>(muOf (zR h l) (fun r=>(gI out r).toNat) r).isSome).length=m0:=b6.symm
 have hnone:∀ i,i<l.length→(muOf (zR h l) (fun r=>(gI out r).toNat) i=none↔((zR h l).slots.length:Int)≤gI out i):=fun i hi=>by
  have:=hnn i hi
  unfold muOf
  constructor
  ·intro q
   by_cases c:i<(zR h l).calls.length∧(gI out i).toNat<(zR h l).slots.length
   ·rw [if_pos c] at q; cases q
   ·rw [ecl] at c; omega
  ·intro q
   rw [if_neg (fun z=>by have:(gI out i).toNat<(zR h l).slots.length:=z.2; omega)]
 by_cases e:m=[]
 ·left
  have hall:=h2.1 e
  have hz:((List.range l.length).filter fun r => !(muOf (zR h l) (fun r=>(gI out r).toNat) r).isSome)=[]:=by
   rw [List.filter_eq_nil_iff]
   intro r hr
   rw [List.mem_range] at hr
   have:=hall r hr
   cases q:muOf (zR h l) (fun r=>(gI out r).toNat) r with
   | none=>have:=(hnone r hr).1 q; omega
   | some k=>simp
  rw [hz] at hsplit
  refine ⟨by simp only [List.length_nil] at hsplit; omega,?_⟩
  rw [if_pos (by simp [e])]
 ·right
  have hlt:m0<l.length:=by
   refine Nat.lt_of_not_le fun w=>?_
   have hz:((List.range l.length).filter fun r => !(muOf (zR h l) (fun r=>(gI out r).toNat) r).isSome).length=0:=by omega
   have hz2:=List.length_eq_zero_iff.1 hz
   rw [List.filter_eq_nil_iff] at hz2
   refine e (h2.2 fun i hi=>?_)
   have:=hz2 i (List.mem_range.2 hi)
   refine Int.lt_of_not_ge fun w2=>?_
   rw [(hnone i hi).2 w2] at this
   exact this rfl
  refine ⟨hlt,?_⟩
  rw [if_neg (by simp; exact e)]
  have hA:AltI (zR h l) (muOf (zR h l) (fun r=>(gI out r).toNat)) m0 m:=by
   refine ⟨fun i hi h0=>?_,fun s hs hs2=>⟨_,hM,by omega,?_,fun _ _=>rfl,fun r k q=>⟨r,q⟩⟩⟩
   ·rw [h1 i,decide_eq_true_eq]; exact ⟨hi,(hnone i hi).1 h0⟩
   ·rw [h1 s,decide_eq_true_eq] at hs2
    exact (hnone s hs).2 hs2.2
  obtain ⟨m',a1,a2,a3⟩:=zNO hg hM (own:=own) (fun k v=>by
   rw [h3 k v]
   constructor
   ·rintro ⟨i,q,r⟩; exact ⟨i,(hmu i k).2 q,r⟩
   ·rintro ⟨i,q,r⟩; exact ⟨i,(hmu i k).1 q,r⟩) hA
  refine ⟨inM m',?_,zLB hX hM b6.symm a1 a2⟩
  rw [a3]
  unfold jS
  rw [zIX hg,Option.bind_some]
theorem zIW (b:zL) (p:Nat→Bool):(Jj b p).Calls.length=((List.range b.calls.length).filter p).length∧(Jj b p).Slots.length=(nbL b p).length:=by
 unfold Jj idsL
 simp only [List.length_map]
 rw [(zAd _).1.length_eq,List.length_map]
 constructor <;> first | rfl | trivial
theorem zNE {b:zL} {p:Nat→Bool} {x:Int}:x∈(Jj b p).Calls↔∃ i,i<b.calls.length∧p i=true∧(b.calls.getD i default).ID=x:=by
 unfold Jj idsL
 simp only
 rw [(zAd _).1.mem_iff,List.mem_map]
 constructor
 ·rintro ⟨i,hi,rfl⟩
  rw [List.mem_filter,List.mem_range] at hi
  exact ⟨i,hi.1,hi.2,rfl⟩
 ·rintro ⟨i,h1,h2,rfl⟩
  exact ⟨i,List.mem_filter.2 ⟨List.mem_range.2 h1,h2⟩,rfl⟩
theorem zOW {h:zG} {l:List zJ} (hg:QU h l) {p:Nat→Bool} {m0:Nat} (hm:m0<l.length) (hc:((List.range l.length).filter p).length=(nbL (zR h l) p).length+(l.length - m0)):zFj (zR h l) (Jj (zR h l) p)=((l.length:Int) - (m0:Int),0):=by
 obtain ⟨l1,l2⟩:=zIW (zR h l) p
 have ecl:(zR h l).calls=l:=rfl
 rw [ecl] at l1
 have hq:Jj (zR h l) (fun i=>decide (i<(zR h l).calls.length∧((zR h l).calls.getD i default).ID∈(Jj (zR h l) p).Calls))=Jj (zR h l) p:=zFs fun i hi=>by
  rw [Bool.eq_iff_iff,decide_eq_true_eq,zNE]
  constructor
  ·rintro ⟨_,j,h1,h2,h3⟩
   have hi':i<l.length:=hi
   have hj':j<l.length:=h1
   rw [ecl,getD_lt hi',getD_lt hj'] at h3
   rcases Nat.lt_trichotomy i j with w | w | w
   ·exact absurd h3.symm (List.pairwise_iff_getElem.1 hg.d i j hi' hj' w)
   ·rw [w]; exact h2
   ·exact absurd h3 (List.pairwise_iff_getElem.1 hg.d j i hj' hi' w)
  ·intro q; exact ⟨hi,i,hi,q,rfl⟩
 unfold zFj
 rw [hq,if_neg,l1,l2]
 ·rw [show ((((List.range l.length).filter p).length:Nat):Int) - ((nbL (zR h l) p).length:Int)=(l.length:Int) - (m0:Int) by omega]
 ·rintro (z | z | z | z)
  ·rw [z] at l1; simp only [List.length_nil] at l1; omega
  ·exact z rfl
  ·exact z rfl
  ·omega
end Go.Mx
