/- Part of the proof of TopRulingsArePostedOnce: plain laws about the functions of M, no program in sight. Conditions: none. -/
import Derived.Test.YtggkidlcohickaaGreatLawZf
set_option linter.unusedVariables false
set_option linter.unusedSimpArgs false
namespace Go.Mx
theorem zC0 {α:Type}:∀ (l:List α) (n:Nat) (x:α),(insL l n x).Perm (x :: l)
 | l,0,x=>by cases l <;> exact List.Perm.refl _
 | [],n+1,x=>List.Perm.refl _
 | y :: r,n+1,x=>((zC0 r n x).cons y).trans (List.Perm.swap x y r)
theorem qK {α β:Type} [DecidableEq α]:∀ {l:List (α×β)},(l.map (·.1)).Nodup→∀ (k:α) (v:β),zO k l=some v↔(k,v)∈l
 | [],_,k,v=>by simp [zO]
 | p :: r,hn,k,v=>by
  simp only [List.map_cons,List.nodup_cons] at hn
  unfold zO
  by_cases e:k=p.1
  ·rw [if_pos e]
   constructor
   ·intro h; simp only [Option.some.injEq] at h; subst h; subst e; exact List.mem_cons_self
   ·intro h
    rcases List.mem_cons.1 h with h | h
    ·rw [← h]
    ·exact absurd (List.mem_map.2 ⟨_,h,e⟩) hn.1
  ·rw [if_neg e,qK hn.2 k v]
   constructor
   ·exact fun h=>List.mem_cons_of_mem _ h
   ·intro h
    rcases List.mem_cons.1 h with h | h
    ·exact absurd (by rw [← h]) e
    ·exact h
theorem zEJ {α β:Type} [DecidableEq α]:∀ (l:List (α×β)) (k:α),(zO k l).isSome=true↔k∈l.map (·.1)
 | [],k=>by simp [zO]
 | p :: r,k=>by
  unfold zO
  by_cases e:k=p.1
  ·rw [if_pos e]; simp [e]
  ·rw [if_neg e,zEJ r k]; simp [e]
theorem zAv {α β:Type} [DecidableEq α] (pos:α→List α→Nat) (l:List (α×β)) (k:α) (v:β) (hn:(l.map (·.1)).Nodup):((putM pos l k v).map (·.1)).Nodup∧∀ p,p∈putM pos l k v↔p=(k,v)∨(p∈l∧p.1≠k):=by
 unfold putM
 have hs:=JF (k:=k) (l:=l)
 cases hf:JB k l with
 | none =>
  rw [hf] at hs
  have hp:=zC0 l (pos k (l.map (·.1))) (k,v)
  constructor
  ·simp only
   have h2:=hp.map (·.1)
   rw [h2.nodup_iff,List.map_cons,List.nodup_cons]
   refine ⟨fun h=>?_,hn⟩
   obtain ⟨p,h3,h4⟩:=List.mem_map.1 h
   exact hs.2 p h3 h4
  ·intro p
   simp only
   rw [hp.mem_iff,List.mem_cons]
   constructor
   ·rintro (h | h)
    ·exact .inl h
    ·exact .inr ⟨h,hs.2 p h⟩
   ·rintro (h | h)
    ·exact .inl h
    ·exact .inr h.1
 | some i =>
  rw [hf] at hs
  obtain ⟨w,h1,h2⟩:=hs
  obtain ⟨hi,h1⟩:=List.getElem?_eq_some_iff.1 h1
  simp only
  have hmap:(l.set i (k,v)).map (·.1)=l.map (·.1):=by
   rw [List.map_set]
   refine List.ext_getElem? fun j=>?_
   rw [List.getElem?_set]
   by_cases e:i=j
   ·subst e
    rw [if_pos rfl,List.length_map,if_pos hi,List.getElem?_map,List.getElem?_eq_getElem hi,h1]; rfl
   ·rw [if_neg e]
  refine ⟨by rw [hmap]; exact hn,fun p=>?_⟩
  constructor
  ·intro h
   obtain ⟨j,hj,rfl⟩:=List.getElem_of_mem h
   rw [List.length_set] at hj
   rw [List.getElem_set]
   by_cases e:i=j
   ·rw [if_pos e]; exact .inl rfl
   ·rw [if_neg e]
    refine .inr ⟨List.getElem_mem _,fun h3=>e ?_⟩
    have hpw:=List.pairwise_iff_getElem.1 hn
    rcases Nat.lt_trichotomy i j with q | q | q
    ·have:=hpw i j (by simpa using hi) (by simpa using hj) q
     simp only [List.getElem_map,h1] at this
     exact absurd h3.symm this
    ·exact q
    ·have:=hpw j i (by simpa using hj) (by simpa using hi) q
     simp only [List.getElem_map,h1] at this
     exact absurd h3 this
  ·rintro (rfl | ⟨h,h3⟩)
   ·exact List.mem_iff_getElem.2 ⟨i,by rw [List.length_set]; exact hi,by simp⟩
   ·obtain ⟨j,hj,rfl⟩:=List.getElem_of_mem h
    have e:i≠j:=fun e=>by subst e; rw [h1] at h3; exact h3 rfl
    exact List.mem_iff_getElem.2 ⟨j,by rw [List.length_set]; exact hj,by rw [List.getElem_set_ne e]⟩
theorem zDl (p:Nat→Bool):∀ n,cnt p n=((List.range n).filter p).length
 | 0=>rfl
 | n+1=>by
  unfold cnt
  rw [List.range_succ,List.filter_append,List.length_append,zDl p n]
  cases h:p n <;> simp [h]
theorem zHq {l:List Int} {p:Nat→Bool} {n:Nat} (hn:l.Nodup) (h:∀ a,a∈l↔0≤a∧a.toNat<n∧p a.toNat=true):l.length=cnt p n:=by
 rw [zDl]
 have hp:l.Perm (((List.range n).filter p).map fun a:Nat=>(a:Int)):=by
  rw [List.perm_ext_iff_of_nodup hn]
  ·intro a
   rw [h,List.mem_map]
   constructor
   ·rintro ⟨q1,q2,q3⟩
    exact ⟨a.toNat,List.mem_filter.2 ⟨List.mem_range.2 q2,q3⟩,by omega⟩
   ·rintro ⟨b,hb,rfl⟩
    obtain ⟨q1,q2⟩:=List.mem_filter.1 hb
    exact ⟨by omega,by simpa using List.mem_range.1 q1,by simpa using q2⟩
  ·refine List.Pairwise.map _ (fun a b h e=>h (by omega)) (List.Pairwise.filter _ List.nodup_range)
 rw [hp.length_eq,List.length_map]
theorem zO0 {ρ:Type} {c:zD} (hc:okC c=true) {body:Int×Int→Option ((Int×Int) ⊕ ρ)} (p:Nat→Bool) (fin:Int→ρ) (step:∀ (a:Nat) (n:Int),(a:Int)<c.Arbiters→0≤n→n≤7→body (n,(a:Int))=some (.inl (n+if p a=true then 1 else 0,((a+1:Nat):Int)))) (last:∀ n a,¬ a<c.Arbiters→body (n,a)=some (.inr (fin n))):Lp body fuel (0,0)=some (fin (cnt p c.Arbiters.toNat:Nat)):=by
 obtain ⟨g1,g2⟩:=jI hc
 suffices h:∃ r,Lp body fuel (0,0)=some r∧r=fin (cnt p c.Arbiters.toNat:Nat) by obtain ⟨r,h,rfl⟩:=h; exact h
 refine lp_inv' (fun (i:Nat) (s:Int×Int)=>s=(((cnt p i:Nat):Int),(i:Int))) _ c.Arbiters.toNat (by omega) rfl fun i s hi hI=>?_
 subst hI
 by_cases hlt:i<c.Arbiters.toNat
 ·have:=zOs p i
  refine .inl ⟨hlt,_,step i _ (by omega) (by omega) (by omega),?_⟩
  show _=(((cnt p i+if p i=true then 1 else 0:Nat):Int),_)
  split <;> rfl
 ·have:i=c.Arbiters.toNat:=by omega
  subst this
  exact .inr ⟨_,last _ _ (by omega),rfl⟩
def rulR (x:zA):zB:=⟨x.Case,x.Round,x.Finding⟩
theorem QR {x:zA} {r:zB}:zR x r=true↔x.Kind=4∧rulR x=r:=by
 unfold zR rulR
 obtain ⟨a,b,d⟩:=r
 simp [and_assoc]
def vtB (l:List zA) (r:zB) (a:Nat):Bool:=l.any fun x=>zR x r&&decide (x.From=(a:Int))
def vtS (c:zD) (l:List zA) (r:zB):Int:=(cnt (vtB l r) c.Arbiters.toNat:Nat)
theorem or_loop {ρ:Type} (p:zA→Bool) (l:List zA) (hl:l.length≤4000) {body:Bool×Int→Option ((Bool×Int) ⊕ ρ)} (f0:Bool) (fin:Bool→ρ)
  (step:∀ f (i:Nat) (hi:i<l.length),body (f,(i:Int))=some (.inl (f||p l[i],((i+1:Nat):Int)))) (last:∀ f,body (f,(l.length:Int))=some (.inr (fin f))):Lp body fuel (f0,0)=some (fin (f0||l.any p)):=by
 rw [zBt (body:=body) l hl (fun f i=>(f,i)) (fun f x=>f||p x) fin (fun _ _=>True) (a:=f0) rfl trivial (fun f i hi _=>⟨step f i hi,trivial⟩) (fun f _=>last f)]
 congr 2
 clear step last hl
 induction l generalizing f0 with
 | nil=>simp
 | cons x r ih=>rw [List.foldl_cons,ih,List.any_cons,Bool.or_assoc]
theorem zMh (c:zD) (hc:okC c=true) (l:List zA) (hl:l.length≤4000) (r:zB):zB3 c l r=some (vtS c l r):=by
 unfold zB3 vtS
 refine zO0 hc (vtB l r) (fun n=>n) (fun a n ha h0 h7=>?_) (fun n a ha=>?_)
 ·obtain ⟨g1,g2⟩:=jI hc
  unfold qY
  simp only [ha,decide_true,if_true]
  rw [or_loop (fun x=>zR x r&&decide (x.From=(a:Int))) l hl false (fun f=>if f=true then Sum.inl (w64 (n+1),w64 ((a:Int)+1)) else Sum.inl (n,w64 ((a:Int)+1))) (fun f i hi=>?_) (fun f=>?_)]
  ·show some (if (false||vtB l r a)=true then _ else _)=_
   rw [Bool.false_or,w64s a (by omega),JD (n:=n+1) (by omega) (by omega)]
   split <;> simp
  ·unfold qX
   simp only [dlt hi,if_true,Zf hi,w64i hi hl]
   cases f with
   | true=>simp [gb]
   | false =>
    simp only [Bool.not_false,Bool.true_and,Bool.false_or]
    cases hv:zR l[i] r <;> simp [gb,hv]
  ·unfold qX
   simp only [dge,Bool.false_eq_true,if_false,zB1,qW]
   cases f <;> rfl
 ·unfold qY
  simp [ha,zB2]
theorem zIB (a b:zB):Y3 a b=zQ a b:=by
 unfold Y3 zQ
 by_cases c1:a.Case=b.Case
 ·by_cases c2:a.Round=b.Round
  ·simp [c1,c2]
  ·simp [c1,c2]
 ·simp [c1]
theorem zCs (a:zB):zQ a a=false:=by unfold zQ; simp
theorem zN6 {a b d:zB} (h1:zQ a b=true) (h2:zQ b d=true):zQ a d=true:=by unfold zQ at *; simp at *; omega
theorem zLo {a b:zB} (h1:zQ a b=false) (h2:zQ b a=false):a=b:=by
 unfold zQ at h1 h2
 simp at h1 h2
 obtain ⟨a1,a2,a3⟩:=a
 obtain ⟨b1,b2,b3⟩:=b
 simp only at h1 h2
 have e1:a1=b1:=by omega
 subst e1
 have e2:a2=b2:=by
  have:=h1.2 rfl
  have:=h2.2 rfl
  omega
 subst e2
 have e3:a3=b3:=by
  have:=(h1.2 rfl).2 rfl
  have:=(h2.2 rfl).2 rfl
  omega
 subst e3
 rfl
theorem zN7 {a b:zB} (h:zQ a b=true):zQ b a=false:=by
 cases h2:zQ b a with
 | false=>rfl
 | true=>have:=zN6 h h2; rw [zCs] at this; cases this
structure QM (c:zD) (l:List zA) (o:List zB):Prop where
 sorted:o.Pairwise fun a b=>zQ a b=true
 mem:∀ r,r∈o↔(∃ x∈l,x.Kind=4∧rulR x=r)∧majS c≤vtS c l r
theorem zMc {o o':List zB} (h:o.Pairwise fun a b=>zQ a b=true) (h':o'.Pairwise fun a b=>zQ a b=true) (hm:∀ r,r∈o↔r∈o'):o=o':=by
 have nd:∀ {o:List zB},(o.Pairwise fun a b=>zQ a b=true)→o.Nodup:=fun h=>h.imp fun {a b} hab e=>by subst e; rw [zCs] at hab; cases hab
 exact List.Perm.eq_of_pairwise (le:=fun a b=>zQ a b=true) (fun a b _ _ h1 h2=>by rw [zN7 h1] at h2; cases h2) h h' ((List.perm_ext_iff_of_nodup (nd h) (nd h')).2 hm)
theorem QM.uniq {c:zD} {l:List zA} {o o':List zB} (h:QM c l o) (h':QM c l o'):o=o':=zMc h.sorted h'.sorted fun r=>by rw [h.mem,h'.mem]
theorem zK7 {o:List zB} {r:zB} (h:o.Pairwise fun a b=>zQ a b=true) (hr:r∉o):(insB (fun y=>zQ y r) o r).Pairwise fun a b=>zQ a b=true:=by
 have h1:=zFi (le:=fun a b=>zQ a b=true∨a=b) (p:=fun y=>zQ y r) (x:=r) (fun a b d q1 q2=>by
  rcases q1 with q1 | rfl
  ·rcases q2 with q2 | rfl
   ·exact .inl (zN6 q1 q2)
   ·exact .inl q1
  ·exact q2) (fun a ha=>.inl ha) (fun a ha=>by
  cases h2:zQ r a with
  | true=>exact .inl rfl
  | false=>exact .inr (zLo h2 ha)) (l:=o) (h.imp fun h=>.inl h)
 have nd:o.Nodup:=h.imp fun {a b} hab e=>by subst e; rw [zCs] at hab; cases hab
 have h3:(insB (fun y=>zQ y r) o r).Nodup:=(zC1 _ o r).nodup_iff.2 (List.nodup_cons.2 ⟨hr,nd⟩)
 exact (h1.and h3).imp fun {a b} ⟨q1,q2⟩=>by
  rcases q1 with q1 | q1
  ·exact q1
  ·exact absurd q1 q2
theorem rrul_in (i:Int) (o:List zB) (ho:o.length≤4000) (hs:o.Pairwise fun a b=>zQ a b=true) (x:zA):Lp (J6 i o x x x) fuel 0=some (.inl (w64 (i+1),if rulR x∈o then o else insB (fun y=>zQ y (rulR x)) o (rulR x))):=by
 obtain ⟨t1,t2,t3,t4,t5⟩:=zIJ (fun y=>zQ y (rulR x)) o
 have hj:QV i o x x x ((o.takeWhile fun y=>zQ y (rulR x)).length:Nat)=some (.inl (w64 (i+1),if rulR x∈o then o else insB (fun y=>zQ y (rulR x)) o (rulR x))):=by
  unfold QV
  show gb _ _ (fun x4=>if (_&&decide (x4=rulR x))=true then _ else _)=_
  by_cases hk:(o.takeWhile fun y=>zQ y (rulR x)).length<o.length
  ·have hp:=t2 hk
   rw [Zf hk]
   simp only [dlt hk,gb,if_true,Option.bind_some,Bool.true_and,decide_eq_true_eq]
   by_cases e:o[(o.takeWhile fun y=>zQ y (rulR x)).length]=rulR x
   ·rw [if_pos e,if_pos (by rw [← e]; exact List.getElem_mem hk)]; rfl
   ·have hnm:rulR x∉o:=by
     intro hm
     obtain ⟨j,hj,hje⟩:=List.getElem_of_mem hm
     rcases Nat.lt_trichotomy j (o.takeWhile fun y=>zQ y (rulR x)).length with q | q | q
     ·have:=t1 j hj q
      rw [hje,zCs] at this; cases this
     ·subst q; exact e hje
     ·have h1:=List.pairwise_iff_getElem.1 hs _ _ hk hj q
      rw [hje] at h1
      rw [h1] at hp; cases hp
    rw [if_neg e,if_neg hnm]
    have hsub1:sub o 0 ((o.takeWhile fun y=>zQ y (rulR x)).length:Nat)=some (o.takeWhile fun y=>zQ y (rulR x)):=by rw [zGA t3,t4]
    have hsub2:sub o ((o.takeWhile fun y=>zQ y (rulR x)).length:Nat) (o.length:Int)=some (o.dropWhile fun y=>zQ y (rulR x)):=by rw [zBu t3,t5]
    rw [hsub1,Option.bind_some,Zk (by simp; omega),Option.bind_some,Zk (by simp; omega),Option.bind_some,hsub2,Option.bind_some,Zk (by
     have:(o.dropWhile fun y=>zQ y (rulR x)).length≤o.length:=by rw [← t5,List.length_drop]; omega
     simp; omega),Option.bind_some]
    show some _=some _
    simp [insB,rulR]
  ·have hk':(o.takeWhile fun y=>zQ y (rulR x)).length=o.length:=by omega
   have hnm:rulR x∉o:=by
    intro hm
    obtain ⟨j,hj,hje⟩:=List.getElem_of_mem hm
    have:=t1 j hj (by omega)
    rw [hje,zCs] at this; cases this
   have hsub1:sub o 0 ((o.takeWhile fun y=>zQ y (rulR x)).length:Nat)=some (o.takeWhile fun y=>zQ y (rulR x)):=by rw [zGA t3,t4]
   have hsub2:sub o ((o.takeWhile fun y=>zQ y (rulR x)).length:Nat) (o.length:Int)=some (o.dropWhile fun y=>zQ y (rulR x)):=by rw [zBu t3,t5]
   have hdk:decide ((((o.takeWhile fun y=>zQ y (rulR x)).length:Nat):Int)<(o.length:Int))=false:=by rw [hk']; simp
   simp only [hdk,gb,Bool.false_eq_true,if_false,Option.bind_some,Bool.false_and]
   rw [if_neg hnm,hsub1,Option.bind_some,Zk (by simp; omega),Option.bind_some,Zk (by simp; omega),Option.bind_some,hsub2,Option.bind_some,Zk (by
    have:(o.dropWhile fun y=>zQ y (rulR x)).length≤o.length:=by rw [← t5,List.length_drop]; omega
    simp; omega),Option.bind_some]
   show some _=some _
   simp [insB,rulR]
 refine tw_loop (fun y=>zQ y (rulR x)) o (by omega) _ (fun k hk hp=>?_) (fun k hk hp e=>?_) (fun e=>?_)
 ·unfold J6
  show gb _ _ (fun x5=>if (_&&Y3 x5 (rulR x))=true then _ else _)=_
  rw [Zf hk]
  simp only [dlt hk,gb,if_true,Option.bind_some,Bool.true_and,zIB,hp,w64i hk ho]
 ·unfold J6
  show gb _ _ (fun x5=>if (_&&Y3 x5 (rulR x))=true then _ else _)=_
  rw [Zf hk]
  simp only [dlt hk,gb,if_true,Option.bind_some,Bool.true_and,zIB,hp,Bool.false_eq_true,if_false]
  rw [e,hj]; rfl
 ·unfold J6
  simp only [dge,gb,Bool.false_eq_true,if_false,Option.bind_some,Bool.false_and]
  rw [← e,hj]; rfl
theorem zFw (c:zD) (hc:okC c=true) (l:List zA) (hl:l.length≤4000):∃ o,jG c l=some o∧QM c l o∧o.length≤l.length:=by
 unfold jG
 refine lp_inv' (fun (i:Nat) (s:Int×List zB) => ∃ o,s=((i:Int),o)∧o.length≤i∧(o.Pairwise fun a b=>zQ a b=true)∧∀ r,r∈o↔(∃ x∈l.take i,x.Kind=4∧rulR x=r)∧majS c≤vtS c l r) _ l.length (by omega) ⟨[],rfl,Nat.zero_le _,List.Pairwise.nil,fun r=>by simp⟩ fun i s hi hI=>?_
 obtain ⟨o,rfl,ho,hs,hm⟩:=hI
 by_cases hlt:i<l.length
 ·unfold QW
  simp only [dlt hlt,if_true,Zf hlt,Option.bind_some,YI,w64i hlt hl]
  have htk:∀ r,(∃ x∈l.take (i+1),x.Kind=4∧rulR x=r)↔(∃ x∈l.take i,x.Kind=4∧rulR x=r)∨(l[i].Kind=4∧rulR l[i]=r):=fun r=>by
   rw [List.take_succ_eq_append_getElem hlt]
   constructor
   ·rintro ⟨x,hx,h⟩
    rcases List.mem_append.1 hx with hx | hx
    ·exact .inl ⟨x,hx,h⟩
    ·rw [List.mem_singleton.1 hx] at h; exact .inr h
   ·rintro (⟨x,hx,h⟩ | h)
    ·exact ⟨x,List.mem_append_left _ hx,h⟩
    ·exact ⟨l[i],List.mem_append_right _ (List.mem_singleton.2 rfl),h⟩
  by_cases k4:l[i].Kind=4
  ·simp only [k4,decide_true,Bool.not_true,Bool.not_false,gb,if_true]
   show _∨_
   have hv:=zMh c hc l hl (rulR l[i])
   unfold rulR at hv
   rw [hv,zFx]
   simp only [Option.bind_some,Bool.false_or,decide_eq_true_eq]
   by_cases hmaj:vtS c l (rulR l[i])<majS c
   ·refine .inl ⟨hlt,(((i+1:Nat):Int),o),by rw [if_pos (by exact hmaj)],o,rfl,by omega,hs,fun r=>?_⟩
    rw [hm,htk]
    constructor
    ·rintro ⟨h1,h2⟩; exact ⟨.inl h1,h2⟩
    ·rintro ⟨h1 | h1,h2⟩
     ·exact ⟨h1,h2⟩
     ·rw [← h1.2] at h2; omega
   ·rw [if_neg (by exact hmaj),rrul_in (i:Int) o (by omega) hs l[i],w64i hlt hl]
    by_cases hin:rulR l[i]∈o
    ·rw [if_pos hin]
     refine .inl ⟨hlt,_,rfl,o,rfl,by omega,hs,fun r=>?_⟩
     rw [hm,htk]
     constructor
     ·rintro ⟨h1,h2⟩; exact ⟨.inl h1,h2⟩
     ·rintro ⟨h1 | h1,h2⟩
      ·exact ⟨h1,h2⟩
      ·rw [← h1.2]; exact (hm _).1 hin
    ·rw [if_neg hin]
     refine .inl ⟨hlt,_,rfl,_,rfl,by rw [(zC1 _ o (rulR l[i])).length_eq,List.length_cons]; omega,zK7 hs hin,fun r=>?_⟩
     rw [(zC1 _ o (rulR l[i])).mem_iff,List.mem_cons,hm,htk]
     constructor
     ·rintro (rfl | ⟨h1,h2⟩)
      ·exact ⟨.inr ⟨k4,rfl⟩,by omega⟩
      ·exact ⟨.inl h1,h2⟩
     ·rintro ⟨h1 | h1,h2⟩
      ·exact .inr ⟨h1,h2⟩
      ·exact .inl h1.2.symm
  ·simp only [k4,decide_false,Bool.not_true,Bool.not_false,gb,Bool.false_eq_true,if_false,Option.bind_some,Bool.true_or,if_true]
   refine .inl ⟨hlt,_,rfl,o,rfl,by omega,hs,fun r=>?_⟩
   rw [hm,htk]
   constructor
   ·rintro ⟨h1,h2⟩; exact ⟨.inl h1,h2⟩
   ·rintro ⟨h1 | h1,h2⟩
    ·exact ⟨h1,h2⟩
    ·exact absurd h1.1 k4
 ·have e:i=l.length:=by omega
  subst e
  rw [List.take_length] at hm
  refine .inr ⟨o,?_,⟨hs,hm⟩,ho⟩
  unfold QW
  simp [dge,zAr]
structure ByOK (m:List (zB×List (Int×Bool))) (P:List zA):Prop where
 nd:(m.map (·.1)).Nodup
 mem:∀ r,r∈m.map (·.1)↔∃ x∈P,x.Kind=4∧rulR x=r
 inner:∀ r q,(r,q)∈m→(q.map (·.1)).Nodup∧∀ a,a∈q.map (·.1)↔∃ x∈P,zR x r=true∧x.From=a
theorem zNN {m:List (zB×List (Int×Bool))} {P:List zA} {x:zA} (h:ByOK m P) (hx:x.Kind≠4):ByOK m (P++[x]):=by
 have hp:∀ q:zA→Prop,(∀ y,q y→y.Kind=4)→((∃ y∈P++[x],q y)↔∃ y∈P,q y):=fun q hq=>by
  constructor
  ·rintro ⟨y,hy,h⟩
   rcases List.mem_append.1 hy with hy | hy
   ·exact ⟨y,hy,h⟩
   ·rw [List.mem_singleton.1 hy] at h; exact absurd (hq x h) hx
  ·rintro ⟨y,hy,h⟩; exact ⟨y,List.mem_append_left _ hy,h⟩
 refine ⟨h.nd,fun r=>?_,fun r q hq=>⟨(h.inner r q hq).1,fun a=>?_⟩⟩
 ·rw [h.mem,hp _ fun y hy=>hy.1]
 ·rw [(h.inner r q hq).2,hp _ fun y hy=>(QR.1 hy.1).1]
theorem zIH {m m2:List (zB×List (Int×Bool))} {m3:List (Int×Bool)} {P:List zA} {x:zA} (h:ByOK m P) (hx:x.Kind=4) (hm2:(m2=m∧(zO (rulR x) m).isSome=true)∨(m2=putM posE m (rulR x) []∧(zO (rulR x) m).isSome=false)) (hm3:zO (rulR x) m2=some m3):ByOK (putM posE m2 (rulR x) (putM posI m3 x.From true)) (P++[x]):=by
 have hp:∀ (q:zA→Prop),((∃ y∈P++[x],q y)↔(∃ y∈P,q y)∨q x):=fun q=>by
  constructor
  ·rintro ⟨y,hy,h⟩
   rcases List.mem_append.1 hy with hy | hy
   ·exact .inl ⟨y,hy,h⟩
   ·rw [List.mem_singleton.1 hy] at h; exact .inr h
  ·rintro (⟨y,hy,h⟩ | h)
   ·exact ⟨y,List.mem_append_left _ hy,h⟩
   ·exact ⟨x,by simp,h⟩
 -- what the map is before the vote is entered
 have hpre:(m2.map (·.1)).Nodup∧(∀ r q,(r,q)∈m2→r≠rulR x→(r,q)∈m)∧(∀ r,r≠rulR x→(r∈m2.map (·.1)↔r∈m.map (·.1)))∧(m3.map (·.1)).Nodup∧∀ a,a∈m3.map (·.1)↔∃ y∈P,zR y (rulR x)=true∧y.From=a:=by
  rcases hm2 with ⟨rfl,hs⟩ | ⟨rfl,hs⟩
  ·have:=(qK h.nd _ _).1 hm3
   exact ⟨h.nd,fun r q h _=>h,fun r _=>Iff.rfl,(h.inner _ _ this).1,(h.inner _ _ this).2⟩
  ·obtain ⟨q1,q2⟩:=zAv posE m (rulR x) [] h.nd
   have h3:=(qK q1 _ _).1 hm3
   have h4:m3=[]:=by
    rcases (q2 _).1 h3 with e | e
    ·exact (Prod.mk.inj e).2
    ·exact absurd rfl e.2
   subst h4
   have hno : ¬ ∃ y∈P,y.Kind=4∧rulR y=rulR x:=fun e=>by
    have:=(zEJ m (rulR x)).2 ((h.mem _).2 e)
    rw [this] at hs; cases hs
   refine ⟨q1,fun r q hq hr=>?_,fun r hr=>?_,List.nodup_nil,fun a=>?_⟩
   ·rcases (q2 _).1 hq with e | e
    ·exact absurd (Prod.mk.inj e).1 hr
    ·exact e.1
   ·rw [List.mem_map,List.mem_map]
    constructor
    ·rintro ⟨p,hp,rfl⟩
     rcases (q2 _).1 hp with e | e
     ·exact absurd (by rw [e]) hr
     ·exact ⟨p,e.1,rfl⟩
    ·rintro ⟨p,hp,rfl⟩
     exact ⟨p,(q2 _).2 (.inr ⟨hp,hr⟩),rfl⟩
   ·simp only [List.map_nil,List.not_mem_nil,false_iff]
    rintro ⟨y,hy,h5,_⟩
    exact hno ⟨y,hy,QR.1 h5⟩
 obtain ⟨n2,o2,k2,n3,k3⟩:=hpre
 obtain ⟨q1,q2⟩:=zAv posE m2 (rulR x) (putM posI m3 x.From true) n2
 obtain ⟨i1,i2⟩:=zAv posI m3 x.From true n3
 refine ⟨q1,fun r=>?_,fun r q hq=>?_⟩
 ·rw [hp,List.mem_map]
  constructor
  ·rintro ⟨p,hp',rfl⟩
   rcases (q2 _).1 hp' with e | e
   ·exact .inr ⟨hx,by rw [e]⟩
   ·exact .inl ((h.mem _).1 ((k2 _ e.2).1 (List.mem_map.2 ⟨p,e.1,rfl⟩)))
  ·rintro (e | e)
   ·by_cases er:r=rulR x
    ·exact ⟨_,(q2 _).2 (.inl rfl),er.symm⟩
    ·obtain ⟨p,hp1,hp2⟩:=List.mem_map.1 ((k2 r er).2 ((h.mem r).2 e))
     exact ⟨p,(q2 _).2 (.inr ⟨hp1,by rw [hp2]; exact er⟩),hp2⟩
   ·exact ⟨_,(q2 _).2 (.inl rfl),e.2⟩
 ·rcases (q2 _).1 hq with e | e
  ·obtain ⟨rfl,rfl⟩:=Prod.mk.inj e
   refine ⟨i1,fun a=>?_⟩
   rw [hp,List.mem_map]
   constructor
   ·rintro ⟨p,hp',rfl⟩
    rcases (i2 _).1 hp' with e | e
    ·exact .inr ⟨QR.2 ⟨hx,rfl⟩,by rw [e]⟩
    ·exact .inl ((k3 _).1 (List.mem_map.2 ⟨p,e.1,rfl⟩))
   ·rintro (e | e)
    ·by_cases ea:a=x.From
     ·exact ⟨_,(i2 _).2 (.inl rfl),ea.symm⟩
     ·obtain ⟨p,hp1,hp2⟩:=List.mem_map.1 ((k3 a).2 e)
      exact ⟨p,(i2 _).2 (.inr ⟨hp1,by rw [hp2]; exact ea⟩),hp2⟩
    ·exact ⟨_,(i2 _).2 (.inl rfl),e.2⟩
  ·have hr:r≠rulR x:=e.2
   have hin:=h.inner r q (o2 r q e.1 hr)
   refine ⟨hin.1,fun a=>?_⟩
   rw [hp,hin.2]
   constructor
   ·exact .inl
   ·rintro (h5 | h5)
    ·exact h5
    ·exact absurd (QR.1 h5.1).2.symm hr
theorem zGv (c:zD):∀ (m:List (zB×List (Int×Bool))) (o:List zB),m.length+o.length≤4294967295→QO (Zg c) m o=some (o++(m.filter fun p=>decide (majS c≤(p.2.length:Int))).map (·.1))
 | [],o,_=>by simp [QO]
 | (k,v) :: r,o,h=>by
  simp only [List.length_cons] at h
  simp only [QO,Zg,zHG,Option.bind_some,ZY]
  by_cases e:majS c≤(v.length:Int)
  ·simp only [e,decide_true,if_true]
   rw [Zk (by simp; omega),Option.bind_some,Option.bind_some,zGv c r (o++[k]) (by simp; omega)]
   simp [e]
  ·simp only [e,decide_false,Bool.false_eq_true,if_false,Option.bind_some]
   rw [zGv c r o (by omega)]
   simp [e]
theorem swoR : Go.Sort.SWO zQ:=⟨fun x=>by unfold zQ; simp,fun x y z h1 h2=>by unfold zQ at *; simp at *; omega,fun x y z h1 h2=>by unfold zQ at *; simp at *; omega⟩
theorem zIP (c:zD) (l:List zA) (hl:l.length≤4000) (hf:∀ y∈l,fmB c y=true):∃ o,ZW c l=some o∧QM c l o:=by
 unfold ZW
 refine lp_inv' (fun (i:Nat) (s:Int×List (zB×List (Int×Bool))) => ∃ m,s=((i:Int),m)∧m.length≤i∧ByOK m (l.take i)) _ l.length (by omega) ⟨[],rfl,Nat.zero_le _,⟨List.nodup_nil,fun r=>by simp,fun r q h=>by cases h⟩⟩ fun i s hi hI=>?_
 obtain ⟨m,rfl,hml,hm⟩:=hI
 by_cases hlt:i<l.length
 ·unfold Jg
  simp only [dlt hlt,if_true,Zf hlt,Option.bind_some,Zn,Zm,w64i hlt hl]
  have hput:∀ (q:List (zB×List (Int×Bool))) (r:zB) (v:List (Int×Bool)),(putM posE q r v).length≤q.length+(if (zO r q).isSome=true then 0 else 1):=fun q r v=>by
   unfold putM
   have hs:=JF (k:=r) (l:=q)
   cases hfk:JB r q with
   | none=>rw [hfk] at hs; rw [hs.1]; simp only; rw [(zC0 _ _ _).length_eq]; simp
   | some j=>simp
  by_cases k4:l[i].Kind=4
  ·simp only [k4,decide_true,Bool.not_true,Bool.false_eq_true,if_false]
   cases hs:(zO (⟨l[i].Case,l[i].Round,l[i].Finding⟩:zB) m).isSome with
   | true =>
    obtain ⟨m3,hm3⟩:=Option.isSome_iff_exists.1 hs
    simp only [Bool.not_true,Bool.false_eq_true,if_false,hm3,Option.bind_some]
    refine .inl ⟨hlt,_,rfl,_,rfl,?_,?_⟩
    ·have:=hput m (rulR l[i]) (putM posI m3 l[i].From true)
     unfold rulR at this
     rw [hs] at this
     simp only [if_true] at this
     omega
    ·rw [List.take_succ_eq_append_getElem hlt]
     exact zIH hm k4 (.inl ⟨rfl,hs⟩) hm3
   | false =>
    have hl2:zO (rulR l[i]) (putM posE m (rulR l[i]) [])=some []:=by rw [zCu,if_pos rfl]
    have hl2':=hl2
    unfold rulR at hl2'
    simp only [Bool.not_false,if_true,hl2',Option.bind_some]
    refine .inl ⟨hlt,_,rfl,_,rfl,?_,?_⟩
    ·have h1:=hput (putM posE m (rulR l[i]) []) (rulR l[i]) (putM posI [] l[i].From true)
     have h2:=hput m (rulR l[i]) []
     rw [hl2] at h1
     unfold rulR at h1 h2
     rw [hs] at h2
     simp only [Option.isSome_some,if_true,Bool.false_eq_true,if_false] at h1 h2
     omega
    ·rw [List.take_succ_eq_append_getElem hlt]
     exact zIH hm k4 (.inr ⟨rfl,hs⟩) hl2
  ·simp only [k4,decide_false,Bool.not_false,if_true]
   refine .inl ⟨hlt,_,rfl,m,rfl,by omega,?_⟩
   rw [List.take_succ_eq_append_getElem hlt]
   exact zNN hm k4
 ·have e:i=l.length:=by omega
  subst e
  rw [List.take_length] at hm
  refine .inr ⟨srtF zQ ((m.filter fun p=>decide (majS c≤(p.2.length:Int))).map (·.1)),?_,?_⟩
  ·unfold Jg
   simp only [dge,Bool.false_eq_true,if_false,Z6]
   rw [zGv c m [] (by simp; omega),Option.bind_some]
   simp only [List.nil_append,Zo,Zp,zDB]
   rw [if_pos]
   ·rfl
   ·rw [List.length_map]
    have:=List.length_filter_le (fun p:zB×List (Int×Bool)=>decide (majS c≤(p.2.length:Int))) m
    omega
  ·obtain ⟨p1,s1⟩:=qG swoR ((m.filter fun p=>decide (majS c≤(p.2.length:Int))).map (·.1))
   have nd0:((m.filter fun p=>decide (majS c≤(p.2.length:Int))).map (·.1)).Nodup:=(List.filter_sublist.map _).nodup hm.nd
   have nd1:=p1.nodup_iff.2 nd0
   have hso:(srtF zQ ((m.filter fun p=>decide (majS c≤(p.2.length:Int))).map (·.1))).Pairwise fun a b=>zQ a b=true:=(s1.and nd1).imp fun {a b} ⟨q1,q2⟩=>by
    cases h:zQ a b with
    | true=>rfl
    | false=>exact absurd (zLo h q1) q2
   refine ⟨hso,fun r=>?_⟩
   ·rw [p1.mem_iff,List.mem_map]
    have hlen:∀ q,(r,q)∈m→(q.length:Int)=vtS c l r:=fun q hq=>by
     obtain ⟨n1,n2⟩:=hm.inner r q hq
     unfold vtS
     rw [← zHq (p:=vtB l r) (n:=c.Arbiters.toNat) n1,List.length_map]
     intro a
     rw [n2]
     unfold vtB
     constructor
     ·rintro ⟨x,hx,h1,rfl⟩
      have:=(zFl (hf x hx)).from_
      refine ⟨this.1,by omega,List.any_eq_true.2 ⟨x,hx,?_⟩⟩
      rw [h1,Bool.true_and,decide_eq_true_eq]; omega
     ·rintro ⟨h0,_,h1⟩
      obtain ⟨x,hx,h2⟩:=List.any_eq_true.1 h1
      simp only [Bool.and_eq_true,decide_eq_true_eq] at h2
      exact ⟨x,hx,h2.1,by omega⟩
    constructor
    ·rintro ⟨p,hp,rfl⟩
     obtain ⟨h1,h2⟩:=List.mem_filter.1 hp
     obtain ⟨r,q⟩:=p
     refine ⟨(hm.mem _).1 (List.mem_map.2 ⟨_,h1,rfl⟩),?_⟩
     have:=hlen q h1
     simp only [decide_eq_true_eq] at h2
     omega
    ·rintro ⟨h1,h2⟩
     obtain ⟨p,hp,hpe⟩:=List.mem_map.1 ((hm.mem r).2 h1)
     obtain ⟨r',q⟩:=p
     simp only at hpe
     subst hpe
     refine ⟨_,List.mem_filter.2 ⟨hp,?_⟩,rfl⟩
     have:=hlen q hp
     simp only [decide_eq_true_eq]
     omega
theorem zI6 (c:zD) (l:List zA) (hl:l.length≤4000):∃ o,zBp c l=some (o,yK c l)∧zDE c l=some ⟨o,yK c l⟩∧((yK c l≠0∧o=[])∨(yK c l=0∧ZW c l=some o∧jG c l=some o∧QM c l o)):=by
 unfold zBp zDE
 rw [zIT c l hl,zFG c l hl]
 simp only [Option.bind_some]
 by_cases e:yK c l=0
 ·obtain ⟨h1,h2,h3⟩:=zCC e
  obtain ⟨o,q1,q2⟩:=zIP c l hl h3
  obtain ⟨o',q3,q4,_⟩:=zFw c h1 l hl
  have:=q2.uniq q4
  subst this
  simp only [e,decide_true,Bool.not_true,Bool.false_eq_true,if_false,q1,q3,Option.bind_some]
  exact ⟨o,rfl,rfl,.inr ⟨trivial,rfl,rfl,q2⟩⟩
 ·simp only [e,decide_false,Bool.not_false,if_true]
  exact ⟨[],rfl,rfl,.inl ⟨e,rfl⟩⟩
end Go.Mx
