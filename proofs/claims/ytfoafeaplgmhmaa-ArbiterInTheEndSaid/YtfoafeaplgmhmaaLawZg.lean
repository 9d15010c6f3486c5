/- Part of the proof of ArbiterInTheEnd: plain laws about the functions of M, no program in sight. Conditions: none. -/
import Derived.Test.YtfoafeaplgmhmaaLawZf
set_option linter.unusedVariables false
set_option linter.unusedSimpArgs false
namespace Go.Mx
theorem insL_perm {α:Type}:∀ (l:List α) (n:Nat) (x:α),(insL l n x).Perm (x :: l)
 | l,0,x=>by cases l <;> exact List.Perm.refl _
 | [],n+1,x=>List.Perm.refl _
 | y :: r,n+1,x=>((insL_perm r n x).cons y).trans (List.Perm.swap x y r)
theorem lookM_mem {α β:Type} [DecidableEq α]:∀ {l:List (α×β)},(l.map (·.1)).Nodup→∀ (k:α) (v:β),lookM k l=some v↔(k,v)∈l
 | [],_,k,v=>by simp [lookM]
 | p :: r,hn,k,v=>by
  simp only [List.map_cons,List.nodup_cons] at hn
  unfold lookM
  by_cases e:k=p.1
  ·rw [if_pos e]
   constructor
   ·intro h; simp only [Option.some.injEq] at h; subst h; subst e; exact List.mem_cons_self
   ·intro h
    rcases List.mem_cons.1 h with h | h
    ·rw [← h]
    ·exact absurd (List.mem_map.2 ⟨_,h,e⟩) hn.1
  ·rw [if_neg e,lookM_mem hn.2 k v]
   constructor
   ·exact fun h=>List.mem_cons_of_mem _ h
   ·intro h
    rcases List.mem_cons.1 h with h | h
    ·exact absurd (by rw [← h]) e
    ·exact h
theorem lookM_isSome {α β:Type} [DecidableEq α]:∀ (l:List (α×β)) (k:α),(lookM k l).isSome=true↔k∈l.map (·.1)
 | [],k=>by simp [lookM]
 | p :: r,k=>by
  unfold lookM
  by_cases e:k=p.1
  ·rw [if_pos e]; simp [e]
  ·rw [if_neg e,lookM_isSome r k]; simp [e]
theorem putM_spec {α β:Type} [DecidableEq α] (pos:α→List α→Nat) (l:List (α×β)) (k:α) (v:β) (hn:(l.map (·.1)).Nodup):((putM pos l k v).map (·.1)).Nodup∧∀ p,p∈putM pos l k v↔p=(k,v)∨(p∈l∧p.1≠k):=by
 unfold putM
 have hs:=findK_spec (k:=k) (l:=l)
 cases hf:findK k l with
 | none =>
  rw [hf] at hs
  have hp:=insL_perm l (pos k (l.map (·.1))) (k,v)
  constructor
  ·simp only
   have h2:=hp.map (·.1)
   rw [h2.nodup_iff,List.map_cons,List.nodup_cons]
   refine ⟨fun h=>?_,hn⟩
   obtain ⟨p,h3,h4⟩:=List.mem_map.1 h
   exact hs.2 p h3 h4
  ·intro p
   simp only
   rw [hp.mem_iff,List.mem_cons]
   constructor
   ·rintro (h | h)
    ·exact .inl h
    ·exact .inr ⟨h,hs.2 p h⟩
   ·rintro (h | h)
    ·exact .inl h
    ·exact .inr h.1
 | some i =>
  rw [hf] at hs
  obtain ⟨w,h1,h2⟩:=hs
  obtain ⟨hi,h1⟩:=List.getElem?_eq_some_iff.1 h1
  simp only
  have hmap:(l.set i (k,v)).map (·.1)=l.map (·.1):=by
   rw [List.map_set]
   refine List.ext_getElem? fun j=>?_
   rw [List.getElem?_set]
   by_cases e:i=j
   ·subst e
    rw [if_pos rfl,List.length_map,if_pos hi,List.getElem?_map,List.getElem?_eq_getElem hi,h1]; rfl
   ·rw [if_neg e]
  refine ⟨by rw [hmap]; exact hn,fun p=>?_⟩
  constructor
  ·intro h
   obtain ⟨j,hj,rfl⟩:=List.getElem_of_mem h
   rw [List.length_set] at hj
   rw [List.getElem_set]
   by_cases e:i=j
   ·rw [if_pos e]; exact .inl rfl
   ·rw [if_neg e]
    refine .inr ⟨List.getElem_mem _,fun h3=>e ?_⟩
    have hpw:=List.pairwise_iff_getElem.1 hn
    rcases Nat.lt_trichotomy i j with q | q | q
    ·have:=hpw i j (by simpa using hi) (by simpa using hj) q
     simp only [List.getElem_map,h1] at this
     exact absurd h3.symm this
    ·exact q
    ·have:=hpw j i (by simpa using hj) (by simpa using hi) q
     simp only [List.getElem_map,h1] at this
     exact absurd h3 this
  ·rintro (rfl | ⟨h,h3⟩)
   ·exact List.mem_iff_getElem.2 ⟨i,by rw [List.length_set]; exact hi,by simp⟩
   ·obtain ⟨j,hj,rfl⟩:=List.getElem_of_mem h
    have e:i≠j:=fun e=>by subst e; rw [h1] at h3; exact h3 rfl
    exact List.mem_iff_getElem.2 ⟨j,by rw [List.length_set]; exact hj,by rw [List.getElem_set_ne e]⟩
theorem cnt_filter (p:Nat→Bool):∀ n,cnt p n=((List.range n).filter p).length
 | 0=>rfl
 | n+1=>by
  unfold cnt
  rw [List.range_succ,List.filter_append,List.length_append,cnt_filter p n]
  cases h:p n <;> simp [h]
theorem nodup_cnt {l:List Int} {p:Nat→Bool} {n:Nat} (hn:l.Nodup) (h:∀ a,a∈l↔0≤a∧a.toNat<n∧p a.toNat=true):l.length=cnt p n:=by
 rw [cnt_filter]
 have hp:l.Perm (((List.range n).filter p).map fun a:Nat=>(a:Int)):=by
  rw [List.perm_ext_iff_of_nodup hn]
  ·intro a
   rw [h,List.mem_map]
   constructor
   ·rintro ⟨q1,q2,q3⟩
    exact ⟨a.toNat,List.mem_filter.2 ⟨List.mem_range.2 q2,q3⟩,by omega⟩
   ·rintro ⟨b,hb,rfl⟩
    obtain ⟨q1,q2⟩:=List.mem_filter.1 hb
    exact ⟨by omega,by simpa using List.mem_range.1 q1,by simpa using q2⟩
  ·refine List.Pairwise.map _ (fun a b h e=>h (by omega)) (List.Pairwise.filter _ List.nodup_range)
 rw [hp.length_eq,List.length_map]
theorem arb_loop {ρ:Type} {c:api_Court} (hc:okC c=true) {body:Int×Int→Option ((Int×Int) ⊕ ρ)} (p:Nat→Bool) (fin:Int→ρ) (step:∀ (a:Nat) (n:Int),(a:Int)<c.Arbiters→0≤n→n≤7→body (n,(a:Int))=some (.inl (n+if p a=true then 1 else 0,((a+1:Nat):Int)))) (last:∀ n a,¬ a<c.Arbiters→body (n,a)=some (.inr (fin n))):Lp body fuel (0,0)=some (fin (cnt p c.Arbiters.toNat:Nat)):=by
 obtain ⟨g1,g2⟩:=okC_spec hc
 suffices h:∃ r,Lp body fuel (0,0)=some r∧r=fin (cnt p c.Arbiters.toNat:Nat) by obtain ⟨r,h,rfl⟩:=h; exact h
 refine lp_inv' (fun (i:Nat) (s:Int×Int)=>s=(((cnt p i:Nat):Int),(i:Int))) _ c.Arbiters.toNat (by omega) rfl fun i s hi hI=>?_
 subst hI
 by_cases hlt:i<c.Arbiters.toNat
 ·have:=cnt_le p i
  refine .inl ⟨hlt,_,step i _ (by omega) (by omega) (by omega),?_⟩
  show _=(((cnt p i+if p i=true then 1 else 0:Nat):Int),_)
  split <;> rfl
 ·have:i=c.Arbiters.toNat:=by omega
  subst this
  exact .inr ⟨_,last _ _ (by omega),rfl⟩
def rulR (x:api_Letter):api_Ruling:=⟨x.Case,x.Round,x.Finding⟩
theorem vf_iff {x:api_Letter} {r:api_Ruling}:ref09_votesFor x r=true↔x.Kind=4∧rulR x=r:=by
 unfold ref09_votesFor rulR
 obtain ⟨a,b,d⟩:=r
 simp [and_assoc]
def vtB (l:List api_Letter) (r:api_Ruling) (a:Nat):Bool:=l.any fun x=>ref09_votesFor x r&&decide (x.From=(a:Int))
def vtS (c:api_Court) (l:List api_Letter) (r:api_Ruling):Int:=(cnt (vtB l r) c.Arbiters.toNat:Nat)
theorem or_loop {ρ:Type} (p:api_Letter→Bool) (l:List api_Letter) (hl:l.length≤4000) {body:Bool×Int→Option ((Bool×Int) ⊕ ρ)} (f0:Bool) (fin:Bool→ρ)
  (step:∀ f (i:Nat) (hi:i<l.length),body (f,(i:Int))=some (.inl (f||p l[i],((i+1:Nat):Int)))) (last:∀ f,body (f,(l.length:Int))=some (.inr (fin f))):Lp body fuel (f0,0)=some (fin (f0||l.any p)):=by
 rw [sum_loop (body:=body) l hl (fun f i=>(f,i)) (fun f x=>f||p x) fin (fun _ _=>True) (a:=f0) rfl trivial (fun f i hi _=>⟨step f i hi,trivial⟩) (fun f _=>last f)]
 congr 2
 clear step last hl
 induction l generalizing f0 with
 | nil=>simp
 | cons x r ih=>rw [List.foldl_cons,ih,List.any_cons,Bool.or_assoc]
theorem rvotes_eq (c:api_Court) (hc:okC c=true) (l:List api_Letter) (hl:l.length≤4000) (r:api_Ruling):ref09_votes c l r=some (vtS c l r):=by
 unfold ref09_votes vtS
 refine arb_loop hc (vtB l r) (fun n=>n) (fun a n ha h0 h7=>?_) (fun n a ha=>?_)
 ·obtain ⟨g1,g2⟩:=okC_spec hc
  unfold ref09_votes_b2
  simp only [ha,decide_true,if_true]
  rw [or_loop (fun x=>ref09_votesFor x r&&decide (x.From=(a:Int))) l hl false (fun f=>if f=true then Sum.inl (w64 (n+1),w64 ((a:Int)+1)) else Sum.inl (n,w64 ((a:Int)+1))) (fun f i hi=>?_) (fun f=>?_)]
  ·show some (if (false||vtB l r a)=true then _ else _)=_
   rw [Bool.false_or,w64s a (by omega),w64_id (n:=n+1) (by omega) (by omega)]
   split <;> simp
  ·unfold ref09_votes_b5
   simp only [dlt hi,if_true,ix_nat hi,w64i hi hl]
   cases f with
   | true=>simp [gb]
   | false =>
    simp only [Bool.not_false,Bool.true_and,Bool.false_or]
    cases hv:ref09_votesFor l[i] r <;> simp [gb,hv]
  ·unfold ref09_votes_b5
   simp only [dge,Bool.false_eq_true,if_false,ref09_votes_j4,ref09_votes_j3]
   cases f <;> rfl
 ·unfold ref09_votes_b2
  simp [ha,ref09_votes_j1]
theorem before_lt (a b:api_Ruling):ref09_before a b=lt_ruling a b:=by
 unfold ref09_before lt_ruling
 by_cases c1:a.Case=b.Case
 ·by_cases c2:a.Round=b.Round
  ·simp [c1,c2]
  ·simp [c1,c2]
 ·simp [c1]
theorem ltR_irr (a:api_Ruling):lt_ruling a a=false:=by unfold lt_ruling; simp
theorem ltR_tr {a b d:api_Ruling} (h1:lt_ruling a b=true) (h2:lt_ruling b d=true):lt_ruling a d=true:=by unfold lt_ruling at *; simp at *; omega
theorem ltR_tot {a b:api_Ruling} (h1:lt_ruling a b=false) (h2:lt_ruling b a=false):a=b:=by
 unfold lt_ruling at h1 h2
 simp at h1 h2
 obtain ⟨a1,a2,a3⟩:=a
 obtain ⟨b1,b2,b3⟩:=b
 simp only at h1 h2
 have e1:a1=b1:=by omega
 subst e1
 have e2:a2=b2:=by
  have:=h1.2 rfl
  have:=h2.2 rfl
  omega
 subst e2
 have e3:a3=b3:=by
  have:=(h1.2 rfl).2 rfl
  have:=(h2.2 rfl).2 rfl
  omega
 subst e3
 rfl
theorem ltR_asym {a b:api_Ruling} (h:lt_ruling a b=true):lt_ruling b a=false:=by
 cases h2:lt_ruling b a with
 | false=>rfl
 | true=>have:=ltR_tr h h2; rw [ltR_irr] at this; cases this
structure RulOK (c:api_Court) (l:List api_Letter) (o:List api_Ruling):Prop where
 sorted:o.Pairwise fun a b=>lt_ruling a b=true
 mem:∀ r,r∈o↔(∃ x∈l,x.Kind=4∧rulR x=r)∧majS c≤vtS c l r
theorem sorted_eq {o o':List api_Ruling} (h:o.Pairwise fun a b=>lt_ruling a b=true) (h':o'.Pairwise fun a b=>lt_ruling a b=true) (hm:∀ r,r∈o↔r∈o'):o=o':=by
 have nd:∀ {o:List api_Ruling},(o.Pairwise fun a b=>lt_ruling a b=true)→o.Nodup:=fun h=>h.imp fun {a b} hab e=>by subst e; rw [ltR_irr] at hab; cases hab
 exact List.Perm.eq_of_pairwise (le:=fun a b=>lt_ruling a b=true) (fun a b _ _ h1 h2=>by rw [ltR_asym h1] at h2; cases h2) h h' ((List.perm_ext_iff_of_nodup (nd h) (nd h')).2 hm)
theorem RulOK.uniq {c:api_Court} {l:List api_Letter} {o o':List api_Ruling} (h:RulOK c l o) (h':RulOK c l o'):o=o':=sorted_eq h.sorted h'.sorted fun r=>by rw [h.mem,h'.mem]
theorem ins_sorted {o:List api_Ruling} {r:api_Ruling} (h:o.Pairwise fun a b=>lt_ruling a b=true) (hr:r∉o):(insB (fun y=>lt_ruling y r) o r).Pairwise fun a b=>lt_ruling a b=true:=by
 have h1:=insB_sorted (le:=fun a b=>lt_ruling a b=true∨a=b) (p:=fun y=>lt_ruling y r) (x:=r) (fun a b d q1 q2=>by
  rcases q1 with q1 | rfl
  ·rcases q2 with q2 | rfl
   ·exact .inl (ltR_tr q1 q2)
   ·exact .inl q1
  ·exact q2) (fun a ha=>.inl ha) (fun a ha=>by
  cases h2:lt_ruling r a with
  | true=>exact .inl rfl
  | false=>exact .inr (ltR_tot h2 ha)) (l:=o) (h.imp fun h=>.inl h)
 have nd:o.Nodup:=h.imp fun {a b} hab e=>by subst e; rw [ltR_irr] at hab; cases hab
 have h3:(insB (fun y=>lt_ruling y r) o r).Nodup:=(insB_perm _ o r).nodup_iff.2 (List.nodup_cons.2 ⟨hr,nd⟩)
 exact (h1.and h3).imp fun {a b} ⟨q1,q2⟩=>by
  rcases q1 with q1 | q1
  ·exact q1
  ·exact absurd q1 q2
theorem rrul_in (i:Int) (o:List api_Ruling) (ho:o.length≤4000) (hs:o.Pairwise fun a b=>lt_ruling a b=true) (x:api_Letter):Lp (ref09_rulings_b5 i o x x x) fuel 0=some (.inl (w64 (i+1),if rulR x∈o then o else insB (fun y=>lt_ruling y (rulR x)) o (rulR x))):=by
 obtain ⟨t1,t2,t3,t4,t5⟩:=tw_spec (fun y=>lt_ruling y (rulR x)) o
 have hj:ref09_rulings_j4 i o x x x ((o.takeWhile fun y=>lt_ruling y (rulR x)).length:Nat)=some (.inl (w64 (i+1),if rulR x∈o then o else insB (fun y=>lt_ruling y (rulR x)) o (rulR x))):=by
  unfold ref09_rulings_j4
  show gb _ _ (fun x4=>if (_&&decide (x4=rulR x))=true then _ else _)=_
  by_cases hk:(o.takeWhile fun y=>lt_ruling y (rulR x)).length<o.length
  ·have hp:=t2 hk
   rw [ix_nat hk]
   simp only [dlt hk,gb,if_true,Option.bind_some,Bool.true_and,decide_eq_true_eq]
   by_cases e:o[(o.takeWhile fun y=>lt_ruling y (rulR x)).length]=rulR x
   ·rw [if_pos e,if_pos (by rw [← e]; exact List.getElem_mem hk)]; rfl
   ·have hnm:rulR x∉o:=by
     intro hm
     obtain ⟨j,hj,hje⟩:=List.getElem_of_mem hm
     rcases Nat.lt_trichotomy j (o.takeWhile fun y=>lt_ruling y (rulR x)).length with q | q | q
     ·have:=t1 j hj q
      rw [hje,ltR_irr] at this; cases this
     ·subst q; exact e hje
     ·have h1:=List.pairwise_iff_getElem.1 hs _ _ hk hj q
      rw [hje] at h1
      rw [h1] at hp; cases hp
    rw [if_neg e,if_neg hnm]
    have hsub1:sub o 0 ((o.takeWhile fun y=>lt_ruling y (rulR x)).length:Nat)=some (o.takeWhile fun y=>lt_ruling y (rulR x)):=by rw [sub_to t3,t4]
    have hsub2:sub o ((o.takeWhile fun y=>lt_ruling y (rulR x)).length:Nat) (o.length:Int)=some (o.dropWhile fun y=>lt_ruling y (rulR x)):=by rw [sub_from t3,t5]
    rw [hsub1,Option.bind_some,app_ok (by simp; omega),Option.bind_some,app_ok (by simp; omega),Option.bind_some,hsub2,Option.bind_some,app_ok (by
     have:(o.dropWhile fun y=>lt_ruling y (rulR x)).length≤o.length:=by rw [← t5,List.length_drop]; omega
     simp; omega),Option.bind_some]
    show some _=some _
    simp [insB,rulR]
  ·have hk':(o.takeWhile fun y=>lt_ruling y (rulR x)).length=o.length:=by omega
   have hnm:rulR x∉o:=by
    intro hm
    obtain ⟨j,hj,hje⟩:=List.getElem_of_mem hm
    have:=t1 j hj (by omega)
    rw [hje,ltR_irr] at this; cases this
   have hsub1:sub o 0 ((o.takeWhile fun y=>lt_ruling y (rulR x)).length:Nat)=some (o.takeWhile fun y=>lt_ruling y (rulR x)):=by rw [sub_to t3,t4]
   have hsub2:sub o ((o.takeWhile fun y=>lt_ruling y (rulR x)).length:Nat) (o.length:Int)=some (o.dropWhile fun y=>lt_ruling y (rulR x)):=by rw [sub_from t3,t5]
   have hdk:decide ((((o.takeWhile fun y=>lt_ruling y (rulR x)).length:Nat):Int)<(o.length:Int))=false:=by rw [hk']; simp
   simp only [hdk,gb,Bool.false_eq_true,if_false,Option.bind_some,Bool.false_and]
   rw [if_neg hnm,hsub1,Option.bind_some,app_ok (by simp; omega),Option.bind_some,app_ok (by simp; omega),Option.bind_some,hsub2,Option.bind_some,app_ok (by
    have:(o.dropWhile fun y=>lt_ruling y (rulR x)).length≤o.length:=by rw [← t5,List.length_drop]; omega
    simp; omega),Option.bind_some]
   show some _=some _
   simp [insB,rulR]
 refine tw_loop (fun y=>lt_ruling y (rulR x)) o (by omega) _ (fun k hk hp=>?_) (fun k hk hp e=>?_) (fun e=>?_)
 ·unfold ref09_rulings_b5
  show gb _ _ (fun x5=>if (_&&ref09_before x5 (rulR x))=true then _ else _)=_
  rw [ix_nat hk]
  simp only [dlt hk,gb,if_true,Option.bind_some,Bool.true_and,before_lt,hp,w64i hk ho]
 ·unfold ref09_rulings_b5
  show gb _ _ (fun x5=>if (_&&ref09_before x5 (rulR x))=true then _ else _)=_
  rw [ix_nat hk]
  simp only [dlt hk,gb,if_true,Option.bind_some,Bool.true_and,before_lt,hp,Bool.false_eq_true,if_false]
  rw [e,hj]; rfl
 ·unfold ref09_rulings_b5
  simp only [dge,gb,Bool.false_eq_true,if_false,Option.bind_some,Bool.false_and]
  rw [← e,hj]; rfl
theorem rrul_eq (c:api_Court) (hc:okC c=true) (l:List api_Letter) (hl:l.length≤4000):∃ o,ref09_rulings c l=some o∧RulOK c l o∧o.length≤l.length:=by
 unfold ref09_rulings
 refine lp_inv' (fun (i:Nat) (s:Int×List api_Ruling) => ∃ o,s=((i:Int),o)∧o.length≤i∧(o.Pairwise fun a b=>lt_ruling a b=true)∧∀ r,r∈o↔(∃ x∈l.take i,x.Kind=4∧rulR x=r)∧majS c≤vtS c l r) _ l.length (by omega) ⟨[],rfl,Nat.zero_le _,List.Pairwise.nil,fun r=>by simp⟩ fun i s hi hI=>?_
 obtain ⟨o,rfl,ho,hs,hm⟩:=hI
 by_cases hlt:i<l.length
 ·unfold ref09_rulings_b2
  simp only [dlt hlt,if_true,ix_nat hlt,Option.bind_some,ref09_rulings_j3,w64i hlt hl]
  have htk:∀ r,(∃ x∈l.take (i+1),x.Kind=4∧rulR x=r)↔(∃ x∈l.take i,x.Kind=4∧rulR x=r)∨(l[i].Kind=4∧rulR l[i]=r):=fun r=>by
   rw [List.take_succ_eq_append_getElem hlt]
   constructor
   ·rintro ⟨x,hx,h⟩
    rcases List.mem_append.1 hx with hx | hx
    ·exact .inl ⟨x,hx,h⟩
    ·rw [List.mem_singleton.1 hx] at h; exact .inr h
   ·rintro (⟨x,hx,h⟩ | h)
    ·exact ⟨x,List.mem_append_left _ hx,h⟩
    ·exact ⟨l[i],List.mem_append_right _ (List.mem_singleton.2 rfl),h⟩
  by_cases k4:l[i].Kind=4
  ·simp only [k4,decide_true,Bool.not_true,Bool.not_false,gb,if_true]
   show _∨_
   have hv:=rvotes_eq c hc l hl (rulR l[i])
   unfold rulR at hv
   rw [hv,rMaj_eq]
   simp only [Option.bind_some,Bool.false_or,decide_eq_true_eq]
   by_cases hmaj:vtS c l (rulR l[i])<majS c
   ·refine .inl ⟨hlt,(((i+1:Nat):Int),o),by rw [if_pos (by exact hmaj)],o,rfl,by omega,hs,fun r=>?_⟩
    rw [hm,htk]
    constructor
    ·rintro ⟨h1,h2⟩; exact ⟨.inl h1,h2⟩
    ·rintro ⟨h1 | h1,h2⟩
     ·exact ⟨h1,h2⟩
     ·rw [← h1.2] at h2; omega
   ·rw [if_neg (by exact hmaj),rrul_in (i:Int) o (by omega) hs l[i],w64i hlt hl]
    by_cases hin:rulR l[i]∈o
    ·rw [if_pos hin]
     refine .inl ⟨hlt,_,rfl,o,rfl,by omega,hs,fun r=>?_⟩
     rw [hm,htk]
     constructor
     ·rintro ⟨h1,h2⟩; exact ⟨.inl h1,h2⟩
     ·rintro ⟨h1 | h1,h2⟩
      ·exact ⟨h1,h2⟩
      ·rw [← h1.2]; exact (hm _).1 hin
    ·rw [if_neg hin]
     refine .inl ⟨hlt,_,rfl,_,rfl,by rw [(insB_perm _ o (rulR l[i])).length_eq,List.length_cons]; omega,ins_sorted hs hin,fun r=>?_⟩
     rw [(insB_perm _ o (rulR l[i])).mem_iff,List.mem_cons,hm,htk]
     constructor
     ·rintro (rfl | ⟨h1,h2⟩)
      ·exact ⟨.inr ⟨k4,rfl⟩,by omega⟩
      ·exact ⟨.inl h1,h2⟩
     ·rintro ⟨h1 | h1,h2⟩
      ·exact .inr ⟨h1,h2⟩
      ·exact .inl h1.2.symm
  ·simp only [k4,decide_false,Bool.not_true,Bool.not_false,gb,Bool.false_eq_true,if_false,Option.bind_some,Bool.true_or,if_true]
   refine .inl ⟨hlt,_,rfl,o,rfl,by omega,hs,fun r=>?_⟩
   rw [hm,htk]
   constructor
   ·rintro ⟨h1,h2⟩; exact ⟨.inl h1,h2⟩
   ·rintro ⟨h1 | h1,h2⟩
    ·exact ⟨h1,h2⟩
    ·exact absurd h1.1 k4
 ·have e:i=l.length:=by omega
  subst e
  rw [List.take_length] at hm
  refine .inr ⟨o,?_,⟨hs,hm⟩,ho⟩
  unfold ref09_rulings_b2
  simp [dge,ref09_rulings_j1]
structure ByOK (m:List (api_Ruling×List (Int×Bool))) (P:List api_Letter):Prop where
 nd:(m.map (·.1)).Nodup
 mem:∀ r,r∈m.map (·.1)↔∃ x∈P,x.Kind=4∧rulR x=r
 inner:∀ r q,(r,q)∈m→(q.map (·.1)).Nodup∧∀ a,a∈q.map (·.1)↔∃ x∈P,ref09_votesFor x r=true∧x.From=a
theorem ByOK_skip {m:List (api_Ruling×List (Int×Bool))} {P:List api_Letter} {x:api_Letter} (h:ByOK m P) (hx:x.Kind≠4):ByOK m (P++[x]):=by
 have hp:∀ q:api_Letter→Prop,(∀ y,q y→y.Kind=4)→((∃ y∈P++[x],q y)↔∃ y∈P,q y):=fun q hq=>by
  constructor
  ·rintro ⟨y,hy,h⟩
   rcases List.mem_append.1 hy with hy | hy
   ·exact ⟨y,hy,h⟩
   ·rw [List.mem_singleton.1 hy] at h; exact absurd (hq x h) hx
  ·rintro ⟨y,hy,h⟩; exact ⟨y,List.mem_append_left _ hy,h⟩
 refine ⟨h.nd,fun r=>?_,fun r q hq=>⟨(h.inner r q hq).1,fun a=>?_⟩⟩
 ·rw [h.mem,hp _ fun y hy=>hy.1]
 ·rw [(h.inner r q hq).2,hp _ fun y hy=>(vf_iff.1 hy.1).1]
theorem ByOK_step {m m2:List (api_Ruling×List (Int×Bool))} {m3:List (Int×Bool)} {P:List api_Letter} {x:api_Letter} (h:ByOK m P) (hx:x.Kind=4) (hm2:(m2=m∧(lookM (rulR x) m).isSome=true)∨(m2=putM posE m (rulR x) []∧(lookM (rulR x) m).isSome=false)) (hm3:lookM (rulR x) m2=some m3):ByOK (putM posE m2 (rulR x) (putM posI m3 x.From true)) (P++[x]):=by
 have hp:∀ (q:api_Letter→Prop),((∃ y∈P++[x],q y)↔(∃ y∈P,q y)∨q x):=fun q=>by
  constructor
  ·rintro ⟨y,hy,h⟩
   rcases List.mem_append.1 hy with hy | hy
   ·exact .inl ⟨y,hy,h⟩
   ·rw [List.mem_singleton.1 hy] at h; exact .inr h
  ·rintro (⟨y,hy,h⟩ | h)
   ·exact ⟨y,List.mem_append_left _ hy,h⟩
   ·exact ⟨x,by simp,h⟩
 -- what the map is before the vote is entered
 have hpre:(m2.map (·.1)).Nodup∧(∀ r q,(r,q)∈m2→r≠rulR x→(r,q)∈m)∧(∀ r,r≠rulR x→(r∈m2.map (·.1)↔r∈m.map (·.1)))∧(m3.map (·.1)).Nodup∧∀ a,a∈m3.map (·.1)↔∃ y∈P,ref09_votesFor y (rulR x)=true∧y.From=a:=by
  rcases hm2 with ⟨rfl,hs⟩ | ⟨rfl,hs⟩
  ·have:=(lookM_mem h.nd _ _).1 hm3
   exact ⟨h.nd,fun r q h _=>h,fun r _=>Iff.rfl,(h.inner _ _ this).1,(h.inner _ _ this).2⟩
  ·obtain ⟨q1,q2⟩:=putM_spec posE m (rulR x) [] h.nd
   have h3:=(lookM_mem q1 _ _).1 hm3
   have h4:m3=[]:=by
    rcases (q2 _).1 h3 with e | e
    ·exact (Prod.mk.inj e).2
    ·exact absurd rfl e.2
   subst h4
   have hno : ¬ ∃ y∈P,y.Kind=4∧rulR y=rulR x:=fun e=>by
    have:=(lookM_isSome m (rulR x)).2 ((h.mem _).2 e)
    rw [this] at hs; cases hs
   refine ⟨q1,fun r q hq hr=>?_,fun r hr=>?_,List.nodup_nil,fun a=>?_⟩
   ·rcases (q2 _).1 hq with e | e
    ·exact absurd (Prod.mk.inj e).1 hr
    ·exact e.1
   ·rw [List.mem_map,List.mem_map]
    constructor
    ·rintro ⟨p,hp,rfl⟩
     rcases (q2 _).1 hp with e | e
     ·exact absurd (by rw [e]) hr
     ·exact ⟨p,e.1,rfl⟩
    ·rintro ⟨p,hp,rfl⟩
     exact ⟨p,(q2 _).2 (.inr ⟨hp,hr⟩),rfl⟩
   ·simp only [List.map_nil,List.not_mem_nil,false_iff]
    rintro ⟨y,hy,h5,_⟩
    exact hno ⟨y,hy,vf_iff.1 h5⟩
 obtain ⟨n2,o2,k2,n3,k3⟩:=hpre
 obtain ⟨q1,q2⟩:=putM_spec posE m2 (rulR x) (putM posI m3 x.From true) n2
 obtain ⟨i1,i2⟩:=putM_spec posI m3 x.From true n3
 refine ⟨q1,fun r=>?_,fun r q hq=>?_⟩
 ·rw [hp,List.mem_map]
  constructor
  ·rintro ⟨p,hp',rfl⟩
   rcases (q2 _).1 hp' with e | e
   ·exact .inr ⟨hx,by rw [e]⟩
   ·exact .inl ((h.mem _).1 ((k2 _ e.2).1 (List.mem_map.2 ⟨p,e.1,rfl⟩)))
  ·rintro (e | e)
   ·by_cases er:r=rulR x
    ·exact ⟨_,(q2 _).2 (.inl rfl),er.symm⟩
    ·obtain ⟨p,hp1,hp2⟩:=List.mem_map.1 ((k2 r er).2 ((h.mem r).2 e))
     exact ⟨p,(q2 _).2 (.inr ⟨hp1,by rw [hp2]; exact er⟩),hp2⟩
   ·exact ⟨_,(q2 _).2 (.inl rfl),e.2⟩
 ·rcases (q2 _).1 hq with e | e
  ·obtain ⟨rfl,rfl⟩:=Prod.mk.inj e
   refine ⟨i1,fun a=>?_⟩
   rw [hp,List.mem_map]
   constructor
   ·rintro ⟨p,hp',rfl⟩
    rcases (i2 _).1 hp' with e | e
    ·exact .inr ⟨vf_iff.2 ⟨hx,rfl⟩,by rw [e]⟩
    ·exact .inl ((k3 _).1 (List.mem_map.2 ⟨p,e.1,rfl⟩))
   ·rintro (e | e)
    ·by_cases ea:a=x.From
     ·exact ⟨_,(i2 _).2 (.inl rfl),ea.symm⟩
     ·obtain ⟨p,hp1,hp2⟩:=List.mem_map.1 ((k3 a).2 e)
      exact ⟨p,(i2 _).2 (.inr ⟨hp1,by rw [hp2]; exact ea⟩),hp2⟩
    ·exact ⟨_,(i2 _).2 (.inl rfl),e.2⟩
  ·have hr:r≠rulR x:=e.2
   have hin:=h.inner r q (o2 r q e.1 hr)
   refine ⟨hin.1,fun a=>?_⟩
   rw [hp,hin.2]
   constructor
   ·exact .inl
   ·rintro (h5 | h5)
    ·exact h5
    ·exact absurd (vf_iff.1 h5.1).2.symm hr
theorem fold_rul (c:api_Court):∀ (m:List (api_Ruling×List (Int×Bool))) (o:List api_Ruling),m.length+o.length≤4294967295→foldO (arbiter_rulings_b3 c) m o=some (o++(m.filter fun p=>decide (majS c≤(p.2.length:Int))).map (·.1))
 | [],o,_=>by simp [foldO]
 | (k,v) :: r,o,h=>by
  simp only [List.length_cons] at h
  simp only [foldO,arbiter_rulings_b3,Maj_eq,Option.bind_some,arbiter_rulings_j4]
  by_cases e:majS c≤(v.length:Int)
  ·simp only [e,decide_true,if_true]
   rw [app_ok (by simp; omega),Option.bind_some,Option.bind_some,fold_rul c r (o++[k]) (by simp; omega)]
   simp [e]
  ·simp only [e,decide_false,Bool.false_eq_true,if_false,Option.bind_some]
   rw [fold_rul c r o (by omega)]
   simp [e]
theorem swoR : Go.Sort.SWO lt_ruling:=⟨fun x=>by unfold lt_ruling; simp,fun x y z h1 h2=>by unfold lt_ruling at *; simp at *; omega,fun x y z h1 h2=>by unfold lt_ruling at *; simp at *; omega⟩
theorem rul_eq (c:api_Court) (l:List api_Letter) (hl:l.length≤4000) (hf:∀ y∈l,fmB c y=true):∃ o,arbiter_rulings c l=some o∧RulOK c l o:=by
 unfold arbiter_rulings
 refine lp_inv' (fun (i:Nat) (s:Int×List (api_Ruling×List (Int×Bool))) => ∃ m,s=((i:Int),m)∧m.length≤i∧ByOK m (l.take i)) _ l.length (by omega) ⟨[],rfl,Nat.zero_le _,⟨List.nodup_nil,fun r=>by simp,fun r q h=>by cases h⟩⟩ fun i s hi hI=>?_
 obtain ⟨m,rfl,hml,hm⟩:=hI
 by_cases hlt:i<l.length
 ·unfold arbiter_rulings_b6
  simp only [dlt hlt,if_true,ix_nat hlt,Option.bind_some,arbiter_rulings_j7,arbiter_rulings_j8,w64i hlt hl]
  have hput:∀ (q:List (api_Ruling×List (Int×Bool))) (r:api_Ruling) (v:List (Int×Bool)),(putM posE q r v).length≤q.length+(if (lookM r q).isSome=true then 0 else 1):=fun q r v=>by
   unfold putM
   have hs:=findK_spec (k:=r) (l:=q)
   cases hfk:findK r q with
   | none=>rw [hfk] at hs; rw [hs.1]; simp only; rw [(insL_perm _ _ _).length_eq]; simp
   | some j=>simp
  by_cases k4:l[i].Kind=4
  ·simp only [k4,decide_true,Bool.not_true,Bool.false_eq_true,if_false]
   cases hs:(lookM (⟨l[i].Case,l[i].Round,l[i].Finding⟩:api_Ruling) m).isSome with
   | true =>
    obtain ⟨m3,hm3⟩:=Option.isSome_iff_exists.1 hs
    simp only [Bool.not_true,Bool.false_eq_true,if_false,hm3,Option.bind_some]
    refine .inl ⟨hlt,_,rfl,_,rfl,?_,?_⟩
    ·have:=hput m (rulR l[i]) (putM posI m3 l[i].From true)
     unfold rulR at this
     rw [hs] at this
     simp only [if_true] at this
     omega
    ·rw [List.take_succ_eq_append_getElem hlt]
     exact ByOK_step hm k4 (.inl ⟨rfl,hs⟩) hm3
   | false =>
    have hl2:lookM (rulR l[i]) (putM posE m (rulR l[i]) [])=some []:=by rw [lookM_put,if_pos rfl]
    have hl2':=hl2
    unfold rulR at hl2'
    simp only [Bool.not_false,if_true,hl2',Option.bind_some]
    refine .inl ⟨hlt,_,rfl,_,rfl,?_,?_⟩
    ·have h1:=hput (putM posE m (rulR l[i]) []) (rulR l[i]) (putM posI [] l[i].From true)
     have h2:=hput m (rulR l[i]) []
     rw [hl2] at h1
     unfold rulR at h1 h2
     rw [hs] at h2
     simp only [Option.isSome_some,if_true,Bool.false_eq_true,if_false] at h1 h2
     omega
    ·rw [List.take_succ_eq_append_getElem hlt]
     exact ByOK_step hm k4 (.inr ⟨rfl,hs⟩) hl2
  ·simp only [k4,decide_false,Bool.not_false,if_true]
   refine .inl ⟨hlt,_,rfl,m,rfl,by omega,?_⟩
   rw [List.take_succ_eq_append_getElem hlt]
   exact ByOK_skip hm k4
 ·have e:i=l.length:=by omega
  subst e
  rw [List.take_length] at hm
  refine .inr ⟨srtF lt_ruling ((m.filter fun p=>decide (majS c≤(p.2.length:Int))).map (·.1)),?_,?_⟩
  ·unfold arbiter_rulings_b6
   simp only [dge,Bool.false_eq_true,if_false,arbiter_rulings_j1]
   rw [fold_rul c m [] (by simp; omega),Option.bind_some]
   simp only [List.nil_append,arbiter_rulings_j5,arbiter_rulings_j2,srtFO]
   rw [if_pos]
   ·rfl
   ·rw [List.length_map]
    have:=List.length_filter_le (fun p:api_Ruling×List (Int×Bool)=>decide (majS c≤(p.2.length:Int))) m
    omega
  ·obtain ⟨p1,s1⟩:=srtF_spec swoR ((m.filter fun p=>decide (majS c≤(p.2.length:Int))).map (·.1))
   have nd0:((m.filter fun p=>decide (majS c≤(p.2.length:Int))).map (·.1)).Nodup:=(List.filter_sublist.map _).nodup hm.nd
   have nd1:=p1.nodup_iff.2 nd0
   have hso:(srtF lt_ruling ((m.filter fun p=>decide (majS c≤(p.2.length:Int))).map (·.1))).Pairwise fun a b=>lt_ruling a b=true:=(s1.and nd1).imp fun {a b} ⟨q1,q2⟩=>by
    cases h:lt_ruling a b with
    | true=>rfl
    | false=>exact absurd (ltR_tot h q1) q2
   refine ⟨hso,fun r=>?_⟩
   ·rw [p1.mem_iff,List.mem_map]
    have hlen:∀ q,(r,q)∈m→(q.length:Int)=vtS c l r:=fun q hq=>by
     obtain ⟨n1,n2⟩:=hm.inner r q hq
     unfold vtS
     rw [← nodup_cnt (p:=vtB l r) (n:=c.Arbiters.toNat) n1,List.length_map]
     intro a
     rw [n2]
     unfold vtB
     constructor
     ·rintro ⟨x,hx,h1,rfl⟩
      have:=(fm_of (hf x hx)).from_
      refine ⟨this.1,by omega,List.any_eq_true.2 ⟨x,hx,?_⟩⟩
      rw [h1,Bool.true_and,decide_eq_true_eq]; omega
     ·rintro ⟨h0,_,h1⟩
      obtain ⟨x,hx,h2⟩:=List.any_eq_true.1 h1
      simp only [Bool.and_eq_true,decide_eq_true_eq] at h2
      exact ⟨x,hx,h2.1,by omega⟩
    constructor
    ·rintro ⟨p,hp,rfl⟩
     obtain ⟨h1,h2⟩:=List.mem_filter.1 hp
     obtain ⟨r,q⟩:=p
     refine ⟨(hm.mem _).1 (List.mem_map.2 ⟨_,h1,rfl⟩),?_⟩
     have:=hlen q h1
     simp only [decide_eq_true_eq] at h2
     omega
    ·rintro ⟨h1,h2⟩
     obtain ⟨p,hp,hpe⟩:=List.mem_map.1 ((hm.mem r).2 h1)
     obtain ⟨r',q⟩:=p
     simp only at hpe
     subst hpe
     refine ⟨_,List.mem_filter.2 ⟨hp,?_⟩,rfl⟩
     have:=hlen q hp
     simp only [decide_eq_true_eq]
     omega
end Go.Mx
