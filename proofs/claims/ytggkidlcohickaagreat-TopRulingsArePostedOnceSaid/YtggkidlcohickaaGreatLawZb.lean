/- Part of the proof of TopRulingsArePostedOnce: plain laws about the functions of M, no program in sight. Conditions: none. -/
import Derived.Test.YtggkidlcohickaaGreatM
import Derived.Test.YtggkidlcohickaaGreatOkp
set_option linter.unusedVariables false
set_option linter.unusedSimpArgs false
namespace Go.Mx
def cnt (p:Nat→Bool):Nat→Nat
 | 0=>0
 | n+1=>cnt p n+if p n=true then 1 else 0
theorem zOs (p:Nat→Bool):∀ n,cnt p n≤n
 | 0=>Nat.le_refl _
 | n+1=>by have:=zOs p n; unfold cnt; split <;> omega
theorem cnt_mono {p q:Nat→Bool}:∀ {n:Nat},(∀ a,a<n→p a=true→q a=true)→cnt p n≤cnt q n
 | 0,_=>Nat.le_refl _
 | n+1,h=>by
  have ih:=cnt_mono (n:=n) fun a ha=>h a (by omega)
  have:=h n (by omega)
  unfold cnt
  by_cases c:p n=true
  ·rw [if_pos c,if_pos (this c)]; omega
  ·rw [if_neg c]; split <;> omega
theorem zNG {p q:Nat→Bool} {n:Nat} (h:∀ a,a<n→p a=q a):cnt p n=cnt q n :=
 Nat.le_antisymm (cnt_mono fun a ha c=>by rw [← h a ha]; exact c) (cnt_mono fun a ha c=>by rw [h a ha]; exact c)
theorem zEi {p q:Nat→Bool}:∀ {n:Nat},n<cnt p n+cnt q n→∃ a,a<n∧p a=true∧q a=true
 | 0,h=>by simp [cnt] at h
 | n+1,h=>by
  unfold cnt at h
  by_cases c:p n=true
  ·by_cases d:q n=true
   ·exact ⟨n,by omega,c,d⟩
   ·rw [if_pos c,if_neg d] at h
    obtain ⟨a,h1,h2⟩:=zEi (p:=p) (q:=q) (n:=n) (by omega)
    exact ⟨a,by omega,h2⟩
  ·rw [if_neg c] at h
   obtain ⟨a,h1,h2⟩:=zEi (p:=p) (q:=q) (n:=n) (by split at h <;> omega)
   exact ⟨a,by omega,h2⟩
structure Pax (N maj:Nat) (V:Nat→Int→Int→Prop) (P:Nat→Int→Int→Int→Prop) (R:Int→Int→Prop) (op:Nat→Int→Bool):Prop where
 two:N<maj+maj
 last:∀ a r w f,P a r w f→0<w→V a w f∧w<r
 most:∀ a r w f r' g,P a r w f→V a r' g→r'<r→r'≤w
 pos:∀ a r f,V a r f→0<r
 prop:∀ a r f,V a r f→R r f
 uniq:∀ r f g,R r f→R r g→f=g
 shut:∀ a r w f r',P a r w f→r'<r→op a r'=false
 bound:∀ r f,R r f→∃ Q:Nat→Bool,maj≤cnt Q N∧((∀ a,Q a=true→∃ g,P a r 0 g)∨∃ b k,0<k∧P b r k f∧∀ a,Q a=true→∃ w g,P a r w g∧w≤k)
section
variable {N maj:Nat} {V:Nat→Int→Int→Prop} {P:Nat→Int→Int→Int→Prop} {R:Int→Int→Prop} {op:Nat→Int→Bool}
theorem zHl (h:Pax N maj V P R op):∀ (n:Nat) (r f r' g:Int) (p:Nat→Bool),r.toNat≤n→R r f→r'<r→(∀ a,p a=true→op a r'=true∨V a r' g)→maj≤cnt p N→(∃ a,V a r' g)∧g=f:=by
 intro n
 induction n with
 | zero =>
  intro r f r' g p hn hR hlt hp hm
  obtain ⟨Q,h1,h2⟩:=h.bound r f hR
  have:=h.two
  obtain ⟨a,_,c,d⟩:=zEi (p:=p) (q:=Q) (n:=N) (by omega)
  have hP:∃ w g',P a r w g':=by
   rcases h2 with h2 | ⟨b,k,_,_,h2⟩
   ·obtain ⟨g',q⟩:=h2 a d; exact ⟨0,g',q⟩
   ·obtain ⟨w,g',q,_⟩:=h2 a d; exact ⟨w,g',q⟩
  obtain ⟨w,g',hP⟩:=hP
  rcases hp a c with q | q
  ·rw [h.shut a r w g' r' hP hlt] at q; cases q
  ·have:=h.pos a r' g q; omega
 | succ n ih =>
  intro r f r' g p hn hR hlt hp hm
  obtain ⟨Q,h1,h2⟩:=h.bound r f hR
  have:=h.two
  obtain ⟨a,_,c,d⟩:=zEi (p:=p) (q:=Q) (n:=N) (by omega)
  have hV:∀ w g',P a r w g'→V a r' g∧r'≤w:=fun w g' hP=>by
   rcases hp a c with q | q
   ·rw [h.shut a r w g' r' hP hlt] at q; cases q
   ·exact ⟨q,h.most a r w g' r' g hP q hlt⟩
  rcases h2 with h2 | ⟨b,k,hk,hb,h2⟩
  ·obtain ⟨g',q⟩:=h2 a d
   obtain ⟨q1,q2⟩:=hV 0 g' q
   have:=h.pos a r' g q1; omega
  ·obtain ⟨w,g',q,hw⟩:=h2 a d
   obtain ⟨q1,q2⟩:=hV w g' q
   obtain ⟨q3,q4⟩:=h.last b r k f hb hk
   refine ⟨⟨a,q1⟩,?_⟩
   by_cases e:r'=k
   ·subst e; exact h.uniq r' g f (h.prop a r' g q1) (h.prop b r' f q3)
   ·have:=h.pos a r' g q1
    exact (ih k f r' g p (by omega) (h.prop b k f q3) (by omega) hp hm).2
theorem zNm (h:Pax N maj V P R op) {r1 r2 f1 f2:Int} {p1 p2:Nat→Bool} (h1:∀ a,p1 a=true→V a r1 f1) (h2:∀ a,p2 a=true→V a r2 f2) (m1:maj≤cnt p1 N) (m2:maj≤cnt p2 N) (hm:0<maj):f1=f2:=by
 have some':∀ {p:Nat→Bool},maj≤cnt p N→∃ a,p a=true:=fun {p} hp=>by
  obtain ⟨a,_,c,_⟩:=zEi (p:=p) (q:=p) (n:=N) (by have:=h.two; omega)
  exact ⟨a,c⟩
 obtain ⟨a1,c1⟩:=some' m1
 obtain ⟨a2,c2⟩:=some' m2
 have R1:=h.prop _ _ _ (h1 a1 c1)
 have R2:=h.prop _ _ _ (h2 a2 c2)
 rcases Int.lt_trichotomy r1 r2 with c | c | c
 ·exact (zHl h r2.toNat r2 f2 r1 f1 p1 (Nat.le_refl _) R2 c (fun a q=>.inr (h1 a q)) m1).2
 ·subst c; exact h.uniq _ _ _ R1 R2
 ·exact ((zHl h r1.toNat r1 f1 r2 f2 p2 (Nat.le_refl _) R1 c (fun a q=>.inr (h2 a q)) m2).2).symm
end
theorem lp_inv' {σ ρ:Type} {body:σ→Option (σ ⊕ ρ)} {s0:σ} (I:Nat→σ→Prop) (P:ρ→Prop) (n:Nat) (hn:n<18446744073709551615) (h0:I 0 s0) (step:∀ i s,i≤n→I i s→(i<n∧∃ s',body s=some (.inl s')∧I (i+1) s')∨∃ r,body s=some (.inr r)∧P r):∃ r,Lp body fuel s0=some r∧P r:=by
 have key:∀ (m i:Nat) (s:σ),n<i+m→i≤n→I i s→∃ r,Lp body m s=some r∧P r:=by
  intro m
  induction m with
  | zero=>intro i s h h' hI; omega
  | succ m ih =>
   intro i s h h' hI
   rcases step i s h' hI with ⟨h1,s',h2,h3⟩ | ⟨r,h1,h2⟩
   ·rw [zCt m h2]; exact ih (i+1) s' (by omega) (by omega) h3
   ·rw [zAN m h1]; exact ⟨r,rfl,h2⟩
 exact key fuel 0 s0 (by unfold fuel; omega) (Nat.zero_le _) h0
theorem zJq {α:Type} {l:List α} {i:Nat} (h:i<l.length):ix l (i:Int)=some (l[i]'h):=by
 unfold ix
 rw [if_pos (by omega)]
 simp [h]
theorem w64s (i:Nat) (h:i+1≤9223372036854775807):w64 ((i:Int)+1)=((i+1:Nat):Int):=by rw [JD (by omega) (by omega)]; omega
theorem lp_list {α τ σ ρ:Type} {body:σ→Option (σ ⊕ ρ)} (l:List α) (hl:l.length≤9223372036854775807) (st:τ→Int→σ) (F:τ→List α→ρ) (J:Nat→τ→Prop) {a:τ} {s0:σ} (e0:s0=st a 0) (h0:J 0 a)
  (step:∀ a (i:Nat) (hi:i<l.length),J i a→(∃ a',body (st a (i:Int))=some (.inl (st a' ((i+1:Nat):Int)))∧F a (l[i] :: l.drop (i+1))=F a' (l.drop (i+1))∧J (i+1) a')∨body (st a (i:Int))=some (.inr (F a (l[i] :: l.drop (i+1)))))
  (last:∀ a,J l.length a→body (st a (l.length:Int))=some (.inr (F a []))):Lp body fuel s0=some (F a l):=by
 suffices h:∃ r,Lp body fuel s0=some r∧r=F a l by obtain ⟨r,h,rfl⟩:=h; exact h
 refine lp_inv' (fun i s => ∃ b,s=st b (i:Int)∧F a l=F b (l.drop i)∧J i b) _ l.length (by omega) ⟨a,by simpa using e0,by simp,h0⟩ fun i s hi hI=>?_
 obtain ⟨b,rfl,h1,h2⟩:=hI
 by_cases h:i<l.length
 ·have hd:=List.drop_eq_getElem_cons h
  rcases step b i h h2 with ⟨a',q1,q2,q3⟩ | q1
  ·exact .inl ⟨h,_,q1,a',rfl,by rw [h1,hd,q2],q3⟩
  ·exact .inr ⟨_,q1,by rw [h1,hd]⟩
 ·have e:i=l.length:=by omega
  subst e
  exact .inr ⟨_,last b h2,by rw [h1,List.drop_length]⟩
theorem zGA {α:Type} {l:List α} {k:Nat} (h:k≤l.length):sub l 0 (k:Int)=some (l.take k):=by unfold sub; rw [if_pos ⟨by omega,by omega,by omega⟩]; simp
theorem zBu {α:Type} {l:List α} {k:Nat} (h:k≤l.length):sub l (k:Int) (l.length:Int)=some (l.drop k):=by unfold sub; rw [if_pos ⟨by omega,by omega,by omega⟩]; simp
theorem Zk {α:Type} {l r:List α} (h:l.length+r.length≤4294967296):app l r=some (l++r):=by unfold app; rw [if_pos h]
theorem zIK {α:Type} [DecidableEq α]:∀ {l r:List α},l.Nodup→(∀ x∈l,x∈r)→l.length≤r.length
 | [],r,_,_=>Nat.zero_le _
 | a :: l,r,hn,hs=>by
  rw [List.nodup_cons] at hn
  have ha:=hs a List.mem_cons_self
  have:=zIK (l:=l) (r:=r.erase a) hn.2 fun x hx=>(List.mem_erase_of_ne (fun e:x=a=>hn.1 (by rw [← e]; exact hx))).2 (hs x (List.mem_cons_of_mem _ hx))
  rw [List.length_erase_of_mem ha] at this
  have:0<r.length:=List.length_pos_of_mem ha
  simp only [List.length_cons]; omega
theorem zHw {α β:Type} [DecidableEq α] (k k':α) (v:β):∀ (l:List (α×β)) (i:Nat),JB k l=some i→zO k' (l.set i (k,v))=if k'=k then some v else zO k' l
 | [],i,h=>by cases h
 | p :: r,i,h=>by
  unfold JB at h
  by_cases e:k=p.1
  ·rw [if_pos e] at h
   cases h
   simp only [List.set_cons_zero,zO]
   by_cases e2:k'=k
   ·simp [e2]
   ·rw [if_neg e2,if_neg e2,if_neg (fun q=>e2 (q.trans e.symm))]
  ·rw [if_neg e] at h
   cases hf:JB k r with
   | none=>rw [hf] at h; cases h
   | some j =>
    rw [hf] at h
    cases h
    simp only [List.set_cons_succ,zO]
    by_cases e2:k'=p.1
    ·rw [if_pos e2,if_pos e2,if_neg (fun q=>e (q.symm.trans e2))]
    ·rw [if_neg e2,if_neg e2]; exact zHw k k' v r j hf
theorem zGg {α β:Type} [DecidableEq α] (k k':α) (v:β):∀ (l:List (α×β)) (n:Nat),zO k l=none→zO k' (insL l n (k,v))=if k'=k then some v else zO k' l
 | [],0,_=>by simp [insL,zO]
 | [],n+1,_=>by simp [insL,zO]
 | p :: r,0,h=>by simp [insL,zO]
 | p :: r,n+1,h=>by
  simp only [zO] at h
  split at h
  ·cases h
  ·rename_i e
   simp only [insL,zO]
   rw [zGg k k' v r n h]
   by_cases e2:k'=p.1
   ·rw [if_pos e2,if_pos e2,if_neg (fun q=>e (q.symm.trans e2))]
   ·rw [if_neg e2,if_neg e2]
theorem zCu {α β:Type} [DecidableEq α] (pos:α→List α→Nat) (k k':α) (v:β) (l:List (α×β)):zO k' (putM pos l k v)=if k'=k then some v else zO k' l:=by
 unfold putM
 cases hf:JB k l with
 | some i=>exact zHw k k' v l i hf
 | none =>
  have:=JF (k:=k) (l:=l)
  rw [hf] at this
  exact zGg k k' v l _ this.1
def insB {α:Type} (p:α→Bool) (l:List α) (x:α):List α:=l.takeWhile p++x :: l.dropWhile p
theorem zC1 {α:Type} (p:α→Bool) (l:List α) (x:α):(insB p l x).Perm (x :: l):=by
 unfold insB
 refine List.perm_middle.trans ?_
 rw [List.takeWhile_append_dropWhile]
theorem zIJ {α:Type} (p:α→Bool):∀ (l:List α),(∀ (j:Nat) (h:j<l.length),j<(l.takeWhile p).length→p l[j]=true)∧(∀ h:(l.takeWhile p).length<l.length,p l[(l.takeWhile p).length]=false)∧(l.takeWhile p).length≤l.length∧l.take (l.takeWhile p).length=l.takeWhile p∧l.drop (l.takeWhile p).length=l.dropWhile p
 | []=>by simp
 | a :: r=>by
  obtain ⟨h1,h2,h3,h4,h5⟩:=zIJ p r
  cases hp:p a with
  | false=>simp [List.takeWhile,List.dropWhile,hp]
  | true =>
   simp only [List.takeWhile_cons,List.dropWhile_cons,hp,if_true,List.length_cons,List.take_succ_cons,List.drop_succ_cons]
   refine ⟨fun j hj hj2=>?_,fun h=>?_,by omega,by rw [h4],h5⟩
   ·cases j with
    | zero=>simpa using hp
    | succ j=>simpa using h1 j (by simpa using hj) (by omega)
   ·simpa using h2 (by omega)
theorem tw_loop {α ρ:Type} (p:α→Bool) (l:List α) (hl:l.length≤1000000) {body:Int→Option (Int ⊕ ρ)} (res:ρ)
  (step:∀ (i:Nat) (h:i<l.length),p l[i]=true→body (i:Int)=some (.inl ((i+1:Nat):Int)))
  (stop:∀ (i:Nat) (h:i<l.length),p l[i]=false→i=(l.takeWhile p).length→body (i:Int)=some (.inr res)) (last:(l.takeWhile p).length=l.length→body (l.length:Int)=some (.inr res)):Lp body fuel 0=some res:=by
 obtain ⟨h1,h2,h3,h4,h5⟩:=zIJ p l
 suffices h:∃ r,Lp body fuel 0=some r∧r=res by obtain ⟨r,h,rfl⟩:=h; exact h
 refine lp_inv' (fun (i:Nat) (s:Int)=>s=(i:Int)∧i≤(l.takeWhile p).length) _ l.length (by omega) ⟨rfl,Nat.zero_le _⟩ fun i s hi hI=>?_
 obtain ⟨rfl,hk⟩:=hI
 by_cases hlt:i<l.length
 ·by_cases hk2:i<(l.takeWhile p).length
  ·exact .inl ⟨hlt,_,step i hlt (h1 i hlt hk2),rfl,by omega⟩
  ·have e:i=(l.takeWhile p).length:=by omega
   refine .inr ⟨_,stop i hlt ?_ e,rfl⟩
   subst e; exact h2 hlt
 ·have e:i=l.length:=by omega
  subst e
  exact .inr ⟨_,last (by omega),rfl⟩
theorem zFi {α:Type} {le:α→α→Prop} {p:α→Bool} {x:α} (tr:∀ a b c,le a b→le b c→le a c) (h1:∀ a,p a=true→le a x) (h2:∀ a,p a=false→le x a):∀ {l:List α},l.Pairwise le→(insB p l x).Pairwise le
 | [],_=>by simp [insB]
 | a :: r,h=>by
  unfold insB
  rw [List.pairwise_cons] at h
  cases hp:p a with
  | false =>
   simp only [List.takeWhile_cons,List.dropWhile_cons,hp,Bool.false_eq_true,if_false,List.nil_append]
   rw [List.pairwise_cons]
   refine ⟨fun b hb=>?_,List.pairwise_cons.2 h⟩
   rcases List.mem_cons.1 hb with rfl | hb
   ·exact h2 _ hp
   ·exact tr _ _ _ (h2 _ hp) (h.1 b hb)
  | true =>
   simp only [List.takeWhile_cons,List.dropWhile_cons,hp,if_true,List.cons_append]
   rw [List.pairwise_cons]
   refine ⟨fun b hb=>?_,zFi tr h1 h2 h.2⟩
   have:=(zC1 p r x).mem_iff.1 hb
   rcases List.mem_cons.1 this with rfl | hb
   ·exact h1 _ hp
   ·exact h.1 b hb
theorem zA8 {α ρ:Type} (p:α→Bool) (l:List α) (hl:l.length≤4000) {body:Int→Option (Int ⊕ ρ)} (R:Nat→ρ) (r0:ρ)
  (step:∀ (i:Nat) (h:i<l.length),body (i:Int)=some (if p l[i]=true then .inr (R i) else .inl ((i+1:Nat):Int))) (last:body (l.length:Int)=some (.inr r0)):Lp body fuel 0=some (match l.findIdx? p with | some i=>R i | none=>r0):=by
 suffices h:∃ r,Lp body fuel 0=some r∧r=(match l.findIdx? p with | some i=>R i | none=>r0) by obtain ⟨r,h,rfl⟩:=h; exact h
 refine lp_inv' (fun (i:Nat) (s:Int)=>s=(i:Int)∧∀ j (h:j<l.length),j<i→p l[j]=false) _ l.length (by omega) ⟨rfl,fun j h hj=>by omega⟩ fun i s hi hI=>?_
 obtain ⟨rfl,hk⟩:=hI
 by_cases hlt:i<l.length
 ·by_cases hp:p l[i]=true
  ·refine .inr ⟨R i,by rw [step i hlt,if_pos hp],?_⟩
   rw [List.findIdx?_eq_some_iff_getElem.2 ⟨hlt,hp,fun j hj=>by rw [hk j (by omega) hj]; simp⟩]
  ·refine .inl ⟨hlt,_,by rw [step i hlt,if_neg hp],rfl,fun j h hj=>?_⟩
   by_cases e:j=i
   ·subst e; simpa using hp
   ·exact hk j h (by omega)
 ·have e:i=l.length:=by omega
  subst e
  refine .inr ⟨r0,last,?_⟩
  rw [List.findIdx?_eq_none_iff.2 fun x hx=>by obtain ⟨j,hj,rfl⟩:=List.getElem_of_mem hx; exact hk j hj hj]
def ixOf {α:Type} (p:α→Bool) (l:List α):Int:=match l.findIdx? p with
 | some i=>(i:Int)
 | none => -1
theorem zCQ {α:Type} (p:α→Bool) (l:List α):decide (0≤ixOf p l)=l.any p:=by
 unfold ixOf
 cases h:l.findIdx? p with
 | none =>
  have h2:=List.findIdx?_eq_none_iff.1 h
  have:l.any p=false:=List.any_eq_false.2 fun x hx=>by rw [h2 x hx]; simp
  rw [this]; rfl
 | some i =>
  obtain ⟨hi,hp,_⟩:=List.findIdx?_eq_some_iff_getElem.1 h
  have:l.any p=true:=List.any_eq_true.2 ⟨l[i],List.getElem_mem hi,hp⟩
  rw [this]; simp
theorem YN {α:Type} (p:α→Bool) (l:List α) (hl:l.length≤4000) {body:Int→Option (Int ⊕ Int)}
  (step:∀ (i:Nat) (h:i<l.length),body (i:Int)=some (if p l[i]=true then .inr (i:Int) else .inl ((i+1:Nat):Int))) (last:body (l.length:Int)=some (.inr (-1))):Lp body fuel 0=some (ixOf p l) :=
 zA8 p l hl (fun i=>(i:Int)) (-1) step last
theorem zO2 {α:Type} (p:α→Bool) (l:List α) (hl:l.length≤4000) {body:Int→Option (Int ⊕ Bool)}
  (step:∀ (i:Nat) (h:i<l.length),body (i:Int)=some (if p l[i]=true then .inr true else .inl ((i+1:Nat):Int))) (last:body (l.length:Int)=some (.inr false)):Lp body fuel 0=some (l.any p):=by
 rw [zA8 p l hl (fun _=>true) false step last]
 congr 1
 cases h:l.findIdx? p with
 | none=>exact (List.any_eq_false.2 fun x hx=>by rw [List.findIdx?_eq_none_iff.1 h x hx]; simp).symm
 | some i =>
  obtain ⟨hi,hp,_⟩:=List.findIdx?_eq_some_iff_getElem.1 h
  exact (List.any_eq_true.2 ⟨l[i],List.getElem_mem hi,hp⟩).symm
theorem zBt {α τ σ ρ:Type} {body:σ→Option (σ ⊕ ρ)} (l:List α) (hl:l.length≤4000) (st:τ→Int→σ) (g:τ→α→τ) (fin:τ→ρ) (J:Nat→τ→Prop) {a:τ} {s0:σ} (e0:s0=st a 0) (h0:J 0 a)
  (step:∀ a (i:Nat) (hi:i<l.length),J i a→body (st a (i:Int))=some (.inl (st (g a l[i]) ((i+1:Nat):Int)))∧J (i+1) (g a l[i])) (last:∀ a,J l.length a→body (st a (l.length:Int))=some (.inr (fin a))):Lp body fuel s0=some (fin (l.foldl g a)) :=
 lp_list l (by omega) st (fun a l=>fin (l.foldl g a)) J e0 h0 (fun a i hi hJ=>.inl ⟨g a l[i],(step a i hi hJ).1,rfl,(step a i hi hJ).2⟩) (fun a hJ=>last a hJ)
theorem Zf {α:Type} {l:List α} {i:Nat} (h:i<l.length):ix l (i:Int)=some l[i]:=zJq h
theorem dlt {i:Nat} {n:Nat} (h:i<n):decide ((i:Int)<(n:Int))=true:=by simpa using h
theorem dge (n:Nat):decide ((n:Int)<(n:Int))=false:=by simp
theorem w64i {i n:Nat} (h:i<n) (hn:n≤4000):w64 ((i:Int)+1)=((i+1:Nat):Int):=w64s i (by omega)
def inI (n lo hi:Int):Bool:=decide (lo≤n)&&decide (n≤hi)
theorem jQ {n lo hi:Int}:inI n lo hi=true↔lo≤n∧n≤hi:=by simp [inI]
def okC (c:zD):Bool:=inI c.Arbiters 3 7
def chkS (c:zD):Int:=if okC c=true then 0 else 1
def majS (c:zD):Int:=if okC c=true then c.Arbiters / 2+1 else 0
def zAA (c:zD) (r:Int):Int:=if okC c=true∧inI r 1 1048576=true then (r - 1) % c.Arbiters else 0
theorem jI {c:zD} (h:okC c=true):3≤c.Arbiters∧c.Arbiters≤7:=jQ.1 h
theorem Qt (c:zD):zo c=chkS c:=by
 unfold zo chkS
 show (if (!okC c)=true then _ else _)=_
 cases okC c <;> rfl
theorem zAt (c:zD):JR c=chkS c:=by
 unfold JR chkS
 show (if (!okC c)=true then _ else _)=_
 cases okC c <;> rfl
theorem chk0 (c:zD):(!decide (chkS c=0)) = !okC c:=by
 unfold chkS
 cases okC c <;> rfl
theorem zHG (c:zD):Zw c=some (majS c):=by
 unfold Zw majS
 rw [Qt,chk0]
 cases h:okC c with
 | false=>rfl
 | true =>
  have:=jI h
  simp only [Bool.not_true,Bool.false_eq_true,if_false,if_true,quo,(by decide:(2:Int)≠0),Option.bind_some]
  rw [Int.tdiv_eq_ediv_of_nonneg (by omega),JD (n:=c.Arbiters / 2) (by omega) (by omega),JD (by omega) (by omega)]
theorem zFx (c:zD):Ja c=some (majS c):=by
 have:Ja c=Zw c:=by
  unfold Ja Zw
  rw [Qt,zAt]
 rw [this,zHG]
theorem zHH (c:zD) (r:Int):J3 c r=some (zAA c r):=by
 unfold J3 zAA
 rw [Qt,chk0]
 show (if (!okC c || !inI r 1 1048576)=true then _ else _)=_
 cases h:okC c with
 | false=>simp
 | true =>
  cases h2:inI r 1 1048576 with
  | false=>simp
  | true =>
   have:=jI h
   have:=jQ.1 h2
   simp only [Bool.not_true,Bool.or_self,Bool.false_eq_true,if_false,and_self,if_true,rem]
   rw [if_neg (by omega),Option.bind_some,JD (by omega) (by omega),Int.tmod_eq_emod_of_nonneg (by omega)]
theorem zMn (c:zD) (r:Int):Yp c r=some (zAA c r):=by
 have:Yp c r=J3 c r:=by
  unfold Yp J3
  rw [Qt,zAt]; rfl
 rw [this,zHH]
def kdB (c:zD) (l:zA):Bool :=
 if l.Kind=1 then decide (l.From=zAA c l.Round)&&decide (l.Voted=0)&&decide (l.Finding=0)
 else if l.Kind=2 then decide (l.To=zAA c l.Round)&&inI l.Voted 0 (l.Round - 1)&&(decide (0<l.Voted)||decide (l.Finding=0))
 else if l.Kind=3 then decide (l.From=zAA c l.Round)&&decide (l.Voted=0)
 else decide (l.Kind=4)&&decide (l.Voted=0)
def fmB (c:zD) (l:zA):Bool:=okC c&&inI l.Case 1 1099511627776&&inI l.Round 1 1048576&&inI l.From 0 (c.Arbiters - 1)&&inI l.To 0 (c.Arbiters - 1)&&inI l.ID 0 1099511627776&&inI l.Finding 0 65536&&kdB c l
theorem zIG (c:zD) (l:zA):yI c l=some (fmB c l):=by
 unfold yI fmB
 rw [Qt,chk0]
 cases h:okC c with
 | false=>simp
 | true =>
  have hA:=jI h
  have e1:w64 (c.Arbiters - 1)=c.Arbiters - 1:=JD (by omega) (by omega)
  simp only [Zj,zW,jL,e1]
  show (if (false || !inI l.Case 1 1099511627776 || !inI l.Round 1 1048576 || !inI l.From 0 (c.Arbiters - 1) || !inI l.To 0 (c.Arbiters - 1) || !inI l.ID 0 1099511627776 || !inI l.Finding 0 65536)=true then _ else _)=_
  by_cases g:(inI l.Case 1 1099511627776&&inI l.Round 1 1048576&&inI l.From 0 (c.Arbiters - 1)&&inI l.To 0 (c.Arbiters - 1)&&inI l.ID 0 1099511627776&&inI l.Finding 0 65536)=true
  ·simp only [Bool.and_eq_true] at g
   obtain ⟨⟨⟨⟨⟨g1,g2⟩,g3⟩,g4⟩,g5⟩,g6⟩:=g
   have hr:=jQ.1 g2
   simp only [g1,g2,g3,g4,g5,g6,Bool.not_true,Bool.or_self,Bool.false_eq_true,if_false,Bool.and_self,Bool.true_and]
   rw [zHH,Option.bind_some,JD (n:=l.Round - 1) (by omega) (by omega)]
   unfold kdB
   by_cases k1:l.Kind=1
   ·simp [k1]
   ·by_cases k2:l.Kind=2
    ·simp [k2]; rfl
    ·by_cases k3:l.Kind=3
     ·simp [k3]
     ·by_cases k4:l.Kind=4 <;> simp [k1,k2,k3,k4]
  ·have g':(inI l.Case 1 1099511627776&&inI l.Round 1 1048576&&inI l.From 0 (c.Arbiters - 1)&&inI l.To 0 (c.Arbiters - 1)&&inI l.ID 0 1099511627776&&inI l.Finding 0 65536)=false:=by simpa using g
   have e:(false || !inI l.Case 1 1099511627776 || !inI l.Round 1 1048576 || !inI l.From 0 (c.Arbiters - 1) || !inI l.To 0 (c.Arbiters - 1) || !inI l.ID 0 1099511627776 || !inI l.Finding 0 65536) = !(inI l.Case 1 1099511627776&&inI l.Round 1 1048576&&inI l.From 0 (c.Arbiters - 1)&&inI l.To 0 (c.Arbiters - 1)&&inI l.ID 0 1099511627776&&inI l.Finding 0 65536):=by simp [Bool.not_and]
   rw [e,g']
   simp only [Bool.not_false,if_true,Bool.true_and,g',Bool.false_and]
theorem zKp (c:zD) (l:zA):zBN c l=some (fmB c l):=by
 rw [← zIG]
 unfold zBN yI
 rw [Qt,zAt,zHH,zMn]
 have e:∀ a b1 b2 b3 b4 b5 b6:Bool,(((((((a || !b1) || !b2) || !b3) || !b4) || !b5) || !b6))=(((((((a || !b2) || !b3) || !b4) || !b5) || !b1) || !b6)):=by decide
 show (if (!decide (chkS c=0) || !inI l.ID 0 1099511627776 || !inI l.Case 1 1099511627776 || !inI l.Round 1 1048576 || !inI l.From 0 (w64 (c.Arbiters - 1)) || !inI l.To 0 (w64 (c.Arbiters - 1)) || !inI l.Finding 0 65536)=true then _ else _)=(if (!decide (chkS c=0) || !inI l.Case 1 1099511627776 || !inI l.Round 1 1048576 || !inI l.From 0 (w64 (c.Arbiters - 1)) || !inI l.To 0 (w64 (c.Arbiters - 1)) || !inI l.ID 0 1099511627776 || !inI l.Finding 0 65536)=true then _ else _)
 rw [e]
 split
 ·rfl
 ·simp only [Option.bind_some]
  by_cases k1:l.Kind=1
  ·simp [k1]
  ·by_cases k2:l.Kind=2
   ·simp [k2]; rfl
   ·by_cases k3:l.Kind=3
    ·simp [k3]
    ·by_cases k4:l.Kind=4 <;> simp [k1,k2,k3,k4]
def yK (c:zD) (l:List zA):Int:=if okC c=true then if 2000<l.length then 2 else if l.all (fmB c)=true then 0 else 7 else 1
theorem zKT {α:Type} (p:α→Bool) (l:List α):l.any (fun x => !p x) = !l.all p:=by
 induction l with
 | nil=>rfl
 | cons a r ih=>simp only [List.any_cons,List.all_cons,ih]; cases p a <;> simp
theorem zIT (c:zD) (l:List zA) (hl:l.length≤4000):yR c l=some (yK c l):=by
 unfold yR yK
 rw [Qt,chk0]
 cases h:okC c with
 | false=>simp [chkS,h]
 | true =>
  simp only [Bool.not_true,Bool.false_eq_true,if_false,if_true]
  have hI:ZE l c=some (ixOf (fun x => !fmB c x) l):=by
   unfold ZE
   refine YN _ l hl (fun i hi=>?_) ?_
   ·unfold ZL
    simp only [dlt hi,if_true,Zf hi,Option.bind_some,QJ,zIG,w64i hi hl]
    split <;> rfl
   ·unfold ZL
    simp [dge,zm]
  unfold ZM
  rw [hI]
  simp only [Option.bind_some,zCQ,zKT]
  by_cases h2:2000<l.length
  ·have:(2000:Int)<(l.length:Int):=by omega
   simp only [h2,this,decide_true,if_true]
  ·have : ¬ (2000:Int)<(l.length:Int):=by omega
   simp only [h2,this,decide_false,Bool.false_eq_true,if_false]
   cases l.all (fmB c) <;> simp
theorem zFG (c:zD) (l:List zA) (hl:l.length≤4000):Y0 c l=some (yK c l):=by
 unfold Y0 yK
 rw [zAt,chk0]
 cases h:okC c with
 | false=>simp [chkS,h]
 | true =>
  simp only [Bool.not_true,Bool.false_eq_true,if_false,if_true]
  by_cases h2:2000<l.length
  ·have:(2000:Int)<(l.length:Int):=by omega
   simp [h2,this]
  ·have : ¬ (2000:Int)<(l.length:Int):=by omega
   simp only [h2,this,decide_false,Bool.false_eq_true,if_false]
   have hL:=zA8 (fun x => !fmB c x) l hl (body:=Yd c l) (fun _=>(7:Int)) 0 (fun i hi=>by
    unfold Yd
    simp only [dlt hi,if_true,Zf hi,Option.bind_some,zKp,w64i hi hl]
    split <;> rfl) (by
    unfold Yd
    simp [dge,zBh])
   rw [hL]
   congr 1
   cases h3:l.findIdx? (fun x => !fmB c x) with
   | none =>
    have:l.all (fmB c)=true:=List.all_eq_true.2 fun x hx=>by have:=List.findIdx?_eq_none_iff.1 h3 x hx; simpa using this
    rw [if_pos this]
   | some i =>
    obtain ⟨hi,hp,_⟩:=List.findIdx?_eq_some_iff_getElem.1 h3
    have : ¬ l.all (fmB c)=true:=fun e=>by have:=List.all_eq_true.1 e l[i] (List.getElem_mem hi); rw [this] at hp; cases hp
    rw [if_neg this]
theorem zCC {c:zD} {l:List zA} (h:yK c l=0):okC c=true∧l.length≤2000∧∀ x∈l,fmB c x=true:=by
 unfold yK at h
 split at h
 ·rename_i h1
  split at h
  ·cases h
  ·split at h
   ·rename_i h2 h3; exact ⟨h1,by omega,fun x hx=>List.all_eq_true.1 h3 x hx⟩
   ·cases h
 ·cases h
end Go.Mx
