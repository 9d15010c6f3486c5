/- Part of the proof of ArbiterWorldsAreLawful: plain laws about the functions of M, no program in sight. Conditions: none. -/
import Derived.Test.YtfoafeaplgmhmaaGreatLawZe
set_option linter.unusedVariables false
set_option linter.unusedSimpArgs false
namespace Go.Mx
theorem jA {y z:zA}:zK y=zK z↔y.Case=z.Case∧y.Kind=z.Kind∧y.Round=z.Round∧y.From=z.From∧y.Voted=z.Voted∧y.Finding=z.Finding:=by
 unfold zK
 simp
theorem zAc (y z:zA):jU y z=decide (zK y=zK z):=by
 unfold jU
 rw [Bool.eq_iff_iff,decide_eq_true_eq,jA]
 simp [and_assoc]
def ddF (k:Int) (D:List zA) (x:zA):List zA:=if x.Case=k∧D.any (fun y=>decide (zK y=zK x))=false then D++[x] else D
def dd (k:Int) (P:List zA):List zA:=P.foldl (ddF k) []
theorem zAr (k:Int) (P:List zA) (x:zA):dd k (P++[x])=ddF k (dd k P) x:=by simp [dd,List.foldl_append]
theorem zLP {k:Int} {P:List zA}:∀ {y},y∈dd k P→y∈P∧y.Case=k:=by
 refine j6 (motive:=fun P => ∀ {y},y∈dd k P→y∈P∧y.Case=k) (fun h=>by simp [dd] at h) (fun P x ih=>?_) P
 intro y h
 rw [zAr] at h
 unfold ddF at h
 split at h
 ·rename_i hc
  rcases List.mem_append.1 h with h | h
  ·exact ⟨List.mem_append_left _ (ih h).1,(ih h).2⟩
  ·rw [List.mem_singleton] at h; subst h
   exact ⟨by simp,hc.1⟩
 ·exact ⟨List.mem_append_left _ (ih h).1,(ih h).2⟩
theorem dd_cov {k:Int} {P:List zA}:∀ {y},y∈P→y.Case=k→∃ z∈dd k P,zK z=zK y:=by
 refine j6 (motive:=fun P => ∀ {y},y∈P→y.Case=k→∃ z∈dd k P,zK z=zK y) (fun h=>by cases h) (fun P x ih=>?_) P
 intro y h hk
 rw [zAr]
 unfold ddF
 rcases List.mem_append.1 h with h | h
 ·obtain ⟨z,h1,h2⟩:=ih h hk
  refine ⟨z,?_,h2⟩
  split
  ·exact List.mem_append_left _ h1
  ·exact h1
 ·rw [List.mem_singleton] at h; subst h
  split
  ·exact ⟨y,by simp,rfl⟩
  ·rename_i hc
   cases ha:(dd k P).any (fun z=>decide (zK z=zK y)) with
   | false=>exact absurd ⟨hk,ha⟩ hc
   | true =>
    obtain ⟨z,h1,h2⟩:=List.any_eq_true.1 ha
    exact ⟨z,h1,by simpa using h2⟩
theorem dd_len (k:Int) (P:List zA):(dd k P).length≤P.length:=by
 refine j6 (motive:=fun P=>(dd k P).length≤P.length) (by simp [dd]) (fun P x ih=>?_) P
 rw [zAr]
 unfold ddF
 split <;> simp <;> omega
def Resp (q:zA→Bool):Prop := ∀ y z,zK y=zK z→q y=q z
theorem zLX {k:Int} {q:zA→Bool} (hq:Resp q) (P:List zA):(dd k P).any q=P.any (fun y=>decide (y.Case=k)&&q y):=by
 rw [Bool.eq_iff_iff,List.any_eq_true,List.any_eq_true]
 constructor
 ·rintro ⟨y,h1,h2⟩
  obtain ⟨h3,h4⟩:=zLP h1
  exact ⟨y,h3,by simp [h4,h2]⟩
 ·rintro ⟨y,h1,h2⟩
  simp only [Bool.and_eq_true,decide_eq_true_eq] at h2
  obtain ⟨z,h3,h4⟩:=dd_cov h1 h2.1
  exact ⟨z,h3,by rw [hq z y h4]; exact h2.2⟩
theorem find_dd {k:Int} {q:zA→Bool} (hq:Resp q) (P:List zA):(dd k P).find? q=P.find? (fun y=>decide (y.Case=k)&&q y):=by
 refine j6 (motive:=fun P=>(dd k P).find? q=P.find? (fun y=>decide (y.Case=k)&&q y)) (by simp [dd]) (fun P x ih=>?_) P
 rw [zAr,List.find?_append,← ih]
 unfold ddF
 by_cases c1:x.Case=k
 ·cases c2:(dd k P).any (fun y=>decide (zK y=zK x)) with
  | false =>
   rw [if_pos ⟨c1,rfl⟩,List.find?_append]
   simp [c1]
  | true =>
   rw [if_neg (by simp)]
   cases c3:q x with
   | false=>simp [c3]
   | true =>
    obtain ⟨z,h1,h2⟩:=List.any_eq_true.1 c2
    have h3:q z=true:=by rw [hq z x (by simpa using h2)]; exact c3
    cases c4:(dd k P).find? q with
    | some w=>rfl
    | none=>exact absurd h3 (List.find?_eq_none.1 c4 z h1)
 ·rw [if_neg (fun h=>c1 h.1)]
  simp [c1]
theorem YX (l:List zA) (x:zA) (a k:Int):JE (l++[x]) a k=zAO a k (JE l a k) x:=by simp [JE,List.foldl_append]
theorem zEh {l:List zA} {a k:Int}:0≤(JE l a k).1∧∀ y∈l,y.Kind=4→y.Case=k→y.From=a→y.Round≤(JE l a k).1:=by
 refine j6 (motive:=fun l=>0≤(JE l a k).1∧∀ y∈l,y.Kind=4→y.Case=k→y.From=a→y.Round≤(JE l a k).1) ⟨by simp [JE],fun y hy=>by cases hy⟩ (fun l x ih=>?_) l
 rw [YX]
 unfold zAO
 split
 ·rename_i hc
  refine ⟨by have:=ih.1; simp only; omega,fun y hy q1 q2 q3=>?_⟩
  rcases List.mem_append.1 hy with hy | hy
  ·have:=ih.2 y hy q1 q2 q3; simp only; omega
  ·rw [List.mem_singleton] at hy; subst hy; exact Int.le_refl _
 ·rename_i hc
  refine ⟨ih.1,fun y hy q1 q2 q3=>?_⟩
  rcases List.mem_append.1 hy with hy | hy
  ·exact ih.2 y hy q1 q2 q3
  ·rw [List.mem_singleton] at hy; subst hy
   rcases Int.lt_or_le (JE l a k).1 y.Round with h | h
   ·exact absurd ⟨q1,q2,q3,h⟩ hc
   ·exact h
theorem zGr (l:List zA) (a k:Int):JE l a k=(0,0)∨∃ y∈l,y.Kind=4∧y.Case=k∧y.From=a∧y.Round=(JE l a k).1∧y.Finding=(JE l a k).2∧0<y.Round:=by
 refine j6 (motive:=fun l=>JE l a k=(0,0)∨∃ y∈l,y.Kind=4∧y.Case=k∧y.From=a∧y.Round=(JE l a k).1∧y.Finding=(JE l a k).2∧0<y.Round) (.inl rfl) (fun l x ih=>?_) l
 rw [YX]
 have h0:=(zEh (l:=l) (a:=a) (k:=k)).1
 unfold zAO
 split
 ·rename_i hc
  exact .inr ⟨x,by simp,hc.1,hc.2.1,hc.2.2.1,rfl,rfl,by omega⟩
 ·rcases ih with ih | ⟨y,h1,h2⟩
  ·exact .inl ih
  ·exact .inr ⟨y,List.mem_append_left _ h1,h2⟩
theorem las_dd (P:List zA) (a k:Int):lasS (dd k P) a=JE P a k:=by
 refine j6 (motive:=fun P=>lasS (dd k P) a=JE P a k) (by simp [dd,lasS,JE]) (fun P x ih=>?_) P
 rw [zAr,YX,← ih]
 unfold ddF
 by_cases c1:x.Case=k
 ·cases c2:(dd k P).any (fun y=>decide (zK y=zK x)) with
  | false =>
   rw [if_pos ⟨c1,rfl⟩]
   simp [lasS,List.foldl_append,lasF,zAO,c1]
  | true =>
   rw [if_neg (by simp)]
   unfold zAO
   rw [if_neg]
   rintro ⟨q1,q2,q3,q4⟩
   obtain ⟨z,h1,h2⟩:=List.any_eq_true.1 c2
   have h3:=jA.1 (by simpa using h2:zK z=zK x)
   have:=(zEh (l:=P) (a:=a) (k:=k)).2 z (zLP h1).1 (h3.2.1.trans q1) (h3.1.trans q2) (h3.2.2.2.1.trans q3)
   rw [ih] at q4
   have:=h3.2.2.1
   omega
 ·rw [if_neg (fun h=>c1 h.1)]
  unfold zAO
  rw [if_neg (fun h=>c1 h.2.1)]
theorem zFJ (l:List zA) (a k r:Int) (hr:0<r):spkS l a k<r↔∀ y∈l,wrdS a k y=true→y.Round<r:=by
 refine j6 (motive:=fun l=>spkS l a k<r↔∀ y∈l,wrdS a k y=true→y.Round<r) (by simp [spkS,hr]) (fun l x ih=>?_) l
 have e:spkS (l++[x]) a k=spkF a k (spkS l a k) x:=by simp [spkS,List.foldl_append]
 rw [e]
 unfold spkF
 simp only [List.forall_mem_append,List.forall_mem_singleton]
 split
 ·rename_i hw
  rw [← ih]
  constructor
  ·intro h; exact ⟨by omega,fun _=>by omega⟩
  ·rintro ⟨h1,h2⟩; have:=h2 hw; omega
 ·rename_i hw
  rw [← ih]
  exact ⟨fun h=>⟨h,fun h2=>absurd h2 hw⟩,fun h=>h.1⟩
theorem zLp (r:Int) (l:List zA) (y:zA):y∈fstS l r↔l.find? (fun z=>decide (z.Kind=2)&&decide (z.Round=r)&&decide (z.From=y.From))=some y:=by
 refine j6 (motive:=fun l=>y∈fstS l r↔l.find? (fun z=>decide (z.Kind=2)&&decide (z.Round=r)&&decide (z.From=y.From))=some y) (by simp [fstS]) (fun l x ih=>?_) l
 have hany:(fstS l r).any (fun z=>decide (z.From=x.From))=(l.find? (fun z=>decide (z.Kind=2)&&decide (z.Round=r)&&decide (z.From=x.From))).isSome:=by
  clear ih
  refine j6 (motive:=fun l=>(fstS l r).any (fun z=>decide (z.From=x.From))=(l.find? (fun z=>decide (z.Kind=2)&&decide (z.Round=r)&&decide (z.From=x.From))).isSome) (by simp [fstS]) (fun l w ih2=>?_) l
  rw [zBd,List.find?_append]
  unfold fstF
  cases hf:l.find? (fun z=>decide (z.Kind=2)&&decide (z.Round=r)&&decide (z.From=x.From)) with
  | some u =>
   rw [hf] at ih2
   simp only [Option.isSome_some,Option.or_some] at ih2 ⊢
   split
   ·rw [List.any_append,ih2]; simp
   ·exact ih2
  | none =>
   rw [hf] at ih2
   simp only [Option.isSome_none] at ih2
   by_cases c1:w.Kind=2
   ·by_cases c2:w.Round=r
    ·by_cases c3:w.From=x.From
     ·rw [if_pos ⟨c1,c2,by rw [c3]; exact ih2⟩,List.any_append,ih2]
      simp [c1,c2,c3]
     ·split
      ·rw [List.any_append,ih2]; simp [c1,c2,c3]
      ·rw [ih2]; simp [c1,c2,c3]
    ·rw [if_neg (fun h=>c2 h.2.1),ih2]; simp [c1,c2]
   ·rw [if_neg (fun h=>c1 h.1),ih2]; simp [c1]
 rw [zBd,List.find?_append]
 unfold fstF
 split
 ·rename_i hc
  rw [List.mem_append,List.mem_singleton,ih]
  rw [hany] at hc
  constructor
  ·rintro (h | rfl)
   ·rw [h]; rfl
   ·have:l.find? (fun z=>decide (z.Kind=2)&&decide (z.Round=r)&&decide (z.From=y.From))=none:=by
     cases hf:l.find? (fun z=>decide (z.Kind=2)&&decide (z.Round=r)&&decide (z.From=y.From)) with
     | none=>rfl
     | some u=>rw [hf] at hc; cases hc.2.2
    rw [this]
    simp [hc.1,hc.2.1]
  ·intro h
   cases hf:l.find? (fun z=>decide (z.Kind=2)&&decide (z.Round=r)&&decide (z.From=y.From)) with
   | some u=>rw [hf] at h; exact .inl h
   | none =>
    rw [hf] at h
    simp only [Option.none_or,List.find?_cons] at h
    split at h
    ·simp only [Option.some.injEq] at h; exact .inr h.symm
    ·simp at h
 ·rename_i hc
  rw [ih]
  cases hf:l.find? (fun z=>decide (z.Kind=2)&&decide (z.Round=r)&&decide (z.From=y.From)) with
  | some u=>simp
  | none =>
   simp only [Option.none_or,List.find?_cons]
   constructor
   ·intro h; cases h
   ·intro h
    exfalso
    split at h
    ·rename_i h2
     simp only [Option.some.injEq] at h
     subst h
     simp only [Bool.and_eq_true,decide_eq_true_eq] at h2
     exact hc ⟨h2.1.1,h2.1.2,by rw [hany,hf]; rfl⟩
    ·simp at h
theorem zMw (r:Int) (l:List zA):(fstS l r).Nodup:=by
 refine j6 (motive:=fun l=>(fstS l r).Nodup) (by simp [fstS]) (fun l x ih=>?_) l
 rw [zBd]
 unfold fstF
 split
 ·rename_i hc
  rw [List.nodup_append]
  refine ⟨ih,by simp,fun a ha b hb=>?_⟩
  rw [List.mem_singleton] at hb
  subst hb
  rintro rfl
  have:=List.any_eq_false.1 hc.2.2 a ha
  simp at this
 ·exact ih
theorem zLo {c:zG} {l:List zA} {k r:Int} (hf:∀ y∈l,0≤y.From∧y.From<c.Arbiters) (y:zA):y∈prmS c l k r↔l.find? (isP k r y.From)=some y:=by
 unfold prmS
 rw [List.mem_filterMap]
 constructor
 ·rintro ⟨a,h1,h2⟩
  have h3:=List.find?_some h2
  simp only [isP,Bool.and_eq_true,decide_eq_true_eq] at h3
  rw [h3.2]; exact h2
 ·intro h
  obtain ⟨q1,q2⟩:=hf y (List.mem_of_find?_eq_some h)
  exact ⟨y.From.toNat,by rw [List.mem_range]; omega,by rw [show ((y.From.toNat:Nat):Int)=y.From by omega]; exact h⟩
theorem zMX (c:zG) (l:List zA) (k r:Int):(prmS c l k r).Nodup:=by
 unfold prmS
 refine List.Pairwise.filterMap (R:=(· < ·)) (S:=(·≠·)) _ (fun a a' h b hb b' hb' => ?_) List.pairwise_lt_range
 have h1:=List.find?_some hb
 have h2:=List.find?_some hb'
 simp only [isP,Bool.and_eq_true,decide_eq_true_eq] at h1 h2
 rintro rfl
 have:=h1.2.symm.trans h2.2
 omega
theorem fst_prm {c:zG} {P:List zA} {k r:Int} (hf:∀ y∈P,0≤y.From∧y.From<c.Arbiters):(fstS (dd k P) r).Perm (prmS c P k r):=by
 rw [List.perm_ext_iff_of_nodup (zMw _ _) (zMX _ _ _ _)]
 intro y
 rw [zLp,zLo hf,find_dd]
 ·have e:(fun z:zA=>decide (z.Case=k)&&(decide (z.Kind=2)&&decide (z.Round=r)&&decide (z.From=y.From)))=isP k r y.From:=by
   funext z
   unfold isP isK
   cases decide (z.Case=k) <;> cases decide (z.Kind=2) <;> cases decide (z.Round=r) <;> rfl
  rw [e]
 ·intro y z h
  have h:=jA.1 h
  simp only [h.2.1,h.2.2.1,h.2.2.2.1]
theorem zIM {p:zA→Bool} {l l':List zA} (h:l.Perm l'):cntI p l=cntI p l':=by unfold cntI; rw [h.countP_eq]
theorem zLS {p q:zA→Bool} {l:List zA} (h:∀ y∈l,p y=q y):cntI p l=cntI q l:=by
 unfold cntI
 rw [List.countP_congr fun y hy=>by rw [h y hy]]
theorem zM9 {c:zG} {P:List zA} {k r n:Int} (hf:∀ y∈P,fmB c y=true ) (hb:∀ y∈P,(0≤y.From∧y.From<c.Arbiters)∧(y.Kind=2→0≤y.Voted)):zHP c (dd k P) r n=zDh c (prmS c P k r) n:=by
 have hp:=fst_prm (c:=c) (P:=P) (k:=k) (r:=r) fun y hy=>(hb y hy).1
 have hv:∀ y∈fstS (dd k P) r,0≤y.Voted:=fun y hy=>by
  have h1:=(zLp r (dd k P) y).1 hy
  have h2:=List.find?_some h1
  simp only [Bool.and_eq_true,decide_eq_true_eq] at h2
  exact (hb y (zLP (List.mem_of_find?_eq_some h1)).1).2 h2.1.1
 unfold zHP zDh
 rw [Bool.or_comm]
 have e1:cntI (fun y=>decide (y.Voted=0)) (fstS (dd k P) r)=cntI (fun x=>decide (x.Voted≤0)) (prmS c P k r):=by
  rw [← zIM hp]
  refine zLS fun y hy=>?_
  have:=hv y hy
  rw [Bool.eq_iff_iff,decide_eq_true_eq,decide_eq_true_eq]
  omega
 rw [e1]
 congr 1
 rw [Bool.eq_iff_iff,List.any_eq_true,List.any_eq_true]
 have e2:∀ x∈fstS (dd k P) r,zEo c (dd k P) r n x=(decide (0<x.Voted)&&decide (x.Finding=n)&&decide (majS c≤cntI (fun y=>decide (y.Voted≤x.Voted)) (prmS c P k r))):=fun x hx=>by
  unfold zEo lowS
  rw [zIM hp]
  have:=hv x hx
  have e3:(!decide (x.Voted=0))=decide (0<x.Voted):=by
   rw [Bool.eq_iff_iff]; simp; omega
  rw [e3,Bool.and_assoc]
 constructor
 ·rintro ⟨x,h1,h2⟩
  exact ⟨x,hp.mem_iff.1 h1,by rw [← e2 x h1]; exact h2⟩
 ·rintro ⟨x,h1,h2⟩
  have h3:=hp.mem_iff.2 h1
  exact ⟨x,h3,by rw [e2 x h3]; exact h2⟩
def yz (c:zG) (l:List zA):Prop := ∀ i (h:i<l.length),lawS c (l.take i) l[i]=true
theorem zIT (c:zG):yz c []:=fun i h=>by simp at h
theorem Qy {c:zG} {P:List zA} {x:zA}:yz c (P++[x])↔yz c P∧lawS c P x=true:=by
 constructor
 ·intro h
  refine ⟨fun i hi=>?_,?_⟩
  ·have:=h i (by simp; omega)
   rw [List.getElem_append_left hi,List.take_append_of_le_length (by omega)] at this
   exact this
  ·have:=h P.length (by simp)
   simpa using this
 ·rintro ⟨h1,h2⟩ i hi
  by_cases c:i<P.length
  ·rw [List.getElem_append_left c,List.take_append_of_le_length (by omega)]
   exact h1 i c
  ·have e:i=P.length:=by simp at hi; omega
   subst e
   simpa using h2
structure Fm (c:zG) (x:zA):Prop where
 from_:0≤x.From∧x.From<c.Arbiters
 round:1≤x.Round∧x.Round≤1048576
 case:1≤x.Case
 kind:x.Kind=1∨x.Kind=2∨x.Kind=3∨x.Kind=4
 voted:x.Kind=2→0≤x.Voted∧x.Voted<x.Round
theorem zEr {c:zG} {x:zA} (h:fmB c x=true):Fm c x:=by
 unfold fmB at h
 simp only [Bool.and_eq_true] at h
 obtain ⟨⟨⟨⟨⟨⟨⟨h0,h1⟩,h2⟩,h3⟩,h4⟩,h5⟩,h6⟩,h7⟩:=h
 have g1:=jr.1 h1
 have g2:=jr.1 h2
 have g3:=jr.1 h3
 refine ⟨⟨g3.1,by omega⟩,g2,g1.1,?_,fun k=>?_⟩
 ·unfold kdB at h7
  by_cases k1:x.Kind=1
  ·exact .inl k1
  ·by_cases k2:x.Kind=2
   ·exact .inr (.inl k2)
   ·by_cases k3:x.Kind=3
    ·exact .inr (.inr (.inl k3))
    ·rw [if_neg k1,if_neg k2,if_neg k3] at h7
     simp only [Bool.and_eq_true,decide_eq_true_eq] at h7
     exact .inr (.inr (.inr h7.1))
 ·unfold kdB at h7
  rw [if_neg (by omega),if_pos k] at h7
  simp only [Bool.and_eq_true] at h7
  have:=jr.1 h7.1.2
  omega
theorem zBR {c:zG} {P:List zA}:yz c P→∀ {y z:zA} {k r:Int},y∈P→z∈P→isK 3 k r y=true→isK 3 k r z=true→y.Finding=z.Finding:=by
 refine j6 (motive:=fun P=>yz c P→∀ {y z:zA} {k r:Int},y∈P→z∈P→isK 3 k r y=true→isK 3 k r z=true→y.Finding=z.Finding) (fun _ y z k r h=>by cases h) (fun P x ih=>?_) P
 intro hL y z k r hy hz ky kz
 obtain ⟨hL1,hL2⟩:=Qy.1 hL
 -- what stands for the new letter
 have key:∀ w,w∈P→isK 3 k r w=true→isK 3 k r x=true→w.Finding=x.Finding:=by
  intro w hw kw kx
  unfold lawS at hL2
  have hx:x.Kind=3∧x.Case=k∧x.Round=r:=by simpa [isK,and_assoc] using kx
  split at hL2
  ·rename_i ha
   obtain ⟨v,v1,v2⟩:=List.any_eq_true.1 ha
   rw [zAc] at v2
   have h3:=jA.1 (by simpa using v2:zK v=zK x)
   have kv:isK 3 k r v=true:=by simp [isK,h3.1,h3.2.1,h3.2.2.1,hx.1,hx.2.1,hx.2.2]
   exact (ih hL1 hw v1 kw kv).trans h3.2.2.2.2.2
  ·rw [if_neg (by omega),if_neg (by omega),if_pos hx.1] at hL2
   simp only [Bool.and_eq_true,Bool.not_eq_true'] at hL2
   have:=List.any_eq_false.1 hL2.1 w hw
   rw [hx.2.1,hx.2.2] at this
   exact absurd kw this
 rcases List.mem_append.1 hy with y1 | y1
 ·rcases List.mem_append.1 hz with z1 | z1
  ·exact ih hL1 y1 z1 ky kz
  ·rw [List.mem_singleton.1 z1] at kz ⊢; exact key y y1 ky kz
 ·rcases List.mem_append.1 hz with z1 | z1
  ·rw [List.mem_singleton.1 y1] at ky ⊢; exact (key z z1 kz ky).symm
  ·rw [List.mem_singleton.1 y1,List.mem_singleton.1 z1]
theorem zNw {c:zG} {P:List zA} {x:zA} (hP:∀ y∈P,fmB c y=true) (hx:fmB c x=true) (hL:yz c P) (ha:P.any (fun y=>jU y x)=false):lawP c (dd x.Case P) x=lawS c P x:=by
 have hF:=zEr hx
 have hw:∀ q:zA→Bool,Resp q→(dd x.Case P).any q=P.any (fun y=>decide (y.Case=x.Case)&&q y):=fun q hq=>zLX hq P
 have ac:∀ (q q':zA→Bool),(∀ y,q y=q' y)→P.any q=P.any q':=fun q q' h=>by rw [show q=q' from funext h]
 unfold lawS
 rw [if_neg (by rw [ha]; simp)]
 unfold lawP
 rcases hF.kind with k | k | k | k
 ·rw [if_neg (by omega),if_neg (by omega),if_neg (by omega),if_pos k]
 ·rw [if_pos k,if_neg (by omega),if_pos k,las_dd,hw _ (fun y z h=>by have h:=jA.1 h; unfold jO; rw [h.2.1,h.2.2.1]),hw _ (fun y z h=>by have h:=jA.1 h; unfold jN jB; rw [h.2.1,h.2.2.1,h.2.2.2.1])]
  have e1:P.any (fun y=>decide (y.Case=x.Case)&&jO y x)=P.any (isK 1 x.Case x.Round):=ac _ _ fun y=>by
   unfold jO isK
   cases decide (y.Case=x.Case) <;> cases decide (y.Kind=1) <;> rfl
  have e2:(!P.any (fun y=>decide (y.Case=x.Case)&&jN y x))=decide (spkS P x.From x.Case<x.Round):=by
   rw [Bool.eq_iff_iff,decide_eq_true_eq,zFJ _ _ _ _ (by have:=hF.round; omega),Bool.not_eq_true',List.any_eq_false]
   unfold jN jB wrdS
   constructor
   ·intro h y hy hyw
    have:=h y hy
    simp only [Bool.and_eq_true,Bool.or_eq_true,decide_eq_true_eq] at this hyw
    rcases Int.lt_or_le y.Round x.Round with q | q
    ·exact q
    ·exact absurd ⟨hyw.1.1,⟨hyw.2,hyw.1.2⟩,q⟩ this
   ·intro h y hy hyw
    simp only [Bool.and_eq_true,Bool.or_eq_true,decide_eq_true_eq] at hyw
    have:=h y hy (by simp only [Bool.and_eq_true,Bool.or_eq_true,decide_eq_true_eq]; exact ⟨⟨hyw.1,hyw.2.1.2⟩,hyw.2.1.1⟩)
    omega
  rw [e1,e2]
  cases P.any (isK 1 x.Case x.Round) <;> cases decide (spkS P x.From x.Case<x.Round) <;> simp
 ·rw [if_neg (by omega),if_pos k,if_neg (by omega),if_neg (by omega),if_pos k,hw _ (fun y z h=>by have h:=jA.1 h; unfold jM; rw [h.2.1,h.2.2.1]),zM9 hP (fun y hy=>⟨(zEr (hP y hy)).from_,fun k=>((zEr (hP y hy)).voted k).1⟩)]
  have e1:P.any (fun y=>decide (y.Case=x.Case)&&jM y x)=P.any (isK 3 x.Case x.Round):=ac _ _ fun y=>by
   unfold jM isK
   cases decide (y.Case=x.Case) <;> cases decide (y.Kind=3) <;> rfl
  rw [e1,Bool.and_comm]
 ·rw [if_neg (by omega),if_neg (by omega),if_pos k,if_neg (by omega),if_neg (by omega),if_neg (by omega),hw _ (fun y z h=>by have h:=jA.1 h; unfold Z9; rw [h.2.1,h.2.2.1,h.2.2.2.2.2]),hw _ (fun y z h=>by have h:=jA.1 h; unfold Z8 jB; rw [h.2.1,h.2.2.1,h.2.2.2.1])]
  have e1:P.any (fun y=>decide (y.Case=x.Case)&&Z9 y x)=(match prpS P x.Case x.Round with | some y=>decide (y.Finding=x.Finding) | none=>false):=by
   unfold prpS
   cases hf:P.find? (isK 3 x.Case x.Round) with
   | none =>
    refine List.any_eq_false.2 fun y hy h=>?_
    have:=List.find?_eq_none.1 hf y hy
    unfold Z9 at h
    simp only [Bool.and_eq_true,decide_eq_true_eq] at h
    exact this (by simp [isK,h.1,h.2.1.1,h.2.1.2])
   | some w =>
    have h1:=List.find?_some hf
    have h2:=List.mem_of_find?_eq_some hf
    rw [Bool.eq_iff_iff,List.any_eq_true,decide_eq_true_eq]
    constructor
    ·rintro ⟨y,hy,h⟩
     unfold Z9 at h
     simp only [Bool.and_eq_true,decide_eq_true_eq] at h
     rw [← h.2.2]
     exact zBR hL h2 hy h1 (by simp [isK,h.1,h.2.1.1,h.2.1.2])
    ·intro h
     have h1':w.Kind=3∧w.Case=x.Case∧w.Round=x.Round:=by simpa [isK,and_assoc] using h1
     exact ⟨w,h2,by simp [Z9,h1'.1,h1'.2.1,h1'.2.2,h]⟩
  have e2:(!P.any (fun y=>decide (y.Case=x.Case)&&Z8 y x))=(decide (spkS P x.From x.Case≤x.Round)&&decide ((JE P x.From x.Case).1<x.Round)):=by
   have hle:spkS P x.From x.Case≤x.Round↔∀ y∈P,wrdS x.From x.Case y=true→y.Round<x.Round+1:=by
    rw [← zFJ _ _ _ _ (by have:=hF.round; omega)]; omega
   rw [Bool.eq_iff_iff,Bool.and_eq_true,decide_eq_true_eq,decide_eq_true_eq,hle,Bool.not_eq_true',List.any_eq_false]
   constructor
   ·intro h
    refine ⟨fun y hy hyw=>?_,?_⟩
    ·have:=h y hy
     unfold Z8 jB at this
     unfold wrdS at hyw
     simp only [Bool.and_eq_true,Bool.or_eq_true,decide_eq_true_eq] at this hyw
     rcases Int.lt_or_le x.Round y.Round with q | q
     ·exact absurd ⟨hyw.1.1,⟨hyw.2,hyw.1.2⟩,.inl q⟩ this
     ·omega
    ·rcases zGr P x.From x.Case with e | ⟨y,hy,q1,q2,q3,q4,q5,q6⟩
     ·rw [e]; have:=hF.round; simp only; omega
     ·rw [← q4]
      have:=h y hy
      unfold Z8 jB at this
      simp only [Bool.and_eq_true,Bool.or_eq_true,decide_eq_true_eq] at this
      rcases Int.lt_trichotomy y.Round x.Round with q | q | q
      ·exact q
      ·exact absurd ⟨q2,⟨.inr q1,q3⟩,.inr ⟨q1,q⟩⟩ this
      ·exact absurd ⟨q2,⟨.inr q1,q3⟩,.inl q⟩ this
   ·rintro ⟨h1,h2⟩ y hy h
    unfold Z8 jB at h
    simp only [Bool.and_eq_true,Bool.or_eq_true,decide_eq_true_eq] at h
    obtain ⟨q1,⟨q2,q3⟩,q4⟩:=h
    have:=h1 y hy (by unfold wrdS; simp only [Bool.and_eq_true,Bool.or_eq_true,decide_eq_true_eq]; exact ⟨⟨q1,q3⟩,q2⟩)
    rcases q4 with q4 | ⟨q4,q5⟩
    ·omega
    ·have:=(zEh (l:=P) (a:=x.From) (k:=x.Case)).2 y hy q4 q1 q3
     omega
  rw [e1,e2,Bool.and_assoc]
  rfl
def zHT (c:zG) (l:List zA) (r:Int×Bool×Int):Prop:=(r=(-1,true,0)∧yz c l)∨∃ i,∃ h:i<l.length,r=((i:Int),false,0)∧yz c (l.take i)∧lawS c (l.take i) l[i]=false
theorem zKd {c:zG} {l:List zA} {r r':Int×Bool×Int} (h:zHT c l r) (h':zHT c l r'):r=r':=by
 have key:∀ {i j:Nat} (hi:i<l.length) (hj:j<l.length),i<j→yz c (l.take j)→lawS c (l.take i) l[i]=false→False:=fun {i j} hi hj hij hL hb=>by
  have:=hL i (by rw [List.length_take]; omega)
  rw [List.getElem_take,List.take_take,Nat.min_eq_left (by omega)] at this
  rw [this] at hb; cases hb
 rcases h with ⟨rfl,h⟩ | ⟨i,hi,rfl,h1,h2⟩
 ·rcases h' with ⟨rfl,h'⟩ | ⟨i,hi,rfl,h1,h2⟩
  ·rfl
  ·have:=h i hi; rw [this] at h2; cases h2
 ·rcases h' with ⟨rfl,h'⟩ | ⟨j,hj,rfl,h3,h4⟩
  ·have:=h' i hi; rw [this] at h2; cases h2
  ·have:i=j:=by
    rcases Nat.lt_trichotomy i j with q | q | q
    ·exact (key hi hj q h3 h2).elim
    ·exact q
    ·exact (key hj hi q h1 h4).elim
   subst this; rfl
theorem zEA {c:zG} {l:List zA} {i:Nat} (hi:i<l.length) (h:yz c (l.take i)) (h2:lawS c (l.take i) l[i]=true):yz c (l.take (i+1)):=by
 rw [List.take_succ_eq_append_getElem hi]
 exact Qy.2 ⟨h,h2⟩
theorem zIl {c:zG} (hc:okC c=true) {l:List zA} (hl:l.length≤4000):∃ r,Lp (Y7 c l) fuel 0=some r∧zHT c l r:=by
 refine lp_inv' (fun (i:Nat) (s:Int)=>s=(i:Int)∧yz c (l.take i)) _ l.length (by omega) ⟨rfl,by simpa using zIT c⟩ fun i s hi hI=>?_
 obtain ⟨rfl,hI⟩:=hI
 by_cases hlt:i<l.length
 ·have htl:(l.take i).length≤4000:=by rw [List.length_take]; omega
  unfold Y7
  simp only [dlt hlt,if_true,zDo (by omega:i≤l.length),Z5 hlt,Option.bind_some,zKq c hc _ htl,w64i hlt hl]
  cases hs:lawS c (l.take i) l[i] with
  | true=>exact .inl ⟨hlt,_,by simp,rfl,zEA hlt hI hs⟩
  | false=>exact .inr ⟨_,by simp,.inr ⟨i,hlt,rfl,hI,hs⟩⟩
 ·have e:i=l.length:=by omega
  subst e
  rw [List.take_length] at hI
  refine .inr ⟨(-1,true,0),?_,.inl ⟨rfl,hI⟩⟩
  unfold Y7
  simp [dge,zCE]
theorem zKc {c:zG} {l:List zA} (hl:l.length≤4000) (hf:∀ y∈l,fmB c y=true):∃ r,Lp (yL c l) fuel (0,[],[])=some r∧zHT c l r:=by
 refine lp_inv' (fun (i:Nat) (s:Int×List (zA×Bool)×List (Int×List zA)) => ∃ kn of_,s=((i:Int),kn,of_)∧(∀ x,(zY x kn).getD false=(l.take i).any (fun y=>decide (zK y=x)))∧(∀ k,(zY k of_).getD []=dd k (l.take i))∧yz c (l.take i)) _ l.length (by omega) ⟨[],[],rfl,fun x=>by simp [zY],fun k=>by simp [zY,dd],by simpa using zIT c⟩ fun i s hi hI=>?_
 obtain ⟨kn,of_,rfl,h1,h2,h3⟩:=hI
 by_cases hlt:i<l.length
 ·have htl:(l.take i).length=i:=by rw [List.length_take]; omega
  have hP:∀ y∈l.take i,fmB c y=true:=fun y hy=>hf y (List.mem_of_mem_take hy)
  have hx:=hf l[i] (List.getElem_mem hlt)
  have hdl:=dd_len l[i].Case (l.take i)
  unfold yL
  simp only [dlt hlt,if_true,Z5 hlt,Option.bind_some,h1 (zK l[i]),h2 l[i].Case,Jc,w64i hlt hl]
  have ea:(l.take i).any (fun y=>jU y l[i])=(l.take i).any (fun y=>decide (zK y=zK l[i])):=by
   congr 1; funext y; exact zAc y l[i]
  cases hk:(l.take i).any (fun y=>decide (zK y=zK l[i])) with
  | true =>
   have hs:lawS c (l.take i) l[i]=true:=by unfold lawS; rw [if_pos (by rw [ea]; exact hk)]
   refine .inl ⟨hlt,(((i+1:Nat):Int),kn,of_),by simp,kn,of_,rfl,fun x=>?_,fun k=>?_,zEA hlt h3 hs⟩
   ·rw [h1 x,List.take_succ_eq_append_getElem hlt,List.any_append]
    by_cases e:zK l[i]=x
    ·subst e; rw [hk]; simp
    ·simp [e]
   ·rw [h2 k,List.take_succ_eq_append_getElem hlt,zAr]
    unfold ddF
    rw [if_neg]
    rintro ⟨e,e2⟩
    subst e
    rw [zLX (fun y z h=>by rw [h])] at e2
    obtain ⟨y,q1,q2⟩:=List.any_eq_true.1 hk
    have:=List.any_eq_false.1 e2 y q1
    rw [q2,(jA.1 (by simpa using q2:zK y=zK l[i])).1] at this
    simp at this
  | false =>
   have ls:=zNw hP hx h3 (by rw [ea]; exact hk)
   rw [zMo c _ (by omega),ls,Option.bind_some]
   cases hs:lawS c (l.take i) l[i] with
   | false=>exact .inr ⟨_,by simp [JC],.inr ⟨i,hlt,rfl,h3,hs⟩⟩
   | true =>
    have hap:app (dd l[i].Case (l.take i)) [l[i]]=some (dd l[i].Case (l.take i)++[l[i]]):=jX (by simp; omega)
    have hdd:dd l[i].Case (l.take (i+1))=dd l[i].Case (l.take i)++[l[i]]:=by
     rw [List.take_succ_eq_append_getElem hlt,zAr]
     unfold ddF
     rw [if_pos]
     refine ⟨rfl,?_⟩
     rw [zLX (fun y z h=>by rw [h])]
     refine List.any_eq_false.2 fun y hy h=>?_
     have:=List.any_eq_false.1 hk y hy
     simp only [Bool.and_eq_true] at h
     exact this h.2
    refine .inl ⟨hlt,(((i+1:Nat):Int),putM posE kn (zK l[i]) true,putM posI of_ l[i].Case (dd l[i].Case (l.take i)++[l[i]])),by simp [hap],_,_,rfl,fun x=>?_,fun k=>?_,zEA hlt h3 hs⟩
    ·rw [zDA,List.take_succ_eq_append_getElem hlt,List.any_append]
     by_cases e:x=zK l[i]
     ·subst e; simp
     ·have : ¬ zK l[i]=x:=fun q=>e q.symm
      rw [if_neg e,h1 x]; simp [this]
    ·rw [zDA]
     by_cases e:k=l[i].Case
     ·subst e; rw [if_pos rfl,hdd]; rfl
     ·rw [if_neg e,h2 k,List.take_succ_eq_append_getElem hlt,zAr]
      unfold ddF
      rw [if_neg (fun h=>e h.1.symm)]
 ·have e:i=l.length:=by omega
  subst e
  rw [List.take_length] at h3
  refine .inr ⟨(-1,true,0),?_,.inl ⟨rfl,h3⟩⟩
  unfold yL
  simp [dge,JC]
theorem zKb (c:zG) (l:List zA) (hl:l.length≤4000):∃ r,Yd c l=some r∧zEQ c l=some r∧((QK c l≠0∧r=(0,false,QK c l))∨(QK c l=0∧zHT c l r)):=by
 unfold Yd zEQ
 rw [zIj c l hl,zH9 c l hl]
 simp only [Option.bind_some]
 by_cases e:QK c l=0
 ·obtain ⟨h1,h2,h3⟩:=zGU e
  obtain ⟨r,q1,q2⟩:=zKc hl h3
  obtain ⟨r',q3,q4⟩:=zIl h1 hl
  have:=zKd q2 q4
  subst this
  simp only [e,decide_true,Bool.not_true,Bool.false_eq_true,if_false]
  exact ⟨r,q1,q3,.inr ⟨trivial,q2⟩⟩
 ·simp only [e,decide_false,Bool.not_false,if_true]
  exact ⟨_,rfl,rfl,.inl ⟨e,rfl⟩⟩
end Go.Mx
