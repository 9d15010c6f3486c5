/- Part of the proof of ArbiterWorldsAreLawful: plain laws about the functions of M, no program in sight. Conditions: none. -/
import Derived.Test.YtfoafeaplgmhmaaGreatLawZb
set_option linter.unusedVariables false
set_option linter.unusedSimpArgs false
namespace Go.Mx
theorem zAp {α β:Type} [Inhabited α] {b:Bool} {v:α} {k:α→Option β} (h:b=false→k default=k v):gb b (some v) k=k v:=by
 cases b with
 | true=>rfl
 | false=>exact h rfl
theorem j6 {α:Type} {motive:List α→Prop} (nil:motive []) (snoc:∀ l x,motive l→motive (l++[x])) (l:List α):motive l:=by
 have key:∀ (l:List α),motive l.reverse:=by
  intro l
  induction l with
  | nil=>exact nil
  | cons a r ih=>rw [List.reverse_cons]; exact snoc _ _ ih
 have:=key l.reverse
 rwa [List.reverse_reverse] at this
def zAO (a k:Int) (p:Int×Int) (x:zA):Int×Int:=if x.Kind=4∧x.Case=k∧x.From=a∧p.1<x.Round then (x.Round,x.Finding) else p
def JE (l:List zA) (a k:Int):Int×Int:=l.foldl (zAO a k) (0,0)
theorem zGQ (l:List zA) (hl:l.length≤4000) (a k:Int):zDw l a k=some (JE l a k):=by
 unfold zDw
 refine (zBH l hl (fun p i=>(p.1,p.2,i)) (zAO a k) (fun p=>p) (fun _ _=>True) (a:=(0,0)) rfl trivial (fun p i hi _=>⟨?_,trivial⟩) (fun p _=>?_))
 ·unfold zA6
  simp only [dlt hi,if_true,Z5 hi,Option.bind_some,zA5,w64i hi hl,zAO]
  by_cases c1:l[i].Kind=4
  ·by_cases c2:l[i].Case=k
   ·by_cases c3:l[i].From=a
    ·by_cases c4:p.1<l[i].Round
     ·simp [c1,c2,c3,c4,gb]
     ·simp [c1,c2,c3,c4,gb]
    ·simp [c1,c2,c3,gb]
   ·simp [c1,c2,gb]
  ·simp [c1,gb]
 ·unfold zA6
  simp [dge,zDX]
def wrdS (a k:Int) (x:zA):Bool:=decide (x.Case=k)&&decide (x.From=a)&&(decide (x.Kind=2)||decide (x.Kind=4))
def spkF (a k:Int) (n:Int) (x:zA):Int:=if wrdS a k x=true then max n x.Round else n
def spkS (l:List zA) (a k:Int):Int:=l.foldl (spkF a k) 0
theorem zGN (l:List zA) (hl:l.length≤4000) (a k:Int):qY l a k=some (spkS l a k):=by
 unfold qY
 refine (zBH l hl (fun p i=>(p,i)) (spkF a k) (fun p=>p) (fun _ _=>True) (a:=(0:Int)) rfl trivial (fun p i hi _=>⟨?_,trivial⟩) (fun p _=>?_))
 ·unfold qI
  simp only [dlt hi,if_true,Z5 hi,Option.bind_some,qH,w64i hi hl,spkF]
  show (if wrdS a k l[i]=true then _ else _)=_
  split <;> rfl
 ·unfold qI
  simp [dge,zCB]
def isK (kd k r:Int) (x:zA):Bool:=decide (x.Kind=kd)&&decide (x.Case=k)&&decide (x.Round=r)
theorem zHl (l:List zA) (hl:l.length≤4000) (kd k r:Int):zAg l kd k r=some (l.any (isK kd k r)):=by
 unfold zAg
 refine zHN _ l hl (fun i hi=>?_) ?_
 ·unfold zAC
  simp only [dlt hi,if_true,Z5 hi,Option.bind_some,w64i hi hl,isK]
  by_cases c1:l[i].Kind=kd
  ·by_cases c2:l[i].Case=k
   ·by_cases c3:l[i].Round=r <;> simp [c1,c2,c3,gb]
   ·simp [c1,c2,gb]
  ·simp [c1,gb]
 ·unfold zAC
  simp [dge,zCW]
def prpS (l:List zA) (k r:Int):Option zA:=l.find? (isK 3 k r)
theorem zCu {α:Type} (p:α→Bool):∀ l:List α,l.find? p=(l.findIdx? p).bind fun i=>l[i]?
 | []=>rfl
 | a :: r=>by
  rw [List.find?_cons,List.findIdx?_cons]
  cases h:p a with
  | true=>rfl
  | false =>
   simp only [Bool.false_eq_true,if_false]
   rw [zCu p r]
   cases r.findIdx? p <;> rfl
theorem zIf (l:List zA) (hl:l.length≤4000) (k r:Int):zAD l k r=some (match prpS l k r with | some x=>(x.Finding,true) | none=>(0,false)):=by
 unfold zAD
 have h:=qj (isK 3 k r) l hl (body:=YO l k r) (fun i=>((l.getD i default).Finding,true)) (0,false) (fun i hi=>by
  unfold YO
  simp only [dlt hi,if_true,Z5 hi,Option.bind_some,w64i hi hl,isK,List.getD_eq_getElem?_getD,List.getElem?_eq_getElem hi,Option.getD_some]
  by_cases c1:l[i].Kind=3
  ·by_cases c2:l[i].Case=k
   ·by_cases c3:l[i].Round=r <;> simp [c1,c2,c3,gb]
   ·simp [c1,c2,gb]
  ·simp [c1,gb]) (by
  unfold YO
  simp [dge,zAh])
 rw [h]
 unfold prpS
 rw [zCu]
 cases hf:l.findIdx? (isK 3 k r) with
 | none=>rfl
 | some i =>
  obtain ⟨hi,_⟩:=List.findIdx?_eq_some_iff_getElem.1 hf
  simp [List.getElem?_eq_getElem hi]
def isP (k r a:Int) (x:zA):Bool:=isK 2 k r x&&decide (x.From=a)
def prmS (c:zG) (l:List zA) (k r:Int):List zA:=(List.range c.Arbiters.toNat).filterMap fun a:Nat=>l.find? (isP k r (a:Int))
theorem zNL (l:List zA) (hl:l.length≤4000) (k r a:Int) (o:List zA) (ho:o.length≤100):Lp (JX l k r a) fuel (false,0,o)=some (.inl (w64 (a+1),o++(l.find? (isP k r a)).toList)):=by
 have hj:∀ o,zAi a o=some (.inl (w64 (a+1),o)):=fun _=>rfl
 suffices h:∃ s,Lp (JX l k r a) fuel (false,0,o)=some s∧s = .inl (w64 (a+1),o++(l.find? (isP k r a)).toList) by obtain ⟨s,h,rfl⟩:=h; exact h
 refine lp_inv' (fun (i:Nat) (s:Bool×Int×List zA) => ∃ f m,s=(f,((m:Nat):Int),o++(if f=true then (l.find? (isP k r a)).toList else []))∧m=i∧(f=false→∀ j (h:j<l.length),j<i→isP k r a l[j]=false)∧(f=true→(l.find? (isP k r a)).isSome=true)) _ (l.length+1) (by omega) ⟨false,0,by simp,rfl,fun _ j h hj=>by omega,fun h=>by cases h⟩ fun i s hi hI=>?_
 obtain ⟨f,m,rfl,rfl,h1,h2⟩:=hI
 cases f with
 | true =>
  refine .inr ⟨_,?_,rfl⟩
  unfold JX
  simp [hj]
 | false =>
  by_cases hlt:m<l.length
  ·unfold JX
   simp only [dlt hlt,Bool.not_false,Bool.and_self,if_true,Z5 hlt,Option.bind_some,QR,w64i hlt hl,Bool.false_eq_true,if_false,List.append_nil]
   by_cases c:isP k r a l[m]=true
   ·have c':=c
    simp only [isP,isK,Bool.and_eq_true,decide_eq_true_eq] at c'
    obtain ⟨⟨⟨c1,c2⟩,c3⟩,c4⟩:=c'
    have hfi:l.find? (isP k r a)=some l[m]:=by
     rw [zCu,List.findIdx?_eq_some_iff_getElem.2 ⟨hlt,c,fun j hj=>by rw [h1 rfl j (by omega) hj]; simp⟩]
     simp [List.getElem?_eq_getElem hlt]
    refine .inl ⟨by omega,(true,((m+1:Nat):Int),o++[l[m]]),?_,true,m+1,?_,rfl,fun h=>(by cases h),fun _=>by rw [hfi]; rfl⟩
    ·simp only [c1,c2,c3,c4,decide_true,Bool.and_self,gb,if_true,Option.bind_some]
     rw [jX (by simp; omega)]; rfl
    ·rw [hfi]; rfl
   ·refine .inl ⟨by omega,(false,((m+1:Nat):Int),o),?_,false,m+1,by simp,rfl,fun _ j h hj=>?_,fun h=>by cases h⟩
    ·have c' : ¬ (l[m].Kind=2∧l[m].Case=k∧l[m].Round=r∧l[m].From=a):=fun e=>c (by simp [isP,isK,e.1,e.2.1,e.2.2.1,e.2.2.2])
     by_cases c1:l[m].Kind=2
     ·by_cases c2:l[m].Case=k
      ·by_cases c3:l[m].Round=r
       ·have c4 : ¬ l[m].From=a:=fun e=>c' ⟨c1,c2,c3,e⟩
        simp [c1,c2,c3,c4,gb]
       ·simp [c1,c2,c3,gb]
      ·simp [c1,c2,gb]
     ·simp [c1,gb]
    ·by_cases e:j=m
     ·subst e; simpa using c
     ·exact h1 rfl j h (by omega)
  ·have hfi:l.find? (isP k r a)=none:=by
    rw [zCu,List.findIdx?_eq_none_iff.2 fun x hx=>by obtain ⟨j,hj,rfl⟩:=List.getElem_of_mem hx; exact h1 rfl j hj (by omega)]
    rfl
   refine .inr ⟨.inl (w64 (a+1),o),?_,by rw [hfi]; simp⟩
   unfold JX
   have : ¬ (m:Int)<(l.length:Int):=by omega
   simp [this,hj]
theorem zIg (c:zG) (hc:okC c=true) (l:List zA) (hl:l.length≤4000) (k r:Int):zAE c l k r=some (prmS c l k r):=by
 obtain ⟨g1,g2⟩:=jl hc
 unfold zAE prmS
 suffices h:∃ s,Lp (YP c l k r) fuel (0,[])=some s∧s=(List.range c.Arbiters.toNat).filterMap fun a:Nat=>l.find? (isP k r (a:Int)) by obtain ⟨s,h,rfl⟩:=h; exact h
 refine lp_inv' (fun (i:Nat) (s:Int×List zA)=>s=((i:Int),(List.range i).filterMap fun a:Nat=>l.find? (isP k r (a:Int)))∧i≤c.Arbiters.toNat) _ c.Arbiters.toNat (by omega) ⟨rfl,Nat.zero_le _⟩ fun i s hi hI=>?_
 obtain ⟨rfl,hI⟩:=hI
 by_cases hlt:i<c.Arbiters.toNat
 ·refine .inl ⟨hlt,_,?_,rfl,by omega⟩
  have:((i:Int)<c.Arbiters):=by omega
  unfold YP
  simp only [this,decide_true,if_true]
  rw [zNL l hl k r (i:Int) _ (Nat.le_trans (List.length_filterMap_le _ _) (by simp; omega))]
  rw [w64s i (by omega),List.range_succ,List.filterMap_append]
  congr 4
 ·have:i=c.Arbiters.toNat:=by omega
  subst this
  refine .inr ⟨_,?_,rfl⟩
  have : ¬ ((c.Arbiters.toNat:Nat):Int)<c.Arbiters:=by omega
  unfold YP
  simp only [this,decide_false,Bool.false_eq_true,if_false]
  rfl
def cntI (p:zA→Bool) (l:List zA):Int:=(l.countP p:Int)
theorem zF7 (p:zA→Bool) (l:List zA):0≤cntI p l∧cntI p l≤l.length:=by
 have:=List.countP_le_length (p:=p) (l:=l)
 unfold cntI; omega
theorem zBh (p:zA→Bool) (l:List zA) (x:zA):cntI p (l++[x])=cntI p l+if p x=true then 1 else 0:=by
 unfold cntI
 rw [List.countP_append]
 simp only [List.countP_cons,List.countP_nil]
 split <;> simp
theorem zM4 {p:zA→Bool} {l:List zA} {i:Nat} (h:i<l.length):cntI p (l.take (i+1))=cntI p (l.take i)+if p l[i]=true then 1 else 0:=by
 rw [List.take_succ_eq_append_getElem h,zBh]
theorem zOe {σ ρ:Type} {body:σ→Option (σ ⊕ ρ)} (p:zA→Bool) (l:List zA) (hl:l.length≤4000) (st:Int→Int→σ) (fin:Int→ρ)
  (step:∀ n (i:Nat) (hi:i<l.length),0≤n→n≤4000→body (st n (i:Int))=some (.inl (st (n+if p l[i]=true then 1 else 0) ((i+1:Nat):Int)))) (last:∀ n,body (st n (l.length:Int))=some (.inr (fin n))):Lp body fuel (st 0 0)=some (fin (cntI p l)):=by
 suffices h:∃ r,Lp body fuel (st 0 0)=some r∧r=fin (cntI p l) by obtain ⟨r,h,rfl⟩:=h; exact h
 refine lp_inv' (fun (i:Nat) (s:σ)=>s=st (cntI p (l.take i)) (i:Int)) _ l.length (by omega) (by simp [cntI]) fun i s hi hI=>?_
 subst hI
 by_cases hlt:i<l.length
 ·have h1:=zF7 p (l.take i)
  refine .inl ⟨hlt,_,step _ i hlt h1.1 (by have:=List.length_take_le i l; omega),by rw [zM4 hlt]⟩
 ·have e:i=l.length:=by omega
  subst e
  rw [List.take_length]
  exact .inr ⟨_,last _,rfl⟩
theorem zGL (l:List zA) (hl:l.length≤4000) (v:Int):zBp l v=some (cntI (fun x=>decide (x.Voted≤v)) l):=by
 unfold zBp
 refine zOe _ l hl (fun n i=>(n,i)) (fun n=>n) (fun n i hi q1 q2=>?_) (fun n=>?_)
 ·unfold zAy
  simp only [dlt hi,if_true,Z5 hi,Option.bind_some,zAx,w64i hi hl]
  split
  ·rw [yf (n:=n+1) (by omega) (by omega)]
  ·simp
 ·unfold zAy
  simp [dge,zDU]
def zDh (c:zG) (p:List zA) (f:Int):Bool:=decide (majS c≤cntI (fun x=>decide (x.Voted≤0)) p)||p.any fun x=>decide (0<x.Voted)&&decide (x.Finding=f)&&decide (majS c≤cntI (fun y=>decide (y.Voted≤x.Voted)) p)
theorem zCR (c:zG) (p:List zA) (hl:p.length≤4000) (f:Int):Qw c p f=some (zDh c p f):=by
 unfold Qw zDh
 rw [zIk,Option.bind_some,zGL p hl,Option.bind_some]
 by_cases h:majS c≤cntI (fun x=>decide (x.Voted≤0)) p
 ·simp [h]
 ·simp only [h,decide_false,Bool.false_eq_true,if_false,Bool.false_or]
  refine zHN _ p hl (fun i hi=>?_) ?_
  ·unfold Yt
   simp only [dlt hi,if_true,Z5 hi,Option.bind_some,w64i hi hl,zGL p hl]
   by_cases c1:0<p[i].Voted
   ·by_cases c2:p[i].Finding=f
    ·simp only [c1,c2,gb,zGL p hl,decide_true,Bool.and_self,if_true,Option.bind_some,Bool.true_and]
     split <;> rfl
    ·simp [c1,c2,gb]
   ·simp [c1,gb]
  ·unfold Yt
   simp [dge,qR]
def lawS (c:zG) (l:List zA) (x:zA):Bool :=
 if l.any (fun y=>jU y x)=true then true
 else if x.Kind=1 then true
 else if x.Kind=2 then l.any (isK 1 x.Case x.Round)&&decide (spkS l x.From x.Case<x.Round)&&decide (x.Voted=(JE l x.From x.Case).1)&&decide (x.Finding=(JE l x.From x.Case).2)
 else if x.Kind=3 then !l.any (isK 3 x.Case x.Round)&&zDh c (prmS c l x.Case x.Round) x.Finding
 else (match prpS l x.Case x.Round with | some y=>decide (y.Finding=x.Finding) | none=>false)&&decide (spkS l x.From x.Case≤x.Round)&&decide ((JE l x.From x.Case).1<x.Round)
theorem zGX (c:zG) (hc:okC c=true) (l:List zA) (k r:Int):(prmS c l k r).length≤7:=by
 obtain ⟨g1,g2⟩:=jl hc
 unfold prmS
 exact Nat.le_trans (List.length_filterMap_le _ _) (by simp; omega)
theorem zKq (c:zG) (hc:okC c=true) (l:List zA) (hl:l.length≤4000) (x:zA):zBr c l x=some (lawS c l x):=by
 unfold zBr
 have hj:qJ c l x=some (if x.Kind=1 then true
   else if x.Kind=2 then l.any (isK 1 x.Case x.Round)&&decide (spkS l x.From x.Case<x.Round)&&decide (x.Voted=(JE l x.From x.Case).1)&&decide (x.Finding=(JE l x.From x.Case).2)
   else if x.Kind=3 then !l.any (isK 3 x.Case x.Round)&&zDh c (prmS c l x.Case x.Round) x.Finding
   else (match prpS l x.Case x.Round with | some y=>decide (y.Finding=x.Finding) | none=>false)&&decide (spkS l x.From x.Case≤x.Round)&&decide ((JE l x.From x.Case).1<x.Round)):=by
  unfold qJ
  by_cases k1:x.Kind=1
  ·simp [k1]
  ·by_cases k2:x.Kind=2
   ·simp only [k1,k2,decide_false,decide_true,Bool.false_eq_true,if_false,if_true,zGQ l hl,Option.bind_some,zHl l hl,zGN l hl]
    rw [zAp]
    ·rfl
    ·intro h; rw [h]; rfl
   ·by_cases k3:x.Kind=3
    ·simp only [k1,k2,k3,decide_false,decide_true,Bool.false_eq_true,if_false,if_true,zGQ l hl,Option.bind_some,zHl l hl,zIg c hc l hl,zCR c _ (Nat.le_trans (zGX c hc l _ _) (by omega))]
     cases l.any (isK 3 x.Case x.Round) with
     | true=>simp [gb]
     | false=>simp [gb,zCR c _ (Nat.le_trans (zGX c hc l _ _) (by omega))]
    ·simp only [k1,k2,k3,decide_false,decide_true,Bool.false_eq_true,if_false,if_true,zGQ l hl,Option.bind_some,zIf l hl,zGN l hl]
     cases prpS l x.Case x.Round with
     | none=>simp [gb]
     | some y =>
      simp only [Bool.true_and]
      rw [zAp]
      ·intro h; rw [h]; rfl
 have h:=qj (fun y=>jU y x) l hl (body:=Y6 c l x) (fun _=>true) (if x.Kind=1 then true
   else if x.Kind=2 then l.any (isK 1 x.Case x.Round)&&decide (spkS l x.From x.Case<x.Round)&&decide (x.Voted=(JE l x.From x.Case).1)&&decide (x.Finding=(JE l x.From x.Case).2)
   else if x.Kind=3 then !l.any (isK 3 x.Case x.Round)&&zDh c (prmS c l x.Case x.Round) x.Finding
   else (match prpS l x.Case x.Round with | some y=>decide (y.Finding=x.Finding) | none=>false)&&decide (spkS l x.From x.Case≤x.Round)&&decide ((JE l x.From x.Case).1<x.Round)) (fun i hi=>by
  unfold Y6
  simp only [dlt hi,if_true,Z5 hi,Option.bind_some,w64i hi hl]
  split <;> rfl) (by
  unfold Y6
  simp only [dge,Bool.false_eq_true,if_false,hj,Option.map_some])
 rw [h]
 unfold lawS
 cases hf:l.findIdx? (fun y=>jU y x) with
 | none =>
  have : ¬ l.any (fun y=>jU y x)=true:=fun e=>by
   obtain ⟨y,hy,e⟩:=List.any_eq_true.1 e
   rw [List.findIdx?_eq_none_iff.1 hf y hy] at e; cases e
  rw [if_neg this]
 | some i =>
  obtain ⟨hi,hp,_⟩:=List.findIdx?_eq_some_iff_getElem.1 hf
  rw [if_pos (List.any_eq_true.2 ⟨l[i],List.getElem_mem hi,hp⟩)]
def fstF (r:Int) (acc:List zA) (x:zA):List zA:=if x.Kind=2∧x.Round=r∧acc.any (fun y=>decide (y.From=x.From))=false then acc++[x] else acc
def fstS (l:List zA) (r:Int):List zA:=l.foldl (fstF r) []
theorem zBd (l:List zA) (x:zA) (r:Int):fstS (l++[x]) r=fstF r (fstS l r) x:=by simp [fstS,List.foldl_append]
theorem zIF {l:List zA} {i:Nat} (h:i<l.length) (r:Int):fstS (l.take (i+1)) r=fstF r (fstS (l.take i) r) l[i]:=by rw [List.take_succ_eq_append_getElem h,zBd]
theorem zOF {r:Int} {acc:List zA} {x y:zA} (h:y∈acc):y∈fstF r acc x:=by
 unfold fstF
 split
 ·exact List.mem_append_left _ h
 ·exact h
theorem zMx (l:List zA) (r:Int) {i:Nat} {y:zA} (h:y∈fstS (l.take i) r):y∈fstS l r:=by
 have key:∀ (l:List zA) (acc:List zA),y∈acc→y∈l.foldl (fstF r) acc:=by
  intro l
  induction l with
  | nil=>intro acc h; exact h
  | cons a t ih=>intro acc h; exact ih _ (zOF h)
 have e:fstS l r=(l.drop i).foldl (fstF r) (fstS (l.take i) r):=by
  unfold fstS
  rw [← List.foldl_append,List.take_append_drop]
 rw [e]
 exact key _ _ h
theorem zKA (l:List zA) (r:Int):(fstS l r).length≤l.length:=by
 refine j6 (motive:=fun l=>(fstS l r).length≤l.length) (by simp [fstS]) (fun l x ih=>?_) l
 rw [zBd]
 unfold fstF
 split
 ·simp; omega
 ·simp; omega
def Seen (m:List (Int×Bool)) (P:List zA):Prop := ∀ a,(zY a m).getD false=P.any (fun y=>decide (y.From=a))
theorem zKa : Seen [] []:=fun _=>rfl
theorem zE7 {m:List (Int×Bool)} {P:List zA} (h:Seen m P) (x:zA):Seen (putM posI m x.From true) (P++[x]):=fun a=>by
 rw [zDA]
 by_cases e:a=x.From
 ·subst e; simp
 ·have : ¬ x.From=a:=fun q=>e q.symm
  rw [if_neg e,h a]; simp [this]
def lowS (l:List zA) (r:Int) (x:zA):Int:=cntI (fun y=>decide (y.Voted≤x.Voted)) (fstS l r)
def zEo (c:zG) (l:List zA) (r n:Int) (x:zA):Bool := !decide (x.Voted=0)&&(decide (x.Finding=n)&&decide (majS c≤lowS l r x))
def zHP (c:zG) (l:List zA) (r n:Int):Bool:=(fstS l r).any (zEo c l r n)||decide (majS c≤cntI (fun y=>decide (y.Voted=0)) (fstS l r))
theorem zNr (c:zG) (l:List zA) (hl:l.length≤4000) (r n x3 f1:Int) (m3:List (Int×Bool)) (x:zA):Lp (jh c l r n x3 m3 f1 x) fuel (0,[],0)=some (if (decide (x.Finding=n)&&decide (majS c≤lowS l r x))=true then .inr true else .inl (w64 (x3+1),putM posI m3 x.From true,f1)):=by
 suffices h:∃ s,Lp (jh c l r n x3 m3 f1 x) fuel (0,[],0)=some s∧s=(if (decide (x.Finding=n)&&decide (majS c≤lowS l r x))=true then .inr true else .inl (w64 (x3+1),putM posI m3 x.From true,f1)) by obtain ⟨s,h,rfl⟩:=h; exact h
 refine lp_inv' (fun (i:Nat) (s:Int×List (Int×Bool)×Int) => ∃ m,s=((i:Int),m,cntI (fun y=>decide (y.Voted≤x.Voted)) (fstS (l.take i) r))∧Seen m (fstS (l.take i) r)) _ l.length (by omega) ⟨[],by simp [fstS,cntI],by simpa [fstS] using zKa⟩ fun i s hi hI=>?_
 obtain ⟨m,rfl,hm⟩:=hI
 by_cases hlt:i<l.length
 ·have hc:=zF7 (fun y=>decide (y.Voted≤x.Voted)) (fstS (l.take i) r)
  have hlen:=zKA (l.take i) r
  have htl:(l.take i).length=i:=by rw [List.length_take]; omega
  refine .inl ⟨hlt,?_⟩
  unfold jh
  rw [show zH l r=(l,r) from rfl]
  dsimp only
  simp only [dlt hlt,if_true,Z5 hlt,Option.bind_some,jg,jf,w64i hlt hl,hm l[i].From]
  rw [zIF hlt]
  unfold fstF
  by_cases c1:l[i].Kind=2
  ·by_cases c2:l[i].Round=r
   ·cases c3:(fstS (l.take i) r).any (fun y=>decide (y.From=l[i].From)) with
    | true =>
     refine ⟨(((i+1:Nat):Int),m,cntI (fun y=>decide (y.Voted≤x.Voted)) (fstS (l.take i) r)),by simp [c1,c2,c3],m,?_,?_⟩
     ·simp [c1,c2,c3]
     ·simpa [c1,c2,c3] using hm
    | false =>
     by_cases c4:l[i].Voted≤x.Voted
     ·refine ⟨(((i+1:Nat):Int),putM posI m l[i].From true,w64 (cntI (fun y=>decide (y.Voted≤x.Voted)) (fstS (l.take i) r)+1)),by simp [c1,c2,c3,c4],putM posI m l[i].From true,?_,?_⟩
      ·rw [if_pos ⟨c1,c2,rfl⟩,zBh,yf (by omega) (by omega)]
       simp [c4]
      ·rw [if_pos ⟨c1,c2,rfl⟩]; exact zE7 hm _
     ·refine ⟨(((i+1:Nat):Int),putM posI m l[i].From true,cntI (fun y=>decide (y.Voted≤x.Voted)) (fstS (l.take i) r)),by simp [c1,c2,c3,c4],putM posI m l[i].From true,?_,?_⟩
      ·rw [if_pos ⟨c1,c2,rfl⟩,zBh]
       simp [c4]
      ·rw [if_pos ⟨c1,c2,rfl⟩]; exact zE7 hm _
   ·refine ⟨(((i+1:Nat):Int),m,cntI (fun y=>decide (y.Voted≤x.Voted)) (fstS (l.take i) r)),by simp [c1,c2],m,by simp [c1,c2],by simpa [c1,c2] using hm⟩
  ·refine ⟨(((i+1:Nat):Int),m,cntI (fun y=>decide (y.Voted≤x.Voted)) (fstS (l.take i) r)),by simp [c1],m,by simp [c1],by simpa [c1] using hm⟩
 ·have e:i=l.length:=by omega
  subst e
  rw [List.take_length] at hm ⊢
  refine .inr ⟨_,?_,rfl⟩
  unfold jh
  rw [show zH l r=(l,r) from rfl]
  dsimp only
  simp only [dge,Bool.false_eq_true,if_false,zHR,jD]
  rw [zAp]
  ·show (if (decide (x.Finding=n)&&decide (majS c≤lowS l r x))=true then _ else _)=_
   split <;> rfl
  ·intro h; rw [h]; rfl
theorem able_eq (c:zG) (l:List zA) (hl:l.length≤4000) (r n:Int):J3 c l r n=some (zHP c l r n):=by
 unfold J3
 suffices h:∃ s,Lp (JI c l r n) fuel (0,[],0)=some s∧s=zHP c l r n by obtain ⟨s,h,rfl⟩:=h; exact h
 refine lp_inv' (fun (i:Nat) (s:Int×List (Int×Bool)×Int) => ∃ m,s=((i:Int),m,cntI (fun y=>decide (y.Voted=0)) (fstS (l.take i) r))∧Seen m (fstS (l.take i) r)∧∀ y∈fstS (l.take i) r,zEo c l r n y=false) _ l.length (by omega) ⟨[],by simp [fstS,cntI],by simpa [fstS] using zKa,fun y hy=>by simp [fstS] at hy⟩ fun i s hi hI=>?_
 obtain ⟨m,rfl,hm,hg⟩:=hI
 by_cases hlt:i<l.length
 ·have hc:=zF7 (fun y=>decide (y.Voted=0)) (fstS (l.take i) r)
  have hlen:=zKA (l.take i) r
  have htl:(l.take i).length=i:=by rw [List.length_take]; omega
  have hft:=zIF hlt r
  unfold fstF at hft
  unfold JI
  rw [show zH l r=(l,r) from rfl]
  dsimp only
  simp only [dlt hlt,if_true,Z5 hlt,Option.bind_some,jD,w64i hlt hl,hm l[i].From]
  by_cases c1:l[i].Kind=2
  ·by_cases c2:l[i].Round=r
   ·cases c3:(fstS (l.take i) r).any (fun y=>decide (y.From=l[i].From)) with
    | true =>
     rw [if_neg (by rw [c3]; simp)] at hft
     refine .inl ⟨hlt,(((i+1:Nat):Int),m,cntI (fun y=>decide (y.Voted=0)) (fstS (l.take i) r)),by simp [c1,c2,c3],m,by rw [hft],by rw [hft]; exact hm,by rw [hft]; exact hg⟩
    | false =>
     rw [if_pos ⟨c1,c2,c3⟩] at hft
     by_cases c4:l[i].Voted=0
     ·refine .inl ⟨hlt,(((i+1:Nat):Int),putM posI m l[i].From true,w64 (cntI (fun y=>decide (y.Voted=0)) (fstS (l.take i) r)+1)),by simp [c1,c2,c3,c4],putM posI m l[i].From true,?_,by rw [hft]; exact zE7 hm _,?_⟩
      ·rw [hft,zBh,yf (by omega) (by omega)]
       simp [c4]
      ·rw [hft]
       intro y hy
       rcases List.mem_append.1 hy with hy | hy
       ·exact hg y hy
       ·rw [List.mem_singleton] at hy; subst hy; simp [zEo,c4]
     ·have hlow:=zNr c l hl r n (i:Int) (cntI (fun y=>decide (y.Voted=0)) (fstS (l.take i) r)) m l[i]
      by_cases c5:(decide (l[i].Finding=n)&&decide (majS c≤lowS l r l[i]))=true
      ·rw [if_pos c5] at hlow
       refine .inr ⟨true,by simp [c1,c2,c3,c4,hlow],?_⟩
       have hmem:l[i]∈fstS l r:=zMx l r (i:=i+1) (by rw [hft]; simp)
       have:(fstS l r).any (zEo c l r n)=true:=List.any_eq_true.2 ⟨l[i],hmem,by unfold zEo; rw [c5]; simp [c4]⟩
       unfold zHP
       rw [this]; rfl
      ·rw [if_neg c5] at hlow
       refine .inl ⟨hlt,(w64 ((i:Int)+1),putM posI m l[i].From true,cntI (fun y=>decide (y.Voted=0)) (fstS (l.take i) r)),by simp [c1,c2,c3,c4,hlow],putM posI m l[i].From true,?_,by rw [hft]; exact zE7 hm _,?_⟩
       ·rw [hft,zBh,w64i hlt hl]
        simp [c4]
       ·rw [hft]
        intro y hy
        rcases List.mem_append.1 hy with hy | hy
        ·exact hg y hy
        ·rw [List.mem_singleton] at hy; subst hy
         unfold zEo
         have:(decide (l[i].Finding=n)&&decide (majS c≤lowS l r l[i]))=false:=by simpa using c5
         rw [this]; simp
   ·rw [if_neg (fun h=>c2 h.2.1)] at hft
    refine .inl ⟨hlt,(((i+1:Nat):Int),m,cntI (fun y=>decide (y.Voted=0)) (fstS (l.take i) r)),by simp [c1,c2],m,by rw [hft],by rw [hft]; exact hm,by rw [hft]; exact hg⟩
  ·rw [if_neg (fun h=>c1 h.1)] at hft
   refine .inl ⟨hlt,(((i+1:Nat):Int),m,cntI (fun y=>decide (y.Voted=0)) (fstS (l.take i) r)),by simp [c1],m,by rw [hft],by rw [hft]; exact hm,by rw [hft]; exact hg⟩
 ·have e:i=l.length:=by omega
  subst e
  rw [List.take_length] at hm hg ⊢
  refine .inr ⟨decide (majS c≤cntI (fun y=>decide (y.Voted=0)) (fstS l r)),?_,?_⟩
  ·unfold JI
   simp [zH,dge,zHR]
  ·have:(fstS l r).any (zEo c l r n)=false:=List.any_eq_false.2 fun y hy=>by rw [hg y hy]; simp
   unfold zHP
   rw [this,Bool.false_or]
def lasF (a:Int) (p:Int×Int) (x:zA):Int×Int:=if x.Kind=4∧x.From=a∧p.1<x.Round then (x.Round,x.Finding) else p
def lasS (l:List zA) (a:Int):Int×Int:=l.foldl (lasF a) (0,0)
theorem zLs (l:List zA) (hl:l.length≤4000) (a:Int):∃ y,Qj l a=some y∧(y.Round,y.Finding)=lasS l a:=by
 let g:zA→zA→zA:=fun p x=>if x.Kind=4∧x.From=a∧p.Round<x.Round then x else p
 have key:∀ (l:List zA) (p:zA),((l.foldl g p).Round,(l.foldl g p).Finding)=l.foldl (lasF a) (p.Round,p.Finding):=by
  intro l
  induction l with
  | nil=>intro p; rfl
  | cons x r ih =>
   intro p
   simp only [List.foldl_cons]
   rw [ih]
   congr 1
   show ((if x.Kind=4∧x.From=a∧p.Round<x.Round then x else p).Round,(if x.Kind=4∧x.From=a∧p.Round<x.Round then x else p).Finding)=lasF a (p.Round,p.Finding) x
   unfold lasF
   split <;> rfl
 have h:=zBH (body:=YG l a) l hl (fun p i=>(i,p.ID,p.Case,p.Kind,p.Round,p.From,p.To,p.Voted,p.Finding)) g (fun p=>p) (fun _ _=>True) (a:=(⟨0,0,0,0,0,0,0,0⟩:zA)) rfl trivial (fun p i hi _=>⟨by
  unfold YG
  simp only [dlt hi,if_true,Z5 hi,Option.bind_some,yD,w64i hi hl,g]
  by_cases c1:l[i].Kind=4
  ·by_cases c2:l[i].From=a
   ·by_cases c3:p.Round<l[i].Round <;> simp [c1,c2,c3]
   ·simp [c1,c2]
  ·simp [c1],trivial⟩) (fun p _=>by
  unfold YG
  simp [dge,YF])
 exact ⟨_,h,key l _⟩
theorem has2 (l:List zA) (hl:l.length≤4000) (x:zA):Zz x l=some (l.any fun y=>jO y x):=by
 unfold Zz ZX Zm
 rw [Ju (fun y=>jO y x) l hl (fun i hi=>by
  unfold ZR
  simp only [dlt hi,if_true,Z5 hi,Option.bind_some,w64i hi hl]
  split <;> rfl) (by
  unfold ZR
  simp [dge,zu])]
 simp only [Option.bind_some,QY]
theorem has3 (l:List zA) (hl:l.length≤4000) (x:zA):Zy x l=some (l.any fun y=>jN y x):=by
 unfold Zy ZW Zl
 rw [Ju (fun y=>jN y x) l hl (fun i hi=>by
  unfold ZQ
  simp only [dlt hi,if_true,Z5 hi,Option.bind_some,w64i hi hl]
  split <;> rfl) (by
  unfold ZQ
  simp [dge,zt])]
 simp only [Option.bind_some,QY]
theorem has4 (l:List zA) (hl:l.length≤4000) (x:zA):Zx x l=some (l.any fun y=>jM y x):=by
 unfold Zx ZV Zk
 rw [Ju (fun y=>jM y x) l hl (fun i hi=>by
  unfold ZP
  simp only [dlt hi,if_true,Z5 hi,Option.bind_some,w64i hi hl]
  split <;> rfl) (by
  unfold ZP
  simp [dge,zq])]
 simp only [Option.bind_some,QY]
theorem has5 (l:List zA) (hl:l.length≤4000) (x:zA):Zw x l=some (l.any fun y=>Z9 y x):=by
 unfold Zw ZU Zj
 rw [Ju (fun y=>Z9 y x) l hl (fun i hi=>by
  unfold ZO
  simp only [dlt hi,if_true,Z5 hi,Option.bind_some,w64i hi hl]
  split <;> rfl) (by
  unfold ZO
  simp [dge,zo])]
 simp only [Option.bind_some,QY]
theorem has6 (l:List zA) (hl:l.length≤4000) (x:zA):Zv x l=some (l.any fun y=>Z8 y x):=by
 unfold Zv ZT Zi
 rw [Ju (fun y=>Z8 y x) l hl (fun i hi=>by
  unfold ZN
  simp only [dlt hi,if_true,Z5 hi,Option.bind_some,w64i hi hl]
  split <;> rfl) (by
  unfold ZN
  simp [dge,zn])]
 simp only [Option.bind_some,QY]
def lawP (c:zG) (l:List zA) (x:zA):Bool :=
 if x.Kind=2 then decide (x.Voted=(lasS l x.From).1)&&decide (x.Finding=(lasS l x.From).2)&&l.any (fun y=>jO y x) && !l.any (fun y=>jN y x)
 else if x.Kind=3 then zHP c l x.Round x.Finding && !l.any (fun y=>jM y x)
 else if x.Kind=4 then l.any (fun y=>Z9 y x) && !l.any (fun y=>Z8 y x)
 else true
theorem zMo (c:zG) (l:List zA) (hl:l.length≤4000) (x:zA):Yc c l x=some (lawP c l x):=by
 unfold Yc lawP
 by_cases k2:x.Kind=2
 ·obtain ⟨y,h1,h2⟩:=zLs l hl x.From
  rw [← h2,if_pos (by simpa using k2),if_pos k2,h1]
  simp only [Option.bind_some,has2 l hl,has3 l hl]
  rw [zAp,zAp]
  ·intro h; simp only [h,Bool.false_and]
  ·intro h
   simp only [h,Bool.false_and]
 ·rw [if_neg (by simpa using k2),if_neg k2]
  by_cases k3:x.Kind=3
  ·rw [if_pos (by simpa using k3),if_pos k3,able_eq c l hl,Option.bind_some,has4 l hl,zAp]
   intro h; simp only [h,Bool.false_and]
  ·rw [if_neg (by simpa using k3),if_neg k3]
   by_cases k4:x.Kind=4
   ·rw [if_pos (by simpa using k4),if_pos k4,has5 l hl,Option.bind_some,has6 l hl,zAp]
    intro h; simp only [h,Bool.false_and]
   ·rw [if_neg (by simpa using k4),if_neg k4]
end Go.Mx
