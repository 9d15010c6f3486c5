/- What extracted functions are made of. Conditions: none. -/
import Derived.Sort.Defs
import Derived.Sort.AssemblyPlain
import Derived.Lib.BitFns
set_option linter.unusedVariables false
namespace Go.Mx
def Lp {σ ρ:Type} (body:σ→Option (σ ⊕ ρ)):Nat→σ→Option ρ
 | 0,_=>none
 | n+1,s=>match body s with
  | none=>none
  | some (.inl s')=>Lp body n s'
  | some (.inr r)=>some r
def fuel : Nat:=2 ^ 64
def ix {α:Type} (l:List α) (i:Int):Option α:=if 0≤i then l[i.toNat]? else none
def gb {α β:Type} [Inhabited α] (x:Bool) (m:Option α) (k:α→Option β):Option β:=(if x=true then m else some default).bind k
def sub {α:Type} (l:List α) (lo hi:Int):Option (List α):=if 0≤lo∧lo≤hi∧hi≤l.length then some ((l.take hi.toNat).drop lo.toNat) else none
def w64 (n:Int):Int:=(n+9223372036854775808) % 18446744073709551616 - 9223372036854775808
theorem JD {n:Int} (h1 : -9223372036854775808≤n) (h2:n≤9223372036854775807):w64 n=n:=by unfold w64; omega
def quo (a b:Int):Option Int:=if b=0 then none else some (w64 (a.tdiv b))
def rem (a b:Int):Option Int:=if b=0 then none else some (a.tmod b)
def app {α:Type} (l r:List α):Option (List α):=if l.length+r.length≤4294967296 then some (l++r) else none
def put {α:Type} (l:List α) (i:Int) (x:α):List α:=l.set i.toNat x
theorem lp_zero {σ ρ:Type} (body:σ→Option (σ ⊕ ρ)) (s:σ):Lp body 0 s=none:=rfl
theorem zCt {σ ρ:Type} {body:σ→Option (σ ⊕ ρ)} {s s':σ} (n:Nat) (h:body s=some (.inl s')):Lp body (n+1) s=Lp body n s':=by simp [Lp,h]
theorem zAN {σ ρ:Type} {body:σ→Option (σ ⊕ ρ)} {s:σ} {r:ρ} (n:Nat) (h:body s=some (.inr r)):Lp body (n+1) s=some r:=by simp [Lp,h]
theorem zK {α β:Type} {m:Option α} {k:α→Option β} {b:β} (h:m.bind k=some b):∃ x,m=some x∧k x=some b:=Option.bind_eq_some_iff.1 h
theorem gb_of {α β:Type} [Inhabited α] {x:Bool} {m:Option α} {k:α→Option β} {b:β} (h:gb x m k=some b):∃ v,(x=true→m=some v)∧k v=some b:=by
 unfold gb at h
 obtain ⟨v,h1,h2⟩:=zK h
 refine ⟨v,fun hx=>?_,h2⟩
 rw [if_pos hx] at h1; exact h1
theorem J9 {α β:Type} {m:Option α} {f:α→β} {b:β} (h:m.map f=some b):∃ x,m=some x∧f x=b:=Option.map_eq_some_iff.1 h
theorem zEN {α:Type} {x:Bool} {A B:α} {y:α} (hx:x=true) (h:(if x=true then A else B)=y):A=y:=by rw [if_pos hx] at h; exact h
theorem zEO {α:Type} {x:Bool} {A B:α} {y:α} (hx:x=false) (h:(if x=true then A else B)=y):B=y:=by rw [if_neg (by rw [hx]; decide)] at h; exact h
theorem zBn {α:Type} {l:List α} {i:Int} {x:α} (h:ix l i=some x):0≤i∧i<l.length∧l[i.toNat]? = some x:=by
 unfold ix at h
 split at h
 ·have:=(List.getElem?_eq_some_iff.1 h).1; exact ⟨by assumption,by omega,h⟩
 ·cases h
theorem zE2 {α:Type} {l r:List α} {lo hi:Int} (h:sub l lo hi=some r):0≤lo∧lo≤hi∧hi≤l.length∧r=(l.take hi.toNat).drop lo.toNat:=by
 unfold sub at h
 split at h
 ·rename_i hc; simp only [Option.some.injEq] at h; exact ⟨hc.1,hc.2.1,hc.2.2,h.symm⟩
 ·cases h
theorem quo_of {a b r:Int} (h:quo a b=some r):b≠0∧r=w64 (a.tdiv b):=by
 unfold quo at h
 split at h
 ·cases h
 ·simp only [Option.some.injEq] at h; exact ⟨by assumption,h.symm⟩
theorem rem_of {a b r:Int} (h:rem a b=some r):b≠0∧r=a.tmod b:=by
 unfold rem at h
 split at h
 ·cases h
 ·simp only [Option.some.injEq] at h; exact ⟨by assumption,h.symm⟩
theorem yS {α:Type} {l r x:List α} (h:app l r=some x):l.length+r.length≤4294967296∧x=l++r:=by
 unfold app at h
 split at h
 ·simp only [Option.some.injEq] at h; exact ⟨by assumption,h.symm⟩
 ·cases h
theorem app_neL {α:Type} {l r x:List α} (hne:l≠[]) (h:app l r=some x):x≠[]:=by
 rw [(yS h).2]
 exact fun e=>hne (List.append_eq_nil_iff.1 e).1
theorem w64_add (a b:Int):w64 (w64 a+b)=w64 (a+b):=by unfold w64; omega
def zIh {α β:Type} (f:α→Option β):List α→Option (List β)
 | []=>some []
 | x :: r=>Option.bind (f x) fun y=>Option.bind (zIh f r) fun s=>some (y :: s)
theorem zK0 {α β:Type} {f:α→Option β}:∀ {l:List α} {r:List β},zIh f l=some r→r.length=l.length∧∀ (i:Nat) (x:α),l[i]? = some x→∃ y,r[i]? = some y∧f x=some y
 | [],r,h=>by simp only [zIh,Option.some.injEq] at h; subst h; exact ⟨rfl,fun i x h=>by simp at h⟩
 | a :: l,r,h=>by
  simp only [zIh] at h
  obtain ⟨y,h1,h⟩:=zK h
  obtain ⟨s,h2,h⟩:=zK h
  simp only [Option.some.injEq] at h
  subst h
  obtain ⟨h3,h4⟩:=zK0 h2
  refine ⟨by simp [h3],fun i x hx=>?_⟩
  cases i with
  | zero=>simp only [List.getElem?_cons_zero,Option.some.injEq] at hx; subst hx; exact ⟨y,by simp,h1⟩
  | succ i=>simpa using h4 i x (by simpa using hx)
def srtI (l:List Int):List Int:=l.mergeSort fun x y=>decide (x≤y)
def srtO (l:List Int):Option (List Int):=if l.length≤4294967296 then some (srtI l) else none
theorem zFv {l r:List Int} (h:srtO l=some r):l.length≤4294967296∧r=srtI l:=by
 unfold srtO at h
 split at h
 ·exact ⟨by assumption,(Option.some.inj h).symm⟩
 ·cases h
theorem srtO_len {l r:List Int} (h:srtO l=some r):l.length=r.length:=by rw [(zFv h).2]; exact (List.length_mergeSort l).symm
def srtF {α:Type} [Inhabited α] (lt:α→α→Bool) (l:List α):List α:=(Go.Sort.pdq lt l.toArray 0 l.length (Go.Lib.bitLen l.length) true true).toList
def zDB {α:Type} [Inhabited α] (lt:α→α→Bool) (l:List α):Option (List α):=if l.length≤4294967296 then some (srtF lt l) else none
theorem zJF {α:Type} [Inhabited α] {lt:α→α→Bool} {l r:List α} (h:zDB lt l=some r):l.length≤4294967296∧r=srtF lt l:=by
 unfold zDB at h
 split at h
 ·exact ⟨by assumption,(Option.some.inj h).symm⟩
 ·cases h
theorem qG {α:Type} [Inhabited α] {lt:α→α→Bool} (h:Go.Sort.SWO lt) (l:List α):(srtF lt l).Perm l∧(srtF lt l).Pairwise fun x y=>lt y x=false:=by
 have h2:=Go.Sort.pdq_sorts lt h l.toArray 0 l.length (Go.Lib.bitLen l.length) true true (Nat.zero_le _) (by simp) (Or.inl rfl)
 obtain ⟨⟨q1,_,q2⟩,q3⟩:=h2
 have e:(srtF lt l).length=l.length:=by unfold srtF; simpa using q1
 constructor
 ·unfold srtF
  have hs:(Go.Sort.pdq lt l.toArray 0 l.length (Go.Lib.bitLen l.length) true true).extract 0 l.length=Go.Sort.pdq lt l.toArray 0 l.length (Go.Lib.bitLen l.length) true true:=by
   rw [Array.extract_eq_self_of_le]
   rw [q1]; simp
  rw [hs] at q2
  simpa using q2
 ·rw [List.pairwise_iff_getElem]
  intro i j hi hj hij
  have:=q3 i j (Nat.zero_le _) hij (by rw [← e]; exact hj)
  unfold srtF at hi hj ⊢
  simp only [Array.length_toList] at hi hj
  rw [getElem!_pos _ i hi,getElem!_pos _ j hj] at this
  simpa using this
theorem zAo (l:List Int):(srtI l).Perm l∧(srtI l).Pairwise (·≤·):=by
 refine ⟨List.mergeSort_perm _ _,?_⟩
 have:=List.pairwise_mergeSort (le:=fun x y:Int=>decide (x≤y)) (fun a b c h1 h2=>by simp at *; omega) (fun a b=>by simp; omega) l
 exact this.imp fun h=>by simpa using h
def sameO {α β:Type} (l:List α) (r:List β):Option Unit:=if l.length=r.length then some () else none
theorem sameO_of {α β:Type} {l:List α} {r:List β} {u:Unit} (h:sameO l r=some u):l.length=r.length:=by
 unfold sameO at h
 split at h
 ·assumption
 ·cases h
def qsl {α:Type} (l:List α) (a lo:Int):Option Int:=if 0≤lo∧a.toNat+lo.toNat≤l.length then some ((a.toNat:Int)+lo) else none
def qslN {α:Type} (l:List α) (lo:Int):Option Int:=if l.isEmpty=false∧0≤lo∧lo.toNat≤l.length then some lo else none
def qapp {α:Type} (l:List α) (a:Int) (xs:List α):Option (List α):=if a.toNat≤l.length∧l.length+xs.length≤4294967296 then some (l.drop a.toNat++xs) else none
def cutO {α:Type} (l:List α) (k b:Int):Option (List α):=if 0≤k∧k<b∧b≤l.length then some (l.take k.toNat++l.drop b.toNat) else none
def JB {α β:Type} [DecidableEq α] (k:α):List (α×β)→Option Nat
 | []=>none
 | p :: r=>if k=p.1 then some 0 else (JB k r).map (· + 1)
def zO {α β:Type} [DecidableEq α] (k:α):List (α×β)→Option β
 | []=>none
 | p :: r=>if k=p.1 then some p.2 else zO k r
def insL {α:Type}:List α→Nat→α→List α
 | l,0,x=>x :: l
 | [],_+1,x=>[x]
 | y :: r,n+1,x=>y :: insL r n x
def putM {α β:Type} [DecidableEq α] (pos:α→List α→Nat) (l:List (α×β)) (k:α) (v:β):List (α×β):=match JB k l with
 | some i=>l.set i (k,v)
 | none=>insL l (pos k (l.map (·.1))) (k,v)
def posI (k:Int):List Int→Nat
 | []=>0
 | b :: r=>if b<k then posI k r+1 else 0
def posE {α:Type} (_:α) (l:List α):Nat:=l.length
theorem JF {α β:Type} [DecidableEq α] {k:α}:∀ {l:List (α×β)},match JB k l with
  | some i => ∃ v,l[i]? = some (k,v)∧zO k l=some v
  | none=>zO k l=none∧∀ p∈l,p.1≠k
 | []=>by simp [JB,zO]
 | p :: r=>by
  unfold JB zO
  by_cases h:k=p.1
  ·simp only [h,if_true]
   exact ⟨p.2,rfl,rfl⟩
  ·simp only [h,if_false]
   have ih:=JF (k:=k) (l:=r)
   cases hf:JB k r with
   | none =>
    rw [hf] at ih
    simp only [Option.map_none]
    refine ⟨ih.1,fun q hq=>?_⟩
    rcases List.mem_cons.1 hq with rfl | hq
    ·exact fun e=>h e.symm
    ·exact ih.2 q hq
   | some i =>
    rw [hf] at ih
    simp only [Option.map_some]
    obtain ⟨v,h1,h2⟩:=ih
    exact ⟨v,by simpa using h1,h2⟩
def mkS {α:Type} (n m:Int) (y:α):Option (List α):=if n=m∧0≤n∧n≤1048576 then some (List.replicate n.toNat y) else none
def QO {κ σ:Type} (f:κ→σ→Option σ):List κ→σ→Option σ
 | [],s=>some s
 | k :: r,s=>Option.bind (f k s) fun s' => QO f r s'
structure zI7 {κ σ:Type} (f:κ→σ→Option σ) (R:σ→σ→Prop):Prop where
 rfl':∀ s,R s s
 tr:∀ a b c,R a b→R b c→R a c
 resp:∀ k s s' t,R s s'→f k s=some t→∃ t',f k s'=some t'∧R t t'
 comm:∀ k l s t u,f k s=some t→f l t=some u→∃ t' u',f l s=some t'∧f k t'=some u'∧R u u'
theorem zGw {κ σ:Type} {f:κ→σ→Option σ} {R:σ→σ→Prop} (h:zI7 f R):∀ (l:List κ) (s s' t:σ),R s s'→QO f l s=some t→∃ t',QO f l s'=some t'∧R t t'
 | [],s,s',t,hr,hf=>by simp only [QO,Option.some.injEq] at hf ⊢; subst hf; exact ⟨s',rfl,hr⟩
 | k :: r,s,s',t,hr,hf=>by
  simp only [QO] at hf ⊢
  obtain ⟨u,h1,h2⟩:=zK hf
  obtain ⟨u',h3,h4⟩:=h.resp k s s' u hr h1
  obtain ⟨t',h5,h6⟩:=zGw h r u u' t h4 h2
  exact ⟨t',by rw [h3]; exact h5,h6⟩
theorem zLH {κ σ:Type} {f:κ→σ→Option σ} {R:σ→σ→Prop} (h:zI7 f R) {l l':List κ} (hp:l.Perm l'):∀ (s t:σ),QO f l s=some t→∃ t',QO f l' s=some t'∧R t t':=by
 induction hp with
 | nil=>exact fun s t hf=>⟨t,hf,h.rfl' t⟩
 | cons x _ ih =>
  intro s t hf
  simp only [QO] at hf ⊢
  obtain ⟨u,h1,h2⟩:=zK hf
  obtain ⟨t',h3,h4⟩:=ih u t h2
  exact ⟨t',by rw [h1]; exact h3,h4⟩
 | swap x y l =>
  intro s t hf
  simp only [QO] at hf ⊢
  obtain ⟨u,h1,h2⟩:=zK hf
  obtain ⟨v,h3,h4⟩:=zK h2
  obtain ⟨u',v',h5,h6,h7⟩:=h.comm y x s u v h1 h3
  obtain ⟨t',h8,h9⟩:=zGw h l v v' t h7 h4
  exact ⟨t',by rw [h5]; simp only [Option.bind_some]; rw [h6]; exact h8,h9⟩
 | trans _ _ ih1 ih2 =>
  intro s t hf
  obtain ⟨t1,h1,h2⟩:=ih1 s t hf
  obtain ⟨t2,h3,h4⟩:=ih2 s t1 h1
  exact ⟨t2,h3,h.tr _ _ _ h2 h4⟩
def clrE {α:Type} (l:List α) (a:Int) (z:α):Option (List α):=if 0<l.length∧0≤a∧a≤l.length then some (l.take a.toNat++List.replicate (l.length - a.toNat) z) else none
theorem zME {α:Type} {l r:List α} {a:Int} {z:α} (h:clrE l a z=some r):0<l.length∧0≤a∧a≤l.length∧r=l.take a.toNat++List.replicate (l.length - a.toNat) z:=by
 unfold clrE at h
 split at h
 ·rename_i hc; exact ⟨hc.1,hc.2.1,hc.2.2,(Option.some.inj h).symm⟩
 ·cases h
theorem zOt {α:Type} {l r:List α} {a:Int} {z:α} (h:clrE l a z=some r):l.length=r.length:=by
 obtain ⟨h1,h2,h3,rfl⟩:=zME h
 rw [List.length_append,List.length_take,List.length_replicate]; omega
end Go.Mx
