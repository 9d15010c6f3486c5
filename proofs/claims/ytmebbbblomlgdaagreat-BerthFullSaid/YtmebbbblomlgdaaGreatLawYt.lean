/- Part of the proof of BerthFull: plain laws about the functions of M, no program in sight. Conditions: none. -/
import Derived.Test.YtmebbbblomlgdaaGreatM
import Derived.Test.YtmebbbblomlgdaaGreatLawYb
set_option linter.unusedVariables false
set_option linter.unusedSimpArgs false
namespace Go.Mx
def insK (x:Int):List Int→List Int
 | []=>[x]
 | a :: l=>if x≤a then x :: a :: l else a :: insK x l
def zHO : List Int→List Int
 | []=>[]
 | a :: l=>insK a (zHO l)
theorem zGI (x:Int):∀ l,(insK x l).Perm (x :: l)
 | []=>List.Perm.refl _
 | a :: l=>by
  unfold insK
  split
  ·exact List.Perm.refl _
  ·exact ((zGI x l).cons a).trans (List.Perm.swap x a l)
theorem zHN : ∀ l,(zHO l).Perm l
 | []=>List.Perm.refl _
 | a :: l=>(zGI a (zHO l)).trans ((zHN l).cons a)
theorem zGh (x:Int):∀ {l:List Int},l.Pairwise (·≤·)→(insK x l).Pairwise (·≤·)
 | [],_=>by simp [insK]
 | a :: l,h=>by
  unfold insK
  rw [List.pairwise_cons] at h
  split
  ·rename_i e
   refine List.pairwise_cons.2 ⟨fun b hb=>?_,List.pairwise_cons.2 h⟩
   rcases List.mem_cons.1 hb with rfl | hb
   ·exact e
   ·have:=h.1 b hb; omega
  ·rename_i e
   refine List.pairwise_cons.2 ⟨fun b hb=>?_,zGh x h.2⟩
   rcases List.mem_cons.1 ((zGI x l).mem_iff.1 hb) with rfl | hb
   ·omega
   ·exact h.1 b hb
theorem zFF : ∀ l,(zHO l).Pairwise (·≤·)
 | []=>.nil
 | a :: l=>zGh a (zFF l)
theorem zNn (l:List Int):srtI l=zHO l:=List.Perm.eq_of_pairwise (le:=(·≤·)) (fun a b _ _ h1 h2=>by omega) (zAd l).2 (zFF l) ((zAd l).1.trans (zHN l).symm)
def zLd (l:List Int):Option (List Int):=if l.length≤4294967296 then some (zHO l) else none
theorem zNl : srtO=zLd:=funext fun l=>by unfold srtO zLd; rw [zNn]
def YY (b:zL) (ships:(List (Int×Bool))) (l:(List Int)):Option zZ :=
 Option.bind (zLd l) fun l1 =>
 Lp (jV b ships l1) fuel (0,[])
theorem zCb : @Zu = @YY:=by
 unfold Zu YY
 simp only [zNl]
def YZ (b:zL) (ships:(List (Int×Bool))):(Int×(List Int))→Option ((Int×(List Int)) ⊕ zZ)
 | (x3,l8) =>
  if decide (x3<(b.calls.length:Int)) then
   Option.bind (ix b.calls x3) fun x2 =>
   if ((ZE x3 ships).getD false) then
    Option.bind (app l8 ([x2.ID])) fun l7 =>
    Zl x3 l7
   else
    Zl x3 l8
  else
   ((YY b ships l8).map Sum.inr)
theorem zCc : @jC = @YZ:=by
 unfold jC YZ
 simp only [zCb]
def yn (b:zL) (ships:(List (Int×Bool))):Option zZ :=
 Lp (YZ b ships) fuel (0,[])
theorem zAb : @jM = @yn:=by
 unfold jM yn
 simp only [zCc]
def zBR (y1:zL) (m2:(List (Int×Bool))):Option (zZ×Bool×Int) :=
 Option.bind (yn y1 m2) fun y3 =>
 some (y3,true,0)
theorem zFw : @jS = @zBR:=by
 unfold jS zBR
 simp only [zAb]
def zBU (l:(List zJ)) (y1:zL) (m1:(List (Int×Int))):(Bool×(List (Int×Bool)))→Option ((Bool×(List (Int×Bool))) ⊕ (zZ×Bool×Int))
 | (more4,m7) =>
  if more4 then
   Lp (qE l y1 m1) fuel (false,0,m7)
  else
   ((zBR y1 m7).map Sum.inr)
theorem zFz : @Jo = @zBU:=by
 unfold Jo zBU
 simp only [zFw]
def zBS (l:(List zJ)) (y1:zL) (m:(List (Int×Bool))) (m1:(List (Int×Int))):Option (zZ×Bool×Int) :=
 if decide ((m.length:Int)=0) then
  some ((⟨[],[]⟩:zZ),false,0)
 else
  Lp (zBU l y1 m1) fuel (true,m)
theorem zFx : @Jn = @zBS:=by
 unfold Jn zBS
 simp only [zFz]
def zBT (l:(List zJ)) (y1:zL) (y2:(List Int)×Int):(Int×(List (Int×Bool))×(List (Int×Int)))→Option ((Int×(List (Int×Bool))×(List (Int×Int))) ⊕ (zZ×Bool×Int))
 | (x5,m10,m11) =>
  if decide (x5<(y2.1.length:Int)) then
   Option.bind (ix y2.1 x5) fun x4 =>
   if decide ((y1.slots.length:Int)≤x4) then
    JF x5 (putM posI m10 x5 true) m11
   else
    JF x5 m10 (putM posI m11 x4 x5)
  else
   ((zBS l y1 m10 m11).map Sum.inr)
theorem zFy : @yS = @zBT:=by
 unfold yS zBT
 simp only [zFx]
def zDO (h:zG) (l:(List zJ)):Option (zZ×Bool×Int) :=
 Option.bind (Z4 h l) fun y =>
 if !decide (y=0) then
  some ((⟨[],[]⟩:zZ),false,y)
 else
  Option.bind (yN h l) fun y1 =>
  Option.bind (Zt y1 []) fun y2 =>
  Lp (zBT l y1 y2) fuel (0,[],[])
theorem zIb : @J2 = @zDO:=by
 unfold J2 zDO
 simp only [zFy]
def QR (h:zG) (l:(List zJ)) (x:zZ) (m:(List (Int×Bool))):Option (Int×Int) :=
 Option.bind (yN h l) fun y1 =>
 Option.bind (yn y1 m) fun y2 =>
 gb (!(decide ((x.Calls.length:Int)=0))) (slices_Equal_int x.Calls y2.Calls) fun y3 =>
 gb (!(((decide ((x.Calls.length:Int)=0))||(!y3)))) (jO x.Slots y2.Slots) fun y4 =>
 if ((((decide ((x.Calls.length:Int)=0))||(!y3))||(!y4))||(decide ((x.Calls.length:Int)≤(x.Slots.length:Int)))) then
  some (0,8)
 else
  some (w64 ((x.Calls.length:Int) - (x.Slots.length:Int)),0)
theorem zDP : @jD = @QR:=by
 unfold jD QR
 simp only [zAb]
def QS (h:zG) (l:(List zJ)) (x:zZ):(Int×(List (Int×Bool)))→Option ((Int×(List (Int×Bool))) ⊕ (Int×Int))
 | (x2,m2) =>
  if decide (x2<(x.Calls.length:Int)) then
   Option.bind (ix x.Calls x2) fun x1 =>
   Option.bind (zx l x1) fun y5 =>
   if decide (0≤y5) then
    Zx x2 (putM posI m2 y5 true)
   else
    Zx x2 m2
  else
   ((QR h l x m2).map Sum.inr)
theorem zDQ : @jU = @QS:=by
 unfold jU QS
 simp only [zDP]
def zAU (h:zG) (l:(List zJ)) (x:zZ):Option (Int×Int) :=
 Option.bind (Z4 h l) fun y =>
 if !decide (y=0) then
  some (0,y)
 else
  Lp (QS h l x) fuel (0,[])
theorem zEZ : @Zz = @zAU:=by
 unfold Zz zAU
 simp only [zDQ]
def zD2 : Option Bool :=
 Option.bind (zCQ (ZP) 1 130) fun y =>
 Option.bind (qh (ZP) 2 700 (⟨60,200⟩:zC)) fun y1 =>
 Option.bind (qh (ZP) 2 600 (⟨60,200⟩:zC)) fun y2 =>
 Option.bind (ja 1) fun y3 =>
 Option.bind (ix y3 0) fun x =>
 Option.bind (zDM (ZP) x (⟨0,2⟩:zB)) fun y4 =>
 Option.bind (zCR (ZP) (⟨0,2⟩:zB) 120) fun y5 =>
 Option.bind (ja 3) fun y6 =>
 Option.bind (zDN (ZP) y6) fun y7 =>
 Option.bind (ja 5) fun y8 =>
 Option.bind (zDO (ZP) y8) fun y9 =>
 Option.bind (ja 5) fun y10 =>
 Option.bind (zAU (ZP) y10 y9.1) fun y11 =>
 if (((((((((!decide (y.2=0))||(!decide (y1.2.2=0)))||(!decide (y2.2.2=0)))||(!decide (y4.2.2=0)))||(!decide (y5.2=0)))||(!decide (y7.2=0)))||(!decide (y9.2.2=0)))||(!decide (y11.2=0)))||(!decide ((y7.1.length:Int)=3))) then
  some false
 else
  gb (((((((((decide (y.1=1000))&&y1.2.1)&&(decide (y1.1=60)))&&(!y2.2.1))&&y4.2.1)&&(decide (y4.1=(⟨120,179⟩:zC))))&&(decide (y5.1=650))))) (ix y7.1 2) fun x1 =>
  some ((((((((((((decide (y.1=1000))&&y1.2.1)&&(decide (y1.1=60)))&&(!y2.2.1))&&y4.2.1)&&(decide (y4.1=(⟨120,179⟩:zC))))&&(decide (y5.1=650)))&&(decide (x1=(⟨13,(⟨1,1⟩:zB),(⟨240,299⟩:zC)⟩:ZO))))&&y9.2.1)&&(decide ((y9.1.Calls.length:Int)=5)))&&(decide ((y9.1.Slots.length:Int)=4)))&&(decide (y11.1=1)))
theorem zGH : @YV = @zD2:=by
 unfold YV zD2
 simp only [zEZ,zIb]
theorem sanity06 : YV=some true:=by
 rw [zGH]
 decide +kernel
theorem zMi {α:Type} {o:α}:∀ {l:List α} {k:Nat},l[k]? = some o→l.Perm (o :: l.eraseIdx k)
 | a :: r,0,h=>by
  simp only [List.getElem?_cons_zero,Option.some.injEq] at h
  subst h; exact List.Perm.refl _
 | a :: r,k+1,h=>by
  simp only [List.getElem?_cons_succ] at h
  exact ((zMi h).cons a).trans (List.Perm.swap o a _)
theorem set_perm {α:Type} {q:α}:∀ {l:List α} {k:Nat},k<l.length→(l.set k q).Perm (q :: l.eraseIdx k)
 | a :: r,0,_=>List.Perm.refl _
 | a :: r,k+1,h=>((set_perm (l:=r) (k:=k) (by simpa using h)).cons a).trans (List.Perm.swap q a _)
theorem zDx {α:Type}:∀ {l:List α},l.Nodup→∀ {i j:Nat} {a:α},l[i]? = some a→l[j]? = some a→i=j
 | [],_,i,j,a,h,_=>by simp at h
 | x :: r,hn,i,j,a,h1,h2=>by
  rw [List.nodup_cons] at hn
  cases i with
  | zero =>
   cases j with
   | zero=>rfl
   | succ j =>
    simp only [List.getElem?_cons_zero,Option.some.injEq] at h1
    subst h1
    exact absurd (List.mem_of_getElem? (by simpa using h2)) hn.1
  | succ i =>
   cases j with
   | zero =>
    simp only [List.getElem?_cons_zero,Option.some.injEq] at h2
    subst h2
    exact absurd (List.mem_of_getElem? (by simpa using h1)) hn.1
   | succ j=>exact congrArg Nat.succ (zDx hn.2 (a:=a) (by simpa using h1) (by simpa using h2))
theorem zML {α:Type} (p:α→Bool):∀ l:List α,(l.filter p).length+(l.filter fun x => !p x).length=l.length
 | []=>rfl
 | a :: r=>by
  have:=zML p r
  rw [List.filter_cons,List.filter_cons,List.length_cons]
  cases p a <;> simp <;> omega
def domA {α:Type} (n:Nat) (μ:Nat→Option α):List Nat:=(List.range n).filter fun r=>(μ r).isSome
theorem zCo {α:Type} {n r:Nat} {μ:Nat→Option α}:r∈domA n μ↔r<n∧∃ x,μ r=some x:=by
 unfold domA
 rw [List.mem_filter,List.mem_range,Option.isSome_iff_exists]
theorem zMA {α:Type} {n:Nat} {μ:Nat→Option α}:(domA n μ).Nodup:=List.Nodup.sublist List.filter_sublist List.nodup_range
structure MatA {α:Type} (c:Nat→List α) (n:Nat) (μ:Nat→Option α):Prop where
 c:∀ r x,μ r=some x→r<n∧x∈c r
 i:∀ r q x,μ r=some x→μ q=some x→r=q
theorem cut_mat {α:Type} {c:Nat→List α} {n:Nat} {μ:Nat→Option α} (h:MatA c (n+1) μ):MatA c n fun r=>if r<n then μ r else none:=by
 refine ⟨fun r x e=>?_,fun r q x e1 e2=>?_⟩
 ·split at e
  ·rename_i hr; exact ⟨hr,(h.c r x e).2⟩
  ·cases e
 ·split at e1
  ·split at e2
   ·exact h.i r q x e1 e2
   ·cases e2
  ·cases e1
theorem cut_len {α:Type} {n:Nat} {μ:Nat→Option α}:(domA (n+1) μ).length≤(domA n fun r=>if r<n then μ r else none).length+1:=by
 unfold domA
 rw [List.range_succ,List.filter_append,List.length_append]
 have e:(List.range n).filter (fun r=>(μ r).isSome)=(List.range n).filter fun r=>((fun r=>if r<n then μ r else none) r).isSome:=List.filter_congr fun r hr=>by rw [List.mem_range] at hr; simp only; rw [if_pos hr]
 rw [e]
 have:=List.length_filter_le (fun r=>(μ r).isSome) [n]
 simp only [List.length_singleton] at this
 omega
section
variable {α:Type} [DecidableEq α]
structure KT (α:Type) where
 S:List α
 B:List Nat
 N:List α
def posL (x:α):List α→Option Nat
 | []=>none
 | y :: r=>if y=x then some 0 else (posL x r).map (· + 1)
theorem Jr {x:α}:∀ {l:List α} {k:Nat},posL x l=some k→l[k]? = some x
 | y :: r,k,h=>by
  unfold posL at h
  by_cases e:y=x
  ·rw [if_pos e] at h; cases h; simp [e]
  ·rw [if_neg e,Option.map_eq_some_iff] at h
   obtain ⟨j,h1,rfl⟩:=h
   simpa using Jr h1
theorem zCi {x:α}:∀ {l:List α},posL x l=none→x∉l
 | [],_=>by simp
 | y :: r,h=>by
  unfold posL at h
  by_cases e:y=x
  ·rw [if_pos e] at h; cases h
  ·rw [if_neg e,Option.map_eq_none_iff] at h
   rw [List.mem_cons,not_or]
   exact ⟨fun q=>e q.symm,zCi h⟩
def kL (g:Nat→KT α→Option (KT α×Bool)) (q:Nat):List α→KT α→Option (KT α×Bool)
 | [],t=>some (t,false)
 | x :: r,t=>if x∈t.N then kL g q r t else
  match posL x t.S with
  | none=>some (⟨t.S++[x],t.B++[q],t.N++[x]⟩,true)
  | some k=>match t.B[k]? with
   | none=>none
   | some o=>match g o ⟨t.S,t.B,t.N++[x]⟩ with
    | none=>none
    | some (t',true)=>some (⟨t'.S,t'.B.set k q,t'.N⟩,true)
    | some (t',false)=>kL g q r t'
def kS (c:Nat→List α):Nat→Nat→KT α→Option (KT α×Bool)
 | 0,_,_=>none
 | f+1,q,t=>kL (kS c f) q (c q) t
structure KV (c:Nat→List α) (S:List α) (B:List Nat):Prop where
 l:S.length=B.length
 c:∀ (i:Nat) x p,S[i]? = some x→B[i]? = some p→x∈c p
structure KY (c:Nat→List α) (q:Nat) (t t':KT α):Prop where
 v:KV c t'.S t'.B
 p:t'.B.Perm (q :: t.B)
 s:∃ y,t'.S=t.S++[y]∧y∉t.S
 n:∀ (i:Nat) x,t.S[i]? = some x→x∈t.N→t'.B[i]? = t.B[i]?
structure KN (c:Nat→List α) (r:List α) (t t':KT α):Prop where
 s:t'.S=t.S
 b:t'.B=t.B
 m:∀ x∈t.N,x∈t'.N
 r:∀ x∈r,x∈t'.N
 d:t.N.Nodup→t'.N.Nodup
 c:∀ x∈t'.N,x∉t.N→∃ (k o:Nat),t.S[k]? = some x∧t.B[k]? = some o∧∀ y∈c o,y∈t'.N
theorem zJ9 {c:Nat→List α} {g:Nat→KT α→Option (KT α×Bool)} (hg:∀ o t t' b,KV c t.S t.B→g o t=some (t',b)→(b=true→KY c o t t')∧(b=false→KN c (c o) t t')) (q:Nat):∀ (r:List α),(∀ x∈r,x∈c q)→∀ (t t':KT α) (b:Bool),KV c t.S t.B→kL g q r t=some (t',b)→(b=true→KY c q t t')∧(b=false→KN c r t t')
 | [],_,t,t',b,hv,h=>by
  simp only [kL,Option.some.injEq,Prod.mk.injEq] at h
  obtain ⟨rfl,rfl⟩:=h
  exact ⟨(fun h=>by cases h),fun _=>⟨rfl,rfl,(fun _ h=>h),(fun x hx=>by cases hx),(fun h=>h),fun x h1 h2=>absurd h1 h2⟩⟩
 | x :: r,hr,t,t',b,hv,h=>by
  have hx:=hr x List.mem_cons_self
  have hr':∀ y∈r,y∈c q:=fun y hy=>hr y (List.mem_cons_of_mem _ hy)
  unfold kL at h
  by_cases e:x∈t.N
  ·rw [if_pos e] at h
   obtain ⟨h1,h2⟩:=zJ9 hg q r hr' t t' b hv h
   refine ⟨h1,fun hb=>?_⟩
   have h3:=h2 hb
   exact ⟨h3.s,h3.b,h3.m,fun y hy=>by exact (List.mem_cons.1 hy).elim (fun e' => e'▸h3.m _ e) (h3.r _),h3.d,h3.c⟩
  rw [if_neg e] at h
  cases hp:posL x t.S with
  | none =>
   rw [hp] at h
   simp only [Option.some.injEq,Prod.mk.injEq] at h
   obtain ⟨rfl,rfl⟩:=h
   have hxs:=zCi hp
   refine ⟨fun _=>⟨⟨by simp [hv.l],fun i y p h1 h2=>?_⟩,List.perm_append_singleton _ _,⟨x,rfl,hxs⟩,fun i y h1 _=>?_⟩,fun h=>by cases h⟩
   ·simp only at h1 h2
    by_cases c1:i<t.S.length
    ·rw [List.getElem?_append_left c1] at h1
     rw [List.getElem?_append_left (by rw [← hv.l]; exact c1)] at h2
     exact hv.c i y p h1 h2
    ·have hl:=(List.getElem?_eq_some_iff.1 h1).1
     simp only [List.length_append,List.length_singleton] at hl
     have e2:i=t.S.length:=by omega
     subst e2
     rw [List.getElem?_append_right (Nat.le_refl _)] at h1
     rw [hv.l,List.getElem?_append_right (Nat.le_refl _)] at h2
     simp only [Nat.sub_self,List.getElem?_cons_zero,Option.some.injEq] at h1 h2
     subst h1 h2
     exact hx
   ·have:=(List.getElem?_eq_some_iff.1 h1).1
    simp only
    rw [List.getElem?_append_left (by rw [← hv.l]; exact this)]
  | some k =>
   rw [hp] at h
   simp only at h
   have hk:=Jr hp
   cases ho:t.B[k]? with
   | none=>rw [ho] at h; cases h
   | some o =>
    rw [ho] at h
    simp only at h
    cases hgo:g o ⟨t.S,t.B,t.N++[x]⟩ with
    | none=>rw [hgo] at h; cases h
    | some tb =>
     obtain ⟨t1,b1⟩:=tb
     rw [hgo] at h
     obtain ⟨g1,g2⟩:=hg o ⟨t.S,t.B,t.N++[x]⟩ t1 b1 hv hgo
     cases b1 with
     | true =>
      simp only [Option.some.injEq,Prod.mk.injEq] at h
      obtain ⟨rfl,rfl⟩:=h
      have hy:=g1 rfl
      refine ⟨fun _=>?_,fun h=>by cases h⟩
      obtain ⟨y,hy1,hy2⟩:=hy.s
      simp only at hy1 hy2
      have hkB:t1.B[k]? = some o:=(hy.n k x hk (by simp)).trans ho
      have hlt:=(List.getElem?_eq_some_iff.1 hkB).1
      have hks:=(List.getElem?_eq_some_iff.1 hk).1
      refine ⟨⟨by simp [hy.v.l],fun i z p h1 h2=>?_⟩,?_,⟨y,hy1,hy2⟩,fun i z h1 h2=>?_⟩
      ·simp only at h1 h2
       rw [List.getElem?_set] at h2
       by_cases c1:k=i
       ·subst c1
        rw [if_pos rfl,if_pos hlt] at h2
        cases h2
        rw [hy1,List.getElem?_append_left hks,hk] at h1
        cases h1
        exact hx
       ·rw [if_neg c1] at h2
        exact hy.v.c i z p h1 h2
      ·simp only
       have e1:t1.B.Perm (o :: t1.B.eraseIdx k):=zMi hkB
       have e2:(t1.B.set k q).Perm (q :: t1.B.eraseIdx k):=set_perm hlt
       have e3:(t1.B.eraseIdx k).Perm t.B:=((e1.symm.trans hy.p).cons_inv)
       exact e2.trans (e3.cons q)
      ·simp only
       have hne:k≠i:=fun e' => by
        subst e'
        rw [hk] at h1
        cases h1
        exact e h2
       rw [List.getElem?_set,if_neg hne]
       exact hy.n i z h1 (List.mem_append_left _ h2)
     | false =>
      simp only at h
      have hn:=g2 rfl
      have hv1:KV c t1.S t1.B:=by rw [hn.s,hn.b]; exact hv
      obtain ⟨h1,h2⟩:=zJ9 hg q r hr' t1 t' b hv1 h
      have hxN:x∈t1.N:=hn.m x (List.mem_append_right _ (List.mem_singleton.2 rfl))
      have hsub:∀ z∈t.N,z∈t1.N:=fun z hz=>hn.m z (List.mem_append_left _ hz)
      refine ⟨fun hb=>?_,fun hb=>?_⟩
      ·have q1:=h1 hb
       refine ⟨q1.v,?_,?_,fun i z h3 h4=>?_⟩
       ·have:=q1.p; rw [hn.b] at this; exact this
       ·have:=q1.s; rw [hn.s] at this; exact this
       ·rw [q1.n i z (by rw [hn.s]; exact h3) (hsub z h4),hn.b]
      ·have q1:=h2 hb
       refine ⟨q1.s.trans hn.s,q1.b.trans hn.b,fun z hz=>q1.m z (hsub z hz),fun z hz=>?_,fun hd=>q1.d (hn.d ?_),fun z hz hz2=>?_⟩
       ·rcases List.mem_cons.1 hz with rfl | hz
        ·exact q1.m _ hxN
        ·exact q1.r z hz
       ·simp only
        rw [List.nodup_append]
        refine ⟨hd,by simp,fun a ha b hb=>?_⟩
        rw [List.mem_singleton] at hb
        subst hb
        exact fun e' => e (e'▸ha)
       ·by_cases c1:z∈t1.N
        ·by_cases c2:z=x
         ·subst c2
          exact ⟨k,o,hk,ho,fun y hy=>q1.m y (hn.r y hy)⟩
         ·obtain ⟨k',o',w1,w2,w3⟩:=hn.c z c1 (by simp only [List.mem_append,List.mem_singleton,not_or]; exact ⟨hz2,c2⟩)
          exact ⟨k',o',w1,w2,fun y hy=>q1.m y (w3 y hy)⟩
        ·obtain ⟨k',o',w1,w2,w3⟩:=q1.c z hz c1
         exact ⟨k',o',by rw [← hn.s]; exact w1,by rw [← hn.b]; exact w2,w3⟩
theorem zG7 {c:Nat→List α}:∀ (f:Nat) (q:Nat) (t t':KT α) (b:Bool),KV c t.S t.B→kS c f q t=some (t',b)→(b=true→KY c q t t')∧(b=false→KN c (c q) t t')
 | 0,q,t,t',b,hv,h=>by cases h
 | f+1,q,t,t',b,hv,h=>zJ9 (fun o t t' b hv h=>zG7 f o t t' b hv h) q (c q) (fun _ h=>h) t t' b hv h
def zDj (U N:List α):Nat:=(U.filter fun x=>decide (x∉N)).length
theorem zMU {U N N':List α} (h:∀ x∈N,x∈N'):zDj U N'≤zDj U N:=by
 unfold zDj
 induction U with
 | nil=>simp
 | cons a r ih =>
  rw [List.filter_cons,List.filter_cons]
  by_cases e:a∈N
  ·rw [if_neg (by simpa using h a e),if_neg (by simpa using e)]; exact ih
  ·by_cases e':a∈N'
   ·rw [if_neg (by simpa using e'),if_pos (by simpa using e),List.length_cons]; omega
   ·rw [if_pos (by simpa using e'),if_pos (by simpa using e),List.length_cons,List.length_cons]; omega
theorem rest_lt {x:α} {U N:List α} (hx:x∈U) (hn:x∉N):zDj U (N++[x])<zDj U N:=by
 unfold zDj
 induction U with
 | nil=>cases hx
 | cons a r ih =>
  rw [List.filter_cons,List.filter_cons]
  by_cases ea:a=x
  ·subst ea
   rw [if_neg (by simp),if_pos (by simpa using hn),List.length_cons]
   have:=zMU (U:=r) (N:=N) (N':=N++[a]) fun y hy=>List.mem_append_left _ hy
   unfold zDj at this
   omega
  ·have hxr:x∈r:=(List.mem_cons.1 hx).resolve_left fun e=>ea e.symm
   have:=ih hxr
   by_cases e:a∈N
   ·rw [if_neg (by simp [e]),if_neg (by simpa using e)]; exact this
   ·rw [if_pos (by simp [e,ea]),if_pos (by simpa using e),List.length_cons,List.length_cons]; omega
theorem zKA {c:Nat→List α} {U:List α} {g:Nat→KT α→Option (KT α×Bool)} {f:Nat} (hg:∀ o t t' b,KV c t.S t.B→g o t=some (t',b)→(b=true→KY c o t t')∧(b=false→KN c (c o) t t')) (hs:∀ o t,KV c t.S t.B→zDj U t.N<f→∃ r,g o t=some r) (q:Nat):∀ (r:List α),(∀ x∈r,x∈U)→∀ (t:KT α),KV c t.S t.B→zDj U t.N<f+1→∃ y,kL g q r t=some y
 | [],_,t,_,_=>⟨_,rfl⟩
 | x :: r,hr,t,hv,hf=>by
  have hr':∀ y∈r,y∈U:=fun y hy=>hr y (List.mem_cons_of_mem _ hy)
  unfold kL
  by_cases e:x∈t.N
  ·rw [if_pos e]; exact zKA hg hs q r hr' t hv hf
  rw [if_neg e]
  cases hp:posL x t.S with
  | none=>exact ⟨_,rfl⟩
  | some k =>
   have hk:=(List.getElem?_eq_some_iff.1 (Jr hp)).1
   have hkB:k<t.B.length:=by rw [← hv.l]; exact hk
   simp only
   rw [List.getElem?_eq_getElem hkB]
   simp only
   have hlt:=rest_lt (hr x List.mem_cons_self) e
   obtain ⟨⟨t1,b1⟩,h1⟩:=hs t.B[k] ⟨t.S,t.B,t.N++[x]⟩ hv (by simp only; omega)
   rw [h1]
   cases b1 with
   | true=>exact ⟨_,rfl⟩
   | false =>
    have hn:=(hg _ ⟨t.S,t.B,t.N++[x]⟩ t1 false hv h1).2 rfl
    refine zKA hg hs q r hr' t1 (by rw [hn.s,hn.b]; exact hv) ?_
    have:=zMU (U:=U) (N:=t.N) (N':=t1.N) fun y hy=>hn.m y (List.mem_append_left _ hy)
    omega
theorem zMc {c:Nat→List α} {U:List α} (hc:∀ p,∀ x∈c p,x∈U):∀ (f:Nat) (q:Nat) (t:KT α),KV c t.S t.B→zDj U t.N<f→∃ y,kS c f q t=some y
 | 0,q,t,hv,h=>absurd h (Nat.not_lt_zero _)
 | f+1,q,t,hv,h=>zKA (fun o t t' b hv h=>zG7 f o t t' b hv h) (fun o t hv h=>zMc hc f o t hv h) q (c q) (hc q) t hv h
structure KI (c:Nat→List α) (n:Nat) (S:List α) (B:List Nat):Prop where
 v:KV c S B
 sd:S.Nodup
 bd:B.Nodup
 bn:∀ p∈B,p<n
 m:∀ μ,MatA c n μ→(domA n μ).length≤S.length
end
section
variable {α:Type}
theorem KI.zero (c:Nat→List α):KI c 0 [] []:=⟨⟨rfl,fun i x p h=>by simp at h⟩,List.nodup_nil,List.nodup_nil,(fun p h=>by cases h),fun μ _=>by simp [domA]⟩
theorem KI.yes {c:Nat→List α} {n:Nat} {S:List α} {B:List Nat} (h:KI c n S B) {t':KT α} (hy:KY c n ⟨S,B,[]⟩ t'):KI c (n+1) t'.S t'.B∧t'.S.length=S.length+1:=by
 obtain ⟨y,h1,h2⟩:=hy.s
 simp only at h1 h2
 have hp:=hy.p
 simp only at hp
 have hlen:t'.S.length=S.length+1:=by rw [h1]; simp
 refine ⟨⟨hy.v,?_,?_,fun p hpm=>?_,fun μ hμ=>?_⟩,hlen⟩
 ·rw [h1,List.nodup_append]
  refine ⟨h.sd,by simp,fun a ha b hb=>?_⟩
  rw [List.mem_singleton] at hb
  subst hb
  exact fun e=>h2 (e▸ha)
 ·rw [hp.nodup_iff,List.nodup_cons]
  exact ⟨fun hm=>Nat.lt_irrefl _ (h.bn n hm),h.bd⟩
 ·rcases List.mem_cons.1 (hp.mem_iff.1 hpm) with rfl | hm
  ·omega
  ·have:=h.bn p hm; omega
 ·have:=h.m _ (cut_mat hμ)
  have:=cut_len (n:=n) (μ:=μ)
  omega
end
section
variable {α:Type} [DecidableEq α]
theorem KI.no {c:Nat→List α} {n:Nat} {S:List α} {B:List Nat} (h:KI c n S B) {t':KT α} (hn:KN c (c n) ⟨S,B,[]⟩ t'):KI c (n+1) S B:=by
 refine ⟨h.v,h.sd,h.bd,fun p hp=>by have:=h.bn p hp; omega,fun μ hμ=>?_⟩
 have hNd:t'.N.Nodup:=hn.d List.nodup_nil
 have hcl:=hn.c
 simp only [List.not_mem_nil,not_false_eq_true,forall_const] at hcl
 -- the owner of a slot
 let own:α→Nat:=fun x=>((posL x S).bind fun k=>B[k]?).getD 0
 have hown:∀ x∈t'.N,∃ k,posL x S=some k∧B[k]? = some (own x)∧∀ y∈c (own x),y∈t'.N:=by
  intro x hx
  obtain ⟨k,o,h1,h2,h3⟩:=hcl x hx
  cases hp:posL x S with
  | none=>exact absurd (List.mem_of_getElem? h1) (zCi hp)
  | some j =>
   have hj:=Jr hp
   have hlj:=(List.getElem?_eq_some_iff.1 hj).1
   have hjk:j=k:=zDx h.sd hj h1
   subst hjk
   have e:own x=o:=by simp only [own,hp,Option.bind_some,h2,Option.getD_some]
   rw [e]
   exact ⟨j,rfl,h2,h3⟩
 have hown_inj:∀ x∈t'.N,∀ y∈t'.N,own x=own y→x=y:=by
  intro x hx y hy e
  obtain ⟨k,h1,h2,_⟩:=hown x hx
  obtain ⟨j,h3,h4,_⟩:=hown y hy
  have hkj:k=j:=zDx h.bd h2 (e▸h4)
  subst hkj
  have:=Jr h1
  rw [Jr h3] at this
  exact (Option.some.inj this).symm
 let X:Nat→Prop:=fun r=>r=n∨∃ x∈t'.N,own x=r
 have hX:∀ r,X r→∀ y∈c r,y∈t'.N:=by
  rintro r (rfl | ⟨x,hx,rfl⟩) y hy
  ·exact hn.r y hy
  ·obtain ⟨_,_,_,h3⟩:=hown x hx; exact h3 y hy
 have hD:=zMA (n:=n+1) (μ:=μ)
 let inN:Nat→Bool:=fun r=>match μ r with
  | some x=>decide (x∈t'.N)
  | none=>false
 have split:(domA (n+1) μ).length=((domA (n+1) μ).filter inN).length+((domA (n+1) μ).filter fun r => !inN r).length:=by
  have:=zML inN (domA (n+1) μ)
  omega
 have h1:((domA (n+1) μ).filter inN).length≤t'.N.length:=by
  have hnd:(((domA (n+1) μ).filter inN).filterMap μ).Nodup:=by
   have:∀ l:List Nat,l.Nodup→(l.filterMap μ).Nodup:=by
    intro l
    induction l with
    | nil=>intro _; simp
    | cons a r ih =>
     intro hl
     rw [List.nodup_cons] at hl
     rw [List.filterMap_cons]
     cases hm:μ a with
     | none=>exact ih hl.2
     | some x =>
      simp only
      rw [List.nodup_cons]
      refine ⟨fun hx=>?_,ih hl.2⟩
      obtain ⟨b,hb,hb2⟩:=List.mem_filterMap.1 hx
      exact hl.1 (hμ.i a b x hm hb2▸hb)
   exact this _ (List.Nodup.sublist List.filter_sublist hD)
  have hle:=JB hnd (r:=t'.N) fun x hx=>by
   obtain ⟨r,hr,hr2⟩:=List.mem_filterMap.1 hx
   have:=(List.mem_filter.1 hr).2
   simp only [inN,hr2,decide_eq_true_eq] at this
   exact this
  have hlen:(((domA (n+1) μ).filter inN).filterMap μ).length=((domA (n+1) μ).filter inN).length:=by
   have:∀ l:List Nat,(∀ r∈l,(μ r).isSome=true)→(l.filterMap μ).length=l.length:=by
    intro l
    induction l with
    | nil=>intro _; rfl
    | cons a r ih =>
     intro hl
     have ha:=hl a List.mem_cons_self
     rw [Option.isSome_iff_exists] at ha
     obtain ⟨x,hx⟩:=ha
     rw [List.filterMap_cons,hx]
     simp only [List.length_cons]
     rw [ih fun b hb=>hl b (List.mem_cons_of_mem _ hb)]
   exact this _ fun r hr=>by
    obtain ⟨_,x,hx⟩:=zCo.1 (List.mem_filter.1 hr).1
    rw [hx]; rfl
  omega
 -- the ships that are not in X keep their slots, the others have theirs
 let ν:Nat→Option α:=fun r=>match t'.N.find? fun x=>decide (own x=r) with
  | some x=>some x
  | none=>if inN r=true∨n≤r then none else μ r
 have hfind:∀ r x,t'.N.find? (fun x=>decide (own x=r))=some x→x∈t'.N∧own x=r:=fun r x h=>⟨List.mem_of_find?_eq_some h,by simpa using List.find?_some h⟩
 have hν:∀ r x,ν r=some x→(x∈t'.N∧own x=r)∨(x∉t'.N∧μ r=some x∧r<n):=by
  intro r x e
  simp only [ν] at e
  split at e
  ·rename_i y hy
   cases e
   exact .inl (hfind r _ hy)
  ·split at e
   ·cases e
   ·rename_i hc
    rw [not_or] at hc
    refine .inr ⟨fun hx=>hc.1 ?_,e,by omega⟩
    simp only [inN,e,decide_eq_true_eq]
    exact hx
 have hmat:MatA c n ν:=by
  refine ⟨fun r x e=>?_,fun r q x e1 e2=>?_⟩
  ·rcases hν r x e with ⟨a1,rfl⟩ | ⟨a1,a2,a3⟩
   ·obtain ⟨k,w1,w2,_⟩:=hown x a1
    exact ⟨h.bn _ (List.mem_of_getElem? w2),h.v.c k x _ (Jr w1) w2⟩
   ·exact ⟨a3,(hμ.c r x a2).2⟩
  ·rcases hν r x e1 with ⟨a1,rfl⟩ | ⟨a1,a2,a3⟩ <;> rcases hν q x e2 with ⟨c1,c2⟩ | ⟨c1,c2,c3⟩
   ·exact c2
   ·exact absurd a1 c1
   ·exact absurd c1 a1
   ·exact hμ.i r q x a2 c2
 have hlow:=h.m ν hmat
 have h2:t'.N.length+((domA (n+1) μ).filter fun r => !inN r).length≤(domA n ν).length:=by
  have hnd:((t'.N.map own)++(domA (n+1) μ).filter fun r => !inN r).Nodup:=by
   rw [List.nodup_append]
   refine ⟨?_,List.Nodup.sublist List.filter_sublist hD,fun a ha b hb e=>?_⟩
   ·have:∀ l:List α,l.Nodup→(∀ x∈l,x∈t'.N)→(l.map own).Nodup:=by
     intro l
     induction l with
     | nil=>intro _ _; simp
     | cons a r ih =>
      intro hl hs
      rw [List.nodup_cons] at hl
      rw [List.map_cons,List.nodup_cons]
      refine ⟨fun hm=>?_,ih hl.2 fun x hx=>hs x (List.mem_cons_of_mem _ hx)⟩
      obtain ⟨b,hb,hb2⟩:=List.mem_map.1 hm
      exact hl.1 (hown_inj b (hs b (List.mem_cons_of_mem _ hb)) a (hs a List.mem_cons_self) hb2▸hb)
    exact this _ hNd fun _ h=>h
   ·subst e
    obtain ⟨x,hx,rfl⟩:=List.mem_map.1 ha
    obtain ⟨hb1,hb2⟩:=List.mem_filter.1 hb
    obtain ⟨_,y,hy⟩:=zCo.1 hb1
    have:=hX (own x) (.inr ⟨x,hx,rfl⟩) y (hμ.c _ y hy).2
    simp [inN,hy,this] at hb2
  have:=JB hnd (r:=domA n ν) fun r hr=>by
   rcases List.mem_append.1 hr with hr | hr
   ·obtain ⟨x,hx,rfl⟩:=List.mem_map.1 hr
    have hs:∃ y,ν (own x)=some y:=by
     cases hf:t'.N.find? (fun y=>decide (own y=own x)) with
     | some y=>exact ⟨y,by simp only [ν,hf]⟩
     | none=>exact absurd (List.find?_eq_none.1 hf x hx) (by simp)
    obtain ⟨y,hy⟩:=hs
    exact zCo.2 ⟨(hmat.c _ y hy).1,y,hy⟩
   ·obtain ⟨hb1,hb2⟩:=List.mem_filter.1 hr
    obtain ⟨hr1,y,hy⟩:=zCo.1 hb1
    have hyn:y∉t'.N:=by simpa [inN,hy] using hb2
    have hrn:r<n:=by
     rcases Nat.lt_or_ge r n with c1 | c1
     ·exact c1
     ·have:r=n:=by omega
      subst this
      exact absurd (hX r (.inl rfl) y (hμ.c _ y hy).2) hyn
    have hs:ν r=some y:=by
     cases hf:t'.N.find? (fun x=>decide (own x=r)) with
     | some x =>
      obtain ⟨w1,w2⟩:=hfind r x hf
      exact absurd (hX r (.inr ⟨x,w1,w2⟩) y (hμ.c _ y hy).2) hyn
     | none =>
      simp only [ν,hf]
      have hni:inN r=false:=by simpa using hb2
      rw [if_neg (by rw [hni]; simp; omega),hy]
    exact zCo.2 ⟨hrn,y,hs⟩
  rw [List.length_append,List.length_map] at this
  exact this
 omega
end
end Go.Mx
