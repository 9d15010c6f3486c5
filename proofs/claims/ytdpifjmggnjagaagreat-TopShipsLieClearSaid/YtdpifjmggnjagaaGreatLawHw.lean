/- Part of the proof of TopShipsLieClear: plain laws about the functions of M, no program in sight. Conditions: none. -/
import Derived.Test.YtdpifjmggnjagaaGreatLawHu
set_option linter.unusedVariables false
set_option linter.unusedSimpArgs false
namespace Go.Mh
open Go.Mx
theorem zF9 {α:Type} [DecidableEq α]:∀ (l m:List α),l.Nodup→(∀ x∈l,x∈m)→l.length≤m.length
 | [],m,_,_=>by simp
 | x :: r,m,hn,hs=>by
  rw [List.nodup_cons] at hn
  have hx:=hs x bp
  have h1:=zF9 r (m.erase x) hn.2 fun y hy=>(List.mem_erase_of_ne (fun e=>by subst e; exact hn.1 hy)).2 (hs y (bq _ hy))
  have h2:=List.length_erase_of_mem hx
  have h3:=List.length_pos_of_mem hx
  simp only [bt]; omega
def allL : List Int→List (List Int)
 | []=>[[]]
 | e :: es=>(List.range (e+1).toNat).flatMap fun (k:Nat)=>(allL es).map fun r=>(k:Int) :: r
def zAA : List Int→Nat
 | []=>1
 | e :: es=>(e+1).toNat*zAA es
theorem zNX {α β:Type} (f:α→List β) (c:Nat) (hf:∀ x,(f x).length=c):∀ l:List α,(l.flatMap f).length=l.length*c
 | []=>by simp
 | x :: r=>by rw [List.flatMap_cons,List.length_append,hf,zNX f c hf r,bt,Nat.add_mul]; omega
theorem zN0 : ∀ e:List Int,(allL e).length=zAA e
 | []=>rfl
 | e :: es=>by
  unfold allL zAA
  rw [zNX _ (zAA es) (fun k=>by rw [List.length_map,zN0 es]),List.length_range]
theorem zNz : ∀ (e d:List Int),d.length=e.length→(∀ i,i<e.length→0≤gI d i∧gI d i≤gI e i)→d∈allL e
 | [],[],_,_=>by simp [allL]
 | [],_ :: _,h,_=>by simp at h
 | _ :: _,[],h,_=>by simp at h
 | e :: es,d :: ds,h,hh=>by
  have h0:0≤d∧d≤e:=hh 0 (by simp)
  have ih:=zNz es ds (by simpa using h) fun i hi=>hh (i+1) (by simpa using hi)
  unfold allL
  rw [List.mem_flatMap]
  refine ⟨d.toNat,by rw [cd]; omega,?_⟩
  rw [List.mem_map]
  exact ⟨ds,ih,by rw [Int.toNat_of_nonneg h0.1]⟩
theorem count_le {en:zA} (l:List zA) (hn:l.Nodup) (hv:∀ d∈l,Val en d):l.length≤zAA en.toL:=by
 have h1:=zF9 (l.map zA.toL) (allL en.toL) (List.pairwise_map.2 (List.Pairwise.imp (fun {a b} hab e=>hab (zKG fun i _=>by unfold gD; rw [e])) hn)) fun x hx=>by
  obtain ⟨d,hd,rfl⟩:=List.mem_map.1 hx
  exact zNz en.toL d.toL rfl fun i hi=>hv d hd i hi
 rw [List.length_map,zN0] at h1
 exact h1
theorem zBo {α β:Type} [DecidableEq α] (k k':α) (v:β):∀ m:List (α×β),za k' m≠none→za k' (m++[(k,v)])=za k' m
 | [],h=>absurd rfl h
 | p :: r,h=>by
  simp only [List.cons_append,za] at h ⊢
  by_cases e:k'=p.1
  ·simp [e]
  ·rw [bg e] at h ⊢
   rw [bg e]
   exact zBo k k' v r h
theorem lookM_snoc' {α β:Type} [DecidableEq α] (k k':α) (v:β):∀ m:List (α×β),za k' m=none→za k' (m++[(k,v)])=if k'=k then some v else none
 | [],h=>rfl
 | p :: r,h=>by
  simp only [List.cons_append,za] at h ⊢
  by_cases e:k'=p.1
  ·simp [e] at h
  ·rw [bg e] at h ⊢
   exact lookM_snoc' k k' v r h
theorem zFV {α:Type}:∀ (l:List α) (x:α),insL l l.length x=l++[x]
 | [],x=>rfl
 | y :: r,x=>by simp only [bt,insL,zFV r x,List.cons_append]
theorem zJP {α β:Type} [DecidableEq α] (m:List (α×β)) (k:α) (v:β) (h:za k m=none):putM posE m k v=m++[(k,v)]:=by
 have hf:=zAp (k:=k) (l:=m)
 unfold putM
 cases hc:zBj k m with
 | some i=>rw [hc] at hf; obtain ⟨w,_,h2⟩:=hf; rw [h] at h2; cases h2
 | none =>
  simp only [posE,List.length_map]
  exact zFV m _
theorem zCs {α β:Type} [DecidableEq α] {k:α}:∀ {m:List (α×β)},k∈m.map (·.1)→za k m≠none
 | [],h=>by simp at h
 | p :: r,h=>by
  simp only [za]
  by_cases e:k=p.1
  ·simp [e]
  ·rw [bg e]
   simp only [bw,List.mem_cons] at h
   exact zCs (h.resolve_left e)
theorem zQb (l:List ZH) (hl:l.length≤1000):jW l=some (l.reverse,0):=by
 unfold jW
 rw [Zm (by omega)]
 suffices h:∃ r,Lp (Jz l) fuel (0,(l.length:Int) - 1,l)=some r∧r=(l.reverse,0) by obtain ⟨r,h,rfl⟩:=h; exact h
 refine lp_inv' (fun t (s:Int×Int×List ZH)=>s.1=(t:Int)∧s.2.1=(l.length:Int) - 1 - (t:Int)∧s.2.2.length=l.length∧∀ k,k<l.length→s.2.2[k]? = if k<t∨l.length<k+1+t then l[l.length - 1 - k]? else l[k]?) _ l.length (by omega) ⟨rfl,by simp only; omega,rfl,fun k hk=>by simp only; rw [bg (by omega)]⟩ fun t s ht hI=>?_
 obtain ⟨i,j,l2⟩:=s
 obtain ⟨e1,e2,e3,e4⟩:=hI
 simp only at e1 e2 e3 e4
 subst e1 e2
 unfold Jz
 simp only
 by_cases hc:(t:Int)<(l.length:Int) - 1 - (t:Int)
 ·left
  have hj:((l.length:Int) - 1 - (t:Int))=((l.length - 1 - t:Nat):Int):=by omega
  have h1:t<l2.length:=by omega
  have h2:l.length - 1 - t<l2.length:=by omega
  have q1:=e4 t (by omega)
  have q2:=e4 (l.length - 1 - t) (by omega)
  rw [bg (by omega)] at q1 q2
  rw [List.getElem?_eq_getElem h1,List.getElem?_eq_getElem (show t<l.length by omega),Option.some.injEq] at q1
  rw [List.getElem?_eq_getElem h2,List.getElem?_eq_getElem (show l.length - 1 - t<l.length by omega),Option.some.injEq] at q2
  rw [bi (by simpa using hc),hj,ZY h2,ba,ZY h1,ba,ba,jh]
  have h3:l.length - 1 - t<(l2.set t l2[l.length - 1 - t]).length:=by simpa using h2
  rw [ZY h3,ba,jh,w64s t (by omega),Zm (by omega)]
  refine ⟨by omega,_,rfl,rfl,by simp only; omega,by simp [e3],fun k hk=>?_⟩
  simp only [List.getElem?_set,List.length_set]
  by_cases c1:l.length - 1 - t=k
  ·rw [bi c1,bi (by omega),bi (by omega),q1,show l.length - 1 - k=t by omega,List.getElem?_eq_getElem]
  ·rw [bg c1]
   by_cases c2:t=k
   ·rw [bi c2,bi (by omega),bi (by omega),q2,← c2,List.getElem?_eq_getElem]
   ·rw [bg c2,e4 k hk]
    by_cases c3:k<t∨l.length<k+1+t
    ·rw [bi c3,bi (by omega)]
    ·rw [bg c3,bg (by omega)]
 ·right
  rw [bg (by simpa using hc)]
  have hr:l2=l.reverse:=List.ext_getElem? fun k=>by
   by_cases hk:k<l.length
   ·rw [e4 k hk,List.getElem?_reverse hk]
    split
    ·rfl
    ·rw [show l.length - 1 - k=k by omega]
   ·rw [List.getElem?_eq_none (by omega),List.getElem?_eq_none (by simp; omega)]
  unfold zGz
  rw [bi e3.symm,ba,hr]
  exact ⟨_,rfl,rfl⟩
inductive Reach (u:zR) (en:zA):zA→Prop
 | zero:Reach u en yl
 | step {d:zA} {k:Nat}:Reach u en d→k<u.from_.length→gD d k<gD en k→Jj u.ship (bhL u (incD d k))=true→Reach u en (incD d k)
structure Ents (u:zR) (en:zA) (m:List (zA×Int)):Prop where
 zero:za yl m=some (-1)
 keys:∀ d v,za d m=some v→(d=yl∧v = -1)∨∃ k:Nat,k<u.from_.length∧v=(k:Int)∧Val en d∧1≤gD d k∧Jj u.ship (bhL u d)=true∧za (decD d k) m≠none
 nodup:(m.map (·.1)).Nodup
theorem Ents.val {u:zR} {en:zA} (he:End u en) {m:List (zA×Int)} (h:Ents u en m) {d:zA} (hd:za d m≠none):Val en d:=by
 cases hc:za d m with
 | none=>exact absurd hc hd
 | some v =>
  rcases h.keys d v hc with ⟨rfl,_⟩ | ⟨k,_,_,hv,_⟩
  ·exact Val.zero he
  ·exact hv
theorem Ents.count {u:zR} {en:zA} (he:End u en) {m:List (zA×Int)} (h:Ents u en m):m.length≤zAA en.toL:=by
 have:=count_le (en:=en) (m.map (·.1)) h.nodup fun d hd=>h.val he (zCs hd)
 rwa [List.length_map] at this
theorem Ents.put {u:zR} {en:zA} (he:End u en) {m:List (zA×Int)} (h:Ents u en m) {d:zA} {k:Nat} (hk:k<u.from_.length) (hn:u.from_.length≤8) (hd:za d m≠none) (hnew:za (incD d k) m=none) (hlt:gD d k<gD en k) (hst:Jj u.ship (bhL u (incD d k))=true):Ents u en (m++[(incD d k,(k:Int))]):=by
 have hv:=h.val he hd
 refine ⟨by rw [zBo _ _ _ _ (by rw [h.zero]; simp)]; exact h.zero,fun e v hev=>?_,?_⟩
 ·by_cases hold:za e m=none
  ·rw [lookM_snoc' _ _ _ _ hold] at hev
   split at hev
   ·rename_i e1
    subst e1
    cases hev
    refine .inr ⟨k,hk,rfl,hv.inc (by omega) hlt,?_,hst,?_⟩
    ·rw [zFY d k (by omega),bi rfl]; have:=hv k (by omega); omega
    ·have e2:decD (incD d k) k=d:=zKG fun i _=>by
      rw [zMS _ k (by omega),zFY d k (by omega),zFY d k (by omega),bi rfl]
      split
      ·rename_i e; subst e; omega
      ·rfl
     rw [e2,zBo _ _ _ _ hd]; exact hd
   ·cases hev
  ·rw [zBo _ _ _ _ hold] at hev
   rcases h.keys e v hev with q | ⟨j,j1,j2,j3,j4,j5,j6⟩
   ·exact .inl q
   ·exact .inr ⟨j,j1,j2,j3,j4,j5,by rw [zBo _ _ _ _ j6]; exact j6⟩
 ·rw [List.map_append,List.nodup_append]
  refine ⟨h.nodup,by simp,fun a ha b hb hab=>?_⟩
  simp only [bw,List.map_nil,cb] at hb
  subst hb; subst hab
  exact zCs ha hnew
theorem zMp {u:zR} {en:zA} (hu:Unl u) (he:End u en) (hsum:sumD en≤60) {m:List (zA×Int)} (h:Ents u en m) (hen:za en m≠none):∃ l,Zq u en m=some (l,0)∧Trail u en yl l:=by
 have hn:=hu.n
 have hsm:∀ d,Val en d→0≤sumD d:=fun d hd=>by
  unfold sumD
  have:∀ l:List Int,(∀ i,i<l.length→0≤gI l i)→0≤l.sum:=by
   intro l
   induction l with
   | nil=>intro _; simp
   | cons a r ih =>
    intro hh
    have h0:0≤a:=hh 0 (by simp)
    have:=ih fun i hi=>hh (i+1) (by simpa using hi)
    simp only [List.sum_cons]; omega
  exact this _ fun i hi=>(hd i (by rw [qX] at hi; exact hi)).1
 unfold Zq
 rw [bg (by cases hc:za en m with
  | none=>exact absurd hc hen
  | some v=>simp)]
 suffices hh:∃ r,Lp (Jy u m) fuel ([],en)=some r∧∃ l,r=(l,0)∧Trail u en yl l by
  obtain ⟨r,q1,l,rfl,q2⟩:=hh; exact ⟨l,q1,q2⟩
 refine lp_inv' (fun i (s:List ZH×zA)=>s.1.length=i∧za s.2 m≠none∧sumD s.2+(i:Int)=sumD en∧Trail u en s.2 s.1.reverse) _ 60 (by omega) ⟨rfl,hen,by simp,rfl⟩ fun i s hi hI=>?_
 obtain ⟨l4,at_⟩:=s
 obtain ⟨e1,e2,e3,e4⟩:=hI
 simp only at e1 e2 e3 e4
 have hv:=h.val he e2
 unfold Jy
 simp only
 cases hc:za at_ m with
 | none=>exact absurd hc e2
 | some v =>
  simp only [Option.getD_some]
  rcases h.keys at_ v hc with ⟨rfl,rfl⟩ | ⟨k,k1,rfl,k3,k4,k5,k6⟩
  ·right
   rw [bg (by decide),zQb l4 (by omega)]
   exact ⟨_,rfl,_,rfl,e4⟩
  ·left
   have hk8:k<8:=by omega
   have hdv:Val en (decD at_ k):=h.val he k6
   have hb:=zMS at_ k hk8
   have hbk:k<at_.toL.length:=by rw [qX]; exact hk8
   have hid:incD (decD at_ k) k=at_:=inc_dec at_ k hk8
   have hlt:gD (decD at_ k) k<gD en k:=by rw [hb k,bi rfl]; have:=k3 k hk8; omega
   have hset:zA.set at_ (k:Int) (w64 (gD at_ k - 1))=decD at_ k:=by
    unfold decD
    rw [Zm (by have:=k3 k hk8; have:=he.c k hk8; omega)]
   have hms:=zLF hu he hdv k1 hlt
   rw [hid] at hms
   have b1:=zEk hu (hdv.small he) k k1
   have b2:=zEk hu (k3.small he) k k1
   have hr:=hu.rng k k1
   have hs0:=hsm _ hdv
   have hs1:=zMt (decD at_ k) k hk8
   rw [hid] at hs1
   rw [bi (by rw [bj]; omega),jU hbk,show gI at_.toL k=gD at_ k from rfl,ba,ba,hset,zFX hu (hdv.small he),ba,jU (by rw [qw]; exact k1),zDw u _ k k1,ba,zFX hu (k3.small he),ba,jU (by rw [qw]; exact k1),zDw u _ k k1,ba,Js (by simp; omega),ba,Zm (by omega)]
   refine ⟨by omega,_,rfl,by simp [e1],k6,by simp only; omega,?_⟩
   simp only [List.reverse_append,List.reverse_cons,List.reverse_nil,List.nil_append,List.cons_append]
   exact ⟨k,k1,rfl,hlt,by rw [hid],by rw [hid]; exact k5,by rw [hid]; exact e4⟩
def Nbr (u:zR) (en:zA) (m:List (zA×Int)) (d:zA) (n:Nat):Prop := ∀ j,j<n→gD d j<gD en j→Jj u.ship (bhL u (incD d j))=true→za (incD d j) m≠none
structure Sea (u:zR) (en:zA) (m:List (zA×Int)) (q:List zA) (ex:zA→Prop):Prop where
 ents:Ents u en m
 qk:∀ d∈q,za d m≠none
 nbr:∀ d,za d m≠none→d∉q→¬ ex d→Nbr u en m d u.from_.length
 noend:en=yl∨za en m=none
theorem zFt {m:List (zA×Int)} {k:zA} {v:Int} {d:zA} (h:za d m≠none):za d (m++[(k,v)])≠none:=by rw [zBo _ _ _ _ h]; exact h
def Found (u:zR) (en:zA) (r:List ZH×Int):Prop:=(r.2=0∧Trail u en yl r.1)∨(r=([],5)∧¬ Reach u en en)
theorem zPj {u:zR} {en:zA} (hu:Unl u) (he:End u en) (hsum:sumD en≤60) (hN:zAA en.toL≤2000) {x:zA} {P:Nat} {a:Int} {m:List (zA×Int)} {l:List zA} (h:Sea u en m (l.drop a.toNat) (fun d=>d=x)) (hx:za x m≠none) (ha:0≤a∧a≤(P:Int)) (hal:a.toNat≤l.length) (hc:m.length=P+(l.drop a.toNat).length) :
  ∃ r,Lp (Jw u en x) fuel (a,0,m,l)=some r∧((∃ a' m' l',r = .inl (a',m',l')∧Sea u en m' (l'.drop a'.toNat) (fun _=>False)∧(0≤a'∧a'≤(P:Int))∧a'.toNat≤l'.length∧m'.length=P+(l'.drop a'.toNat).length)∨∃ y,r = .inr y∧Found u en y):=by
 have hn:=hu.n
 have hs:=GoodS.of hu.chk
 refine lp_inv' (fun k (s:Int×Int×List (zA×Int)×List zA)=>s.2.1=(k:Int)∧Sea u en s.2.2.1 (s.2.2.2.drop s.1.toNat) (fun d=>d=x)∧za x s.2.2.1≠none∧Nbr u en s.2.2.1 x k∧(0≤s.1∧s.1≤(P:Int))∧s.1.toNat≤s.2.2.2.length∧s.2.2.1.length=P+(s.2.2.2.drop s.1.toNat).length) _ u.from_.length (by omega) ⟨rfl,h,hx,fun j hj=>by omega,ha,hal,hc⟩ fun k s hk hI=>?_
 obtain ⟨a,k0,m,l⟩:=s
 obtain ⟨e0,h,hx,hnb,ha,hal,hc⟩:=hI
 simp only at e0 h hx hnb ha hal hc
 subst e0
 have hxv:=h.ents.val he hx
 have hcount:=h.ents.count he
 unfold Jw
 simp only
 by_cases hkn:k<u.from_.length
 ·have hk8:k<8:=by omega
  have hkx:k<x.toL.length:=by rw [qX]; exact hk8
  have hxk:=hxv k hk8
  have hek:=he.c k hk8
  have hset:zA.set x (k:Int) (w64 (gD x k+1))=incD x k:=by unfold incD; rw [Zm (by omega)]
  have hg1:=zFY x k hk8 k
  rw [bi rfl] at hg1
  rw [bi (by simpa using hkn),jU hkx,show gI x.toL k=gD x k from rfl,ba,ba,hset,jU (show k<(incD x k).toL.length by rw [qX]; exact hk8),show gI (incD x k).toL k=gD (incD x k) k from rfl,hg1,jU (show k<en.toL.length by rw [qX]; exact hk8),show gI en.toL k=gD en k from rfl]
  have j8:∀ a m l,jI (k:Int) a m l=some (.inl (a,((k+1:Nat):Int),m,l)):=fun a m l=>by unfold jI; rw [w64s k (by omega)]
  by_cases hmet:za (incD x k) m=none
  ·have e1:(za (incD x k) m).isSome=false:=by rw [hmet]; rfl
   rw [e1]
   simp only [Bool.not_false,gb,if_true,ba,Bool.false_or]
   by_cases hlt:gD x k<gD en k
   ·have e2:decide (gD en k<gD x k+1)=false:=by rw [decide_eq_false_iff_not]; omega
    have hv2:=hxv.inc hk8 hlt
    rw [e2]
    simp only [Bool.not_false,if_true,Bool.false_or]
    rw [zFX hu (hv2.small he),ba,zEe hs (zOq hu (hv2.small he)),ba]
    by_cases hst:Jj u.ship (bhL u (incD x k))=true
    ·rw [bg (by simp [hst])]
     have hput:putM posE m (incD x k) (k:Int)=m++[(incD x k,(k:Int))]:=zJP m _ _ hmet
     have hents:=h.ents.put he hkn hn hx hmet hlt hst
     by_cases hend:incD x k=en
     ·right
      rw [bi (by simpa using hend),hput]
      obtain ⟨dr,q1,q2⟩:=zMp hu he hsum hents (by rw [← hend,lookM_snoc' _ _ _ _ hmet,bi rfl]; simp)
      rw [q1]
      exact ⟨_,rfl,.inr ⟨_,rfl,.inl ⟨rfl,q2⟩⟩⟩
     ·left
      have hlen:l.length≤4000:=by
       rw [List.length_drop] at hc; omega
      have hq:qapp l a [incD x k]=some (l.drop a.toNat++[incD x k]):=by unfold qapp; rw [bi ⟨hal,by simp; omega⟩]
      rw [bg (by simpa using hend),hq,ba,hput,j8]
      refine ⟨hkn,_,rfl,rfl,⟨hents,fun d hd=>?_,fun d hd hdq hex=>?_,?_⟩,zFt hx,fun j hj hjl hjs=>?_,by simp only; omega,by simp,?_⟩
      ·simp only [Int.toNat_zero,List.drop_zero] at hd
       rcases List.mem_append.1 hd with hd | hd
       ·exact zFt (h.qk d hd)
       ·rw [cb] at hd
        subst hd
        rw [lookM_snoc' _ _ _ _ hmet,bi rfl]; simp
      ·simp only [Int.toNat_zero,List.drop_zero,List.mem_append,cb,not_or] at hdq
       have hold:za d m≠none:=fun hno=>by
        simp only at hd
        rw [lookM_snoc' _ _ _ _ hno,bg hdq.2] at hd
        exact hd rfl
       have:=h.nbr d hold hdq.1 hex
       exact fun j hj h1 h2=>zFt (this j hj h1 h2)
      ·rcases h.noend with hz | hz
       ·exact .inl hz
       ·refine .inr ?_
        simp only
        rw [lookM_snoc' _ _ _ _ hz,bg (fun e=>hend e.symm)]
      ·by_cases e:j=k
       ·subst e
        simp only
        rw [lookM_snoc' _ _ _ _ hmet,bi rfl]; simp
       ·exact zFt (hnb j (by omega) hjl hjs)
      ·simp only [Int.toNat_zero,List.drop_zero,List.length_append,List.length_singleton]
       omega
    ·left
     rw [bi (by simpa using hst),j8]
     refine ⟨hkn,_,rfl,rfl,h,hx,fun j hj hjl hjs=>?_,ha,hal,hc⟩
     by_cases e:j=k
     ·subst e; exact absurd hjs hst
     ·exact hnb j (by omega) hjl hjs
   ·left
    have e2:decide (gD en k<gD x k+1)=true:=by rw [bj]; omega
    rw [e2]
    simp only [Bool.not_true,Bool.false_eq_true,if_false,ba,Bool.true_or,if_true]
    rw [j8]
    refine ⟨hkn,_,rfl,rfl,h,hx,fun j hj hjl hjs=>?_,ha,hal,hc⟩
    by_cases e:j=k
    ·subst e; exact absurd hjl hlt
    ·exact hnb j (by omega) hjl hjs
  ·left
   have e1:(za (incD x k) m).isSome=true:=by
    cases hcc:za (incD x k) m with
    | none=>exact absurd hcc hmet
    | some v=>rfl
   rw [e1]
   simp only [Bool.not_true,gb,Bool.false_eq_true,if_false,ba,Bool.true_or,if_true]
   rw [j8]
   refine ⟨hkn,_,rfl,rfl,h,hx,fun j hj hjl hjs=>?_,ha,hal,hc⟩
   by_cases e:j=k
   ·subst e; exact hmet
   ·exact hnb j (by omega) hjl hjs
 ·right
  have e:k=u.from_.length:=by omega
  subst e
  rw [bg (by simp)]
  refine ⟨_,rfl,.inl ⟨a,m,l,rfl,⟨h.ents,h.qk,fun d hd hdq _=>?_,h.noend⟩,ha,hal,hc⟩⟩
  by_cases e:d=x
  ·subst e; exact hnb
  ·exact h.nbr d hd hdq e
theorem zMy {u:zR} {en:zA} (hu:Unl u) (he:End u en) (hsum:sumD en≤60) (hN:zAA en.toL≤2000):∃ r,JH u en=some r∧Found u en r:=by
 have hn:=hu.n
 have hp0:putM posE ([]:List (zA×Int)) (⟨0,0,0,0,0,0,0,0⟩:zA) (-1)=[(yl,-1)]:=rfl
 unfold JH
 rw [hp0]
 have hE0:Ents u en [(yl,-1)]:=by
  refine ⟨by simp [za],fun d v hdv=>?_,by simp⟩
  simp only [za] at hdv
  split at hdv
  ·rename_i e; cases hdv; exact .inl ⟨e,rfl⟩
  ·cases hdv
 refine lp_inv' (fun i (s:Int×List (zA×Int)×List zA)=>Sea u en s.2.1 (s.2.2.drop s.1.toNat) (fun _=>False)∧(0≤s.1∧s.1≤(i:Int))∧s.1.toNat≤s.2.2.length∧s.2.1.length=i+(s.2.2.drop s.1.toNat).length) _ 2000 (by omega) ⟨⟨hE0,fun d hd=>?_,fun d hd hdq _=>?_,?_⟩,by simp only; omega,by simp,by simp⟩ fun i s hi hI=>?_
 ·have hd':d∈[yl]:=hd
  rw [cb] at hd'
  subst hd'
  simp [za]
 ·exfalso
  simp only at hd
  have hz:d=yl:=by
   rcases Classical.em (d=yl) with e | e
   ·exact e
   ·exact absurd (by simp [za,e]) hd
  subst hz
  exact hdq (by show yl∈[yl]; simp)
 ·by_cases e:en=yl
  ·exact .inl e
  ·exact .inr (by simp [za,e])
 ·obtain ⟨a,m,l⟩:=s
  obtain ⟨h,ha,hal,hc⟩:=hI
  simp only at h ha hal hc
  have hcount:=h.ents.count he
  unfold Yc
  simp only
  by_cases hq:0<(l.drop a.toNat).length
  ·have hq2:a.toNat<l.length:=by rw [List.length_drop] at hq; omega
   have hix:ix (l.drop a.toNat) 0=some (l[a.toNat]):=by
    have:=ZY (l:=l.drop a.toNat) (i:=0) hq
    simpa using this
   have hsl:qsl l a 1=some ((a.toNat:Int)+1):=by unfold qsl; rw [bi ⟨by omega,by simp; omega⟩]
   have ea:(a.toNat:Int)+1=a+1:=by omega
   have hd:=List.drop_eq_getElem_cons hq2
   have hxm:za l[a.toNat] m≠none:=h.qk _ (by rw [hd]; exact bp)
   have ha1:(a+1).toNat=a.toNat+1:=by omega
   rw [bi (by rw [bj]; omega),hix,ba,hsl,ba,ea]
   have h2:Sea u en m (l.drop (a+1).toNat) (fun d=>d=l[a.toNat]):=by
    rw [ha1]
    refine ⟨h.ents,fun d hdm=>h.qk d (by rw [hd]; exact bq _ hdm),fun d hdm hdq hex=>h.nbr d hdm ?_ (fun hf=>hf),h.noend⟩
    rw [hd,List.mem_cons,not_or]
    exact ⟨hex,hdq⟩
   obtain ⟨r,q1,q2⟩:=zPj hu he hsum hN (P:=i+1) h2 hxm (by omega) (by omega) (by rw [hc,hd,ha1,bt]; omega)
   rw [q1]
   rcases q2 with ⟨a',m',l',rfl,s1,s2,s3,s4⟩ | ⟨y,rfl,hy⟩
   ·exact .inl ⟨by omega,_,rfl,s1,s2,s3,s4⟩
   ·exact .inr ⟨y,rfl,hy⟩
  ·right
   have hemp:l.drop a.toNat=[]:=List.length_eq_zero_iff.1 (by omega)
   rw [bg (by rw [bj]; omega)]
   rw [hemp] at h
   have hall:∀ d,Reach u en d→za d m≠none:=fun d hd=>by
    induction hd with
    | zero=>rw [h.ents.zero]; simp
    | step hr hk hl hst ih=>exact h.nbr _ ih (by simp) (fun hf=>hf) _ hk hl hst
   rcases h.noend with hz | hz
   ·obtain ⟨dr,q1,q2⟩:=zMp hu he hsum h.ents (by rw [hz,h.ents.zero]; simp)
    rw [q1]
    exact ⟨_,rfl,.inl ⟨rfl,q2⟩⟩
   ·have:Zq u en m=some ([],5):=by
     unfold Zq
     rw [bi (by rw [hz]; rfl)]
    rw [this]
    exact ⟨_,rfl,.inr ⟨rfl,fun hr=>hall _ hr hz⟩⟩
theorem quo_eq {x y:Int} (h:0≤x) (h2:1≤y) (h3:x≤4611686018427387904):quo x y=some (x / y):=by
 unfold quo
 have l:=Int.ediv_nonneg (a:=x) (b:=y) h (by omega)
 have l2:=Int.ediv_le_self (a:=x) y h
 rw [bg (by omega),Int.tdiv_eq_ediv_of_nonneg h,zw (by omega) (by omega)]
theorem zP2 {u:zR} (h:Unl u) (i:Nat) (hi:i<u.from_.length):J7 u (i:Int)=some (stN u i):=by
 have hr:=h.rng i hi
 have hst:=h.st
 unfold J7 stN
 rw [jU hi,ba,jU (show i<u.to.length by rw [h.tl]; exact hi),ba,Zm (a:=gI u.from_ i - gI u.to i) (by omega),Zm (a:=gI u.from_ i - gI u.to i+u.step) (by omega),Zm (by omega),quo_eq (by omega) (by omega) (by omega)]
 rfl
def endK (u:zR):Nat→zA
 | 0=>yl
 | k+1=>(endK u k).set (k:Int) (stN u k)
theorem zMX (u:zR) (k:Nat):endK u (k+1)=(endK u k).set (k:Int) (stN u k):=rfl
theorem zEf (u:zR):∀ k,k≤8→∀ i,gD (endK u k) i=if i<k then stN u i else 0
 | 0,_,i=>by rw [bg (by omega)]; exact zMR i
 | k+1,h,i=>by
  rw [zMX,zOe _ k (by omega),zEf u k (by omega) i]
  by_cases e:i=k
  ·subst e; rw [bi rfl,bi (by omega)]
  ·rw [bg e]
   by_cases e2:i<k
   ·rw [bi e2,bi (by omega)]
   ·rw [bg e2,bg (by omega)]
theorem zKw (u:zR) (k:Nat) (hk:k<8):sumD (endK u (k+1))=sumD (endK u k)+stN u k:=by
 have:=zEf u k (by omega) k
 rw [bg (by omega)] at this
 rw [zMX]
 unfold sumD
 rw [zA.zEM,jh,zJB (by rw [qX]; exact hk)]
 unfold gD at this; omega
theorem zHm : sumD yl=0:=rfl
theorem zK6 : ∀ (l:List Int) (i:Nat) (v:Int),i<l.length→gI l i=0→zAA (l.set i v)=zAA l*(v+1).toNat
 | [],i,v,h,_=>by simp at h
 | x :: r,0,v,_,h=>by
  have h:x=0:=h
  subst h
  simp only [List.set_cons_zero,zAA]
  rw [show ((0:Int)+1).toNat=1 from rfl,Nat.one_mul,Nat.mul_comm]
 | x :: r,i+1,v,hi,h=>by
  simp only [List.set_cons_succ,zAA]
  rw [zK6 r i v (by simpa using hi) h,Nat.mul_assoc]
theorem zOJ (u:zR) (k:Nat) (hk:k<8):zAA (endK u (k+1)).toL=zAA (endK u k).toL*(stN u k+1).toNat:=by
 have:=zEf u k (by omega) k
 rw [bg (by omega)] at this
 rw [zMX,zA.zEM,jh]
 exact zK6 _ k _ (by rw [qX]; exact hk) this
theorem zMs {u:zR} (h:Unl u):∀ k,k≤u.from_.length→0≤sumD (endK u k)∧sumD (endK u k)≤131071*(k:Int)
 | 0,_=>by rw [show endK u 0=yl from rfl,zHm]; omega
 | k+1,hk=>by
  have ih:=zMs h k (by omega)
  have h1:=zGv h k (by omega)
  have:=h.n
  rw [zKw u k (by omega)]; omega
theorem sat (P:Nat) (n c:Int) (h:0≤n∧n≤131071) (hc:0≤c∧c≤3000):min (w64 (min (P:Int) c*w64 (n+1))) c=min ((P*(n+1).toNat:Nat):Int) c:=by
 obtain ⟨m,rfl⟩:∃ m:Nat,n=(m:Int):=⟨n.toNat,by omega⟩
 obtain ⟨d,rfl⟩:∃ d:Nat,c=(d:Int):=⟨c.toNat,by omega⟩
 rw [Zm (a:=(m:Int)+1) (by omega),show ((m:Int)+1).toNat=m+1 by omega]
 have e:∀ a:Nat,(a:Int)*((m:Int)+1)=((a*(m+1):Nat):Int):=fun a=>by rw [Int.natCast_mul,Int.natCast_add]; rfl
 by_cases hp:P≤d
 ·have b:P*(m+1)≤3000*131072:=Nat.mul_le_mul (by omega) (by omega)
  rw [Int.min_eq_left (show (P:Int)≤(d:Int) by omega),e,Zm (by omega)]
 ·have b:d*(m+1)≤3000*131072:=Nat.mul_le_mul (by omega) (by omega)
  have b2:d*1≤d*(m+1):=Nat.mul_le_mul_left d (by omega)
  have b3:P*1≤P*(m+1):=Nat.mul_le_mul_left P (by omega)
  rw [Int.min_eq_right (show (d:Int)≤(P:Int) by omega),e,Zm (by omega),Int.min_eq_right (by omega),Int.min_eq_right (by omega)]
theorem zN9 : ∀ (l:List Int),(∀ i,i<l.length→0≤gI l i)→0≤l.sum∧∀ i,i<l.length→gI l i≤l.sum
 | [],_=>⟨by simp,fun i hi=>by simp at hi⟩
 | x :: r,h=>by
  have h0:0≤x:=h 0 (by simp)
  obtain ⟨a,b⟩:=zN9 r fun i hi=>h (i+1) (by simpa using hi)
  simp only [List.sum_cons]
  refine ⟨by omega,fun i hi=>?_⟩
  cases i with
  | zero=>show x≤_; omega
  | succ i=>have:=b i (by simpa using hi); show gI r i≤_; omega
theorem zNg {u:zR} (h:Unl u) (hs:sumD (endK u u.from_.length)≤60):End u (endK u u.from_.length):=by
 have hn:=h.n
 have hp:∀ i,0≤gD (endK u u.from_.length) i:=fun i=>by
  rw [zEf u _ hn]
  split
  ·rename_i hi; exact (zGv h i hi).1
  ·omega
 refine ⟨fun i hi=>by rw [zEf u _ hn,bi hi],fun i hi _=>by rw [zEf u _ hn,bg (by omega)],fun i hi=>⟨hp i,?_⟩⟩
 have:=(zN9 (endK u u.from_.length).toL fun i _=>hp i).2 i (by rw [qX]; exact hi)
 unfold sumD at hs
 exact Int.le_trans this hs
def leB (x y:List Int):Bool:=(List.range x.length).all fun i=>decide (gI y i≤gI x i)
theorem zIz (x y:List Int):leB x y=true↔∀ i,i<x.length→gI y i≤gI x i:=by
 unfold leB
 rw [List.all_eq_true]
 constructor
 ·intro h i hi; simpa using h i (by simpa using hi)
 ·intro h i hi; simpa using h i (by simpa using hi)
def ordE (s:zH) (from_ to:List Int) (step:Int):Int :=
 if zB3 s [from_,to]=0 then
  if leB from_ to=true∧1≤step∧step≤65536 then
   if zAA (endK ⟨s,from_,to,step⟩ from_.length).toL≤2000∧sumD (endK ⟨s,from_,to,step⟩ from_.length)≤60 then
    if Jj s from_=true∧Jj s to=true then 0 else 4
   else 2
  else 1
 else zB3 s [from_,to]
theorem zOW {s:zH} {x y:List Int} (h:zB3 s [x,y]=0):chk s=0∧Rms s x∧Rms s y:=by
 unfold zB3 at h
 by_cases hc:chk s=0
 ·rw [bi hc] at h
  split at h
  ·rename_i hh
   simp only [List.all_cons,List.all_nil,Bool.and_true,bn] at hh
   exact ⟨hc,(zG2 s x).1 hh.1,(zG2 s y).1 hh.2⟩
  ·omega
 ·rw [bg hc] at h; exact absurd h hc
theorem zJU {s:zH} {from_ to:List Int} {step:Int} (hl:from_.length≤8) (ht:to.length=from_.length) {r:List ZH×Int} (hr:leB from_ to=true→Yd s from_ to step=some r) (hr2 : ¬ leB from_ to=true→r=([],1)):Lp (Qp s from_ to step) fuel 0=some r:=by
 suffices h:∃ q,Lp (Qp s from_ to step) fuel 0=some q∧q=r by obtain ⟨q,h,rfl⟩:=h; exact h
 refine lp_inv' (fun i (x:Int)=>x=(i:Int)∧∀ j,j<i→gI to j≤gI from_ j) _ from_.length (by omega) ⟨rfl,fun j hj=>by omega⟩ fun i x hi hI=>?_
 obtain ⟨rfl,e⟩:=hI
 unfold Qp
 simp only
 by_cases hc:i<from_.length
 ·rw [bi (by simpa using hc),jU (by omega),ba,jU hc,ba]
  by_cases h:gI from_ i<gI to i
  ·right
   rw [bi (by simpa using h)]
   exact ⟨_,rfl,(hr2 fun hh=>by have:=(zIz _ _).1 hh i hc; omega).symm⟩
  ·left
   rw [bg (by simpa using h),w64s i (by omega)]
   refine ⟨hc,_,rfl,rfl,fun j hj=>?_⟩
   by_cases e2:j=i
   ·subst e2; omega
   ·exact e j (by omega)
 ·right
  have e3:i=from_.length:=by omega
  subst e3
  rw [bg (by simp),hr ((zIz _ _).2 e)]
  exact ⟨_,rfl,rfl⟩
theorem zQk {u:zR} (h:Unl u) {r:List ZH×Int} (hr:J3 u.ship u.from_ u.to u.step (min (zAA (endK u u.from_.length).toL:Int) 2001) (sumD (endK u u.from_.length)) (endK u u.from_.length)=some r):Lp (zAV u.ship u.from_ u.to u.step) fuel (1,0,0,(⟨0,0,0,0,0,0,0,0⟩:zA))=some r:=by
 have hn:=h.n
 suffices hq:∃ q,Lp (zAV u.ship u.from_ u.to u.step) fuel (1,0,0,(⟨0,0,0,0,0,0,0,0⟩:zA))=some q∧q=r by obtain ⟨q,hq,rfl⟩:=hq; exact hq
 refine lp_inv' (fun i (x:Int×Int×Int×zA)=>x=(min (zAA (endK u i).toL:Int) 2001,sumD (endK u i),(i:Int),endK u i)) _ u.from_.length (by omega) (by rw [show endK u 0=yl from rfl,zHm,show zAA yl.toL=1 by decide,show min ((1:Nat):Int) 2001=1 by omega]; rfl) fun i x hi hI=>?_
 subst hI
 unfold zAV
 simp only
 by_cases hc:i<u.from_.length
 ·left
  have hi8:i<8:=by omega
  have h1:=zGv h i hc
  have h2:=zMs h i hi
  have e1:gI (endK u (i+1)).toL i=stN u i:=by
   have:=zEf u (i+1) (by omega) i
   rwa [bi (by omega)] at this
  rw [bi (by simpa using hc),show (⟨u.ship,u.from_,u.to,u.step⟩:zR)=u from rfl,zP2 h i hc,ba,jU (show i<(endK u i).toL.length by rw [qX]; exact hi8),ba,← zMX,jU (show i<(endK u (i+1)).toL.length by rw [qX]; exact hi8),ba,ba,e1,sat _ _ _ ⟨h1.1,h1.2.1⟩ (by omega),Zm (a:=sumD (endK u i)+stN u i) (by omega),w64s i (by omega),← zOJ u i hi8,← zKw u i hi8]
  exact ⟨hc,_,rfl,rfl⟩
 ·right
  have e3:i=u.from_.length:=by omega
  subst e3
  rw [bg (by simp),hr]
  exact ⟨_,rfl,rfl⟩
def Ordered (s:zH) (from_ to:List Int) (step:Int) (r:List ZH×Int):Prop :=
 (ordE s from_ to step≠0∧r=([],ordE s from_ to step))∨(ordE s from_ to step=0∧Unl ⟨s,from_,to,step⟩∧End ⟨s,from_,to,step⟩ (endK ⟨s,from_,to,step⟩ from_.length)∧sumD (endK ⟨s,from_,to,step⟩ from_.length)≤60∧zAA (endK ⟨s,from_,to,step⟩ from_.length).toL≤2000∧Jj s from_=true∧Jj s to=true∧Found ⟨s,from_,to,step⟩ (endK ⟨s,from_,to,step⟩ from_.length) r)
theorem zOO {s:zH} {from_ to:List Int} {step:Int} (hl:Len s.Holds):∃ r,zDG s from_ to step=some r∧Ordered s from_ to step r:=by
 unfold zDG Ordered
 rw [zJz s _ hl (by simp),ba]
 by_cases h0:zB3 s [from_,to]=0
 ·obtain ⟨hc,hf,ht⟩:=zOW h0
  have hs:=GoodS.of hc
  have hnh:=hs.nh
  have l1:=hf.len
  have l2:=ht.len
  rw [bg (by simp [h0])]
  unfold ordE
  rw [bi h0]
  by_cases h1:leB from_ to=true
  ·by_cases h2:1≤step∧step≤65536
   ·have hu:Unl ⟨s,from_,to,step⟩:=⟨hc,hf,ht,(zIz _ _).1 h1,h2⟩
    rw [bi ⟨h1,h2⟩]
    have hw:zT step 1 65536=true:=by unfold zT; simp only [bn,bj]; exact h2
    have key:∀ r,J3 s from_ to step (min (zAA (endK ⟨s,from_,to,step⟩ from_.length).toL:Int) 2001) (sumD (endK ⟨s,from_,to,step⟩ from_.length)) (endK ⟨s,from_,to,step⟩ from_.length)=some r→Lp (Qp s from_ to step) fuel 0=some r:=fun r hr=>by
     refine zJU (by omega) (by omega) (fun _=>?_) (fun h=>absurd h1 h)
     unfold Yd
     rw [hw,bg (by simp)]
     exact zQk hu hr
    by_cases h3:zAA (endK ⟨s,from_,to,step⟩ from_.length).toL≤2000∧sumD (endK ⟨s,from_,to,step⟩ from_.length)≤60
    ·rw [bi h3]
     have j2:∀ o,o=J3 s from_ to step (min (zAA (endK ⟨s,from_,to,step⟩ from_.length).toL:Int) 2001) (sumD (endK ⟨s,from_,to,step⟩ from_.length)) (endK ⟨s,from_,to,step⟩ from_.length)→o=(if Jj s from_=true∧Jj s to=true then (JH ⟨s,from_,to,step⟩ (endK ⟨s,from_,to,step⟩ from_.length)).bind fun y=>some (y.1,y.2) else some ([],4)):=fun o ho=>by
      rw [ho]
      unfold J3
      rw [bg (by simp; omega),zEe hs hf,ba,zEe hs ht]
      cases Jj s from_ <;> cases Jj s to <;> simp [gb]
     have j2:=j2 _ rfl
     by_cases h4:Jj s from_=true∧Jj s to=true
     ·rw [bi h4] at j2
      rw [bi h4]
      obtain ⟨r,q1,q2⟩:=zMy hu (zNg hu h3.2) h3.2 h3.1
      rw [q1] at j2
      exact ⟨_,key _ j2,.inr ⟨rfl,hu,zNg hu h3.2,h3.2,h3.1,h4.1,h4.2,q2⟩⟩
     ·rw [bg h4] at j2
      rw [bg h4]
      exact ⟨_,key _ j2,.inl ⟨by decide,rfl⟩⟩
    ·rw [bg h3]
     refine ⟨_,key ([],2) ?_,.inl ⟨by decide,rfl⟩⟩
     unfold J3
     rw [bi (by simp; omega)]
   ·rw [bg fun h=>h2 h.2]
    refine ⟨_,zJU (r:=([],1)) (by omega) (by omega) (fun _=>?_) (fun _=>rfl),.inl ⟨by decide,rfl⟩⟩
    unfold Yd
    have hw:zT step 1 65536=false:=by
     rw [Bool.eq_false_iff]; unfold zT; simp only [ne_eq,bn,bj]; exact h2
    rw [hw]; rfl
  ·rw [bg fun h=>h1 h.1]
   exact ⟨_,zJU (r:=([],1)) (by omega) (by omega) (fun h=>absurd h h1) (fun _=>rfl),.inl ⟨by decide,rfl⟩⟩
 ·rw [bi (by simp [h0])]
  unfold ordE
  rw [bg h0]
  exact ⟨_,rfl,.inl ⟨h0,rfl⟩⟩
end Go.Mh
