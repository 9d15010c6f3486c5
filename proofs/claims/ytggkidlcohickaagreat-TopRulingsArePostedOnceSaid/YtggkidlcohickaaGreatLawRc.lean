/- Part of the proof of TopRulingsArePostedOnce: plain laws about the functions of M, no program in sight. Conditions: none. -/
import Derived.Test.YtggkidlcohickaaGreatLawWn
set_option linter.unusedVariables false
set_option linter.unusedSimpArgs false
namespace Go.Mx
theorem zDS {w:zN} {a id:Int} {d:zT} {m:Nat} (hv:d.votes.length≤(ZP w a id).votes.length+m):tvl (j6 w a id d).desks≤tvl w.desks+m:=by
 unfold j6
 simp only
 cases h:zO (a,id) w.desks with
 | none =>
  have key:∀ l:List ((Int×Int)×zT),zO (a,id) l=none→putD (a,id) d l=l:=by
   intro l
   induction l with
   | nil=>intro _; rfl
   | cons p r ih =>
    intro h
    simp only [zO] at h
    split at h
    ·cases h
    ·rename_i e
     unfold putD
     rw [if_neg (fun q=>e q.symm),ih h]
  rw [key _ h]
  omega
 | some d0 =>
  refine zFy _ _ _ _ d0 h ?_
  unfold ZP Z7 at hv
  rw [h] at hv
  exact hv
theorem zAG (w:zN) (a id:Int):tvl (w_at w a id).desks=tvl w.desks:=by
 unfold w_at
 split
 ·rfl
 ·unfold tvl
  simp [yN]
theorem zCi {l:zA}:∀ {tos:List Int} {w w':zN},yx l tos w=some w'→w'.desks=w.desks
 | [],w,w',h=>by cases h; rfl
 | t :: r,w,w',h=>by
  unfold yx at h
  obtain ⟨w1,h1,h⟩:=zK h
  rw [zCi h]
  unfold zDv at h1
  obtain ⟨s,h2,h1⟩:=zK h1
  split at h1
  ·obtain ⟨t,h3,h1⟩:=zK h1
   cases h1; rfl
  ·cases h1; rfl
theorem zLW {w w':zN} {id:Int} (h:zBI w id=some w'):w'.desks=w.desks:=by
 unfold zBI at h
 obtain ⟨y,h1,h⟩:=zK h
 split at h
 ·cases h; rfl
 ·obtain ⟨l,h2,h⟩:=zK h
  obtain ⟨s,h3,h⟩:=zK h
  cases h; rfl
theorem zF9 {w w':zN} {a id:Int} (h:Yl w a id=some w'):tvl w'.desks≤tvl w.desks:=by
 unfold Yl at h
 simp only at h
 split at h
 ·cases h; exact Nat.le_refl _
 ·split at h
  ·cases h; exact Nat.le_refl _
  ·obtain ⟨m,h1,h⟩:=zK h
   split at h
   ·cases h; exact Nat.le_refl _
   ·obtain ⟨p,h2,h⟩:=zK h
    split at h
    ·cases h; exact Nat.le_refl _
    ·rw [zCi h]
     exact zDS (m:=0) (Nat.le_refl _)
theorem zLV {w w':zN} {id:Int} {l:zA} {b:Bool} (h:zDP w id=some (l,b,w')):w'.desks=w.desks:=by
 unfold zDP at h
 obtain ⟨i,h1,h⟩:=zK h
 split at h
 ·cases h; rfl
 ·obtain ⟨x,h2,h⟩:=zK h
  cases h; rfl
theorem tv_read {w w':zN} {l:zA} (h:zEw w l=some w'):tvl w'.desks≤tvl w.desks+1:=by
 unfold zEw at h
 split at h
 ·unfold qF at h
  simp only at h
  split at h
  ·cases h; rw [zAG]; omega
  ·rw [zCi h]
   refine Nat.le_trans (zDS (m:=0) (Nat.le_refl _)) ?_
   rw [zAG]; omega
 split at h
 ·unfold qE at h
  simp only at h
  split at h
  ·cases h; rw [zAG]; omega
  ·split at h
   ·cases h; rw [zAG]; omega
   ·obtain ⟨y,h1,h⟩:=zK h
    split at h
    ·cases h; rw [zAG]; omega
    ·obtain ⟨p,h2,h⟩:=zK h
     have h3:=zF9 h
     refine Nat.le_trans h3 ?_
     refine Nat.le_trans (zDS (m:=0) (Nat.le_refl _)) ?_
     rw [zAG]; omega
 split at h
 ·unfold QP at h
  simp only at h
  split at h
  ·cases h; rw [zAG]; omega
  ·rw [zCi h]
   refine Nat.le_trans (zDS (m:=0) (Nat.le_refl _)) ?_
   rw [zAG]; omega
 split at h
 ·unfold zEv at h
  simp only at h
  obtain ⟨y,h1,h⟩:=zK h
  split at h
  ·cases h; rw [zAG]; omega
  ·obtain ⟨v,h2,h⟩:=zK h
   cases h
   obtain ⟨_,rfl⟩:=yS h2
   refine Nat.le_trans (zDS (m:=1) (by simp)) ?_
   rw [zAG]
   exact Nat.le_refl _
 ·cases h
theorem tv_do {w:zN} {a:ZO} {f:zN×Int} (h:w_do w a=some f):tvl f.1.desks≤tvl w.desks+1:=by
 unfold w_do at h
 split at h
 ·cases h; simp only; omega
 split at h
 ·unfold zBr at h
  split at h
  ·cases h; simp only; omega
  ·obtain ⟨y,h1,h⟩:=zK h
   split at h
   ·cases h; simp only; omega
   ·simp only at h
    split at h
    ·cases h; simp only; rw [zAG]; omega
    ·obtain ⟨w1,h2,h⟩:=zK h
     obtain ⟨w2,h3,h⟩:=zK h
     cases h
     have e1:=zLW h2
     refine Nat.le_trans (zF9 h3) ?_
     have hg:ZP w1 a.A a.Case=ZP (w_at w a.A a.Case) a.A a.Case:=by unfold ZP Z7; rw [e1]
     refine Nat.le_trans (zDS (m:=0) (by rw [hg]; exact Nat.le_refl _)) ?_
     rw [e1,zAG]; omega
 split at h
 ·unfold zEx at h
  split at h
  ·cases h; simp only; omega
  ·obtain ⟨y,h1,h⟩:=zK h
   split at h
   ·cases h; simp only; omega
   ·simp only at h
    obtain ⟨r,h4,h⟩:=zK h
    split at h
    ·cases h; simp only; rw [zAG]; omega
    ·obtain ⟨w1,h2,h⟩:=zK h
     obtain ⟨w2,h3,h⟩:=zK h
     cases h
     have e1:=zLW h2
     simp only
     rw [zCi h3]
     have hg:ZP w1 a.A a.Case=ZP (w_at w a.A a.Case) a.A a.Case:=by unfold ZP Z7; rw [e1]
     refine Nat.le_trans (zDS (m:=0) (by rw [hg]; exact Nat.le_refl _)) ?_
     rw [e1,zAG]; omega
 split at h
 ·unfold QQ at h
  obtain ⟨⟨l,b,w1⟩,h1,h⟩:=zK h
  have e1:=zLV h1
  simp only at h
  split at h
  ·obtain ⟨w2,h2,h⟩:=zK h
   cases h
   have:=tv_read h2
   rw [e1] at this
   exact this
  ·cases h; simp only; rw [e1]; omega
 split at h
 ·unfold zDQ at h
  obtain ⟨⟨l,b,w1⟩,h1,h⟩:=zK h
  have e1:=zLV h1
  cases h; simp only; rw [e1]; omega
 split at h
 ·unfold qN at h
  obtain ⟨i,h1,h⟩:=zK h
  split at h
  ·cases h; simp only; omega
  ·split at h
   ·cases h; simp only; omega
   ·obtain ⟨l,h2,h⟩:=zK h
    obtain ⟨w2,h3,h⟩:=zK h
    cases h
    simp only
    rw [zCi h3]; omega
 split at h
 ·cases h
  unfold J5
  split
  ·simp only; omega
  ·simp only
   rw [zLJ]; omega
 ·cases h; simp only; omega
theorem zOr (p q:Nat→Bool):∀ n,cnt (fun a=>p a||q a) n≤cnt p n+cnt q n
 | 0=>Nat.zero_le _
 | n+1=>by
  have:=zOr p q n
  unfold cnt
  cases p n <;> cases q n <;> simp <;> omega
theorem cnt_one (b:Bool) (k:Int):∀ n,cnt (fun a=>b&&decide (k=(a:Int))) n≤if b=true then 1 else 0:=by
 cases b with
 | false =>
  intro n
  have:∀ n,cnt (fun a:Nat=>false&&decide (k=(a:Int))) n=0:=by
   intro n
   induction n with
   | zero=>rfl
   | succ n ih=>unfold cnt; rw [ih]; rfl
  rw [this]; exact Nat.zero_le _
 | true =>
  have key:∀ n:Nat,cnt (fun a=>true&&decide (k=(a:Int))) n≤1∧((n:Int)≤k→cnt (fun a=>true&&decide (k=(a:Int))) n=0):=by
   intro n
   induction n with
   | zero=>exact ⟨Nat.zero_le _,fun _=>rfl⟩
   | succ n ih =>
    unfold cnt
    by_cases e:k=(n:Int)
    ·have:=ih.2 (by omega)
     rw [this]
     refine ⟨by split <;> omega,fun h=>by omega⟩
    ·have h1:(true&&decide (k=(n:Int)))=false:=by rw [decide_eq_false e]; rfl
     rw [h1]
     exact ⟨by simpa using ih.1,fun h=>by simpa using ih.2 (by omega)⟩
  intro n
  exact (key n).1
theorem zJA (r:zB) (n:Nat):∀ l:List zA,cnt (vtB l r) n≤l.countP fun x=>zR x r
 | []=>by
  have:∀ n,cnt (vtB [] r) n=0:=by
   intro n
   induction n with
   | zero=>rfl
   | succ n ih=>unfold cnt; rw [ih]; rfl
  rw [this]; exact Nat.zero_le _
 | x :: l=>by
  have h1:=zJA r n l
  have h2:=zOr (fun a:Nat=>zR x r&&decide (x.From=(a:Int))) (vtB l r) n
  have h3:=cnt_one (zR x r) x.From n
  have e:vtB (x :: l) r=fun a:Nat=>(zR x r&&decide (x.From=(a:Int)))||vtB l r a:=by
   funext a
   unfold vtB
   rw [List.any_cons]
  rw [e,List.countP_cons]
  exact Nat.le_trans h2 (by omega)
theorem zH8 : ∀ (o:List zB) (l:List zA),o.Nodup→(o.map fun r=>l.countP fun x=>zR x r).sum≤l.length
 | o,[],hn=>by
  have:(o.map fun r=>([]:List zA).countP fun x=>zR x r).sum=0:=by
   induction o with
   | nil=>rfl
   | cons r o ih=>rw [List.map_cons,List.sum_cons,ih (List.nodup_cons.1 hn).2]; rfl
  rw [this]; exact Nat.zero_le _
 | o,x :: l,hn=>by
  have h1:=zH8 o l hn
  have key:∀ o:List zB,o.Nodup→(o.map fun r=>(x :: l).countP fun x=>zR x r).sum≤(o.map fun r=>l.countP fun x=>zR x r).sum+1∧(rulR x∉o→(o.map fun r=>(x :: l).countP fun x=>zR x r).sum=(o.map fun r=>l.countP fun x=>zR x r).sum):=by
   intro o
   induction o with
   | nil=>intro _; exact ⟨Nat.zero_le _,fun _=>rfl⟩
   | cons r o ih =>
    intro hn
    rw [List.nodup_cons] at hn
    obtain ⟨i1,i2⟩:=ih hn.2
    simp only [List.map_cons,List.sum_cons,List.countP_cons,List.mem_cons,not_or]
    by_cases e:rulR x=r
    ·have i3:=i2 (by rw [e]; exact hn.1)
     simp only [List.countP_cons] at i3
     rw [i3]
     refine ⟨by split <;> omega,fun q=>absurd e q.1⟩
    ·have hv : ¬ zR x r=true:=fun q=>e (QR.1 q).2
     rw [if_neg hv]
     simp only [List.countP_cons] at i1 i2
     exact ⟨by omega,fun q=>by rw [i2 q.2]; omega⟩
  have:=(key o hn).1
  rw [List.length_cons]
  omega
theorem rul_few {c:zD} {l:List zA} {o:List zB} (hc:okC c=true) (ho:QM c l o):2*o.length≤l.length:=by
 have hn:o.Nodup:=ho.sorted.imp fun {a b} hab e=>by subst e; rw [zCs] at hab; cases hab
 have h1:=zH8 o l hn
 have h2:∀ o':List zB,(∀ r∈o',r∈o)→2*o'.length≤(o'.map fun r=>l.countP fun x=>zR x r).sum:=by
  intro o'
  induction o' with
  | nil=>intro _; exact Nat.le_refl _
  | cons r o' ih =>
   intro h
   have h3:=ih fun r hr=>h r (List.mem_cons_of_mem _ hr)
   have h4:=((ho.mem r).1 (h r List.mem_cons_self)).2
   have h5:=zJA r c.Arbiters.toNat l
   have h6:=(zFz hc).1
   unfold vtS at h4
   rw [List.map_cons,List.sum_cons,List.length_cons]
   omega
 exact Nat.le_trans (h2 o fun r hr=>hr) h1
theorem swoIt : Go.Sort.SWO ZV:=⟨fun x=>by unfold ZV; simp,fun x y z h1 h2=>by unfold ZV at *; simp at *; omega,fun x y z h1 h2=>by unfold ZV at *; simp at *; omega⟩
theorem it_eq {x y:zF} (h1:ZV x y=false) (h2:ZV y x=false):x.Known=y.Known∧x.ID=y.ID:=by unfold ZV at *; simp at *; omega
theorem it_irr (x:zF):ZV x x=false:=by unfold ZV; simp
theorem it_asym {x y:zF} (h:ZV x y=true):ZV y x=false:=by unfold ZV at *; simp at *; omega
def zMQ (l:List zF):Prop := ∀ x∈l,∀ y∈l,x.Known=y.Known→x.ID=y.ID→x=y
def SL (s:List zF):Prop:=s.Pairwise fun a b=>ZV a b=true
theorem SL.uniq {s t:List zF} (h:SL s) (h':SL t) (hm:∀ x,x∈s↔x∈t):s=t:=by
 have nd:∀ {o:List zF},SL o→o.Nodup:=fun h=>h.imp fun {a b} hab e=>by subst e; rw [it_irr] at hab; cases hab
 exact List.Perm.eq_of_pairwise (le:=fun a b=>ZV a b=true) (fun a b _ _ h1 h2=>by rw [it_asym h1] at h2; cases h2) h h' ((List.perm_ext_iff_of_nodup (nd h) (nd h')).2 hm)
theorem zLr {l:List zF} (hs:l.Pairwise fun a b=>ZV b a=false) (hk:zMQ l) {i:Nat} (hi:i+1<l.length) (hne:l[i+1]≠l[i]):∀ y∈l.take (i+1),ZV y l[i+1]=true:=fun y hy=>by
 obtain ⟨j,hj,rfl⟩:=List.mem_take_iff_getElem.1 hy
 cases h:ZV l[j] l[i+1] with
 | true=>rfl
 | false =>
  exfalso
  have h1:=List.pairwise_iff_getElem.1 hs j (i+1) (by omega) hi (by omega)
  have e1:=it_eq h h1
  have e:=hk _ (List.getElem_mem (by omega:j<l.length)) _ (List.getElem_mem hi) e1.1 e1.2
  have h2:=List.pairwise_iff_getElem.1 hs i (i+1) (by omega) hi (by omega)
  by_cases q:j=i
  ·subst q; exact hne e.symm
  ·have h3:=List.pairwise_iff_getElem.1 hs j i (by omega) (by omega) (by omega)
   rw [e] at h3
   have e2:=it_eq h2 h3
   exact hne (hk _ (List.getElem_mem hi) _ (List.getElem_mem (by omega:i<l.length)) e2.1 e2.2)
theorem it_clr {α:Type} {β:Type} {L:List α} {k:Nat} {z:α} (hk:k≤L.length) (h0:0<L.length) (K:List α→Option β):(Option.bind (sub L (k:Int) (L.length:Int)) fun _=>Option.bind (clrE L (k:Int) z) fun l4=>Option.bind (sub l4 0 (k:Int)) K)=K (L.take k):=by
 have e1:sub L (k:Int) (L.length:Int)=some (L.drop k):=by unfold sub; rw [if_pos ⟨by omega,by omega,by omega⟩]; simp
 rw [e1,Option.bind_some]
 unfold clrE
 rw [if_pos ⟨h0,by omega,by omega⟩,Option.bind_some]
 unfold sub
 rw [if_pos ⟨by omega,by omega,by simp; omega⟩,Option.bind_some]
 congr 1
 simp [List.take_append_of_le_length,Nat.min_eq_left hk]
theorem it_in (l:List zF) (hl:l.length≤4000) (hs:l.Pairwise fun a b=>ZV b a=false) (hk:zMQ l) (a:Nat) (a0:1≤a) (ha:a<l.length) (he:l[a]=l[a - 1]) (hlt:SL (l.take a)):∃ r,Lp (YL (a:Int)) fuel ((a:Int),1,l)=some r∧∃ r',r = .inr r'∧(∀ y,y∈r'↔y∈l)∧SL r'∧r'.length≤l.length:=by
 refine lp_inv' (fun (n:Nat) (s:Int×Int×List zF) => ∃ (k:Nat) (L:List zF),s=((k:Int),((n+1:Nat):Int),L)∧k≤a+n∧L.length=l.length∧a+n+1≤l.length∧(∀ j,a+n≤j→L[j]? = l[j]?)∧(∀ y,y∈L.take k↔y∈l.take (a+n+1))∧SL (L.take k)) _ l.length (by omega) ⟨a,l,rfl,by omega,rfl,by omega,fun _ _=>rfl,fun y=>?_,hlt⟩ fun n s hn hI=>?_
 ·rw [List.take_succ_eq_append_getElem ha,List.mem_append,List.mem_singleton]
  refine ⟨.inl,fun h=>?_⟩
  rcases h with h | rfl
  ·exact h
  ·exact List.mem_take_iff_getElem.2 ⟨a - 1,by omega,he.symm⟩
 ·obtain ⟨k,L,rfl,h1,h2,h3,h4,h5,h6⟩:=hI
  unfold YL
  simp only [Int.toNat_natCast,List.length_drop]
  by_cases hlt:a+n+1<l.length
  ·have g:∀ j (hj:j<l.length),a+n≤j→ix (List.drop a L) ((j - a:Nat):Int)=some l[j]:=fun j hj hj2=>by
    have hd:j - a<(L.drop a).length:=by rw [List.length_drop]; omega
    rw [zJq hd,List.getElem_drop]
    have:=h4 j hj2
    rw [List.getElem?_eq_getElem (by omega),List.getElem?_eq_getElem hj] at this
    rw [← Option.some.inj this]
    congr 1
    congr 1
    omega
   have e1:=g (a+n+1) hlt (by omega)
   have e2:=g (a+n) (by omega) (by omega)
   rw [show a+n+1 - a=n+1 by omega] at e1
   rw [show a+n - a=n by omega] at e2
   have hkl:k<L.length:=by omega
   rw [if_pos (decide_eq_true (by omega)),e1,Option.bind_some,JD (n:=((n+1:Nat):Int) - 1) (by omega) (by omega),show ((n+1:Nat):Int) - 1=(n:Int) by omega,e2,Option.bind_some]
   unfold JW
   rw [JD (n:=((n+1:Nat):Int)+1) (by omega) (by omega),show ((n+1:Nat):Int)+1=((n+1+1:Nat):Int) by omega]
   by_cases hne:l[a+n+1]=l[a+n]
   ·rw [if_neg (by simp [hne])]
    refine .inl ⟨by omega,_,rfl,k,L,rfl,by omega,h2,by omega,fun j hj=>h4 j (by omega),fun y=>?_,h6⟩
    rw [h5,show a+(n+1)+1=(a+n+1)+1 by omega,List.take_succ_eq_append_getElem hlt,List.mem_append,List.mem_singleton]
    refine ⟨.inl,fun h=>?_⟩
    rcases h with h | rfl
    ·exact h
    ·exact List.mem_take_iff_getElem.2 ⟨a+n,by omega,hne.symm⟩
   ·rw [if_pos (by simp [hne]),Option.bind_some,zJq hkl,Option.bind_some,JD (n:=(k:Int)+1) (by omega) (by omega)]
    have htk:(L.set k l[a+n+1]).take (k+1)=L.take k++[l[a+n+1]]:=by
     rw [List.take_succ_eq_append_getElem (by rw [List.length_set]; omega),List.take_set_of_le (Nat.le_refl _)]
     simp
    refine .inl ⟨by omega,_,rfl,k+1,L.set k l[a+n+1],rfl,by omega,by rw [List.length_set]; exact h2,by omega,fun j hj=>?_,fun y=>?_,?_⟩
    ·rw [List.getElem?_set_ne (by omega)]; exact h4 j (by omega)
    ·rw [htk,show a+(n+1)+1=(a+n+1)+1 by omega,List.take_succ_eq_append_getElem hlt,List.mem_append,List.mem_append,h5]
    ·unfold SL
     rw [htk,List.pairwise_append]
     refine ⟨h6,List.pairwise_singleton _ _,fun y hy z hz=>?_⟩
     rw [List.mem_singleton] at hz
     subst hz
     exact zLr hs hk hlt hne y ((h5 y).1 hy)
  ·have e:a+n+1=l.length:=by omega
   rw [if_neg (by rw [decide_eq_true_eq]; omega)]
   have:yB (k:Int) L=some (.inr (L.take k)):=it_clr (by omega) (by omega) _
   refine .inr ⟨_,by rw [this]; rfl,L.take k,rfl,fun y=>?_,h6,by rw [List.length_take]; omega⟩
   rw [h5,e,List.take_length]
theorem zFb (l1:List zF) (hl:l1.length≤4000) (hk:zMQ l1):∃ r,JU l1=some r∧(∀ y,y∈r↔y∈l1)∧SL r∧r.length≤l1.length:=by
 obtain ⟨hp,hsrt⟩:=qG swoIt l1
 have hlen:=hp.length_eq
 have hk2:zMQ (srtF ZV l1):=fun x hx y hy=>hk x (hp.mem_iff.1 hx) y (hp.mem_iff.1 hy)
 unfold JU
 rw [Zk (by simp; omega),Option.bind_some,List.nil_append]
 have e0:zDB ZV l1=some (srtF ZV l1):=by unfold zDB; rw [if_pos (by omega)]
 rw [e0,Option.bind_some]
 have key:∃ r,(if decide (((srtF ZV l1).length:Int)<2)=true then je (srtF ZV l1) else Lp (YM (srtF ZV l1)) fuel 1)=some r∧(∀ y,y∈r↔y∈srtF ZV l1)∧SL r∧r.length≤(srtF ZV l1).length:=by
  generalize srtF ZV l1=l at hlen hsrt hk2
  by_cases h2:(l.length:Int)<2
  ·rw [if_pos (decide_eq_true h2)]
   refine ⟨l,rfl,fun y=>Iff.rfl,?_,Nat.le_refl _⟩
   match l,h2 with
   | [],_=>exact List.Pairwise.nil
   | [x],_=>exact List.pairwise_singleton _ _
   | _ :: _ :: _,h=>simp at h; omega
  ·rw [if_neg (by rw [decide_eq_true_eq]; exact h2)]
   refine lp_inv' (fun (i:Nat) (s:Int)=>s=((i+1:Nat):Int)∧i+1≤l.length∧SL (l.take (i+1))) _ l.length (by omega) ⟨rfl,by omega,?_⟩ fun i s hi hI=>?_
   ·unfold SL
    rw [List.take_succ_eq_append_getElem (by omega:0<l.length)]
    simp
   ·obtain ⟨rfl,i1,i2⟩:=hI
    unfold YM
    simp only
    by_cases hlt:i+1<l.length
    ·rw [if_pos (decide_eq_true (by omega)),zJq hlt,Option.bind_some,JD (n:=((i+1:Nat):Int) - 1) (by omega) (by omega),show ((i+1:Nat):Int) - 1=(i:Int) by omega,zJq (by omega:i<l.length),Option.bind_some]
     by_cases he:l[i+1]=l[i]
     ·rw [if_pos (decide_eq_true he)]
      have hq:qslN l ((i+1:Nat):Int)=some ((i+1:Nat):Int):=by
       unfold qslN
       rw [if_pos ⟨by cases l with | nil=>simp at i1 | cons=>rfl,by omega,by omega⟩]
      rw [hq,Option.bind_some]
      obtain ⟨r,r1,r',rfl,r2,r3,r4⟩:=it_in l (by omega) hsrt hk2 (i+1) (by omega) hlt (by simpa using he) i2
      exact .inr ⟨r',r1,r2,r3,r4⟩
     ·rw [if_neg (by rw [decide_eq_true_eq]; exact he)]
      refine .inl ⟨by omega,_,rfl,by rw [JD (by omega) (by omega)]; omega,by omega,?_⟩
      unfold SL
      rw [List.take_succ_eq_append_getElem hlt,List.pairwise_append]
      refine ⟨i2,List.pairwise_singleton _ _,fun y hy z hz=>?_⟩
      rw [List.mem_singleton] at hz
      subst hz
      exact zLr hsrt hk2 hlt he y hy
    ·rw [if_neg (by rw [decide_eq_true_eq]; omega)]
     refine .inr ⟨l,rfl,fun y=>Iff.rfl,?_,Nat.le_refl _⟩
     rw [List.take_of_length_le (by omega)] at i2
     exact i2
 obtain ⟨r,r1,r2,r3,r4⟩:=key
 exact ⟨r,r1,fun y=>by rw [r2,hp.mem_iff],r3,by omega⟩
structure zEq (cs:List Int) (f:Int→Int) (am:Int):Prop where
 nd:cs.Nodup
 few:cs.length≤8
 ids:∀ i∈cs,1≤i∧i≤1099511627776
 fin:∀ i,0≤f i∧f i≤65536
 am:0≤am∧am≤65535
def mdI (f:Int→Int) (p:Int×Nat):zF:=⟨((100+p.2:Nat):Int),2,2,0,p.1,0,f p.1⟩
def Its (cs:List Int) (f:Int→Int) (am:Int) (x:zF):Prop := ∃ p∈cs.zipIdx,x=l_bl am p∨x=mdI f p
theorem zDr {cs:List Int} {p:Int×Nat}:p∈cs.zipIdx↔cs[p.2]? = some p.1:=List.mem_zipIdx_iff_getElem?
theorem zKY {cs:List Int} {p:Int×Nat} (h:p∈cs.zipIdx):p.2<cs.length:=(List.getElem?_eq_some_iff.1 (zDr.1 h)).1
theorem zip_mem {cs:List Int} {p:Int×Nat} (h:p∈cs.zipIdx):p.1∈cs:=List.mem_of_getElem? (zDr.1 h)
theorem zNQ {cs:List Int} {p q:Int×Nat} (h:p∈cs.zipIdx) (h':q∈cs.zipIdx) (e:p.2=q.2):p=q:=by
 have h1:=zDr.1 h
 have h2:=zDr.1 h'
 rw [e,h2] at h1
 exact Prod.ext (Option.some.inj h1).symm e
theorem zNP {cs:List Int} {i:Int} (h:i∈cs):∃ n,(i,n)∈cs.zipIdx:=by
 obtain ⟨n,hn⟩:=List.mem_iff_getElem?.1 h
 exact ⟨n,zDr.2 hn⟩
section
variable {cs:List Int} {f:Int→Int} {am:Int} {x y:zF}
theorem zIl (h:zEq cs f am) (hx:Its cs f am x) (hy:Its cs f am y) (e:x.ID=y.ID):x=y:=by
 obtain ⟨p,hp,h1⟩:=hx
 obtain ⟨q,hq,h2⟩:=hy
 have lp:=zKY hp
 have lq:=zKY hq
 have:=h.few
 rcases h1 with rfl | rfl <;> rcases h2 with rfl | rfl <;> simp only [l_bl,mdI] at e
 ·have:=zNQ hp hq (by omega); subst this; rfl
 ·omega
 ·omega
 ·have:=zNQ hp hq (by omega); subst this; rfl
theorem lwithin {n lo hi:Int} (h:lo≤n∧n≤hi):Zv n lo hi=true:=by unfold Zv; simp [h]
theorem zK5 (h:zEq cs f am) (hx:Its cs f am x):yc x=true:=by
 obtain ⟨p,hp,h1⟩:=hx
 have lp:=zKY hp
 have:=h.few
 have hi:=h.ids _ (zip_mem hp)
 have hf:=h.fin p.1
 have ha:=h.am
 rcases h1 with rfl | rfl <;> simp only [l_bl,mdI] <;> unfold yc Jf jP JL <;> simp only
 ·rw [lwithin (n:=((p.2+1:Nat):Int)) (by omega),lwithin (n:=1) (by omega),lwithin (n:=am) (by omega),lwithin (n:=p.1) hi,lwithin (n:=20) (by omega)]
  rfl
 ·rw [lwithin (n:=((100+p.2:Nat):Int)) (by omega),lwithin (n:=2) (by omega),lwithin (n:=0) (by omega),lwithin (n:=f p.1) (by omega),lwithin (n:=p.1) hi]
  rfl
theorem zM9 (L:List zF) (hl:L.length≤4000) (x:zF):zw L x=some (L.any fun y=>jl y x):=by
 unfold zw ZU
 rw [YN (fun y=>jl y x) L hl (fun i hi=>by
  unfold ZQ
  simp only [dlt hi,if_true,Zf hi,Option.bind_some,w64i hi hl]
  split <;> rfl) (by
  unfold ZQ
  simp [dge,zu])]
 simp only [Option.bind_some,zCQ]
theorem zBB (h:zEq cs f am) (l:List zF) (hl:l.length≤60) (hi:∀ x∈l,Its cs f am x):JM l=some 0:=by
 unfold JM
 rw [if_neg (by simp; omega)]
 suffices hs:∃ r,Lp (Yh l) fuel 0=some r∧r=0 by obtain ⟨r,h,rfl⟩:=hs; exact h
 refine lp_inv' (fun i s=>s=(i:Int)) _ l.length (by omega) rfl fun i s hil hI=>?_
 subst hI
 unfold Yh
 by_cases hlt:i<l.length
 ·have e1:sub l 0 (i:Int)=some (l.take i):=by unfold sub; rw [if_pos (by omega)]; simp
  have e2:((l.take i).any fun y=>jl y l[i])=false:=by
   rw [List.any_eq_false]
   intro y hy q
   unfold jl at q
   simp only [Bool.and_eq_true,decide_eq_true_eq,Bool.not_eq_true',decide_eq_false_iff_not] at q
   exact q.2 (zIl h (hi _ (List.mem_of_mem_take hy)) (hi _ (List.getElem_mem hlt)) q.1)
  simp only [dlt hlt,if_true,Zf hlt,Option.bind_some,zK5 h (hi _ (List.getElem_mem hlt)),Bool.not_true,Bool.false_eq_true,if_false,e1,zM9 _ (show (l.take i).length≤4000 by simp; omega),e2]
  exact .inl ⟨hlt,_,rfl,by rw [w64i hlt (by omega)]⟩
 ·have e:i=l.length:=by omega
  subst e
  simp only [dge,Bool.false_eq_true,if_false]
  exact .inr ⟨0,rfl,rfl⟩
theorem zEn {l:List zF} {d:List Int} (h:JM l=some 0) (hd:Zc d=some false):jT l d=some 0:=by
 unfold jT
 rw [h,Option.bind_some,hd]
 rfl
theorem zJg (h:zEq cs f am) {A E T:List zF} (hA:∀ x∈A,Its cs f am x) (hE:∀ x∈E,Its cs f am x) (hl:A.length+E.length≤60) (hT:SL T) (hm:∀ x,x∈T↔x∈A∨x∈E):zAQ A E=some (T,0):=by
 have hAE:∀ x∈A++E,Its cs f am x:=fun x hx=>(List.mem_append.1 hx).elim (hA x) (hE x)
 obtain ⟨r,h1,h2,h3,_⟩:=zFb (A++E) (by rw [List.length_append]; omega) fun x hx y hy _ e=>zIl h (hAE x hx) (hAE y hy) e
 have e:r=T:=h3.uniq hT fun x=>by rw [h2,hm,List.mem_append]
 subst e
 unfold zAQ
 simp only [zCM,zBB h A (by omega) hA,zBB h E (by omega) hE,zBB h (A++E) (by rw [List.length_append]; omega) hAE,Option.bind_some,if_true,h1]
theorem zK6 (a:List zF) (ha:a.length≤4000):zAm a a=some true:=by
 unfold zAm
 rw [if_neg (by simp)]
 refine zMg a ha (fun i hi=>?_) ?_
 ·unfold Q6
  simp only [dlt hi,if_true,Zf hi,Option.bind_some,decide_true,Bool.not_true,Bool.false_eq_true,if_false,w64i hi ha]
 ·unfold Q6
  simp [dge,Yy]
def canon (cs:List Int) (f:Int→Int) (am:Int) (R:Int→Bool):List zF:=cs.zipIdx.map (l_bl am)++(cs.zipIdx.filter fun p=>R p.1).map (mdI f)
theorem zBD {R:Int→Bool}:x∈canon cs f am R↔∃ p∈cs.zipIdx,x=l_bl am p∨(R p.1=true∧x=mdI f p):=by
 unfold canon
 rw [List.mem_append,List.mem_map,List.mem_map]
 constructor
 ·rintro (⟨p,hp,rfl⟩ | ⟨p,hp,rfl⟩)
  ·exact ⟨p,hp,.inl rfl⟩
  ·rw [List.mem_filter] at hp
   exact ⟨p,hp.1,.inr ⟨hp.2,rfl⟩⟩
 ·rintro ⟨p,hp,rfl | ⟨h,rfl⟩⟩
  ·exact .inl ⟨p,hp,rfl⟩
  ·exact .inr ⟨p,List.mem_filter.2 ⟨hp,h⟩,rfl⟩
theorem Qd {R:Int→Bool} (hx:x∈canon cs f am R):Its cs f am x:=by
 obtain ⟨p,hp,h⟩:=zBD.1 hx
 exact ⟨p,hp,h.imp id fun q=>q.2⟩
theorem zNO (cs:List Int):cs.zipIdx.Pairwise fun p q=>p.2<q.2:=by
 rw [List.pairwise_iff_getElem]
 intro i j hi hj hij
 rw [List.getElem_zipIdx,List.getElem_zipIdx]
 simp only
 omega
theorem zHA (R:Int→Bool):SL (canon cs f am R):=by
 unfold SL canon
 rw [List.pairwise_append,List.pairwise_map,List.pairwise_map]
 refine ⟨(zNO cs).imp fun {p q} h=>?_,((zNO cs).filter _).imp fun {p q} h=>?_,?_⟩
 ·unfold ZV l_bl; simp; omega
 ·unfold ZV mdI; simp; omega
 ·intro a ha b hb
  obtain ⟨p,_,rfl⟩:=List.mem_map.1 ha
  obtain ⟨q,_,rfl⟩:=List.mem_map.1 hb
  unfold ZV l_bl mdI; simp
theorem zBE (R:Int→Bool):(canon cs f am R).length≤2*cs.length:=by
 unfold canon
 rw [List.length_append,List.length_map,List.length_map,List.length_zipIdx]
 have:=List.length_filter_le (fun p:Int×Nat=>R p.1) cs.zipIdx
 rw [List.length_zipIdx] at this
 omega
def anyK (k:List zB) (id:Int):Bool:=k.any fun r=>decide (r.Case=id)
theorem zCb {k:List zB} {id:Int}:anyK k id=true↔∃ r∈k,r.Case=id:=by unfold anyK; simp
theorem zMB {k:List zB} (hk:∀ r∈k,r.Finding=f r.Case):x∈Yq cs k am↔x∈canon cs f am (anyK k):=by
 rw [zBD]
 unfold Yq
 rw [List.mem_append,List.mem_map,List.mem_flatMap]
 have hmd:∀ r∈k,∀ p,l_md r p=some x↔r.Case=p.1∧x=mdI f p:=fun r hr p=>by
  unfold l_md mdI
  constructor
  ·intro h
   split at h
   ·rename_i e
    cases h
    exact ⟨e,by rw [hk r hr,e]⟩
   ·cases h
  ·rintro ⟨e,rfl⟩
   rw [if_pos e,hk r hr,e]
 constructor
 ·rintro (⟨p,hp,rfl⟩ | ⟨r,hr,hx⟩)
  ·exact ⟨p,hp,.inl rfl⟩
  ·unfold zFg at hx
   obtain ⟨p,hp,hx⟩:=List.mem_filterMap.1 hx
   obtain ⟨e,hx⟩:=(hmd r hr p).1 hx
   exact ⟨p,hp,.inr ⟨zCb.2 ⟨r,hr,e⟩,hx⟩⟩
 ·rintro ⟨p,hp,rfl | ⟨h,hx⟩⟩
  ·exact .inl ⟨p,hp,rfl⟩
  ·obtain ⟨r,hr,e⟩:=zCb.1 h
   exact .inr ⟨r,hr,List.mem_filterMap.2 ⟨p,hp,(hmd r hr p).2 ⟨e,hx⟩⟩⟩
theorem zLn (r:zB):∀ (cs:List Int) (n:Nat),cs.Nodup→((cs.zipIdx n).filterMap (l_md r)).length≤1∧(r.Case∉cs→((cs.zipIdx n).filterMap (l_md r)).length=0)
 | [],n,_=>⟨Nat.zero_le _,fun _=>rfl⟩
 | i :: cs,n,hn=>by
  rw [List.nodup_cons] at hn
  obtain ⟨h1,h2⟩:=zLn r cs (n+1) hn.2
  rw [List.zipIdx_cons]
  by_cases e:r.Case=i
  ·have e2:l_md r (i,n)=some ⟨((100+n:Nat):Int),2,2,0,i,0,r.Finding⟩:=by unfold l_md; rw [if_pos e]
   rw [List.filterMap_cons_some e2,List.length_cons]
   have:=h2 (by rw [e]; exact hn.1)
   exact ⟨by omega,fun q=>absurd (by rw [e]; exact List.mem_cons_self) q⟩
  ·have e2:l_md r (i,n)=none:=by unfold l_md; rw [if_neg e]
   rw [List.filterMap_cons_none e2]
   exact ⟨h1,fun q=>h2 fun q2=>q (List.mem_cons_of_mem _ q2)⟩
theorem zMC (hn:cs.Nodup) (k:List zB):(Yq cs k am).length≤cs.length+k.length:=by
 unfold Yq
 rw [List.length_append,List.length_map,List.length_zipIdx]
 have:∀ k:List zB,(k.flatMap (zFg cs)).length≤k.length:=by
  intro k
  induction k with
  | nil=>exact Nat.le_refl _
  | cons r k ih =>
   rw [List.flatMap_cons,List.length_append,List.length_cons]
   have:=(zLn r cs 0 hn).1
   unfold zFg at *
   omega
 have:=this k
 omega
end
end Go.Mx
