/- Part of the proof of TopShipsLieClear: plain laws about the functions of M, no program in sight. Conditions: none. -/
import Derived.Test.YtdpifjmggnjagaaGreatLawYe
import Derived.Test.YtdpifjmggnjagaaGreatLawYb
set_option linter.unusedVariables false
set_option linter.unusedSimpArgs false
namespace Go.Mx
structure Aug (cost:List (List Int)) (p i:Nat) (u v of fr:List Int) (L:List Nat) (a:Nat) (L':List Nat) (o:List Int):Prop where
 l:o.length=p+1
 ap:a≤p
 ch:Chain fr (a :: L')
 sub:∀ x∈L',x∈L
 te:a≠0→∀ c:Nat,gI fr a=(c:Int)→gI u (Of of i c)+gI v a=cC cost (Of of i c) a
 same:∀ k∈L',gI o k=(Of of i k:Int)
 rg:∀ k,k≤p→0≤gI o k∧gI o k≤i
 inj:∀ k l,k≤p→l≤p→k≠a→l≠a→gI o k≠0→gI o k=gI o l→k=l
 sur:∀ r:Nat,1≤r→r≤i→∃ k,k≤p∧k≠a∧gI o k=(r:Int)
 ti:∀ k,1≤k→k≤p→k≠a→gI o k≠0→gI u (gI o k).toNat+gI v k=cC cost (gI o k).toNat k
 vz:∀ k,1≤k→k≤p→k≠a→gI o k=0→gI v k=0
theorem zRd {cost:List (List Int)} {p i:Nat} {u0 v0 u v of fr least:List Int} {used:List Bool} {m0:Nat} {L:List Nat} (hc:zBe cost p) (hi1:1≤i) (hi2:i≤cost.length) (hA:AInv cost p i u0 v0 of) (hm0:m0≠0)
  (hS:SInv cost p i u0 v0 of (Of of i) m0 L u v least fr used):∀ (m a:Nat) (L':List Nat) (o:List Int),L'.length<m→Aug cost p i u v of fr L a L' o →
   ∃ o',Aug cost p i u v of fr L 0 [] o'∧Lp (Qi (i:Int) u v fr) m ((a:Int),o)=some (.inl ((i+1:Nat),u,v,o')):=by
 have hp:=hc.hp; have hn:=hc.hn
 have hol:0<of.length:=by rw [hA.lo]; omega
 intro m
 induction m with
 | zero=>intro a L' o h; omega
 | succ m ih =>
  intro a L' o h hG
  by_cases ha:a=0
  ·subst ha
   have e:=hG.ch.nil
   subst e
   refine ⟨o,hG,zDc m ?_⟩
   unfold Qi Qf
   simp only
   rw [bg (by simp),zw (by omega) (by omega)]; rfl
  ·have hch:=hG.ch
   obtain ⟨c,hc1,hc2⟩:∃ c∈L',gI fr a=((c:Nat):Int):=by
    rcases hch with ⟨_,q⟩ | ⟨_,_,q,_⟩
    ·exact absurd q ha
    ·exact q
   have hal:a∉L':=(List.nodup_cons.1 hch.nodup).1
   obtain ⟨L2,q1,q2,q3⟩:=(hch.tl ha).cut hc1
   have hcL:=hG.sub c hc1
   have hcp:c≤p:=hS.le c (bq _ hcL)
   have hap:=hG.ap; have hol2:=hG.l
   have hca:c≠a:=fun e=>hal (by rw [← e]; exact hc1)
   have hoc:=hG.same c hc1
   have hpos:Of of i c≠0:=by
    by_cases e:c=0
    ·rw [e,zPb hol]; omega
    ·have:=hS.mt c hcL e
     have:=hA.rg c (by omega) hcp
     rw [zOw hol (by omega)]; omega
   have hgs:∀ k,gI (o.set a (Of of i c:Int)) k=if k=a then (Of of i c:Int) else gI o k:=fun k=>jw (by omega) _ _
   have hN:Aug cost p i u v of fr L c L2 (o.set a (Of of i c:Int)):=by
    refine ⟨by rw [List.length_set]; exact hG.l,hcp,q1,fun x hx=>hG.sub x (q3 x (bq _ hx)),fun hc0 d hd=>hS.te c (bq _ hcL) hc0 d hd,fun k hk=>?_,fun k hk=>?_,fun k l hk hl h1 h2 h3 h4=>?_,fun r h1 h2=>?_,fun k h1 h2 h3 h4=>?_,fun k h1 h2 h3 h4=>?_⟩
    ·have hkL:=q3 k (bq _ hk)
     rw [hgs,bg (fun e=>hal (by rw [← e]; exact hkL))]
     exact hG.same k hkL
    ·rw [hgs]
     split
     ·rw [← hoc]; exact hG.rg c hcp
     ·exact hG.rg k hk
    ·rw [hgs] at h3
     rw [hgs,hgs] at h4
     by_cases ka:k=a
     ·by_cases la:l=a
      ·omega
      ·rw [bi ka,bg la,← hoc] at h4
       rw [bi ka,← hoc] at h3
       exact absurd (hG.inj c l hcp hl hca la h3 h4).symm h2
     ·rw [bg ka] at h3 h4
      by_cases la:l=a
      ·rw [bi la,← hoc] at h4
       exact absurd (hG.inj k c hk hcp ka hca h3 h4) h1
      ·rw [bg la] at h4
       exact hG.inj k l hk hl ka la h3 h4
    ·obtain ⟨k,w1,w2,w3⟩:=hG.sur r h1 h2
     by_cases e:k=c
     ·exact ⟨a,hap,fun q=>hca q.symm,by rw [hgs,bi rfl,← hoc,← e]; exact w3⟩
     ·exact ⟨k,w1,e,by rw [hgs,bg w2]; exact w3⟩
    ·rw [hgs] at h4 ⊢
     by_cases e:k=a
     ·rw [bi e,e]
      have:=hG.te ha c hc2
      rw [show ((Of of i c:Nat):Int).toNat=Of of i c by omega]; exact this
     ·rw [bg e] at h4 ⊢
      exact hG.ti k h1 h2 e h4
    ·rw [hgs] at h4
     by_cases e:k=a
     ·rw [bi e] at h4; omega
     ·rw [bg e] at h4
      exact hG.vz k h1 h2 e h4
   obtain ⟨o',w1,w2⟩:=ih c L2 _ (by omega) hN
   refine ⟨o',w1,?_⟩
   rw [zEV (s':=((c:Int),o.set a (Of of i c:Int))) m ?_]
   ·exact w2
   ·have hfl:=hS.lf
    unfold Qi
    simp only
    rw [bi (by simp; omega),jU (by omega),ba,hc2,jU (by omega),ba,jU (by omega),ba,ba,jh,hoc]
theorem zRe {cost:List (List Int)} {p i:Nat} {u0 v0 u v of fr least o:List Int} {used:List Bool} {m0:Nat} {L:List Nat} (hc:zBe cost p) (hi1:1≤i) (hi2:i≤cost.length) (hA:AInv cost p i u0 v0 of) (hm0:m0≠0)
  (hS:SInv cost p i u0 v0 of (Of of i) m0 L u v least fr used) (hG:Aug cost p i u v of fr L 0 [] o):AInv cost p (i+1) u v o:=by
 have hp:=hc.hp; have hn:=hc.hn
 have ui:=hS.ui
 refine ⟨hS.lu,hS.lv,hG.l,fun k h1 h2=>?_,fun k l h1 h2 h3 h4=>hG.inj k l h2 h4 (by omega) (by omega),fun r h1 h2=>?_,fun k h1 h2=>⟨(hS.vz k h1 h2).1,hG.vz k h1 h2 (by omega)⟩,fun r k h1 h2 h3 h4=>?_,fun k h1 h2 h3=>hG.ti k h1 h2 (by omega) h3,fun r hr=>?_,fun r=>?_,fun k=>?_⟩
 ·have:=hG.rg k h2; omega
 ·obtain ⟨k,q1,q2,q3⟩:=hG.sur r h1 (by omega)
  exact ⟨k,by omega,q1,q3⟩
 ·by_cases e:r=i
  ·rw [e]; exact hS.fi hm0 k h3 h4
  ·exact hS.fe r k h1 (by omega) h3 h4
 ·rw [hS.uo r (.inr (by omega))]; exact hA.uz r (by omega)
 ·have b:=hA.bu r
  by_cases e:r=0∨i<r
  ·rw [hS.uo r e]; omega
  ·by_cases e2:r=i
   ·rw [e2]; omega
   ·have:=hS.ub r (by omega) (by omega); omega
 ·have b:=hA.bv k
  by_cases e:k=0
  ·rw [e,hS.vn]; rw [e] at b; omega
  ·by_cases e2:k≤p
   ·have:=hS.vb k (by omega) e2; omega
   ·rw [zOd (by rw [hS.lv]; omega)]; omega
theorem zMz {cost:List (List Int)} {p i:Nat} {u0 v0 of:List Int} (hc:zBe cost p) (hi1:1≤i) (hi2:i≤cost.length) (hA:AInv cost p i u0 v0 of):∀ (m:Nat) (at_:Nat) (L:List Nat) (u v least fr:List Int) (used:List Bool),p+1<L.length+m →
  SInv cost p i u0 v0 of (Of of i) at_ L u v least fr used→(at_≠0→gI of at_≠0) →
  ∃ u' v' o,AInv cost p (i+1) u' v' o∧Lp (Y3 cost (p:Int) (i:Int) of) m ((at_:Int),u,v,least,fr,used)=some (.inl ((i+1:Nat),u',v',o)):=by
 have hp:=hc.hp; have hn:=hc.hn
 have hol:0<of.length:=by rw [hA.lo]; omega
 intro m
 induction m with
 | zero =>
  intro at_ L u v least fr used h hS hat
  have:=zBC (l:=at_ :: L) (r:=List.range (p+1)) hS.ch.nodup fun x hx=>by rw [cd]; have:=hS.le x hx; omega
  simp at this
  omega
 | succ n ih =>
  intro at_ L u v least fr used h hS hat
  obtain ⟨m,u',v',ls',fr',m1,m2,hS',hb⟩:=asgIter hc hi1 hi2 hA hS hat
  have hx:ix (put of 0 (i:Int)) (m:Int)=some (gI of m):=by
   rw [show put of 0 (i:Int)=of.set 0 (i:Int) from rfl,jU (by rw [List.length_set,hA.lo]; omega),jw hol,bg (by omega)]
  unfold JX at hb
  rw [hx,ba] at hb
  by_cases e:gI of m=0
  ·rw [bi (by simpa using e)] at hb
   unfold Qg at hb
   have hlen:(at_ :: L).length≤p+1:=by
    have:=zBC (l:=at_ :: L) (r:=List.range (p+1)) hS.ch.nodup fun x hx=>by rw [cd]; have:=hS.le x hx; omega
    simpa using this
   have hg:Aug cost p i u' v' of fr' (at_ :: L) m (at_ :: L) (of.set 0 (i:Int)):=by
    have hgs:∀ k,gI (of.set 0 (i:Int)) k=if k=0 then (i:Int) else gI of k:=fun k=>jw hol _ _
    refine ⟨by rw [List.length_set]; exact hA.lo,m2,hS'.ch,fun x hx=>hx,fun h0 c hcc=>hS'.te m bp h0 c hcc,fun k hk=>?_,fun k hk=>?_,fun k l hk hl h1 h2 h3 h4=>?_,fun r h1 h2=>?_,fun k h1 h2 h3 h4=>?_,fun k h1 h2 h3 h4=>?_⟩
    ·unfold Of
     rw [hgs]
     split
     ·omega
     ·have:=hA.rg k (by omega) (hS'.le k (bq _ hk)); omega
    ·rw [hgs]
     split
     ·omega
     ·have:=hA.rg k (by omega) hk; omega
    ·rw [hgs] at h3
     rw [hgs,hgs] at h4
     by_cases k0:k=0
     ·by_cases l0:l=0
      ·omega
      ·rw [bi k0,bg l0] at h4
       have:=hA.rg l (by omega) hl; omega
     ·rw [bg k0] at h3 h4
      by_cases l0:l=0
      ·rw [bi l0] at h4
       have:=hA.rg k (by omega) hk; omega
      ·rw [bg l0] at h4
       exact hA.inj k l (by omega) hk (by omega) hl h3 h4
    ·by_cases er:r=i
     ·exact ⟨0,by omega,by omega,by rw [hgs,bi rfl,er]⟩
     ·obtain ⟨k,q1,q2,q3⟩:=hA.sur r h1 (by omega)
      exact ⟨k,q2,fun q=>by rw [q] at q3; omega,by rw [hgs,bg (by omega)]; exact q3⟩
    ·rw [hgs,bg (by omega)] at h4 ⊢
     exact hS'.ti k h1 h2 h4
    ·rw [hgs,bg (by omega)] at h4
     exact (hS'.vz k h1 h2).2 h4
   obtain ⟨o,w1,w2⟩:=zRd hc hi1 hi2 hA (by omega) hS' fuel m (at_ :: L) _ (by unfold fuel; omega) hg
   refine ⟨u',v',o,zRe hc hi1 hi2 hA (by omega) hS' w1,zDc n ?_⟩
   rw [hb,show put of 0 (i:Int)=of.set 0 (i:Int) from rfl,w2]; rfl
  ·rw [bg (by simpa using e)] at hb
   obtain ⟨u2,v2,o,w1,w2⟩:=ih m (at_ :: L) u' v' ls' fr' _ (by simp only [bt]; omega) hS' (fun _=>e)
   exact ⟨u2,v2,o,w1,by rw [zEV n hb]; exact w2⟩
theorem zRh {cost:List (List Int)} {p i:Nat} {u v of least:List Int} (hc:zBe cost p) (hi1:1≤i) (hi2:i≤cost.length) (hA:AInv cost p i u v of) (hl:least.length=p+1) (hls:∀ k,k≤p→gI least k=4294967296) :
  SInv cost p i u v of (Of of i) 0 [] u v least (List.replicate (p+1) 0) (List.replicate (p+1) false):=by
 have hu:=hA.uz i (Nat.le_refl _)
 refine ⟨hA.lu,hA.lv,hl,by simp,by simp,.inl ⟨rfl,rfl⟩,fun k=>by rw [gB_rep]; simp,fun k hk=>by rw [cb] at hk; omega,fun k hk=>(by cases hk),hA.vz,hA.fe,hA.ti,fun h=>absurd rfl h,fun k hk h0=>by rw [cb] at hk; exact absurd hk h0,fun j hj=>(by cases hj),fun k h1 h2 _=>.inr (by rw [hls k h2,hu]; rfl),fun h=>absurd rfl h,fun k h1 h2 _=>by rw [hls k h2,hu]; decide,⟨by omega,by omega,fun _=>hu⟩,fun r h1 h2=>by omega,fun r _=>rfl,fun k h1 h2=>by omega,by omega,fun _=>⟨fun _ _ _=>rfl,fun _ _ _=>rfl⟩⟩
theorem zFl {α:Type} [DecidableEq α] (f:α→Int) {a:α}:∀ {B:List α},a∈B→(B.map f).sum=f a+((B.erase a).map f).sum
 | [],h=>by cases h
 | b :: r,h=>by
  by_cases e:b=a
  ·subst e; simp
  ·have ha:a∈r:=by
    rcases List.mem_cons.1 h with h | h
    ·exact absurd h.symm e
    ·exact h
   rw [List.erase_cons_tail (by simpa using e),bw,bw,List.sum_cons,List.sum_cons,zFl f ha]
   omega
theorem zO1 {α:Type} (f:α→Int):∀ {B:List α},(∀ b∈B,f b≤0)→(B.map f).sum≤0
 | [],_=>by simp
 | b :: r,h=>by
  have:=zO1 f (B:=r) fun x hx=>h x (bq _ hx)
  have:=h b bp
  rw [bw,List.sum_cons]; omega
theorem zJA {α:Type} [DecidableEq α] (f:α→Int):∀ {A B:List α},A.Nodup→(∀ x∈A,x∈B)→(∀ b∈B,f b≤0)→(B.map f).sum≤(A.map f).sum
 | [],B,_,_,h=>by simpa using zO1 f h
 | a :: A,B,hn,hs,h=>by
  rw [List.nodup_cons] at hn
  rw [zFl f (hs a bp),bw,List.sum_cons]
  have:=zJA f (A:=A) (B:=B.erase a) hn.2 (fun x hx=>(List.mem_erase_of_ne (fun e:x=a=>hn.1 (by rw [← e]; exact hx))).2 (hs x (bq _ hx))) fun b hb=>h b (List.mem_of_mem_erase hb)
  omega
theorem zGN {α:Type} [DecidableEq α] (f:α→Int):∀ {A B:List α},A.Nodup→B.Nodup→(∀ x∈A,x∈B)→(∀ b∈B,b∉A→f b=0)→(B.map f).sum=(A.map f).sum
 | [],B,_,_,_,h=>by
  have:∀ {B:List α},(∀ b∈B,f b=0)→(B.map f).sum=0:=by
   intro B
   induction B with
   | nil=>intro _; rfl
   | cons b r ih=>intro q; rw [bw,List.sum_cons,q b bp,ih fun x hx=>q x (bq _ hx)]; rfl
  simpa using this fun b hb=>h b hb (by simp)
 | a :: A,B,hn,hB,hs,h=>by
  rw [List.nodup_cons] at hn
  rw [zFl f (hs a bp),bw,List.sum_cons]
  have:=zGN f (A:=A) (B:=B.erase a) hn.2 (hB.erase a) (fun x hx=>(List.mem_erase_of_ne (fun e:x=a=>hn.1 (by rw [← e]; exact hx))).2 (hs x (bq _ hx))) fun b hb hbA=>by
   have hb2:=(List.Nodup.mem_erase_iff hB).1 hb
   exact h b hb2.2 fun q=>by
    rcases List.mem_cons.1 q with q | q
    ·exact hb2.1 q
    ·exact hbA q
  omega
theorem zGO {α:Type} (f g:α→Int):∀ {l:List α},(∀ x∈l,f x≤g x)→(l.map f).sum≤(l.map g).sum
 | [],_=>by simp
 | a :: l,h=>by
  have:=zGO f g (l:=l) fun x hx=>h x (bq _ hx)
  have:=h a bp
  simp only [bw,List.sum_cons]; omega
theorem zBm {α:Type} (f g:α→Int):∀ {l:List α},(∀ x∈l,f x=g x)→(l.map f).sum=(l.map g).sum
 | [],_=>by simp
 | a :: l,h=>by
  have:=zBm f g (l:=l) fun x hx=>h x (bq _ hx)
  have:=h a bp
  simp only [bw,List.sum_cons]; omega
theorem zEv {α:Type} (f g:α→Int):∀ {l:List α},(l.map fun x=>f x+g x).sum=(l.map f).sum+(l.map g).sum
 | []=>by simp
 | a :: l=>by
  have:=zEv f g (l:=l)
  simp only [bw,List.sum_cons]; omega
structure Asg (n p:Nat) (s:Nat→Nat):Prop where
 lt:∀ r,r<n→s r<p
 inj:∀ r q,r<n→q<n→s r=s q→r=q
def tot (cost:List (List Int)) (s:Nat→Nat):Int:=((List.range cost.length).map fun r=>cC cost (r+1) (s r+1)).sum
def wCol (cost:List (List Int)) (of:List Int) (k:Nat):Int:=if gI of (k+1)=0 then 0 else cC cost (gI of (k+1)).toNat (k+1)
theorem zLd {n p:Nat} {s:Nat→Nat} (h:Asg n p s):((List.range n).map s).Nodup∧∀ x∈(List.range n).map s,x∈List.range p:=by
 constructor
 ·rw [List.nodup_iff_pairwise_ne,List.pairwise_map]
  refine List.Pairwise.imp_of_mem (R:=fun a b=>a≠b) (fun {a b} ha hb hab e=>?_) (List.nodup_iff_pairwise_ne.1 List.nodup_range)
  rw [cd] at ha hb
  exact hab (h.inj a b ha hb e)
 ·intro x hx
  rw [List.mem_map] at hx
  obtain ⟨k,hk,rfl⟩:=hx
  rw [cd] at hk ⊢
  exact h.lt k hk
theorem zQj {cost:List (List Int)} {p:Nat} {u v of:List Int} (hc:zBe cost p) (hA:AInv cost p (cost.length+1) u v of) :
  ∃ out,Lp (YP cost (p:Int) of) fuel (0,1,List.replicate cost.length 0)=some (out,((List.range p).map (wCol cost of)).sum)∧out.length=cost.length∧∀ k,1≤k→k≤p→gI of k≠0→gI out ((gI of k).toNat - 1)=(k:Int) - 1:=by
 have hp:=hc.hp; have hn:=hc.hn
 have key:=Qz (body:=YP cost (p:Int) of) (X:=fun s=>Qh s.1 s.2.2) (s0:=(0,1,List.replicate cost.length 0))
  (fun j s=>s.2.1=((j+1:Nat):Int)∧s.1=((List.range j).map (wCol cost of)).sum∧-(1073741824*(j:Int))≤s.1∧s.1≤1073741824*(j:Int)∧s.2.2.length=cost.length∧∀ k,1≤k→k≤j→gI of k≠0→gI s.2.2 ((gI of k).toNat - 1)=(k:Int) - 1) p (by omega)
  ⟨rfl,rfl,by simp,by simp,by simp,fun k h1 h2=>by omega⟩
  (fun j s hj hI=>by
   obtain ⟨sum,k,out⟩:=s
   simp only at hI
   obtain ⟨rfl,h1,h2,h3,h4,h5⟩:=hI
   have hol:=hA.lo
   have rk:=hA.rg (j+1) (by omega) (by omega)
   have hw:((List.range (j+1)).map (wCol cost of)).sum=((List.range j).map (wCol cost of)).sum+wCol cost of j:=by rw [List.range_succ,List.map_append,List.sum_append]; simp
   unfold YP
   simp only
   rw [bi (by simp; omega),jU (by omega),ba]
   by_cases e:0<gI of (j+1)
   ·have hr1:1≤(gI of (j+1)).toNat:=by omega
    have hr2:(gI of (j+1)).toNat≤cost.length:=by omega
    have er:gI of (j+1)=(((gI of (j+1)).toNat:Nat):Int):=by omega
    obtain ⟨q1,q2⟩:=hc.row hr1 hr2
    obtain ⟨q3,q4,q5⟩:=hc.at hr1 hr2 (k:=j+1) (by omega) (by omega)
    have e1:w64 (gI of (j+1) - 1)=(((gI of (j+1)).toNat - 1:Nat):Int):=by rw [zw (by omega) (by omega)]; omega
    have q1':=q1
    rw [← er] at q1'
    have ew:wCol cost of j=cC cost (gI of (j+1)).toNat (j+1):=by unfold wCol; rw [bg (by omega)]
    rw [bi (by simpa using e),ba,e1,jU (by omega),ba,ba,← e1,q1',ba,q3,ba,e1]
    unfold yQ
    rw [zw (n:=sum+_) (by omega) (by omega),zw (n:=((j+1:Nat):Int)+1) (by omega) (by omega),zw (n:=((j+1:Nat):Int) - 1) (by omega) (by omega),jh]
    refine ⟨_,rfl,rfl,?_,?_,?_,by simp only [List.length_set]; exact h4,fun k k1 k2 k3=>?_⟩
    ·simp only; rw [hw,h1,ew]
    ·simp only; omega
    ·simp only; omega
    ·simp only
     rw [jw (by omega)]
     by_cases ek:k=j+1
     ·subst ek; rw [bi rfl]
     ·have rk2:=hA.rg k k1 (by omega)
      rw [bg (fun q=>ek (hA.inj k (j+1) k1 (by omega) (by omega) (by omega) k3 (by omega)))]
      exact h5 k k1 (by omega) k3
   ·have ew:wCol cost of j=0:=by unfold wCol; rw [bi (by omega)]
    rw [bg (by simpa using e)]
    unfold yQ
    rw [zw (n:=((j+1:Nat):Int)+1) (by omega) (by omega)]
    refine ⟨_,rfl,rfl,?_,?_,?_,h4,fun k k1 k2 k3=>?_⟩
    ·simp only; rw [hw,h1,ew]; omega
    ·simp only; omega
    ·simp only; omega
    ·by_cases ek:k=j+1
     ·subst ek; omega
     ·exact h5 k k1 (by omega) k3)
  (fun s hI=>by
   obtain ⟨sum,k,out⟩:=s
   simp only at hI
   obtain ⟨rfl,_⟩:=hI
   unfold YP
   simp only
   rw [bg (by rw [bj]; omega)])
 obtain ⟨⟨sum,k,out⟩,⟨h1,h2,_,_,h3,h4⟩,h5⟩:=key
 simp only at h1 h2 h3 h4 h5
 exact ⟨out,by rw [h5,h2]; rfl,h3,h4⟩
theorem zHv {α:Type} {n:Nat} (h:n≤1048576) (x:α) {m:Int} (hm:m=(n:Int)):mkS m m x=some (List.replicate n x):=by
 subst hm
 unfold mkS
 rw [bi ⟨rfl,by omega,by omega⟩]; rfl
theorem zNw {cost:List (List Int)} {p:Nat} (hc:zBe cost p):∃ u v of,AInv cost p (cost.length+1) u v of∧yj cost (p:Int)=yR cost (p:Int) of:=by
 have hp:=hc.hp; have hn:=hc.hn
 have e1:w64 ((p:Int)+1)=((p+1:Nat):Int):=by rw [zw (by omega) (by omega)]; omega
 have e2:w64 ((cost.length:Int)+1)=((cost.length+1:Nat):Int):=by rw [zw (by omega) (by omega)]; omega
 have rz:∀ n k,gI (List.replicate n 0) k=0:=fun n k=>by
  by_cases h:k<n
  ·exact gI_rep n k 0 h
  ·exact zOd (by simp; omega)
 have key:=Qz (body:=Qj cost (p:Int)) (X:=fun s=>yR cost (p:Int) s.2.2.2) (s0:=(1,List.replicate (cost.length+1) 0,List.replicate (p+1) 0,List.replicate (p+1) 0))
  (fun j s=>s.1=((j+1:Nat):Int)∧AInv cost p (j+1) s.2.1 s.2.2.1 s.2.2.2) cost.length (by omega)
  ⟨rfl,by simp,by simp,by simp,fun k h1 h2=>by simp only [rz]; omega,fun k l h1 h2 h3 h4 h5=>by simp only [rz] at h5; exact absurd rfl h5,fun r h1 h2=>by omega,fun k h1 h2=>by simp [rz],fun r k h1 h2=>by omega,fun k h1 h2 h3=>by simp only [rz] at h3; exact absurd rfl h3,fun r _=>by simp only [rz],fun r=>by simp only [rz]; omega,fun r=>by simp only [rz]; omega⟩
  (fun j s hj hI=>by
   obtain ⟨i,u,v,of⟩:=s
   simp only at hI
   obtain ⟨rfl,hA⟩:=hI
   unfold Qj
   simp only
   rw [bi (by simp; omega),show (0:Int)=((0:Nat):Int) from rfl,jU (by rw [hA.lo]; omega),ba,zHv (n:=p+1) (by omega) _ e1,ba,ba,zHv (n:=p+1) (by omega) _ e1,ba]
   have fill:=Qz (body:=Y2 cost (p:Int) ((j+1:Nat):Int) u v of (List.replicate (p+1) ((0:Nat):Int)) (List.replicate (p+1) ((0:Nat):Int)) (List.replicate (p+1) false)) (X:=fun s=>YO cost (p:Int) ((j+1:Nat):Int) u v of (List.replicate (p+1) ((0:Nat):Int)) (List.replicate (p+1) false) s.2) (s0:=(((0:Nat):Int),List.replicate (p+1) ((0:Nat):Int)))
    (fun q s=>s.1=(q:Int)∧s.2.length=p+1∧∀ k,k<q→gI s.2 k=4294967296) (p+1) (by omega) ⟨rfl,by simp,fun k h=>by omega⟩
    (fun q s hq hI=>by
     obtain ⟨x,l⟩:=s
     simp only at hI
     obtain ⟨rfl,h1,h2⟩:=hI
     unfold Y2
     simp only
     rw [bi (by simp; omega),jU (by omega),ba,zw (by omega) (by omega),jh]
     refine ⟨_,rfl,by simp only; omega,by simp only [List.length_set]; exact h1,fun k hk=>?_⟩
     simp only
     rw [jw (by omega)]
     by_cases e:k=q
     ·rw [bi e]
     ·rw [bg e]; exact h2 k (by omega))
    (fun s hI=>by
     obtain ⟨x,l⟩:=s
     simp only at hI
     obtain ⟨rfl,h1,h2⟩:=hI
     unfold Y2
     simp only
     rw [bg (by simp)])
   obtain ⟨⟨x,l⟩,⟨_,h1,h2⟩,h3⟩:=fill
   simp only at h1 h2 h3
   rw [h3]
   unfold YO
   obtain ⟨u',v',o,w1,w2⟩:=zMz hc (by omega) (by omega) hA fuel 0 [] u v l _ _ (by unfold fuel; simp; omega) (zRh hc (by omega) (by omega) hA h1 fun k hk=>h2 k (by omega)) (fun h=>absurd rfl h)
   refine ⟨((j+1+1:Nat),u',v',o),w2,rfl,w1⟩)
  (fun s hI=>by
   obtain ⟨i,u,v,of⟩:=s
   simp only at hI
   obtain ⟨rfl,_⟩:=hI
   unfold Qj
   simp only
   rw [bg (by rw [bj]; omega)])
 obtain ⟨⟨i,u,v,of⟩,⟨_,h2⟩,h3⟩:=key
 refine ⟨u,v,of,h2,?_⟩
 unfold yj
 rw [zHv (n:=cost.length+1) (by omega) _ e2,ba,zHv (n:=p+1) (by omega) _ e1,ba,ba]
 exact h3
theorem zNv {cost:List (List Int)} {p:Nat} (hc:zBe cost p):∃ out sum,yj cost (p:Int)=some (out,sum)∧out.length=cost.length∧(∀ r,r<cost.length→0≤gI out r)∧Asg cost.length p (fun r=>(gI out r).toNat)∧sum=tot cost (fun r=>(gI out r).toNat)∧∀ s,Asg cost.length p s→sum≤tot cost s:=by
 have hp:=hc.hp; have hn:=hc.hn
 obtain ⟨u,v,of,hA,h1⟩:=zNw hc
 obtain ⟨out,h2,h3,h4⟩:=zQj hc hA
 have hcol:∀ r,r<cost.length→∃ k,1≤k∧k≤p∧gI of k=((r+1:Nat):Int)∧gI out r=(k:Int) - 1:=fun r hr=>by
  obtain ⟨k,q1,q2,q3⟩:=hA.sur (r+1) (by omega) (by omega)
  have:=h4 k q1 q2 (by omega)
  rw [show (gI of k).toNat - 1=r by omega] at this
  exact ⟨k,q1,q2,q3,this⟩
 have hcol2:∀ r,r<cost.length→gI of ((gI out r).toNat+1)=((r+1:Nat):Int):=fun r hr=>by
  obtain ⟨k,q1,q2,q3,q4⟩:=hcol r hr
  rw [show (gI out r).toNat+1=k by omega]; exact q3
 have hAs:Asg cost.length p (fun r=>(gI out r).toNat):=⟨fun r hr=>by obtain ⟨k,q1,q2,q3,q4⟩:=hcol r hr; omega,fun r q hr hq e=>by
  have a:=hcol2 r hr; have b:=hcol2 q hq
  rw [e] at a; omega⟩
 obtain ⟨n1,n2⟩:=zLd hAs
 have hsum:((List.range p).map (wCol cost of)).sum=tot cost (fun r=>(gI out r).toNat):=by
  rw [zGN (wCol cost of) n1 List.nodup_range n2 fun k hk hk2=>?_]
  ·unfold tot
   rw [List.map_map]
   refine zBm _ _ fun r hr=>?_
   rw [cd] at hr
   have:=hcol2 r hr
   simp only [Function.comp,wCol]
   rw [bg (by omega),this]; rfl
  ·unfold wCol
   rw [cd] at hk
   by_cases e:gI of (k+1)=0
   ·rw [bi e]
   ·exfalso
    have rk:=hA.rg (k+1) (by omega) (by omega)
    have:=h4 (k+1) (by omega) (by omega) e
    apply hk2
    rw [List.mem_map]
    exact ⟨(gI of (k+1)).toNat - 1,by rw [cd]; omega,by rw [this]; omega⟩
 refine ⟨out,_,?_,h3,fun r hr=>by obtain ⟨k,q1,q2,q3,q4⟩:=hcol r hr; omega,hAs,hsum,fun s hs=>?_⟩
 ·rw [h1]
  unfold yR
  rw [zHv (n:=cost.length) (by omega) _ rfl,ba]
  exact h2
 ·rw [hsum]
  have ea:tot cost (fun r=>(gI out r).toNat)=((List.range cost.length).map fun r=>gI u (r+1)).sum+((List.range cost.length).map fun r=>gI v ((gI out r).toNat+1)).sum:=by
   unfold tot
   rw [← zEv]
   refine zBm _ _ fun r hr=>?_
   rw [cd] at hr
   have e:=hcol2 r hr
   have:=hA.ti ((gI out r).toNat+1) (by omega) (by have:=hAs.lt r hr; omega) (by omega)
   rw [e,show (((r+1:Nat):Int)).toNat=r+1 by omega] at this
   exact this.symm
  have eb:((List.range cost.length).map fun r=>gI u (r+1)).sum+((List.range cost.length).map fun r=>gI v (s r+1)).sum≤tot cost s:=by
   unfold tot
   rw [← zEv]
   refine zGO _ _ fun r hr=>?_
   rw [cd] at hr
   exact hA.fe (r+1) (s r+1) (by omega) (by omega) (by omega) (by have:=hs.lt r hr; omega)
  have ec:((List.range p).map fun k=>gI v (k+1)).sum=((List.range cost.length).map fun r=>gI v ((gI out r).toNat+1)).sum:=by
   rw [zGN (fun k=>gI v (k+1)) n1 List.nodup_range n2 fun k hk hk2=>?_]
   ·rw [List.map_map]; rfl
   ·rw [cd] at hk
    refine (hA.vz (k+1) (by omega) (by omega)).2 (Classical.byContradiction fun e=>hk2 ?_)
    have rk:=hA.rg (k+1) (by omega) (by omega)
    have:=h4 (k+1) (by omega) (by omega) e
    rw [List.mem_map]
    exact ⟨(gI of (k+1)).toNat - 1,by rw [cd]; omega,by rw [this]; omega⟩
  obtain ⟨m1,m2⟩:=zLd hs
  have ed:=zJA (fun k=>gI v (k+1)) m1 m2 fun k hk=>(hA.vz (k+1) (by omega) (by rw [cd] at hk; omega)).1
  rw [List.map_map] at ed
  have ee:((List.range cost.length).map ((fun k=>gI v (k+1))∘s)).sum=((List.range cost.length).map fun r=>gI v (s r+1)).sum:=rfl
  omega
theorem zFV {α:Type}:∀ (l:List α) (x:α),insL l l.length x=l++[x]
 | [],x=>rfl
 | y :: r,x=>by simp only [bt,insL,zFV r x,List.cons_append]
theorem zJP {α β:Type} [DecidableEq α] (m:List (α×β)) (k:α) (v:β) (h:∀ p∈m,p.1≠k):putM posE m k v=m++[(k,v)]:=by
 unfold putM
 have hf:zBj k m=none:=by
  have:=zAp (k:=k) (l:=m)
  cases e:zBj k m with
  | none=>rfl
  | some i =>
   rw [e] at this
   obtain ⟨v',h1,h2⟩:=this
   exact absurd rfl (h _ (List.mem_of_getElem? h1))
 rw [hf]
 simp only [posE,List.length_map]
 exact zFV m (k,v)
theorem zCs {α β:Type} [DecidableEq α] {k:α} {v:β}:∀ {l:List (α×β)},za k l=some v→(k,v)∈l
 | [],h=>by cases h
 | p :: r,h=>by
  unfold za at h
  split at h
  ·rename_i e
   cases h
   rw [e]; exact bp
  ·exact bq _ (zCs h)
theorem zJq {α β:Type} [DecidableEq α] {k:α}:∀ {l:List (α×β)},za k l=none→∀ v,(k,v)∉l
 | [],h,v,hm=>by cases hm
 | p :: r,h,v,hm=>by
  unfold za at h
  split at h
  ·cases h
  ·rename_i e
   rcases List.mem_cons.1 hm with q | q
   ·exact e (by rw [← q])
   ·exact zJq h v q
def zEP (c:zV):Bool:=decide (1≤c.ID∧c.ID≤1099511627776∧0≤c.Draught∧c.Draught≤8000∧0≤c.From∧c.From≤c.To∧c.To≤1048576∧1≤c.Long∧c.Long≤1440)
theorem zPk (c:zV):zA6 c=zEP c:=by
 unfold zA6 zEP Zk
 rw [Bool.eq_iff_iff]
 simp only [bn,bj]
 constructor <;> intro h <;> omega
structure zCV (c:zV):Prop where
 d0:0≤c.Draught
 d1:c.Draught≤8000
 f0:0≤c.From
 l0:1≤c.Long
 l1:c.Long≤1440
theorem zCV.of {c:zV} (h:zEP c=true):zCV c:=by
 simp only [zEP,bj] at h
 exact ⟨by omega,by omega,by omega,by omega,by omega⟩
def zAe (h:zN) (c:zV) (i:Nat) (t:zB) (bs:List zy):List (zK×zB):=bs.filterMap fun b=>if (Y7 h c t b).2=true then some ((⟨i,b.ID⟩:zK),(Y7 h c t b).1) else none
def zAD (h:zN) (c:zV):Nat→List zB→List (zK×zB)
 | _,[]=>[]
 | i,t :: r=>zAe h c i t h.Berths++zAD h c (i+1) r
def zC3 (h:zN):Nat→List zB→List zK
 | _,[]=>[]
 | i,t :: r=>(h.Berths.map fun b=>(⟨i,b.ID⟩:zK))++zC3 h (i+1) r
theorem zLk (h:zN) (c:zV) (i:Nat) (t:zB) (b:zy) (bs:List zy):zAe h c i t (b :: bs)=(if (Y7 h c t b).2=true then [((⟨i,b.ID⟩:zK),(Y7 h c t b).1)] else [])++zAe h c i t bs:=by
 unfold zAe
 rw [List.filterMap_cons]
 by_cases e:(Y7 h c t b).2=true
 ·rw [bi e,bi e]; rfl
 ·rw [bg e,bg e]; rfl
theorem zIN {h:zN} {c:zV} {i:Nat} {t:zB} {bs:List zy} {x:zK} {s:zB}:(x,s)∈zAe h c i t bs↔∃ b∈bs,x=⟨i,b.ID⟩∧(Y7 h c t b).2=true∧s=(Y7 h c t b).1:=by
 unfold zAe
 rw [List.mem_filterMap]
 constructor
 ·rintro ⟨b,hb,q⟩
  split at q
  ·rename_i e
   cases q
   exact ⟨b,hb,rfl,e,rfl⟩
  ·cases q
 ·rintro ⟨b,hb,rfl,e,rfl⟩
  exact ⟨b,hb,by rw [bi e]⟩
theorem zGe {h:zN} {c:zV} {x:zK} {s:zB}:∀ {ts:List zB} {i:Nat},(x,s)∈zAD h c i ts↔∃ (j:Nat) (hj:j<ts.length),∃ b∈h.Berths,x=⟨((i+j:Nat):Int),b.ID⟩∧(Y7 h c ts[j] b).2=true∧s=(Y7 h c ts[j] b).1
 | [],i=>by simp [zAD]
 | t :: r,i=>by
  unfold zAD
  rw [List.mem_append,zIN,zGe]
  constructor
  ·rintro (⟨b,hb,q⟩ | ⟨j,hj,b,hb,q1,q2,q3⟩)
   ·exact ⟨0,by simp,b,hb,q⟩
   ·exact ⟨j+1,by simp only [bt]; omega,b,hb,by rw [q1,show i+1+j=i+(j+1) by omega],q2,q3⟩
  ·rintro ⟨j,hj,b,hb,q1,q2,q3⟩
   cases j with
   | zero=>exact .inl ⟨b,hb,q1,q2,q3⟩
   | succ j=>exact .inr ⟨j,by simpa using hj,b,hb,by rw [q1,show i+1+j=i+(j+1) by omega],q2,q3⟩
theorem zJf {h:zN} {x:zK}:∀ {ts:List zB} {i:Nat},x∈zC3 h i ts↔∃ (j:Nat) (hj:j<ts.length),∃ b∈h.Berths,x=⟨((i+j:Nat):Int),b.ID⟩
 | [],i=>by simp [zC3]
 | t :: r,i=>by
  unfold zC3
  rw [List.mem_append,List.mem_map,zJf]
  constructor
  ·rintro (⟨b,hb,rfl⟩ | ⟨j,hj,b,hb,q1⟩)
   ·exact ⟨0,by simp,b,hb,rfl⟩
   ·exact ⟨j+1,by simp only [bt]; omega,b,hb,by rw [q1,show i+1+j=i+(j+1) by omega]⟩
  ·rintro ⟨j,hj,b,hb,q1⟩
   cases j with
   | zero=>exact .inl ⟨b,hb,q1.symm⟩
   | succ j=>exact .inr ⟨j,by simpa using hj,b,hb,by rw [q1,show i+1+j=i+(j+1) by omega]⟩
theorem zJF {h:zN}:∀ (ts:List zB) (i:Nat),(zC3 h i ts).length=h.Berths.length*ts.length
 | [],i=>rfl
 | t :: r,i=>by simp only [zC3,List.length_append,List.length_map,zJF r,bt,Nat.mul_succ]; omega
theorem zMr (h:zN) (c:zV) (i:Nat) (t:zB) (bs:List zy):(zAe h c i t bs).length≤bs.length:=List.length_filterMap_le _ _
theorem zPf {h:zN} (hg:zDT h) {c:zV} (hc:zCV c) {i:Nat} (hi:i<h.Tides.length) (l:List zK) (m:List (zK×zB)) (hl:l.length≤6*i) (hm:∀ p∈m,p.1.Tide≠(i:Int)) :
  Lp (qO h c (i:Int)) fuel (0,l,m)=some (.inl (((i+1:Nat):Int),l++(zAe h c i h.Tides[i] h.Berths).map (·.1),m++zAe h c i h.Tides[i] h.Berths)):=by
 have hnt:=hg.nt; have hnb:=hg.nb
 refine jK h.Berths (by omega) (fun (a:List zK×List (zK×zB)) j=>(j,a.1,a.2)) (fun a r=>Sum.inl (((i+1:Nat):Int),a.1++(zAe h c i h.Tides[i] r).map (·.1),a.2++zAe h c i h.Tides[i] r))
  (fun j a=>a.1.length≤6*i+j∧∀ p∈a.2,p.1.Tide≠(i:Int)∨∃ (q:Nat) (hq:q<h.Berths.length),q<j∧p.1.Berth=h.Berths[q].ID) (a:=(l,m)) rfl ⟨by simpa using hl,fun p hp=>.inl (hm p hp)⟩ (fun a j hj hJ=>?_) (fun a _=>?_)
 ·left
  obtain ⟨l,m⟩:=a
  obtain ⟨h1,h2⟩:=hJ
  simp only at h1 h2 ⊢
  unfold qO ze
  simp only
  rw [bi (by simpa using hj),ZY hj,ba,when_eq (t:=h.Tides[i]) hg (by rw [ZY hi]) (bz hj) hc.d0 hc.d1 hc.f0 hc.l0 hc.l1,ba,w64s' hj (by omega),zLk]
  by_cases e:(Y7 h c h.Tides[i] h.Berths[j]).2=true
  ·have hnew:∀ p∈m,p.1≠(⟨i,h.Berths[j].ID⟩:zK):=fun p hp q=>by
    rcases h2 p hp with w | ⟨k,hk,hkj,w⟩
    ·exact w (by rw [q])
    ·rw [q] at w
     exact List.pairwise_iff_getElem.1 hg.bd k j hk hj hkj w.symm
   rw [bi e,Js (by simp only [bt,List.length_nil]; omega),ba,bi e,zJP _ _ _ hnew]
   refine ⟨(_,_),rfl,by simp,by simp only [List.length_append,bt,List.length_nil]; omega,fun p hp=>?_⟩
   simp only [List.mem_append,cb] at hp
   rcases hp with hp | rfl
   ·rcases h2 p hp with w | ⟨k,hk,hkj,w⟩
    ·exact .inl w
    ·exact .inr ⟨k,hk,by omega,w⟩
   ·exact .inr ⟨j,hj,by omega,rfl⟩
  ·rw [bg e,bg e]
   refine ⟨(l,m),rfl,by simp,by simp only; omega,fun p hp=>?_⟩
   rcases h2 p hp with w | ⟨k,hk,hkj,w⟩
   ·exact .inl w
   ·exact .inr ⟨k,hk,by omega,w⟩
 ·unfold qO ze qN
  simp only
  rw [bg (by simp),zw (by omega) (by omega)]
  simp [zAe]
theorem zQS {h:zN} (hg:zDT h) {c:zV} (hc:zCV c):zCS h c=some ((zAD h c 0 h.Tides).map (·.1),zAD h c 0 h.Tides):=by
 have hnt:=hg.nt; have hnb:=hg.nb
 unfold zCS
 refine (jK h.Tides (by omega) (fun (a:List zK×List (zK×zB)) i=>(i,a.1,a.2)) (fun a r=>(a.1++(zAD h c (h.Tides.length - r.length) r).map (·.1),a.2++zAD h c (h.Tides.length - r.length) r))
  (fun i a=>a.1.length≤6*i∧∀ p∈a.2,p.1.Tide<(i:Int)) (a:=([],[])) rfl ⟨by simp,fun p hp=>by cases hp⟩ (fun a i hi hJ=>?_) (fun a _=>?_)).trans (by simp)
 ·left
  obtain ⟨l,m⟩:=a
  obtain ⟨h1,h2⟩:=hJ
  simp only at h1 h2 ⊢
  unfold zBY
  simp only [show (ze h).Tides=h.Tides from rfl]
  rw [bi (by simpa using hi),zPf hg hc hi l m h1 fun p hp q=>by have:=h2 p hp; omega]
  have e1:h.Tides.length - (h.Tides[i] :: h.Tides.drop (i+1)).length=i:=by simp only [bt,List.length_drop]; omega
  have e2:h.Tides.length - (h.Tides.drop (i+1)).length=i+1:=by simp only [List.length_drop]; omega
  refine ⟨(_,_),rfl,by rw [e1,e2]; simp [zAD],?_,fun p hp=>?_⟩
  ·have:=zMr h c i h.Tides[i] h.Berths
   simp only [List.length_append,List.length_map]; omega
  ·simp only [List.mem_append] at hp
   rcases hp with hp | hp
   ·have:=h2 p hp; omega
   ·obtain ⟨x,s⟩:=p
    rw [zIN] at hp
    obtain ⟨b,hb,rfl,_⟩:=hp
    simp only; omega
 ·unfold zBY
  simp only [show (ze h).Tides=h.Tides from rfl]
  rw [bg (by simp)]
  simp [zAD]
theorem zNJ {h:zN} (hg:zDT h) {c:zV} {j:Nat} (hj:j<h.Tides.length) {b:zy} (hb:b∈h.Berths):za (⟨j,b.ID⟩:zK) (zAD h c 0 h.Tides)=if (Y7 h c h.Tides[j] b).2=true then some (Y7 h c h.Tides[j] b).1 else none:=by
 have huniq:∀ a∈h.Berths,a.ID=b.ID→a=b:=fun a ha e=>by
  obtain ⟨p,hp,rfl⟩:=List.getElem_of_mem ha
  obtain ⟨q,hq,rfl⟩:=List.getElem_of_mem hb
  rcases Nat.lt_trichotomy p q with w | w | w
  ·exact absurd e (List.pairwise_iff_getElem.1 hg.bd p q hp hq w)
  ·subst w; rfl
  ·exact absurd e.symm (List.pairwise_iff_getElem.1 hg.bd q p hq hp w)
 cases e:za (⟨j,b.ID⟩:zK) (zAD h c 0 h.Tides) with
 | some s =>
  obtain ⟨k,hk,a,ha,q1,q2,q3⟩:=zGe.1 (zCs e)
  injection q1 with w1 w2
  have:k=j:=by omega
  subst this
  rw [huniq a ha w2.symm] at q2 q3
  rw [bi q2,q3]
 | none =>
  by_cases w:(Y7 h c h.Tides[j] b).2=true
  ·exact absurd (zGe.2 ⟨j,hj,b,hb,by simp,w,rfl⟩) (zJq e _)
  ·rw [bg w]
theorem zQ1 {h:zN} (hg:zDT h) {i:Nat} (hi:i<h.Tides.length) (l:List zK) (hl:l.length≤6*i):Lp (zAa h (i:Int)) fuel (0,l)=some (.inl (((i+1:Nat):Int),l++h.Berths.map fun b=>(⟨i,b.ID⟩:zK))):=by
 have hnt:=hg.nt; have hnb:=hg.nb
 refine jK h.Berths (by omega) (fun (a:List zK) j=>(j,a)) (fun a r=>Sum.inl (((i+1:Nat):Int),a++r.map fun b=>(⟨i,b.ID⟩:zK))) (fun j a=>a.length≤6*i+j) (a:=l) rfl (by simpa using hl) (fun a j hj hJ=>?_) (fun a _=>?_)
 ·left
  unfold zAa ze
  simp only
  rw [bi (by simpa using hj),ZY hj,ba,Js (by simp only [bt,List.length_nil]; omega),ba,w64s' hj (by omega)]
  exact ⟨_,rfl,by simp only [bw,List.append_assoc,List.cons_append,List.nil_append],by simp only [List.length_append,bt,List.length_nil]; omega⟩
 ·unfold zAa ze zAZ
  simp only
  rw [bg (by simp),zw (by omega) (by omega)]
  simp
def zg (h:zN) (l:List zV):zI:=⟨l,zC3 h 0 h.Tides,l.map fun c=>zAD h c 0 h.Tides,l.map fun _ => -1⟩
theorem zMI {h:zN} (hg:zDT h) {l:List zV} (hl:l.length≤10) (hc:∀ c∈l,zCV c):zAr h l=some (zg h l):=by
 have hnt:=hg.nt; have hnb:=hg.nb
 unfold zAr
 refine (jK h.Tides (by omega) (fun (a:List zK) i=>(i,a)) (fun a r=>(⟨l,a++zC3 h (h.Tides.length - r.length) r,l.map fun c=>zAD h c 0 h.Tides,l.map fun _ => -1⟩:zI)) (fun i a=>a.length≤6*i) (a:=[]) rfl (by simp) (fun a i hi hJ=>?_) (fun a hJ=>?_)).trans (by simp [zg])
 ·left
  unfold zCB
  simp only [show (ze h).Tides=h.Tides from rfl]
  rw [bi (by simpa using hi),zQ1 hg hi a hJ]
  have e1:h.Tides.length - (h.Tides[i] :: h.Tides.drop (i+1)).length=i:=by simp only [bt,List.length_drop]; omega
  have e2:h.Tides.length - (h.Tides.drop (i+1)).length=i+1:=by simp only [List.length_drop]; omega
  exact ⟨_,rfl,by rw [e1,e2]; simp [zC3],by simp only [List.length_append,List.length_map]; omega⟩
 ·unfold zCB
  simp only [show (ze h).Tides=h.Tides from rfl]
  rw [bg (by simp)]
  refine (jK l (by omega) (fun (x:List (List (zK×zB))×List Int) i=>(i,x.1,x.2)) (fun x r=>Sum.inr (⟨l,a,x.1++r.map fun c=>zAD h c 0 h.Tides,x.2++r.map fun _ => -1⟩:zI)) (fun i x=>x.1.length=i∧x.2.length=i) (a:=([],[])) rfl ⟨rfl,rfl⟩ (fun x i hi hJ=>?_) (fun x _=>?_)).trans (by simp [zC3])
  ·left
   unfold zCA
   simp only
   rw [bi (by simpa using hi),ZY hi,ba,zQS hg (hc _ (bz hi)),ba,Js (by simp only [bt,List.length_nil]; omega),ba,Js (by simp only [bt,List.length_nil]; omega),ba,w64s' hi (by omega)]
   exact ⟨(_,_),rfl,by simp only [bw,List.append_assoc,List.cons_append,List.nil_append],by simp [hJ.1],by simp [hJ.2]⟩
  ·unfold zCA zAY
   simp only
   rw [bg (by simp)]
   simp
end Go.Mx
