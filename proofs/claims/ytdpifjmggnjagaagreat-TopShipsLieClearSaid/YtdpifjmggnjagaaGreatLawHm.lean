/- Part of the proof of TopShipsLieClear: plain laws about the functions of M, no program in sight. Conditions: none. -/
import Derived.Test.YtdpifjmggnjagaaGreatLawHk
set_option linter.unusedVariables false
set_option linter.unusedSimpArgs false
namespace Go.Mh
open Go.Mx
theorem zMD {σ ρ:Type} {body:σ→Option (σ ⊕ ρ)} {s:σ} {r:ρ} (h:body s=some (.inr r)):Lp body fuel s=some r:=by
 obtain ⟨y,h1,h2⟩:=lp_inv' (body:=body) (s0:=s) (fun _ s' => s'=s) (fun y=>y=r) 0 (by omega) rfl fun i s' _ hI=>.inr ⟨r,by rw [hI,h],rfl⟩
 rw [h1,h2]
def cN (l:List Nat):List Int:=l.map fun (i:Nat)=>(i:Int)
theorem zGk (l:List Nat):(cN l).length=l.length:=by simp [cN]
theorem zPH {α:Type} (P R:List α) (u v:α):ix (P++u :: v :: R) (P.length:Int)=some u:=by
 have h:P.length<(P++u :: v :: R).length:=by simp
 rw [ZY h]; simp
theorem zPG {α:Type} (P R:List α) (u v:α):ix (P++u :: v :: R) ((P.length+1:Nat):Int)=some v:=by
 have h:P.length+1<(P++u :: v :: R).length:=by simp
 rw [ZY h]; simp
theorem zMw {α:Type} (P R:List α) (u v:α):((P++u :: v :: R).set (P.length+1) u).set P.length v=P++v :: u :: R:=by simp
theorem zPl {w:List Int} {a b c:Nat} (h1:Pri w a b) (h2:Pri w b c):Pri w a c:=by
 rcases h1 with h1 | h1 <;> rcases h2 with h2 | h2
 ·exact .inl (by omega)
 ·exact .inl (by omega)
 ·exact .inl (by omega)
 ·exact .inr (by omega)
theorem zM6 {w:List Int} {a b:Nat} (h1:Pri w a b) (h2:Pri w b a):False:=by
 rcases h1 with h1 | h1 <;> rcases h2 with h2 | h2 <;> omega
def insD (w:List Int) (e:Nat):List Nat→List Nat→List Nat
 | [],B=>e :: B
 | a :: A,B=>if gI w a<gI w e then insD w e A (a :: B) else (a :: A).reverse++e :: B
theorem zLN (w:List Int) (e:Nat):∀ A B,(insD w e A B).Perm (A.reverse++e :: B)
 | [],B=>List.Perm.refl _
 | a :: A,B=>by
  unfold insD
  split
  ·refine (zLN w e A (a :: B)).trans ?_
   simp only [List.reverse_cons,List.append_assoc,List.cons_append,List.nil_append]
   exact List.Perm.append_left _ (List.Perm.swap a e B)
  ·exact List.Perm.refl _
theorem zIT (w:List Int) (e:Nat):∀ A B,(A.reverse++B).Pairwise (Pri w)→(∀ a∈A,a<e)→(∀ b∈B,Pri w e b)→(insD w e A B).Pairwise (Pri w)
 | [],B,h,_,hB=>by
  unfold insD
  exact List.pairwise_cons.2 ⟨hB,by simpa using h⟩
 | a :: A,B,h,hA,hB=>by
  have e1:(a :: A).reverse++B=A.reverse++a :: B:=by simp
  unfold insD
  split
  ·rename_i hc
   refine zIT w e A (a :: B) (by rw [← e1]; exact h) (fun x hx=>hA x (bq _ hx)) fun b hb=>?_
   rcases List.mem_cons.1 hb with rfl | hb
   ·exact .inl hc
   ·exact hB b hb
  ·rename_i hc
   rw [List.pairwise_append] at h ⊢
   obtain ⟨h1,h2,h3⟩:=h
   refine ⟨h1,List.pairwise_cons.2 ⟨hB,h2⟩,fun x hx y hy=>?_⟩
   have hae:Pri w a e:=by
    have:=hA a bp
    rcases Int.lt_or_le (gI w e) (gI w a) with h | h
    ·exact .inl h
    ·exact .inr ⟨by omega,this⟩
   have hxe:Pri w x e:=by
    rw [List.reverse_cons,List.mem_append] at hx
    rcases hx with hx | hx
    ·rw [List.reverse_cons,List.pairwise_append] at h1
     exact zPl (h1.2.2 x hx a (by simp)) hae
    ·rw [cb] at hx; subst hx; exact hae
   rcases List.mem_cons.1 hy with rfl | hy
   ·exact hxe
   ·exact h3 x hx y hy
theorem zIa (x y:Int):(cmp_Compare_int x y<0)↔x<y:=by
 unfold cmp_Compare_int cmp_isNaN_int
 simp only [decide_true,Bool.not_true,Bool.false_eq_true,if_false,bj]
 split
 ·exact ⟨fun _=>by assumption,fun _=>by omega⟩
 ·split <;> exact ⟨fun h=>by omega,fun h=>by omega⟩
theorem zNR (w:List Int) (i:Nat) (hw:w.length≤8) (hi:i<w.length) (rest:List Nat):∀ (A B:List Nat) (m:Nat),A.length<m→A.length≤8→(∀ a∈A,a<w.length)→Lp (yt w 0 (i:Int)) m ((A.length:Int),cN (A.reverse++i :: (B++rest)))=some (.inl (((i+1:Nat):Int),cN (insD w i A B++rest)))
 | [],B,m,hm,_,_=>by
  obtain ⟨n,rfl⟩:∃ n,m=n+1:=⟨m - 1,by simp at hm; omega⟩
  refine zDc n ?_
  unfold yt
  simp only [List.length_nil,Int.natCast_zero,Int.lt_irrefl,decide_false,gb,Bool.false_eq_true,if_false,ba,Bool.false_and]
  unfold Qn
  rw [w64s i (by omega)]
  rfl
 | a :: A,B,m,hm,h8,hA=>by
  obtain ⟨n,rfl⟩:∃ n,m=n+1:=⟨m - 1,by simp at hm; omega⟩
  have ha:a<w.length:=hA a bp
  have hlen:A.length≤7:=by simp at h8; omega
  have e1:cN ((a :: A).reverse++i :: (B++rest))=cN A.reverse++(a:Int) :: (i:Int) :: cN (B++rest):=by
   simp [cN]
  have eP:(cN A.reverse).length=A.length:=by simp [cN]
  have hj:(((a :: A).length:Nat):Int)=((A.length+1:Nat):Int):=by simp
  have hj1:w64 (((A.length+1:Nat):Int) - 1)=(A.length:Int):=by rw [Zm (by omega)]; omega
  have i0:=zPH (cN A.reverse) (cN (B++rest)) (a:Int) (i:Int)
  have i1:=zPG (cN A.reverse) (cN (B++rest)) (a:Int) (i:Int)
  rw [eP] at i0 i1
  have hb1:zA0 (i:Int) (a:Int) w=some (cmp_Compare_int (gI w a) (gI w i)):=by
   unfold zA0
   rw [jU ha,jU hi]; rfl
  have hpos:decide ((0:Int)<((A.length+1:Nat):Int))=true:=by rw [bj]; omega
  rw [hj,e1]
  by_cases hc:gI w a<gI w i
  ·have hst:yt w 0 (i:Int) (((A.length+1:Nat):Int),cN A.reverse++(a:Int) :: (i:Int) :: cN (B++rest))=some (.inl ((A.length:Int),cN (A.reverse++i :: (a :: B++rest)))):=by
    unfold yt
    simp only [hpos,gb,if_true,Bool.true_and]
    rw [i1,hj1,i0]
    simp only [ba]
    rw [hb1]
    simp only [ba]
    rw [bi (by rw [bj]; exact (zIa _ _).2 hc)]
    rw [jh,jh]
    have h2:A.length<((cN A.reverse++(a:Int) :: (i:Int) :: cN (B++rest)).set (A.length+1) (a:Int)).length:=by simp [cN]
    rw [ZY h2,ba]
    have e3:=zMw (cN A.reverse) (cN (B++rest)) (a:Int) (i:Int)
    rw [eP] at e3
    rw [e3]
    simp [cN]
   rw [zEV n hst]
   unfold insD
   rw [bi hc]
   exact zNR w i hw hi rest A (a :: B) n (by simp at hm; omega) (by omega) fun x hx=>hA x (bq _ hx)
  ·have hst:yt w 0 (i:Int) (((A.length+1:Nat):Int),cN A.reverse++(a:Int) :: (i:Int) :: cN (B++rest))=some (.inr (.inl (((i+1:Nat):Int),cN A.reverse++(a:Int) :: (i:Int) :: cN (B++rest)))):=by
    unfold yt
    simp only [hpos,gb,if_true,Bool.true_and]
    rw [i1,hj1,i0]
    simp only [ba]
    rw [hb1]
    simp only [ba]
    rw [bg (by rw [bj]; exact fun h=>hc ((zIa _ _).1 h))]
    unfold Qn
    rw [w64s i (by omega)]
    rfl
   rw [zDc n hst]
   unfold insD
   rw [bg hc]
   simp [cN]
theorem zQB {l:zQ} {w:List Int} {t:Int} (h:Spn l.Holds) (hw:w.length=l.Holds.length) (h1:Jh l.Holds≤t) (h2:t≤Jl l.Holds) (σ:List Nat) (hp:σ.Perm (List.range l.Holds.length)) (hs:σ.Pairwise (Pri w)):∃ x,Lp (zCm l (cN σ)) fuel (0,t - Jh l.Holds,l.Holds.map (·.Lo))=some x∧Greedy l.Holds w t x:=by
 have hn:=h.n
 have hsm:=h.sums
 have hσl:σ.length=l.Holds.length:=by rw [hp.length_eq,List.length_range]
 have hσm:∀ v,v∈σ↔v<l.Holds.length:=fun v=>by rw [hp.mem_iff,cd]
 have hnd:σ.Nodup:=hp.nodup_iff.2 List.nodup_range
 refine lp_inv' (fun k (s:Int×Int×List Int)=>s.1=(k:Int)∧0≤s.2.1∧InS l.Holds s.2.2∧s.2.2.sum+s.2.1=t∧(∀ p (hp:p<σ.length),k≤p→gI s.2.2 σ[p]=(gS l.Holds σ[p]).Lo)∧(0<s.2.1→∀ p (hp:p<σ.length),p<k→gI s.2.2 σ[p]=(gS l.Holds σ[p]).Hi)∧(∀ p q (hp:p<σ.length) (hq:q<σ.length),p<q→q<k→gI s.2.2 σ[p]<(gS l.Holds σ[p]).Hi→gI s.2.2 σ[q]=(gS l.Holds σ[q]).Lo)) _ σ.length (by omega) ⟨rfl,by simp only; omega,InS.lo h,by simp only [show (l.Holds.map (·.Lo)).sum=Jh l.Holds from rfl]; omega,fun p hp _=>gI_lo ((hσm _).1 (bz hp)),fun _ p _ h=>by omega,fun p q _ _ _ h=>by omega⟩ fun k s hk hI=>?_
 obtain ⟨k0,left,x⟩:=s
 obtain ⟨e0,q1,q2,q3,q4,q5,q6⟩:=hI
 simp only at e0 q1 q2 q3 q4 q5 q6
 subst e0
 unfold zCm
 simp only
 have hxl:=q2.1
 by_cases hc:k<σ.length
 ·left
  have hv:σ[k]<l.Holds.length:=(hσm _).1 (bz hc)
  have hvx:σ[k]<x.length:=by omega
  have hbv:=h.b _ hv
  have hlo:=q4 k hc (Nat.le_refl _)
  have hck:k<(cN σ).length:=by rw [zGk]; exact hc
  have eσ:(cN σ)[k]=((σ[k]:Nat):Int):=by simp [cN]
  rw [bi (by rw [zGk]; simpa using hc),ZY hck,eσ,ba,ix_gS hv,ba,ba,jU hvx,ba,ba,w64s' hc (by omega),jh,Zm (a:=(gS l.Holds σ[k]).Hi - (gS l.Holds σ[k]).Lo) (by omega)]
  have hxs:=q2.sum
  generalize hm:min left ((gS l.Holds σ[k]).Hi - (gS l.Holds σ[k]).Lo)=m
  rw [Zm (a:=left - m) (by omega),Zm (a:=gI x σ[k]+m) (by omega)]
  have hss:=zJB hvx (gI x σ[k]+m)
  have hne:∀ p (hp:p<σ.length),p≠k→σ[p]≠σ[k]:=fun p hp hpk he=>by
   have hq:=List.pairwise_iff_getElem.1 hnd
   rcases Nat.lt_or_gt_of_ne hpk with h | h
   ·exact hq p k hp hc h he
   ·exact hq k p hc hp h he.symm
  refine ⟨hc,_,rfl,rfl,by simp only; omega,InS.of_g (by simp [hxl]) fun j hj=>?_,by simp only; omega,fun p hp hkp=>?_,fun hl p hp hkp=>?_,fun p q hp hq hpq hqk hf=>?_⟩
  ·simp only
   rw [jw hvx]
   split
   ·rename_i e; subst e; omega
   ·exact q2.g j hj
  ·simp only
   rw [jw hvx,bg (hne p hp (by omega))]
   exact q4 p hp (by omega)
  ·simp only at hl ⊢
   rw [jw hvx]
   by_cases e:p=k
   ·subst e; rw [bi rfl]; omega
   ·rw [bg (hne p hp e)]
    exact q5 (by omega) p hp (by omega)
  ·simp only at hf ⊢
   rw [jw hvx] at hf ⊢
   rw [bg (hne p hp (by omega))] at hf
   by_cases e:q=k
   ·subst e
    rw [bi rfl]
    rcases Int.lt_or_le 0 left with h0 | h0
    ·have:=q5 h0 p hp hpq; omega
    ·omega
   ·rw [bg (hne q hq e)]
    exact q6 p q hp hq hpq (by omega) hf
 ·right
  have e:k=σ.length:=by omega
  subst e
  rw [bg (by rw [zGk]; simp)]
  have hpos:∀ v,v<l.Holds.length→∃ p,∃ hp:p<σ.length,σ[p]=v:=fun v hv=>List.getElem_of_mem ((hσm v).2 hv)
  have hl0:left=0:=by
   rcases Int.lt_or_le 0 left with h0 | h0
   ·have:=q2.full fun i hi=>by
     obtain ⟨p,hp,e⟩:=hpos i hi
     have:=q5 h0 p hp hp
     rw [e] at this; omega
    omega
   ·omega
  refine ⟨x,rfl,q2,by omega,fun i j hi hj hp hf=>?_⟩
  obtain ⟨p,hp1,e1⟩:=hpos i hi
  obtain ⟨q,hq1,e2⟩:=hpos j hj
  subst e1 e2
  rcases Nat.lt_trichotomy p q with hpq | hpq | hpq
  ·exact q6 p q hp1 hq1 hpq hq1 hf
  ·subst hpq; exact (zM6 hp hp).elim
  ·exact (zM6 hp (List.pairwise_iff_getElem.1 hs q p hq1 hp1 hpq)).elim
theorem zEI {l:zQ} {w:List Int} {t:Int} (h:Spn l.Holds) (hw:w.length=l.Holds.length) (h1:Jh l.Holds≤t) (h2:t≤Jl l.Holds):∃ x,zCu l w t=some x∧Greedy l.Holds w t x:=by
 have hn:=h.n
 have hsm:=h.sums
 have hrl:(cN (List.range l.Holds.length)).length=l.Holds.length:=by simp [cN]
 -- the fills
 have j2:∀ σ:List Nat,σ.Perm (List.range l.Holds.length)→σ.Pairwise (Pri w)→∃ x,qg l t (cN (List.range l.Holds.length)) (l.Holds.map (·.Lo)) (cN σ)=some x∧Greedy l.Holds w t x:=fun σ hp hs=>by
  obtain ⟨x,q1,q2⟩:=zQB h hw h1 h2 σ hp hs
  refine ⟨x,?_,q2⟩
  unfold qg zGz
  rw [bi (by rw [zGk,zGk,hp.length_eq]),ba,zMM _ (by unfold Len; simp; omega),ba,show (l.Holds.map (·.Lo)).sum=Jh l.Holds from rfl,w64_sub',Zm (by omega)]
  exact q1
 have j6:∀ σ:List Nat,σ.Perm (List.range l.Holds.length)→σ.Pairwise (Pri w)→∃ x,qd l t (cN (List.range l.Holds.length)) (l.Holds.map (·.Lo)) (cN σ)=some x∧Greedy l.Holds w t x:=fun σ hp hs=>by
  obtain ⟨x,q1,q2⟩:=j2 σ hp hs
  refine ⟨x,?_,q2⟩
  unfold qd
  refine zMD ?_
  unfold zEd
  rw [bg (by rw [hrl]; simp; omega),q1]; rfl
 -- the sort
 have j5:∃ x,qf l w t (cN (List.range l.Holds.length)) (l.Holds.map (·.Lo)) 0 (cN (List.range l.Holds.length))=some x∧Greedy l.Holds w t x:=by
  unfold qf
  refine lp_inv' (fun i (s:Int×List Int)=>s.1=((i+1:Nat):Int)∧∃ S:List Nat,s.2=cN (S++(List.range l.Holds.length).drop (i+1))∧S.Perm ((List.range l.Holds.length).take (i+1))∧S.Pairwise (Pri w)) _ l.Holds.length (by omega) ⟨(by show w64 (0+1)=((0+1:Nat):Int); decide),(List.range l.Holds.length).take 1,by rw [List.take_append_drop],List.Perm.refl _,?_⟩ fun i s hi hI=>?_
  ·cases hc:l.Holds.length with
   | zero=>simp
   | succ n=>simp [List.range_succ_eq_map]
  ·obtain ⟨i0,l10⟩:=s
   obtain ⟨e0,S,e1,hp,hs⟩:=hI
   simp only at e0 e1
   subst e0 e1
   unfold zDu
   simp only
   by_cases hc:i+1<l.Holds.length
   ·left
    have hrg:(List.range l.Holds.length).drop (i+1)=(i+1) :: (List.range l.Holds.length).drop (i+2):=by
     rw [List.drop_eq_getElem_cons (by rw [List.length_range]; exact hc),List.getElem_range]
    have hSl:S.length=i+1:=by rw [hp.length_eq,List.length_take,List.length_range]; omega
    have hSm:∀ a∈S,a<i+1:=fun a ha=>by
     have:=hp.mem_iff.1 ha
     rw [List.mem_take_iff_getElem] at this
     obtain ⟨j,hj,e⟩:=this
     rw [List.getElem_range] at e
     omega
    have hil:=zNR w (i+1) (by omega) (by omega) ((List.range l.Holds.length).drop (i+2)) S.reverse [] fuel (by rw [List.length_reverse,hSl]; unfold fuel; omega) (by rw [List.length_reverse,hSl]; omega) fun a ha=>by have:=hSm a (List.mem_reverse.1 ha); omega
    rw [List.length_reverse,hSl,List.reverse_reverse,List.nil_append] at hil
    rw [bi (by rw [hrl,bj]; omega),hrg,hil]
    refine ⟨by omega,_,rfl,rfl,insD w (i+1) S.reverse [],rfl,?_,?_⟩
    ·have h3:=zLN w (i+1) S.reverse []
     rw [List.reverse_reverse] at h3
     refine h3.trans ?_
     rw [show i+1+1=(i+1)+1 from rfl,List.take_add_one (i:=i+1)]
     refine List.Perm.append hp ?_
     rw [List.getElem?_eq_getElem (by rw [List.length_range]; exact hc),List.getElem_range]
     exact List.Perm.refl _
    ·exact zIT w (i+1) S.reverse [] (by rw [List.reverse_reverse,List.append_nil]; exact hs) (fun a ha=>hSm a (List.mem_reverse.1 ha)) fun b hb=>by simp at hb
   ·right
    have hd:(List.range l.Holds.length).drop (i+1)=[]:=List.drop_eq_nil_of_le (by rw [List.length_range]; omega)
    have ht:(List.range l.Holds.length).take (i+1)=List.range l.Holds.length:=List.take_of_length_le (by rw [List.length_range]; omega)
    rw [ht] at hp
    rw [bg (by rw [hrl,bj]; omega),hd,List.append_nil]
    unfold zGz
    rw [bi (by rw [zGk,zGk,hp.length_eq]),ba]
    obtain ⟨x,q1,q2⟩:=j6 S hp hs
    rw [q1]
    exact ⟨x,rfl,q2⟩
 have j1:∃ x,qh l w t (cN (List.range l.Holds.length)) (l.Holds.map (·.Lo))=some x∧Greedy l.Holds w t x:=by
  obtain ⟨x,q1,q2⟩:=j5
  refine ⟨x,?_,q2⟩
  unfold qh
  refine zMD ?_
  unfold zDt
  simp only
  rw [bg (by rw [hrl]; simp; omega),q1]; rfl
 obtain ⟨x,q1,q2⟩:=j1
 refine ⟨x,?_,q2⟩
 unfold zCu
 refine (jK (body:=zAU l w t) (s0:=(0,[],[])) l.Holds (by omega) (fun (acc:List Int×List Int) i=>(i,acc.1,acc.2)) (fun acc r=>x) (fun i acc=>acc.1=cN (List.range i)∧acc.2=(l.Holds.take i).map (·.Lo)) (a:=([],[])) rfl ⟨rfl,rfl⟩ (fun acc i hi hJ=>?_) (fun acc hJ=>?_)).trans rfl
 ·left
  obtain ⟨a1,a2⟩:=acc
  obtain ⟨e1,e2⟩:=hJ
  simp only at e1 e2
  subst e1 e2
  unfold zAU
  simp only
  rw [bi (by simpa using hi),ZY hi,ba,Js (by simp; omega),ba,Js (by simp [cN]; omega),ba,w64s' hi (by omega)]
  refine ⟨(_,_),rfl,by simp,?_,?_⟩
  ·simp only [cN,List.range_succ,List.map_append,bw,List.map_nil]
  ·simp only
   rw [← List.map_singleton,← List.map_append,List.take_append_getElem]
 ·obtain ⟨a1,a2⟩:=acc
  obtain ⟨e1,e2⟩:=hJ
  simp only at e1 e2
  subst e1 e2
  unfold zAU
  simp only
  rw [List.take_length,bg (by simp),q1]; rfl
theorem zLP (w x:List Int) (h:w.length=x.length) (hl:Len w):zBp w x=some (w64 (dot w x)):=by
 have q:=jK (body:=zAR w x) (s0:=(0,0)) w hl (fun (a:Int×List Int) i=>(a.1,i)) (fun a ws=>w64 (a.1+dot ws a.2)) (fun i a=>a.2=x.drop i∧w64 a.1=a.1) (a:=(0,x)) rfl ⟨rfl,rfl⟩ (fun a i hi hJ=>?_) (fun a hJ=>?_)
 ·unfold zBp; rw [q]; simp
 ·left
  have hix:i<x.length:=by omega
  unfold zAR
  simp only
  rw [bi (by simpa using hi),ZY hi,ba,ZY hix,ba,w64_add',w64s' hi hl,hJ.1,List.drop_eq_getElem_cons hix]
  refine ⟨(w64 (a.1+w[i]*x[i]),x.drop (i+1)),rfl,?_,rfl,zKr _⟩
  simp only [dot]
  rw [zDV]; congr 1; omega
 ·unfold zAR zAQ
  simp only
  rw [bg (by simp)]; simp [dot,hJ.2]
def Wts (w:List Int):Prop := ∀ i,i<w.length→-1048576≤gI w i∧gI w i≤1048576
def totB (p:Int) (w:List Int) (l:List zB) (t:zB):Int:=max (p*t.Lo) (p*t.Hi)+bnd p w l
def filled : List Int→List zB→List Int→List Int
 | w :: ws,h :: hs,x :: xs=>(if 0<w then h.Hi else x) :: filled ws hs xs
 | _,_,_=>[]
theorem Greedy.mono {l:List zB} {w:List Int} {t u:Int} {x y:List Int} (hx:Greedy l w t x) (hy:Greedy l w u y) (h:t≤u):∀ i,i<l.length→gI x i≤gI y i:=fun i hi=>by
 rcases Int.lt_or_le (gI y i) (gI x i) with hc | hc
 ·exfalso
  have hxl:=hx.ins.1
  have hyl:=hy.ins.1
  have key:∀ j,j<y.length→gI y j≤gI x j:=fun j hj=>by
   have hjl:j<l.length:=by omega
   have b1:=hx.ins.g j hjl
   have b2:=hy.ins.g j hjl
   have b3:=hx.ins.g i hi
   have b4:=hy.ins.g i hi
   rcases Nat.lt_trichotomy i j with h1 | h1 | h1
   ·rcases Int.lt_trichotomy (gI w i) (gI w j) with h2 | h2 | h2
    ·rcases Int.lt_or_le (gI x j) (gS l j).Hi with h3 | h3
     ·have:=hx.pri j i hjl hi (.inl h2) h3; omega
     ·omega
    ·have:=hy.pri i j hi hjl (.inr ⟨h2,h1⟩) (by omega); omega
    ·have:=hy.pri i j hi hjl (.inl h2) (by omega); omega
   ·subst h1; omega
   ·rcases Int.lt_trichotomy (gI w i) (gI w j) with h2 | h2 | h2
    ·rcases Int.lt_or_le (gI x j) (gS l j).Hi with h3 | h3
     ·have:=hx.pri j i hjl hi (.inl h2) h3; omega
     ·omega
    ·rcases Int.lt_or_le (gI x j) (gS l j).Hi with h3 | h3
     ·have:=hx.pri j i hjl hi (.inr ⟨h2.symm,h1⟩) h3; omega
     ·omega
    ·have:=hy.pri i j hi hjl (.inl h2) (by omega); omega
  have hsum:y.sum<x.sum:=by
   rcases Int.lt_or_le y.sum x.sum with h1 | h1
   ·exact h1
   ·rcases Int.lt_or_le x.sum y.sum with h2 | h2
    ·have:∀ (a b:List Int),a.length=b.length→(∀ j,j<a.length→gI a j≤gI b j)→a.sum≤b.sum:=by
      intro a
      induction a with
      | nil=>intro b hb _; cases b <;> simp at hb ⊢
      | cons p r ih =>
       intro b hb hh
       cases b with
       | nil=>simp at hb
       | cons q s =>
        have:=ih s (by simpa using hb) fun j hj=>hh (j+1) (by simpa using hj)
        have h0:p≤q:=hh 0 (by simp)
        simp only [List.sum_cons]; omega
     have:=this y x (by omega) key
     omega
    ·obtain ⟨j,hj,hlt⟩:=zKv y x (by omega) (by omega) ⟨i,by omega,hc⟩
     have:=key j hj
     omega
  have:=hx.sum
  have:=hy.sum
  omega
 ·exact hc
end Go.Mh
