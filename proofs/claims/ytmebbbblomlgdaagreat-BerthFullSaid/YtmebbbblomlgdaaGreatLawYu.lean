/- Part of the proof of BerthFull: plain laws about the functions of M, no program in sight. Conditions: none. -/
import Derived.Test.YtmebbbblomlgdaaGreatLawYl
import Derived.Test.YtmebbbblomlgdaaGreatLawYp
import Derived.Test.YtmebbbblomlgdaaGreatLawYt
set_option linter.unusedVariables false
set_option linter.unusedSimpArgs false
namespace Go.Mx
def Less {α:Type} (l:List α) (i:Nat):List α:=l.take i++l.drop (i+1)
def up (i r:Nat):Nat:=if r<i then r else r+1
theorem zD1 {α:Type} {l:List α} {i:Nat} (h:i<l.length):(Less l i).length=l.length - 1:=by unfold Less; simp; omega
theorem zIB {α:Type} {l:List α} {i r:Nat} (h:i<l.length) (hr:r<(Less l i).length):∃ h2:up i r<l.length,(Less l i)[r]=l[up i r]:=by
 have hl:=zD1 h
 have h2:up i r<l.length:=by unfold up; split <;> omega
 refine ⟨h2,?_⟩
 have e:(Less l i)[r]? = l[up i r]?:=by
  unfold Less up
  by_cases e:r<i
  ·rw [if_pos e,List.getElem?_append_left (by simp; omega),List.getElem?_take_of_lt e]
  ·rw [if_neg e,List.getElem?_append_right (by simp; omega),List.getElem?_drop,List.length_take]
   congr 1; omega
 rw [List.getElem?_eq_getElem hr,List.getElem?_eq_getElem h2] at e
 exact Option.some.inj e
def zAL {α:Type} (l:List α) (i j:Nat):List α:=if j≤i then l.take j else l.take i++(l.drop (i+1)).take (j - (i+1))
theorem zCL {α:Type} {l:List α} {i j:Nat} (hj:j<l.length):zAL l i (j+1)=if j=i then zAL l i j else zAL l i j++[l[j]]:=by
 unfold zAL
 rcases Nat.lt_trichotomy j i with e | e | e
 ·rw [if_pos (by omega),if_neg (by omega),if_pos (by omega),List.take_succ_eq_append_getElem hj]
 ·subst e
  rw [if_neg (by omega),if_pos rfl,if_pos (Nat.le_refl _)]; simp
 ·rw [if_neg (by omega),if_neg (by omega),if_neg (by omega),List.append_assoc,show j+1 - (i+1)=(j - (i+1))+1 by omega,List.take_succ_eq_append_getElem (by simp; omega)]
  congr 3
  rw [List.getElem_drop]
  congr 2; omega
theorem zLz {α:Type} {l:List α} {i:Nat} (hi:i<l.length):zAL l i l.length=Less l i:=by
 unfold zAL Less
 rw [if_neg (by omega)]
 congr 1
 exact List.take_of_length_le (by simp)
theorem zLy {α:Type} (l:List α) (i j:Nat):(zAL l i j).length≤j:=by unfold zAL; split <;> simp <;> omega
theorem zLG : ∀ (l pre:List zJ),(∀ c∈l,zBQ c=true)→(pre++l).Pairwise (fun a b=>a.ID≠b.ID)→zEl pre l=0
 | [],pre,_,_=>rfl
 | c :: r,pre,h,hd=>by
  unfold zEl
  rw [if_pos (h c List.mem_cons_self),if_neg ?_]
  ·exact zLG r (pre++[c]) (fun x hx=>h x (List.mem_cons_of_mem _ hx)) (by simpa using hd)
  ·intro q
   rw [List.any_eq_true] at q
   obtain ⟨x,hx,e⟩:=q
   exact (List.pairwise_append.1 hd).2.2 x hx c List.mem_cons_self (by simpa using e)
theorem zIC {h:zG} {l:List zJ} (hg:QU h l) (e:Qj h=0) (i:Nat):jm h (Less l i)=0:=by
 have hn:=hg.n
 have hs:(Less l i).Sublist l:=by
  unfold Less
  have:=(List.Sublist.refl (l.take i)).append (List.drop_sublist_drop_left l (show i≤i+1 by omega))
  rwa [List.take_append_drop] at this
 unfold jm
 rw [if_pos e,if_neg (by have:=hs.length_le; omega)]
 exact zLG _ _ (fun c hc=>hg.r c (hs.subset hc)) (by simpa using hg.d.sublist hs)
theorem zKs {h:zG} {l:List zJ} {i r k:Nat} (hi:i<l.length) (hr:r<l.length - 1):canB (zR h (Less l i)) r k=canB (zR h l) (up i r) k:=by
 have hl:=zD1 hi
 obtain ⟨h2,h3⟩:=zIB hi (r:=r) (by omega)
 unfold canB
 rw [zFd (by omega),zFd h2,h3]; rfl
theorem zNe {i r q:Nat} (h:up i r=up i q):r=q:=by unfold up at h; split at h <;> split at h <;> omega
theorem zJV {h:zG} {l:List zJ} {i m':Nat} (hi:i<l.length) (h2:MaxM (zR h (Less l i)) m') {μ:Nat→Option Nat} (hμ:Mat (zR h l) μ):(dom (zR h l) μ).length≤m'+1∧(μ i=none→(dom (zR h l) μ).length≤m'):=by
 have hl:=zD1 hi
 have hM:Mat (zR h (Less l i)) (fun r=>μ (up i r)):=by
  refine ⟨fun r k e=>?_,fun r q k e1 e2=>zNe (hμ.i _ _ k e1 e2)⟩
  obtain ⟨c1,c2,c3⟩:=hμ.c _ k e
  have c1':up i r<l.length:=c1
  have hr:r<l.length - 1:=by unfold up at c1'; split at c1' <;> omega
  exact ⟨show r<(Less l i).length by omega,c2,by rw [zKs hi hr]; exact c3⟩
 have h3:=h2.m _ hM
 have hsub:∀ r∈dom (zR h l) μ,r≠i→r∈(dom (zR h (Less l i)) (fun r=>μ (up i r))).map (up i):=fun r hr hri=>by
  rw [zCK] at hr
  have hr1:r<l.length:=hr.1
  have eu:up i (if r<i then r else r - 1)=r:=by
   unfold up
   by_cases c:r<i
   ·rw [if_pos c,if_pos c]
   ·rw [if_neg c,if_neg (by omega)]; omega
  rw [List.mem_map]
  refine ⟨if r<i then r else r - 1,?_,eu⟩
  rw [zCK]
  have hlt:(if r<i then r else r - 1)<(Less l i).length:=by split <;> omega
  exact ⟨hlt,by rw [eu]; exact hr.2⟩
 constructor
 ·have:=JB (l:=dom (zR h l) μ) (r:=i :: (dom (zR h (Less l i)) (fun r=>μ (up i r))).map (up i)) (zCw _ _) fun r hr=>by
   by_cases e:r=i
   ·rw [e]; exact List.mem_cons_self
   ·exact List.mem_cons_of_mem _ (hsub r hr e)
  simp only [List.length_cons,List.length_map] at this; omega
 ·intro e0
  have:=JB (l:=dom (zR h l) μ) (r:=(dom (zR h (Less l i)) (fun r=>μ (up i r))).map (up i)) (zCw _ _) fun r hr=>hsub r hr fun e=>by
   rw [e,zCK,e0] at hr; cases hr.2
  simp only [List.length_map] at this; omega
theorem zNJ {h:zG} {l:List zJ} {i m':Nat} (hi:i<l.length) (h2:MaxM (zR h (Less l i)) m'):∃ ν,Mat (zR h l) ν∧(∀ r,(!decide (r=i))=false→ν r=none)∧(dom (zR h l) ν).length=m':=by
 obtain ⟨μ,a1,a2⟩:=h2.e
 have hl:=zD1 hi
 let ν:Nat→Option Nat:=fun r=>if r=i then none else μ (if r<i then r else r - 1)
 have hup:∀ r,ν (up i r)=μ r:=fun r=>by
  show (if up i r=i then none else μ (if up i r<i then up i r else up i r - 1))=μ r
  unfold up
  by_cases e:r<i
  ·rw [if_pos e,if_neg (by omega),if_pos e]
  ·rw [if_neg e,if_neg (by omega),if_neg (by omega)]; rfl
 have hall:∀ r k,ν r=some k→∃ q,r=up i q∧μ q=some k:=fun r k e=>by
  have e':(if r=i then none else μ (if r<i then r else r - 1))=some k:=e
  by_cases c:r=i
  ·rw [if_pos c] at e'; cases e'
  ·rw [if_neg c] at e'
   refine ⟨_,?_,e'⟩
   unfold up
   by_cases d:r<i
   ·rw [if_pos d,if_pos d]
   ·rw [if_neg d,if_neg (by omega)]; omega
 have hM:Mat (zR h l) ν:=by
  refine ⟨fun r k e=>?_,fun r q k e1 e2=>?_⟩
  ·obtain ⟨q,rfl,e2⟩:=hall r k e
   obtain ⟨c1,c2,c3⟩:=a1.c q k e2
   have c1':q<(Less l i).length:=c1
   refine ⟨show up i q<l.length from (zIB hi c1').1,c2,?_⟩
   rw [← zKs hi (by omega)]; exact c3
  ·obtain ⟨a,rfl,e3⟩:=hall r k e1
   obtain ⟨c,rfl,e4⟩:=hall q k e2
   rw [a1.i a c k e3 e4]
 have h4:=JB (l:=(dom (zR h (Less l i)) μ).map (up i)) (r:=dom (zR h l) ν) ?_ ?_
 ·rw [List.length_map] at h4
  have hi0:ν i=none:=if_pos rfl
  refine ⟨ν,hM,fun r hr=>by simp only [Bool.not_eq_false',decide_eq_true_eq] at hr; rw [hr]; exact hi0,?_⟩
  have:=(zJV hi h2 hM).2 hi0
  omega
 ·rw [List.nodup_iff_pairwise_ne,List.pairwise_map]
  exact (List.nodup_iff_pairwise_ne.1 (zCw _ _)).imp fun hab e=>hab (zNe e)
 ·intro x hx
  rw [List.mem_map] at hx
  obtain ⟨r,hr,rfl⟩:=hx
  rw [zCK] at hr ⊢
  have c1':r<(Less l i).length:=hr.1
  exact ⟨(zIB hi c1').1,by rw [hup]; exact hr.2⟩
theorem Q7 {h:zG} {l:List zJ} (hg:QU h l):∃ m:Nat,MaxM (zR h l) m∧jr (zR h l)=some (m:Int)∧m≤l.length:=by
 obtain ⟨m,out,want,b1,b2,b3,b4,b5,b6,b7⟩:=zMa (zFc hg) (zKu h l)
 exact ⟨m,b4,b3,b7⟩
def zJl (h:zG) (l:List zJ) (i:Nat):Prop := ∀ m m',MaxM (zR h l) m→MaxM (zR h (Less l i)) m'→m'<m
theorem Sure_eq {h:zG} {l:List zJ} (hh:LenH h) (hl:Len l) (ec:jm h l=0):∃ L,QO h l=some (L,0)∧L.Pairwise (·≤·)∧L.Nodup∧L.length≤l.length∧∀ id,id∈L↔∃ (i:Nat) (hi:i<l.length),l[i].ID=id∧zJl h l i:=by
 have hg:=QU.of hh ec
 have hn:=hg.n
 have eh:Qj h=0:=by
  unfold jm at ec
  split at ec
  ·assumption
  ·contradiction
 obtain ⟨m,m1,m2,_⟩:=Q7 hg
 unfold QO
 rw [Yu h hh l hl,Option.bind_some,if_neg (by simp [ec]),zJ8 hg.h hg.n (fun c hc=>zDX.of (hg.r c hc)),Option.bind_some,m2,Option.bind_some]
 obtain ⟨⟨x,L⟩,⟨rfl,q0,q1,q2⟩,q3⟩:=YU (body:=qD l (zR h l) (m:Int)) (X:=fun s=>Yt s.2) (s0:=(0,[]))
  (fun j s=>s.1=(j:Int)∧s.2.Nodup∧s.2.length≤j∧∀ id,id∈s.2↔∃ (i:Nat) (hi:i<l.length),i<j∧l[i].ID=id∧zJl h l i) l.length (by omega) ⟨rfl,List.nodup_nil,Nat.le_refl _,fun id=>⟨fun q=>(by cases q),fun ⟨i,hi,q,_⟩=>by omega⟩⟩
  (fun j s hj hI=>by
   obtain ⟨x,L⟩:=s
   simp only at hI
   obtain ⟨rfl,h0,h1,h2⟩:=hI
   unfold qD
   simp only
   rw [if_pos (by simpa using hj),ZY hj,Option.bind_some]
   obtain ⟨⟨x,a,b,c⟩,⟨rfl,r1,r2,r3⟩,r4⟩:=YU (body:=qC l (zR h l) (m:Int) (j:Int) L l[j]) (X:=fun s=>Yr (zR h l) (m:Int) (j:Int) L l[j] s.2.1 s.2.2.1 s.2.2.2) (s0:=(0,[],[],[]))
    (fun q s=>s.1=(q:Int)∧s.2.1=zAL l j q∧s.2.2.1=(zAL l j q).map (fun c=>jc h c 0 h.Tides)∧s.2.2.2=(zAL l j q).map (fun _ => -1)) l.length (by omega) ⟨rfl,by simp [zAL],by simp [zAL],by simp [zAL]⟩
    (fun q s hq hI=>by
     obtain ⟨x,a,b,c⟩:=s
     simp only at hI
     obtain ⟨rfl,rfl,rfl,rfl⟩:=hI
     have hj6:∀ a b c,yO (q:Int) a b c=some (.inl (((q+1:Nat):Int),a,b,c)):=fun a b c=>by unfold yO; rw [w64s' hq hl]
     have ll:=zLy l j q
     unfold qC
     simp only
     rw [if_pos (by simpa using hq)]
     by_cases e:q=j
     ·rw [if_neg (by simp [e]),hj6]
      exact ⟨_,rfl,rfl,by simp only; rw [zCL hq,if_pos e],by simp only; rw [zCL hq,if_pos e],by simp only; rw [zCL hq,if_pos e]⟩
     ·rw [if_pos (by simp; omega),ZY hq,Option.bind_some,j5 (by simp only [List.length_cons,List.length_nil]; omega),Option.bind_some,zBi (d:=[]) (by simpa [zR] using hq),zFd hq,Option.bind_some,j5 (by simp only [List.length_cons,List.length_nil,List.length_map]; omega),Option.bind_some,j5 (by simp only [List.length_cons,List.length_nil,List.length_map]; omega),Option.bind_some,hj6]
      refine ⟨_,rfl,rfl,?_,?_,?_⟩ <;> simp only <;> rw [zCL hq,if_neg e] <;> simp)
    (fun s hI=>by
     obtain ⟨x,a,b,c⟩:=s
     simp only at hI
     obtain ⟨rfl,_⟩:=hI
     unfold qC
     simp only
     rw [if_neg (by simp)])
   simp only at r1 r2 r3 r4
   rw [zLz hj] at r1 r2 r3
   rw [r4,r1,r2,r3]
   have hlk:Len (Less l j):=by unfold Len; rw [zD1 hj]; omega
   obtain ⟨m',n1,n2,_⟩:=Q7 (QU.of hh (zIC hg eh j))
   have eb:(⟨Less l j,(zR h l).slots,(Less l j).map (fun c=>jc h c 0 h.Tides),(Less l j).map (fun _ => -1)⟩:zL)=zR h (Less l j):=rfl
   have hj3:∀ z,yP (j:Int) z=some (.inl (((j+1:Nat):Int),z)):=fun z=>by unfold yP; rw [w64s' hj hl]
   unfold Yr
   rw [eb,n2,Option.bind_some]
   have hsure:zJl h l j↔m'<m:=⟨fun q=>q m m' m1 n1,fun q a b ha hb=>by rw [← m1.uniq ha,← n1.uniq hb]; exact q⟩
   by_cases e:m'<m
   ·rw [if_pos (by simpa using e),j5 (by simp only [List.length_cons,List.length_nil]; omega),Option.bind_some,hj3]
    refine ⟨_,rfl,rfl,?_,by simp only [List.length_append,List.length_cons,List.length_nil]; omega,fun id=>?_⟩
    ·simp only
     rw [List.nodup_append]
     refine ⟨h0,by simp,fun a ha b hb e=>?_⟩
     rw [List.mem_singleton] at hb
     subst hb e
     obtain ⟨i,hi,w1,w2,_⟩:=(h2 _).1 ha
     exact List.pairwise_iff_getElem.1 hg.d i j hi hj w1 w2
    simp only
    rw [List.mem_append,List.mem_singleton,h2 id]
    constructor
    ·rintro (⟨i,hi,a,b⟩ | rfl)
     ·exact ⟨i,hi,by omega,b⟩
     ·exact ⟨j,hj,by omega,rfl,hsure.2 e⟩
    ·rintro ⟨i,hi,a,b,c⟩
     by_cases w:i=j
     ·subst w; exact .inr b.symm
     ·exact .inl ⟨i,hi,by omega,b,c⟩
   ·rw [if_neg (by simpa using e),hj3]
    refine ⟨_,rfl,rfl,h0,by simp only; omega,fun id=>?_⟩
    simp only
    rw [h2 id]
    constructor
    ·rintro ⟨i,hi,a,b⟩; exact ⟨i,hi,by omega,b⟩
    ·rintro ⟨i,hi,a,b,c⟩
     by_cases w:i=j
     ·subst w; exact absurd (hsure.1 c) e
     ·exact ⟨i,hi,by omega,b,c⟩)
  (fun s hI=>by
   obtain ⟨x,L⟩:=s
   simp only at hI
   obtain ⟨rfl,_⟩:=hI
   unfold qD
   simp only
   rw [if_neg (by simp)])
 simp only at q0 q1 q2 q3
 have hp:=(zAd L).1
 refine ⟨srtI L,?_,(zAd L).2,hp.nodup_iff.2 q0,by rw [hp.length_eq]; exact q1,fun id=>?_⟩
 ·rw [q3]
  unfold Yt srtO
  rw [if_pos (by omega)]; rfl
 ·rw [hp.mem_iff,q2 id]
  constructor
  ·rintro ⟨i,hi,_,b⟩; exact ⟨i,hi,b⟩
  ·rintro ⟨i,hi,b⟩; exact ⟨i,hi,hi,b⟩
theorem zJw (l:List zB) (hl:l.length≤1000000) (x:zB):zAf l x=some (decide (x∈l)):=by
 unfold zAf
 refine (Zw l (by omega) (fun (_:Unit) i=>i) (fun _ r=>decide (x∈r)) (fun _ _=>True) (a:=()) rfl trivial (fun _ i hi _=>?_) fun _ _=>?_)
 ·unfold zBf
  rw [if_pos (by simpa using hi),ZY hi,Option.bind_some]
  by_cases e:x=l[i]
  ·right; rw [if_pos (by simpa using e.symm),decide_eq_true (by rw [e]; exact List.mem_cons_self)]
  ·left; rw [if_neg (by simpa using fun q=>e q.symm),w64s' hi (by omega)]
   exact ⟨(),rfl,by simp only [List.mem_cons,e,false_or],trivial⟩
 ·unfold zBf
  rw [if_neg (by simp)]; rfl
def posI' (o:Option Nat):Int:=match o with
 | some k=>k
 | none => -1
theorem zM1 (S:List zB) (B:List Int) (hl:S.length≤1000000) (x:zB):zA5 ⟨S,B⟩ x=some (posI' (posL x S)):=by
 unfold zA5
 refine (Zw S (by omega) (fun (k:Nat) i=>i) (fun k r=>posI' ((posL x r).map (k + ·))) (fun k a=>a=k) (a:=0) rfl rfl (fun k i hi hk=>?_) fun k _=>?_).trans (by cases posL x S <;> simp [posI'])
 ·subst hk
  unfold qy
  simp only
  rw [if_pos (by simpa using hi),ZY hi,Option.bind_some]
  by_cases e:S[k]=x
  ·right; rw [if_pos (by simpa using e)]
   simp only [posL,if_pos e,Option.map_some,posI',Nat.add_zero]
  ·left; rw [if_neg (by simpa using e),w64s' hi (by omega)]
   refine ⟨k+1,rfl,?_,rfl⟩
   simp only [posL,if_neg e]
   cases posL x (S.drop (k+1)) with
   | none=>rfl
   | some j=>simp only [Option.map_some,posI']; congr 1; omega
 ·unfold qy
  simp only
  rw [if_neg (by simp)]; rfl
def yT (c:zm) (q:Nat):List zB:=c.l.getD q []
def toI (l:List Nat):List Int:=l.map fun n:Nat=>(n:Int)
theorem zJo (l:List Nat):(toI l).length=l.length:=List.length_map ..
def toT (t:KT zB) (b:Bool):Tried:=⟨t.S,toI t.B,t.N,b⟩
structure KB (c:zm) (U:List zB) (t:KT zB):Prop where
 v:KV (yT c) t.S t.B
 sd:t.S.Nodup
 su:∀ x∈t.S,x∈U
 bn:∀ p∈t.B,p<c.l.length
 nd:t.N.Nodup
 nu:∀ x∈t.N,x∈U
theorem KB.yes {c:zm} {U:List zB} {t t':KT zB} {q:Nat} (h:KB c U t) (hy:KY (yT c) q t t') (hq:q<c.l.length) (hn:t'.N.Nodup) (hu:∀ x∈t'.N,x∈U) (hr:∀ p,∀ x∈yT c p,x∈U):KB c U t':=by
 obtain ⟨y,h1,h2⟩:=hy.s
 refine ⟨hy.v,?_,fun x hx=>?_,fun p hp=>?_,hn,hu⟩
 ·rw [h1,List.nodup_append]
  refine ⟨h.sd,by simp,fun a ha b hb=>?_⟩
  rw [List.mem_singleton] at hb
  subst hb
  exact fun e=>h2 (e▸ha)
 ·obtain ⟨i,hi⟩:=List.mem_iff_getElem?.1 hx
  have hlt:=(List.getElem?_eq_some_iff.1 hi).1
  have hlB:i<t'.B.length:=by rw [← hy.v.l]; exact hlt
  exact hr _ x (hy.v.c i x _ hi (List.getElem?_eq_getElem hlB))
 ·rcases List.mem_cons.1 (hy.p.mem_iff.1 hp) with rfl | hp
  ·exact hq
  ·exact h.bn p hp
theorem KB.no {c:zm} {U:List zB} {t t':KT zB} {r:List zB} (h:KB c U t) (hn:KN (yT c) r t t'):KB c U t':=by
 refine ⟨by rw [hn.s,hn.b]; exact h.v,by rw [hn.s]; exact h.sd,by rw [hn.s]; exact h.su,by rw [hn.b]; exact h.bn,hn.d h.nd,fun x hx=>?_⟩
 by_cases e:x∈t.N
 ·exact h.nu x e
 ·obtain ⟨k,o,h1,_⟩:=hn.c x hx e
  exact h.su x (List.mem_of_getElem? h1)
def SameG (c:zm) (U:List zB) (g:Int→Tried→Option Tried) (k:Nat→KT zB→Option (KT zB×Bool)):Prop :=
 ∀ (o:Nat) t r,o<c.l.length→KB c U t→k o t=some r→g (o:Int) (toT t false)=some (toT r.1 r.2)∧r.1.N.Nodup∧(∀ x∈r.1.N,x∈U)∧(r.2=true→KY (yT c) o t r.1)∧(r.2=false→KN (yT c) (yT c o) t r.1)
theorem zF7 {c:zm} {U:List zB} (hU:U.length≤1000) (hr:∀ p,∀ x∈yT c p,x∈U) {g:Int→Tried→Option Tried} {k:Nat→KT zB→Option (KT zB×Bool)} (hg:SameG c U g k) (hk:∀ o t t' b,KV (yT c) t.S t.B→k o t=some (t',b)→(b=true→KY (yT c) o t t')∧(b=false→KN (yT c) (yT c o) t t')) (q:Nat) (hq:q<c.l.length):∀ (row:List zB),(∀ x∈row,x∈yT c q)→∀ (t:KT zB) (r:KT zB×Bool),KB c U t→kL k q row t=some r→JM g (q:Int) row (toT t false)=some (toT r.1 r.2)∧r.1.N.Nodup∧(∀ x∈r.1.N,x∈U)
 | [],_,t,r,ht,h=>by
  simp only [kL,Option.some.injEq] at h
  subst h
  exact ⟨rfl,ht.nd,ht.nu⟩
 | x :: row,hrow,t,r,ht,h=>by
  have hrow':∀ y∈row,y∈yT c q:=fun y hy=>hrow y (List.mem_cons_of_mem _ hy)
  have hxU:=hr q x (hrow x List.mem_cons_self)
  have l1:=JB ht.nd ht.nu
  have l2:=JB ht.sd ht.su
  have l3:=ht.v.l
  have ht':KB c U ⟨t.S,t.B,t.N⟩:=ht
  unfold kL at h
  unfold JM
  simp only [toT]
  rw [zJw _ (by omega),Option.bind_some]
  by_cases e:x∈t.N
  ·rw [if_pos e] at h
   rw [if_pos (by simpa using e)]
   exact zF7 hU hr hg hk q hq row hrow' t r ht h
  rw [if_neg e] at h
  rw [if_neg (by simpa using e),j5 (by simp; omega),Option.bind_some,zM1 _ _ (by omega),Option.bind_some]
  have hN1:(t.N++[x]).Nodup:=by
   rw [List.nodup_append]
   refine ⟨ht.nd,by simp,fun a ha b hb e' => ?_⟩
   rw [List.mem_singleton] at hb
   subst hb e'
   exact e ha
  have hN2:∀ y∈t.N++[x],y∈U:=fun y hy=>by
   rcases List.mem_append.1 hy with hy | hy
   ·exact ht.nu y hy
   ·rw [List.mem_singleton] at hy; subst hy; exact hxU
  have hB1:KB c U ⟨t.S,t.B,t.N++[x]⟩:=⟨ht.v,ht.sd,ht.su,ht.bn,hN1,hN2⟩
  cases hp:posL x t.S with
  | none =>
   rw [hp] at h
   simp only [Option.some.injEq] at h
   subst h
   rw [if_pos (by simp [posI']),j5 (by simp; omega),Option.bind_some,j5 (by simp [zJo]; omega),Option.bind_some]
   exact ⟨by simp [toT,toI],hN1,hN2⟩
  | some j =>
   rw [hp] at h
   simp only at h
   have hj:=Jr hp
   have hjl:=(List.getElem?_eq_some_iff.1 hj).1
   have hjB:j<t.B.length:=by rw [← l3]; exact hjl
   rw [List.getElem?_eq_getElem hjB] at h
   simp only at h
   have hix:ix (toI t.B) (posI' (some j))=some ((t.B[j]:Nat):Int):=by
    show ix _ (j:Int)=_
    rw [ZY (by rw [zJo]; exact hjB)]; simp [toI]
   rw [if_neg (by show ¬ decide ((j:Int)<0)=true; rw [decide_eq_true_eq]; omega),hix,Option.bind_some]
   have ho:t.B[j]<c.l.length:=ht.bn _ (List.getElem_mem hjB)
   cases hko:k t.B[j] ⟨t.S,t.B,t.N++[x]⟩ with
   | none=>rw [hko] at h; cases h
   | some tb =>
    rw [hko] at h
    obtain ⟨g1,g2,g3,g4,g5⟩:=hg _ _ tb ho hB1 hko
    have g1':g ((t.B[j]:Nat):Int) ⟨t.S,toI t.B,t.N++[x],false⟩=some (toT tb.1 tb.2):=g1
    rw [g1',Option.bind_some]
    obtain ⟨t1,b1⟩:=tb
    cases b1 with
    | true =>
     simp only [Option.some.injEq] at h
     subst h
     have hy:=g4 rfl
     have hl1:j<t1.B.length:=by
      have:=hy.p.length_eq
      simp only [List.length_cons] at this; omega
     simp only [toT]
     rw [if_pos trivial,show posI' (some j)=(j:Int) from rfl,ZY (by rw [zJo]; exact hl1),Option.bind_some]
     refine ⟨?_,g2,g3⟩
     simp only [put,Int.toNat_natCast,toI,List.map_set]
    | false =>
     simp only at h
     exact zF7 hU hr hg hk q hq row hrow' t1 r (hB1.no (g5 rfl)) h
theorem zI7 {c:zm} {U:List zB} (hU:U.length≤1000) (hr:∀ p,∀ x∈yT c p,x∈U) (hrl:∀ r∈c.l,r.length≤1000000):∀ f,SameG c U (Jv c f) (kS (yT c) f)
 | 0=>fun o t r ho ht h=>by cases h
 | f+1=>fun o t r ho ht h=>by
  have hs:=zG7 (f+1) o t r.1 r.2 ht.v h
  have hrow:yT c o=c.l[o]:=by unfold yT; rw [List.getD_eq_getElem?_getD,List.getElem?_eq_getElem ho]; rfl
  have hlen:=hrl c.l[o] (List.getElem_mem ho)
  obtain ⟨h1,h2,h3⟩:=zF7 hU hr (zI7 hU hr hrl f) (fun o t t' b hv h=>zG7 f o t t' b hv h) o ho (yT c o) (fun _ h=>h) t r ht h
  refine ⟨?_,h2,h3,hs.1,hs.2⟩
  unfold Jv
  rw [ZY ho,Option.bind_some,if_pos (by simp; omega),← hrow]
  exact h1
structure MaxA (c:Nat→List zB) (n m:Nat):Prop where
 e:∃ μ,MatA c n μ∧(domA n μ).length=m
 m:∀ μ,MatA c n μ→(domA n μ).length≤m
theorem KI.max {c:Nat→List zB} {n:Nat} {S:List zB} {B:List Nat} (h:KI c n S B):MaxA c n S.length:=by
 refine ⟨?_,h.m⟩
 let μ:Nat→Option zB:=fun r=>(posL r B).bind fun k=>S[k]?
 have hμ:∀ r x,μ r=some x→∃ k,B[k]? = some r∧S[k]? = some x:=fun r x e=>by
  obtain ⟨k,h1,h2⟩:=Option.bind_eq_some_iff.1 e
  exact ⟨k,Jr h1,h2⟩
 have hin:∀ r∈B,∃ x,μ r=some x:=fun r hr=>by
  cases hp:posL r B with
  | none=>exact absurd hr (zCi hp)
  | some k =>
   have hk:=(List.getElem?_eq_some_iff.1 (Jr hp)).1
   exact ⟨S[k]'(by rw [h.v.l]; exact hk),by simp only [μ,hp,Option.bind_some]; exact List.getElem?_eq_getElem _⟩
 have hM:MatA c n μ:=by
  refine ⟨fun r x e=>?_,fun r q x e1 e2=>?_⟩
  ·obtain ⟨k,h1,h2⟩:=hμ r x e
   exact ⟨h.bn r (List.mem_of_getElem? h1),h.v.c k x r h2 h1⟩
  ·obtain ⟨k,h1,h2⟩:=hμ r x e1
   obtain ⟨j,h3,h4⟩:=hμ q x e2
   have:=zDx h.sd h2 h4
   subst this
   rw [h1] at h3
   exact Option.some.inj h3
 refine ⟨μ,hM,Nat.le_antisymm (h.m μ hM) ?_⟩
 rw [h.v.l]
 exact JB h.bd fun r hr=>zCo.2 ⟨h.bn r hr,hin r hr⟩
theorem MaxA.uniq {c:Nat→List zB} {n m m':Nat} (h:MaxA c n m) (h':MaxA c n m'):m=m':=by
 obtain ⟨μ,a1,a2⟩:=h.e
 obtain ⟨ν,c1,c2⟩:=h'.e
 have:=h.m ν c1; have:=h'.m μ a1; omega
theorem zKa {c:zm} {U:List zB} (hU:U.length≤1000) (hr:∀ r∈c.l,∀ x∈r,x∈U) (hrl:∀ r∈c.l,r.length≤1000000) (hn:c.l.length≤1000):∃ m:Nat,YQ c=some (m:Int)∧MaxA (yT c) c.l.length m∧m≤c.l.length:=by
 have hr':∀ p,∀ x∈yT c p,x∈U:=fun p x hx=>by
  unfold yT at hx
  rw [List.getD_eq_getElem?_getD] at hx
  cases hp:c.l[p]? with
  | none=>rw [hp] at hx; cases hx
  | some row=>rw [hp] at hx; exact hr row (List.mem_of_getElem? hp) x hx
 have key:∀ (k j:Nat) (S:List zB) (B:List Nat),j+k=c.l.length→KI (yT c) j S B→∃ (S':List zB) (B':List Nat),yE c (c.l.drop j) (j:Int) S (toI B) (S.length:Int)=some (S'.length:Int)∧KI (yT c) c.l.length S' B':=by
  intro k
  induction k with
  | zero =>
   intro j S B hj h
   have:j=c.l.length:=by omega
   subst this
   exact ⟨S,B,by rw [List.drop_length]; rfl,h⟩
  | succ k ih =>
   intro j S B hj h
   have hj':j<c.l.length:=by omega
   rw [List.drop_eq_getElem_cons hj']
   unfold yE
   have hKB:KB c U ⟨S,B,[]⟩:=⟨h.v,h.sd,fun x hx=>by
    obtain ⟨i,hi⟩:=List.mem_iff_getElem?.1 hx
    have hlt:=(List.getElem?_eq_some_iff.1 hi).1
    exact hr' _ x (h.v.c i x _ hi (List.getElem?_eq_getElem (by rw [← h.v.l]; exact hlt))),fun p hp=>by have:=h.bn p hp; omega,List.nodup_nil,fun x hx=>by cases hx⟩
   have hlS:=JB h.sd hKB.su
   obtain ⟨⟨t1,b1⟩,h1⟩:=zMc hr' fuel j ⟨S,B,[]⟩ h.v (by
    have:=List.length_filter_le (fun x=>decide (x∉([]:List zB))) U
    unfold zDj
    have:(1000:Nat)<fuel:=by decide
    simp only at *
    omega)
   obtain ⟨h2,h3,h4,h5,h6⟩:=zI7 hU hr' hrl fuel j _ _ hj' hKB h1
   have h2':Jv c fuel (j:Int) ⟨S,toI B,[],false⟩=some (toT t1 b1):=h2
   rw [h2',Option.bind_some,w64s' hj' (by omega)]
   cases b1 with
   | true =>
    obtain ⟨q1,q2⟩:=h.yes (h5 rfl)
    obtain ⟨S',B',q3,q4⟩:=ih (j+1) t1.S t1.B (by omega) q1
    refine ⟨S',B',?_,q4⟩
    simp only [toT,if_true]
    rw [show w64 ((S.length:Int)+1)=(t1.S.length:Int) by rw [q2,zf (by omega) (by omega)]; omega]
    exact q3
   | false =>
    have q1:=h.no (h6 rfl)
    obtain ⟨S',B',q3,q4⟩:=ih (j+1) S B (by omega) q1
    refine ⟨S',B',?_,q4⟩
    simp only [toT,Bool.false_eq_true,if_false]
    exact q3
 obtain ⟨S',B',h1,h2⟩:=key c.l.length 0 [] [] (by omega) (KI.zero _)
 refine ⟨S'.length,?_,h2.max,?_⟩
 ·unfold YQ
  rw [if_pos (by simp; omega)]
  exact h1
 ·rw [h2.v.l]
  have:=JB (r:=List.range c.l.length) h2.bd fun p hp=>List.mem_range.2 (h2.bn p hp)
  simpa using this
end Go.Mx
