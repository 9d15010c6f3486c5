/- Part of the proof of ArbiterWorldsAreLawful: plain laws about the functions of M, no program in sight. Conditions: none. -/
import Derived.Test.YtfoafeaplgmhmaaGreatLawZg
import Derived.Test.YtfoafeaplgmhmaaGreatLawZb
set_option linter.unusedVariables false
set_option linter.unusedSimpArgs false
namespace Go.Mx
theorem zOa {ρ:Type} (p:zA→Bool) (l:List zA) (hl:l.length≤4000) {body:Int×Int×List zA→Option ((Int×Int×List zA) ⊕ ρ)} {r:ρ} (i0:Nat) (hi0:i0<l.length) (hp0:p l[i0]=false) (hp:∀ j (h:j<l.length),j<i0→p l[j]=true)
  (step:∀ (i j:Nat) (L:List zA) (hi:i<L.length) (hj:j<L.length),L.length=l.length→body ((i:Int),(j:Int),L)=some (.inl (if p L[j]=true then (((i+1:Nat):Int),((j+1:Nat):Int),L.set i L[j]) else ((i:Int),((j+1:Nat):Int),L))))
  (last:∀ L:List zA,L.length=l.length→L.take (l.filter p).length=l.filter p→body (((l.filter p).length:Int),(L.length:Int),L)=some (.inr r)):Lp body fuel ((i0:Int),((i0+1:Nat):Int),l)=some r:=by
 suffices h:∃ s,Lp body fuel ((i0:Int),((i0+1:Nat):Int),l)=some s∧s=r by obtain ⟨s,h,rfl⟩:=h; exact h
 have hfi:l.take i0=(l.take i0).filter p:=by
  rw [List.filter_eq_self.2]
  intro x hx
  obtain ⟨j,hj,rfl⟩:=List.getElem_of_mem hx
  rw [List.length_take] at hj
  rw [List.getElem_take]
  exact hp j (by omega) (by omega)
 refine lp_inv' (fun (n:Nat) (s:Int×Int×List zA) => ∃ (j:Nat) (L:List zA),s=((((l.take j).filter p).length:Int),(j:Int),L)∧j=n+(i0+1)∧j≤l.length∧L.length=l.length∧L.take ((l.take j).filter p).length=(l.take j).filter p∧(∀ k,j≤k→L[k]? = l[k]?)∧((l.take j).filter p).length<j) _ (l.length - (i0+1)) (by omega) ⟨i0+1,l,?_,by omega,by omega,rfl,?_,fun _ _=>rfl,?_⟩ fun n s hn hI=>?_
 ·have e:(l.take (i0+1)).filter p=l.take i0:=by
   rw [List.take_succ_eq_append_getElem hi0,List.filter_append,← hfi]
   simp [hp0]
  rw [e,List.length_take,Nat.min_eq_left (by omega)]
 ·have e:(l.take (i0+1)).filter p=l.take i0:=by
   rw [List.take_succ_eq_append_getElem hi0,List.filter_append,← hfi]
   simp [hp0]
  rw [e,List.length_take,Nat.min_eq_left (by omega)]
 ·have e:(l.take (i0+1)).filter p=l.take i0:=by
   rw [List.take_succ_eq_append_getElem hi0,List.filter_append,← hfi]
   simp [hp0]
  rw [e,List.length_take]; omega
 ·obtain ⟨j,L,rfl,hj,hjl,hL,h1,h2,h3⟩:=hI
  by_cases hlt:j<l.length
  ·have hjL:j<L.length:=by omega
   have he:L[j]=l[j]:=by
    have:=h2 j (Nat.le_refl _)
    rw [List.getElem?_eq_getElem hjL,List.getElem?_eq_getElem hlt] at this
    exact Option.some.inj this
   refine .inl ⟨by omega,_,step _ j L (by omega) hjL hL,?_⟩
   rw [he]
   by_cases hpj:p l[j]=true
   ·have ef:(l.take (j+1)).filter p=(l.take j).filter p++[l[j]]:=by
     rw [List.take_succ_eq_append_getElem hlt,List.filter_append]; simp [hpj]
    rw [if_pos hpj]
    refine ⟨j+1,L.set ((l.take j).filter p).length l[j],?_,by omega,by omega,by rw [List.length_set]; exact hL,?_,fun k hk=>?_,?_⟩
    ·rw [ef,List.length_append]; rfl
    ·rw [ef,List.length_append,List.length_singleton,List.take_succ_eq_append_getElem (by rw [List.length_set]; omega)]
     rw [List.take_set_of_le (Nat.le_refl _),h1]
     simp
    ·rw [List.getElem?_set_ne (by omega)]; exact h2 k (by omega)
    ·rw [ef,List.length_append,List.length_singleton]; omega
   ·have ef:(l.take (j+1)).filter p=(l.take j).filter p:=by
     rw [List.take_succ_eq_append_getElem hlt,List.filter_append]; simp [hpj]
    rw [if_neg hpj]
    exact ⟨j+1,L,by rw [ef],by omega,by omega,hL,by rw [ef]; exact h1,fun k hk=>h2 k (by omega),by rw [ef]; omega⟩
  ·have e:j=l.length:=by omega
   subst e
   rw [List.take_length] at h1 h3 ⊢
   refine .inr ⟨r,?_,rfl⟩
   have:=last L hL h1
   rw [hL] at this
   exact this
theorem sub_clr {α:Type} {β:Type} {L:List α} {k:Nat} {z:α} (hk:k≤L.length) (h0:0<L.length) (K:List α→Option β):(Option.bind (sub L (k:Int) (L.length:Int)) fun _=>Option.bind (clrE L (k:Int) z) fun l4=>Option.bind (sub l4 0 (k:Int)) K)=K (L.take k):=by
 rw [zBI hk,Option.bind_some]
 unfold clrE
 rw [if_pos ⟨h0,by omega,by omega⟩,Option.bind_some]
 have:k≤(L.take (k:Int).toNat++List.replicate (L.length - (k:Int).toNat) z).length:=by simp; omega
 rw [zDo this,Option.bind_some]
 congr 1
 simp [List.take_append_of_le_length,Nat.min_eq_left hk]
theorem zMq {α:Type} {p:α→Bool} {l:List α} (h:ixOf p l = -1):∀ x∈l,p x=false:=by
 unfold ixOf at h
 cases hf:l.findIdx? p with
 | none=>exact fun x hx=>List.findIdx?_eq_none_iff.1 hf x hx
 | some i=>rw [hf] at h; simp only at h; omega
theorem zIC {α:Type} {p:α→Bool} {l:List α} (h:ixOf p l≠-1):∃ i,∃ hi:i<l.length,ixOf p l=(i:Int)∧p l[i]=true∧∀ j (hj:j<l.length),j<i→p l[j]=false:=by
 unfold ixOf at h ⊢
 cases hf:l.findIdx? p with
 | none=>rw [hf] at h; exact absurd rfl h
 | some i =>
  obtain ⟨h1,h2,h3⟩:=List.findIdx?_eq_some_iff_getElem.1 hf
  exact ⟨i,h1,rfl,h2,fun j hj hji=>by have:=h3 j hji; simpa using this⟩
def zAP (k:Int) (x:zA):Bool:=decide (x.Case=k)
def zKh (c:zG) (l:List zA) (a k:Int):Int×Int×Int:=if QK c l=0 then (if inI a 0 (c.Arbiters - 1)=true∧inI k 1 1099511627776=true then ((JE l a k).1,(JE l a k).2,0) else (0,0,1)) else (0,0,QK c l)
theorem zK5 (l:List zA) (a k:Int):lasS (l.filter (zAP k)) a=JE l a k:=by
 unfold lasS JE
 rw [List.foldl_filter]
 congr 1
 funext p x
 unfold zAP lasF zAO
 by_cases c1:x.Case=k <;> simp [c1]
theorem zOo (c:zG) (l:List zA) (hl:l.length≤4000) (a k:Int):Y4 c l a k=some (zKh c l a k):=by
 unfold Y4 zKh
 rw [zIj c l hl,Option.bind_some]
 by_cases e:QK c l=0
 ·obtain ⟨g1,g2⟩:=jl (zGU e).1
  simp only [e,decide_true,Bool.not_true,Bool.false_eq_true,if_false,if_true]
  show (if (!inI a 0 (w64 (c.Arbiters - 1)) || !inI k 1 1099511627776)=true then _ else _)=_
  rw [yf (by omega) (by omega)]
  cases e1:inI a 0 (c.Arbiters - 1) with
  | false=>simp
  | true =>
   cases e2:inI k 1 1099511627776 with
   | false=>simp
   | true =>
    simp only [Bool.not_true,Bool.or_self,Bool.false_eq_true,if_false,and_self,if_true]
    rw [jX (by simp; omega),Option.bind_some,List.nil_append]
    have hx:ZA l k=some (ixOf (fun x => !zAP k x) l):=by
     unfold ZA
     refine Ju _ l hl (fun i hi=>?_) ?_
     ·unfold ZZ
      simp only [dlt hi,if_true,Z5 hi,Option.bind_some,w64i hi hl,Jf,zAP]
      by_cases hc':l[i].Case=k <;> simp [hc']
     ·unfold ZZ
      simp [dge,zw]
    rw [hx,Option.bind_some]
    have hj:∀ L:List zA,L.length≤4000→L=l.filter (zAP k)→jw a L=some ((JE l a k).1,(JE l a k).2,0):=fun L hL he=>by
     subst he
     unfold jw
     obtain ⟨y,h1,h2⟩:=zLs _ hL a
     rw [zK5] at h2
     rw [h1,Option.bind_some,← h2]
    by_cases hn:ixOf (fun x => !zAP k x) l = -1
    ·simp only [hn,decide_true,if_true]
     refine hj l hl ?_
     rw [List.filter_eq_self.2]
     intro x hx
     have:=zMq hn x hx
     simpa using this
    ·simp only [hn,decide_false,Bool.false_eq_true,if_false]
     obtain ⟨i0,hi0,h1,h2,h3⟩:=zIC hn
     rw [h1,w64i hi0 hl]
     refine zOa (zAP k) l hl i0 hi0 (by simpa using h2) (fun j hj hji=>by have:=h3 j hj hji; simpa using this) (fun i j L hi hj' hL=>?_) (fun L hL hT=>?_)
     ·unfold Yp
      simp only [dlt hj',if_true,Z5 hj',Option.bind_some,Jf,Z5 hi,Jv,w64i hi (by omega),w64i hj' (by omega),Bool.not_not,put_nat,zAP]
      by_cases hc':L[j].Case=k <;> simp [hc']
     ·unfold Yp
      simp only [dge,Bool.false_eq_true,if_false]
      have hfl:(l.filter (zAP k)).length≤L.length:=by rw [hL]; exact List.length_filter_le _ _
      have:yu a ((l.filter (zAP k)).length:Int) L=jw a (L.take (l.filter (zAP k)).length):=sub_clr hfl (by omega) _
      rw [this,hT,hj _ (by rw [← hT]; simp; omega) rfl]
      rfl
 ·simp [e]
theorem zAW {l:List zA} {x:zA} (hx:x∈l):∃ i,∃ hi:i<l.length,zK l[i]=zK x∧(l.take i).any (fun y=>jU y l[i])=false:=by
 cases hf:l.findIdx? fun y=>decide (zK y=zK x) with
 | none =>
  have:=List.findIdx?_eq_none_iff.1 hf x hx
  simp at this
 | some i =>
  obtain ⟨h1,h2,h3⟩:=List.findIdx?_eq_some_iff_getElem.1 hf
  simp only [decide_eq_true_eq] at h2
  refine ⟨i,h1,h2,List.any_eq_false.2 fun y hy=>?_⟩
  obtain ⟨j,hj,rfl⟩:=List.mem_take_iff_getElem.1 hy
  have:=h3 j (by omega)
  rw [zAc,h2]
  simpa using this
def kV (l:List zA) (k:Int) (a:Nat) (r f:Int):Prop := ∃ x∈l,x.Kind=4∧x.Case=k∧x.From=(a:Int)∧x.Round=r∧x.Finding=f
def kP (l:List zA) (k:Int) (a:Nat) (r w f:Int):Prop := ∃ x∈l,x.Kind=2∧x.Case=k∧x.From=(a:Int)∧x.Round=r∧x.Voted=w∧x.Finding=f
def kR (l:List zA) (k r f:Int):Prop := ∃ x∈l,x.Kind=3∧x.Case=k∧x.Round=r∧x.Finding=f
def opK (l:List zA) (a k r:Int):Bool := !l.any fun x=>wrdS a k x&&(decide (r<x.Round)||(decide (x.Round=r)&&decide (x.Kind=4)))
theorem zGq {c:zG} {l:List zA} (hL:yz c l) {i:Nat} (hi:i<l.length) (hn:(l.take i).any (fun y=>jU y l[i])=false):(l[i].Kind=2→(l.take i).any (isK 1 l[i].Case l[i].Round)=true∧l[i].Voted=(JE (l.take i) l[i].From l[i].Case).1∧l[i].Finding=(JE (l.take i) l[i].From l[i].Case).2) ∧
  (l[i].Kind=3→zDh c (prmS c (l.take i) l[i].Case l[i].Round) l[i].Finding=true) ∧
  (l[i].Kind=4→(∃ y∈l.take i,isK 3 l[i].Case l[i].Round y=true∧y.Finding=l[i].Finding)∧spkS (l.take i) l[i].From l[i].Case≤l[i].Round):=by
 have h:=hL i hi
 unfold lawS at h
 rw [if_neg (by rw [hn]; simp)] at h
 refine ⟨fun k=>?_,fun k=>?_,fun k=>?_⟩
 ·rw [if_neg (by omega),if_pos k] at h
  simp only [Bool.and_eq_true,decide_eq_true_eq] at h
  exact ⟨h.1.1.1,h.1.2,h.2⟩
 ·rw [if_neg (by omega),if_neg (by omega),if_pos k] at h
  simp only [Bool.and_eq_true] at h
  exact h.2
 ·rw [if_neg (by omega),if_neg (by omega),if_neg (by omega)] at h
  simp only [Bool.and_eq_true,decide_eq_true_eq] at h
  refine ⟨?_,h.1.2⟩
  have h2:=h.1.1
  unfold prpS at h2
  cases hf:(l.take i).find? (isK 3 l[i].Case l[i].Round) with
  | none=>rw [hf] at h2; cases h2
  | some y =>
   rw [hf] at h2
   exact ⟨y,List.mem_of_find?_eq_some hf,List.find?_some hf,by simpa using h2⟩
theorem zJC (c:zG) (l:List zA) (k r v:Int):cntI (fun x=>decide (x.Voted≤v)) (prmS c l k r)=(cnt (fun a:Nat=>((l.find? (isP k r (a:Int))).map fun x=>decide (x.Voted≤v)).getD false) c.Arbiters.toNat:Nat):=by
 unfold cntI prmS
 rw [List.countP_filterMap,List.countP_eq_length_filter,zD6]
theorem zEj {k r a:Int} {x:zA} (h:isP k r a x=true):x.Kind=2∧x.Case=k∧x.Round=r∧x.From=a:=by
 unfold isP isK at h
 simpa [and_assoc] using h
theorem pax_of {c:zG} {l:List zA} (hc:okC c=true) (hf:∀ y∈l,fmB c y=true) (hL:yz c l) (k:Int):Pax c.Arbiters.toNat (majS c).toNat (kV l k) (kP l k) (kR l k) (fun a r=>opK l (a:Int) k r):=by
 obtain ⟨g1,g2⟩:=jl hc
 have hmaj:majS c=c.Arbiters / 2+1:=by unfold majS; rw [if_pos hc]
 have hprop:∀ a r f,kV l k a r f→kR l k r f:=by
  rintro a r f ⟨x,hx,q1,q2,q3,q4,q5⟩
  obtain ⟨i,hi,e1,e2⟩:=zAW hx
  obtain ⟨s1,s2,s3,s4,s5,s6⟩:=jA.1 e1
  obtain ⟨⟨y,hy,hk,hfi⟩,_⟩:=(zGq hL hi e2).2.2 (s2.trans q1)
  have hk':y.Kind=3∧y.Case=l[i].Case∧y.Round=l[i].Round:=by simpa [isK,and_assoc] using hk
  exact ⟨y,List.mem_of_mem_take hy,hk'.1,by omega,by omega,by omega⟩
 refine ⟨by omega,?_,?_,?_,hprop,?_,?_,?_⟩
 ·rintro a r w f ⟨x,hx,q1,q2,q3,q4,q5,q6⟩ hw
  have hF:=(zEr (hf x hx)).voted q1
  refine ⟨?_,by omega⟩
  obtain ⟨i,hi,e1,e2⟩:=zAW hx
  obtain ⟨s1,s2,s3,s4,s5,s6⟩:=jA.1 e1
  obtain ⟨_,h1,h2⟩:=(zGq hL hi e2).1 (s2.trans q1)
  rcases zGr (l.take i) l[i].From l[i].Case with h | ⟨y,hy,y1,y2,y3,y4,y5,_⟩
  ·rw [h] at h1; simp only at h1; omega
  ·exact ⟨y,List.mem_of_mem_take hy,y1,by omega,by omega,by omega,by omega⟩
 ·rintro a r w f r' g ⟨x,hx,q1,q2,q3,q4,q5,q6⟩ ⟨y,hy,p1,p2,p3,p4,p5⟩ hlt
  obtain ⟨i,hi,e1,e2⟩:=zAW hx
  obtain ⟨s1,s2,s3,s4,s5,s6⟩:=jA.1 e1
  obtain ⟨j,hj,f1,f2⟩:=zAW hy
  obtain ⟨t1,t2,t3,t4,t5,t6⟩:=jA.1 f1
  rcases Nat.lt_trichotomy j i with c1 | c1 | c1
  ·obtain ⟨_,h1,h2⟩:=(zGq hL hi e2).1 (s2.trans q1)
   have:=(zEh (l:=l.take i) (a:=l[i].From) (k:=l[i].Case)).2 l[j] (List.mem_take_iff_getElem.2 ⟨j,by omega,rfl⟩) (by omega) (by omega) (by omega)
   omega
  ·subst c1; omega
  ·obtain ⟨_,h1⟩:=(zGq hL hj f2).2.2 (t2.trans p1)
   have hR:=(zEr (hf l[j] (List.getElem_mem hj))).round
   have:=(zFJ (l.take j) l[j].From l[j].Case (l[j].Round+1) (by omega)).1 (by omega) l[i] (List.mem_take_iff_getElem.2 ⟨i,by omega,rfl⟩) (by
    unfold wrdS
    simp only [Bool.and_eq_true,Bool.or_eq_true,decide_eq_true_eq]
    exact ⟨⟨by omega,by omega⟩,.inl (by omega)⟩)
   omega
 ·rintro a r f ⟨x,hx,q1,q2,q3,q4,q5⟩
  have:=(zEr (hf x hx)).round
  omega
 ·rintro r f g ⟨x,hx,q1,q2,q3,q4⟩ ⟨y,hy,p1,p2,p3,p4⟩
  have:=zBR hL hx hy (k:=k) (r:=r) (by simp [isK,q1,q2,q3]) (by simp [isK,p1,p2,p3])
  omega
 ·rintro a r w f r' ⟨x,hx,q1,q2,q3,q4,q5,q6⟩ hlt
  have:l.any (fun x=>wrdS (a:Int) k x&&(decide (r'<x.Round)||(decide (x.Round=r')&&decide (x.Kind=4))))=true:=List.any_eq_true.2 ⟨x,hx,by
   have c1:r'<x.Round:=by omega
   simp [wrdS,q1,q2,q3,c1]⟩
  show opK l (a:Int) k r'=false
  unfold opK
  rw [this]; rfl
 ·rintro r f ⟨x,hx,q1,q2,q3,q4⟩
  obtain ⟨i,hi,e1,e2⟩:=zAW hx
  obtain ⟨s1,s2,s3,s4,s5,s6⟩:=jA.1 e1
  have hA:=(zGq hL hi e2).2.1 (s2.trans q1)
  have ec:l[i].Case=k:=by omega
  have er:l[i].Round=r:=by omega
  have ef:l[i].Finding=f:=by omega
  rw [ec,er,ef] at hA
  have hQ:∀ (v:Int) (a:Nat),(((l.take i).find? (isP k r (a:Int))).map fun x=>decide (x.Voted≤v)).getD false=true→∃ w g,kP l k a r w g∧0≤w∧w≤v:=fun v a ha=>by
   cases hfd:(l.take i).find? (isP k r (a:Int)) with
   | none=>rw [hfd] at ha; cases ha
   | some y =>
    rw [hfd] at ha
    have hy:=List.mem_of_mem_take (List.mem_of_find?_eq_some hfd)
    obtain ⟨y1,y2,y3,y4⟩:=zEj (List.find?_some hfd)
    exact ⟨_,_,⟨y,hy,y1,y2,y4,y3,rfl,rfl⟩,((zEr (hf y hy)).voted y1).1,by simpa using ha⟩
  unfold zDh at hA
  rw [zJC] at hA
  rcases Bool.or_eq_true_iff.1 hA with h | h
  ·simp only [decide_eq_true_eq] at h
   refine ⟨fun a:Nat=>(((l.take i).find? (isP k r (a:Int))).map fun x=>decide (x.Voted≤0)).getD false,by omega,.inl fun a ha=>?_⟩
   obtain ⟨w,g,h1,h2,h3⟩:=hQ 0 a ha
   have:w=0:=by omega
   subst this
   exact ⟨g,h1⟩
  ·obtain ⟨y,hy,h⟩:=List.any_eq_true.1 h
   rw [zJC] at h
   simp only [Bool.and_eq_true,decide_eq_true_eq] at h
   obtain ⟨⟨h1,h2⟩,h3⟩:=h
   refine ⟨fun a:Nat=>(((l.take i).find? (isP k r (a:Int))).map fun x=>decide (x.Voted≤y.Voted)).getD false,by omega,.inr ?_⟩
   unfold prmS at hy
   obtain ⟨b,_,hb⟩:=List.mem_filterMap.1 hy
   have hym:=List.mem_of_mem_take (List.mem_of_find?_eq_some hb)
   obtain ⟨y1,y2,y3,y4⟩:=zEj (List.find?_some hb)
   refine ⟨b,y.Voted,h1,⟨y,hym,y1,y2,y4,y3,rfl,h2⟩,fun a ha=>?_⟩
   obtain ⟨w,g,k1,k2,k3⟩:=hQ y.Voted a ha
   exact ⟨w,g,k1,k3⟩
theorem vt_kV {l:List zA} {r:zF} {a:Nat} (h:vtB l r a=true):kV l r.Case a r.Round r.Finding:=by
 obtain ⟨x,hx,h⟩:=List.any_eq_true.1 h
 simp only [Bool.and_eq_true,decide_eq_true_eq] at h
 obtain ⟨h1,h2⟩:=zGE.1 h.1
 exact ⟨x,hx,h1,by rw [← h2]; rfl,h.2,by rw [← h2]; rfl,by rw [← h2]; rfl⟩
def nxtS (c:zG) (a round:Int):Int:=round+1+(a - round) % c.Arbiters
theorem zNi {c:zG} {a round:Int} (hc:okC c=true) (h1:0≤a) (h2:a<c.Arbiters) (k:Nat) (hk:(k:Int)≤(a - round) % c.Arbiters) (h0:0≤round):(round+1+k - 1) % c.Arbiters=a↔(k:Int)=(a - round) % c.Arbiters:=by
 obtain ⟨g1,g2⟩:=jl hc
 have:c.Arbiters=3∨c.Arbiters=4∨c.Arbiters=5∨c.Arbiters=6∨c.Arbiters=7:=by omega
 rcases this with e | e | e | e | e <;> rw [e] at hk h2 ⊢ <;> omega
theorem nxt_lt {c:zG} (hc:okC c=true) (a round:Int):round<nxtS c a round∧nxtS c a round≤round+c.Arbiters:=by
 obtain ⟨g1,g2⟩:=jl hc
 unfold nxtS
 have:=Int.emod_nonneg (a - round) (by omega:c.Arbiters≠0)
 have:=Int.emod_lt_of_pos (a - round) (by omega:0<c.Arbiters)
 omega
theorem zH1 {ρ:Type} {c:zG} {a round:Int} (hc:okC c=true) (h1:0≤a) (h2:a<c.Arbiters) (h0:0≤round) (h3:round≤1048576) {body:Int→Option (Int ⊕ ρ)} (fin:Int→ρ) (hb:∀ r,1≤r→r≤2000000→body r=some (if (r - 1) % c.Arbiters=a then .inr (fin r) else .inl (r+1))):Lp body fuel (round+1)=some (fin (nxtS c a round)):=by
 obtain ⟨g1,g2⟩:=jl hc
 have hn:=Int.emod_nonneg (a - round) (by omega:c.Arbiters≠0)
 have hm:=Int.emod_lt_of_pos (a - round) (by omega:0<c.Arbiters)
 suffices h:∃ r,Lp body fuel (round+1)=some r∧r=fin (nxtS c a round) by obtain ⟨r,h,rfl⟩:=h; exact h
 refine lp_inv' (fun (i:Nat) (s:Int)=>s=round+1+i∧(i:Int)≤(a - round) % c.Arbiters) _ ((a - round) % c.Arbiters).toNat (by omega) ⟨by simp,by simpa using hn⟩ fun i s hi hI=>?_
 obtain ⟨rfl,hI⟩:=hI
 have hst:=zNi hc h1 h2 i hI h0
 rw [hb _ (by omega) (by omega)]
 by_cases e:(i:Int)=(a - round) % c.Arbiters
 ·refine .inr ⟨_,by rw [if_pos (hst.2 e)],?_⟩
  unfold nxtS
  rw [e]
 ·refine .inl ⟨by omega,_,by rw [if_neg (fun q=>e (hst.1 q))],by omega,by omega⟩
theorem zHr {c:zG} {r:Int} (hc:okC c=true) (h1:1≤r) (h2:r≤2000000):rem (w64 (r - 1)) c.Arbiters=some ((r - 1) % c.Arbiters):=by
 obtain ⟨g1,g2⟩:=jl hc
 unfold rem
 rw [if_neg (by omega),yf (by omega) (by omega),Int.tmod_eq_emod_of_nonneg (by omega)]
theorem next_eq {c:zG} {a round:Int} (hc:okC c=true) (h1:0≤a) (h2:a<c.Arbiters) (h0:0≤round) (h3:round≤1048576):Qi c a round=some (nxtS c a round):=by
 unfold Qi
 rw [yf (by omega) (by omega)]
 refine zH1 hc h1 h2 h0 h3 (fun r=>r) fun r q1 q2=>?_
 unfold qP
 simp only
 rw [zHr hc q1 q2,Option.bind_some,yf (n:=r+1) (by omega) (by omega)]
 by_cases e:(r - 1) % c.Arbiters=a
 ·simp [e,YE]
 ·simp [e]
def zLn (c:zG) (a round:Int):Int×Int :=
 if okC c=true then (if inI a 0 (c.Arbiters - 1)=true∧inI round 0 1048576=true then (if 1048576<nxtS c a round then (0,2) else (nxtS c a round,0)) else (0,1)) else (0,1)
theorem zNS (c:zG) (a round:Int):zDx c a round=some (zLn c a round):=by
 unfold zDx zLn
 rw [zBP,chk0]
 cases h:okC c with
 | false=>simp [chkS,h]
 | true =>
  obtain ⟨g1,g2⟩:=jl h
  simp only [Bool.not_true,Bool.false_eq_true,if_false,if_true]
  show (if (!inI a 0 (w64 (c.Arbiters - 1)) || !inI round 0 1048576)=true then _ else _)=_
  rw [yf (by omega) (by omega)]
  cases e1:inI a 0 (c.Arbiters - 1) with
  | false=>simp
  | true =>
   cases e2:inI round 0 1048576 with
   | false=>simp
   | true =>
    have:=jr.1 e1
    have:=jr.1 e2
    simp only [Bool.not_true,Bool.or_self,Bool.false_eq_true,if_false,and_self,if_true]
    rw [yf (by omega) (by omega)]
    refine zH1 h (by omega) (by omega) (by omega) (by omega) (fun r=>if 1048576<r then ((0:Int),(2:Int)) else (r,0)) fun r q1 q2=>?_
    unfold zDa
    simp only
    rw [zHr h q1 q2,Option.bind_some,yf (n:=r+1) (by omega) (by omega)]
    by_cases e:(r - 1) % c.Arbiters=a
    ·simp only [e,decide_true,Bool.not_true,Bool.false_eq_true,if_false,if_true,zDZ,decide_eq_true_eq]
     split <;> rfl
    ·simp [e]
def pkF (a:Int×Int) (x:zA):Int×Int:=if a.1<x.Voted then (x.Voted,x.Finding) else a
def pkS (l:List zA):Int×Int:=l.foldl pkF (0,0)
theorem pick_eq (l:List zA) (hl:l.length≤4000):zDv l=some ((pkS l).2,decide (0<(pkS l).1)):=by
 unfold zDv
 refine (zBH l hl (fun a i=>(a.1,a.2,i)) pkF (fun a=>(a.2,decide (0<a.1))) (fun _ _=>True) (a:=(0,0)) rfl trivial (fun a i hi _=>⟨?_,trivial⟩) (fun a _=>?_))
 ·unfold zA2
  simp only [dlt hi,if_true,Z5 hi,Option.bind_some,pkF,zA1,w64i hi hl,decide_eq_true_eq]
  split <;> rfl
 ·unfold zA2
  simp [dge,zDW]
theorem zMZ (l:List zA) (hl:l.length≤4000):Yb l=some ((pkS l).2,decide (0<(pkS l).1)):=by
 let g:zA→zA→zA:=fun a x=>if a.Voted<x.Voted then x else a
 have key:∀ (l:List zA) (a:zA),((l.foldl g a).Voted,(l.foldl g a).Finding)=l.foldl pkF (a.Voted,a.Finding):=by
  intro l
  induction l with
  | nil=>intro a; rfl
  | cons x r ih =>
   intro a
   simp only [List.foldl_cons]
   rw [ih]
   congr 1
   show ((if a.Voted<x.Voted then x else a).Voted,(if a.Voted<x.Voted then x else a).Finding)=pkF (a.Voted,a.Finding) x
   unfold pkF
   split <;> rfl
 have h:=zBH (body:=yK l) l hl (fun a i=>(i,a.ID,a.Case,a.Kind,a.Round,a.From,a.To,a.Voted,a.Finding)) g (fun a=>(a.Finding,decide (0<a.Voted))) (fun _ _=>True) (a:=(⟨0,0,0,0,0,0,0,0⟩:zA)) rfl trivial (fun a i hi _=>⟨by
  unfold yK
  simp only [dlt hi,if_true,Z5 hi,Option.bind_some,Jb,w64i hi hl,decide_eq_true_eq,g]
  split <;> rfl,trivial⟩) (fun a _=>by
  unfold yK
  simp [dge,yJ])
 unfold Yb
 rw [h]
 have:=key l ⟨0,0,0,0,0,0,0,0⟩
 unfold pkS
 rw [← this]
def prB (x y:zA):Bool:=decide (y.From=x.From)||(decide (0<x.Voted)&&decide (x.Voted=y.Voted) && !decide (x.Finding=y.Finding))
theorem zAv.len {c:zG} {l:List zA} {o:List zF} (h:zAv c l o) (hc:okC c=true) (hl:l.length≤4000):o.length≤l.length:=by
 obtain ⟨o',_,h2,h3⟩:=zF1 c hc l hl
 rw [h.uniq h2]; exact h3
end Go.Mx
