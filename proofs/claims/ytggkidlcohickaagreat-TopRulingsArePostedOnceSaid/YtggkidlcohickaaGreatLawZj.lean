/- Part of the proof of TopRulingsArePostedOnce: plain laws about the functions of M, no program in sight. Conditions: none. -/
import Derived.Test.YtggkidlcohickaaGreatLawZg
import Derived.Test.YtggkidlcohickaaGreatLawZb
set_option linter.unusedVariables false
set_option linter.unusedSimpArgs false
namespace Go.Mx
theorem zM4 {α:Type} {p:α→Bool} {l:List α} (h:ixOf p l≠-1):∃ i,∃ hi:i<l.length,ixOf p l=(i:Int)∧p l[i]=true∧∀ j (hj:j<l.length),j<i→p l[j]=false:=by
 unfold ixOf at h ⊢
 cases hf:l.findIdx? p with
 | none=>rw [hf] at h; exact absurd rfl h
 | some i =>
  obtain ⟨h1,h2,h3⟩:=List.findIdx?_eq_some_iff_getElem.1 hf
  exact ⟨i,h1,rfl,h2,fun j hj hji=>by have:=h3 j hji; simpa using this⟩
theorem qw {l:List zA} {x:zA} (hx:x∈l):∃ i,∃ hi:i<l.length,Zl l[i]=Zl x∧(l.take i).any (fun y=>Jj y l[i])=false:=by
 cases hf:l.findIdx? fun y=>decide (Zl y=Zl x) with
 | none =>
  have:=List.findIdx?_eq_none_iff.1 hf x hx
  simp at this
 | some i =>
  obtain ⟨h1,h2,h3⟩:=List.findIdx?_eq_some_iff_getElem.1 hf
  simp only [decide_eq_true_eq] at h2
  refine ⟨i,h1,h2,List.any_eq_false.2 fun y hy=>?_⟩
  obtain ⟨j,hj,rfl⟩:=List.mem_take_iff_getElem.1 hy
  have:=h3 j (by omega)
  rw [zBf,h2]
  simpa using this
def kV (l:List zA) (k:Int) (a:Nat) (r f:Int):Prop := ∃ x∈l,x.Kind=4∧x.Case=k∧x.From=(a:Int)∧x.Round=r∧x.Finding=f
def kP (l:List zA) (k:Int) (a:Nat) (r w f:Int):Prop := ∃ x∈l,x.Kind=2∧x.Case=k∧x.From=(a:Int)∧x.Round=r∧x.Voted=w∧x.Finding=f
def kR (l:List zA) (k r f:Int):Prop := ∃ x∈l,x.Kind=3∧x.Case=k∧x.Round=r∧x.Finding=f
def opK (l:List zA) (a k r:Int):Bool := !l.any fun x=>wrdS a k x&&(decide (r<x.Round)||(decide (x.Round=r)&&decide (x.Kind=4)))
theorem zGh {c:zD} {l:List zA} (hL:Qs c l) {i:Nat} (hi:i<l.length) (hn:(l.take i).any (fun y=>Jj y l[i])=false):(l[i].Kind=2→(l.take i).any (isK 1 l[i].Case l[i].Round)=true∧l[i].Voted=(YZ (l.take i) l[i].From l[i].Case).1∧l[i].Finding=(YZ (l.take i) l[i].From l[i].Case).2) ∧
  (l[i].Kind=3→zML c (prmS c (l.take i) l[i].Case l[i].Round) l[i].Finding=true) ∧
  (l[i].Kind=4→(∃ y∈l.take i,isK 3 l[i].Case l[i].Round y=true∧y.Finding=l[i].Finding)∧spkS (l.take i) l[i].From l[i].Case≤l[i].Round):=by
 have h:=hL i hi
 unfold lawS at h
 rw [if_neg (by rw [hn]; simp)] at h
 refine ⟨fun k=>?_,fun k=>?_,fun k=>?_⟩
 ·rw [if_neg (by omega),if_pos k] at h
  simp only [Bool.and_eq_true,decide_eq_true_eq] at h
  exact ⟨h.1.1.1,h.1.2,h.2⟩
 ·rw [if_neg (by omega),if_neg (by omega),if_pos k] at h
  simp only [Bool.and_eq_true] at h
  exact h.2
 ·rw [if_neg (by omega),if_neg (by omega),if_neg (by omega)] at h
  simp only [Bool.and_eq_true,decide_eq_true_eq] at h
  refine ⟨?_,h.1.2⟩
  have h2:=h.1.1
  unfold prpS at h2
  cases hf:(l.take i).find? (isK 3 l[i].Case l[i].Round) with
  | none=>rw [hf] at h2; cases h2
  | some y =>
   rw [hf] at h2
   exact ⟨y,List.mem_of_find?_eq_some hf,List.find?_some hf,by simpa using h2⟩
theorem zIz (c:zD) (l:List zA) (k r v:Int):cntI (fun x=>decide (x.Voted≤v)) (prmS c l k r)=(cnt (fun a:Nat=>((l.find? (isP k r (a:Int))).map fun x=>decide (x.Voted≤v)).getD false) c.Arbiters.toNat:Nat):=by
 unfold cntI prmS
 rw [List.countP_filterMap,List.countP_eq_length_filter,zDl]
theorem zEP {k r a:Int} {x:zA} (h:isP k r a x=true):x.Kind=2∧x.Case=k∧x.Round=r∧x.From=a:=by
 unfold isP isK at h
 simpa [and_assoc] using h
theorem pax_of {c:zD} {l:List zA} (hc:okC c=true) (hf:∀ y∈l,fmB c y=true) (hL:Qs c l) (k:Int):Pax c.Arbiters.toNat (majS c).toNat (kV l k) (kP l k) (kR l k) (fun a r=>opK l (a:Int) k r):=by
 obtain ⟨g1,g2⟩:=jI hc
 have hmaj:majS c=c.Arbiters / 2+1:=by unfold majS; rw [if_pos hc]
 have hprop:∀ a r f,kV l k a r f→kR l k r f:=by
  rintro a r f ⟨x,hx,q1,q2,q3,q4,q5⟩
  obtain ⟨i,hi,e1,e2⟩:=qw hx
  obtain ⟨s1,s2,s3,s4,s5,s6⟩:=jF.1 e1
  obtain ⟨⟨y,hy,hk,hfi⟩,_⟩:=(zGh hL hi e2).2.2 (s2.trans q1)
  have hk':y.Kind=3∧y.Case=l[i].Case∧y.Round=l[i].Round:=by simpa [isK,and_assoc] using hk
  exact ⟨y,List.mem_of_mem_take hy,hk'.1,by omega,by omega,by omega⟩
 refine ⟨by omega,?_,?_,?_,hprop,?_,?_,?_⟩
 ·rintro a r w f ⟨x,hx,q1,q2,q3,q4,q5,q6⟩ hw
  have hF:=(zFl (hf x hx)).voted q1
  refine ⟨?_,by omega⟩
  obtain ⟨i,hi,e1,e2⟩:=qw hx
  obtain ⟨s1,s2,s3,s4,s5,s6⟩:=jF.1 e1
  obtain ⟨_,h1,h2⟩:=(zGh hL hi e2).1 (s2.trans q1)
  rcases zJo (l.take i) l[i].From l[i].Case with h | ⟨y,hy,y1,y2,y3,y4,y5,_⟩
  ·rw [h] at h1; simp only at h1; omega
  ·exact ⟨y,List.mem_of_mem_take hy,y1,by omega,by omega,by omega,by omega⟩
 ·rintro a r w f r' g ⟨x,hx,q1,q2,q3,q4,q5,q6⟩ ⟨y,hy,p1,p2,p3,p4,p5⟩ hlt
  obtain ⟨i,hi,e1,e2⟩:=qw hx
  obtain ⟨s1,s2,s3,s4,s5,s6⟩:=jF.1 e1
  obtain ⟨j,hj,f1,f2⟩:=qw hy
  obtain ⟨t1,t2,t3,t4,t5,t6⟩:=jF.1 f1
  rcases Nat.lt_trichotomy j i with c1 | c1 | c1
  ·obtain ⟨_,h1,h2⟩:=(zGh hL hi e2).1 (s2.trans q1)
   have:=(zIj (l:=l.take i) (a:=l[i].From) (k:=l[i].Case)).2 l[j] (List.mem_take_iff_getElem.2 ⟨j,by omega,rfl⟩) (by omega) (by omega) (by omega)
   omega
  ·subst c1; omega
  ·obtain ⟨_,h1⟩:=(zGh hL hj f2).2.2 (t2.trans p1)
   have hR:=(zFl (hf l[j] (List.getElem_mem hj))).round
   have:=(zIM (l.take j) l[j].From l[j].Case (l[j].Round+1) (by omega)).1 (by omega) l[i] (List.mem_take_iff_getElem.2 ⟨i,by omega,rfl⟩) (by
    unfold wrdS
    simp only [Bool.and_eq_true,Bool.or_eq_true,decide_eq_true_eq]
    exact ⟨⟨by omega,by omega⟩,.inl (by omega)⟩)
   omega
 ·rintro a r f ⟨x,hx,q1,q2,q3,q4,q5⟩
  have:=(zFl (hf x hx)).round
  omega
 ·rintro r f g ⟨x,hx,q1,q2,q3,q4⟩ ⟨y,hy,p1,p2,p3,p4⟩
  have:=zCo hL hx hy (k:=k) (r:=r) (by simp [isK,q1,q2,q3]) (by simp [isK,p1,p2,p3])
  omega
 ·rintro a r w f r' ⟨x,hx,q1,q2,q3,q4,q5,q6⟩ hlt
  have:l.any (fun x=>wrdS (a:Int) k x&&(decide (r'<x.Round)||(decide (x.Round=r')&&decide (x.Kind=4))))=true:=List.any_eq_true.2 ⟨x,hx,by
   have c1:r'<x.Round:=by omega
   simp [wrdS,q1,q2,q3,c1]⟩
  show opK l (a:Int) k r'=false
  unfold opK
  rw [this]; rfl
 ·rintro r f ⟨x,hx,q1,q2,q3,q4⟩
  obtain ⟨i,hi,e1,e2⟩:=qw hx
  obtain ⟨s1,s2,s3,s4,s5,s6⟩:=jF.1 e1
  have hA:=(zGh hL hi e2).2.1 (s2.trans q1)
  have ec:l[i].Case=k:=by omega
  have er:l[i].Round=r:=by omega
  have ef:l[i].Finding=f:=by omega
  rw [ec,er,ef] at hA
  have hQ:∀ (v:Int) (a:Nat),(((l.take i).find? (isP k r (a:Int))).map fun x=>decide (x.Voted≤v)).getD false=true→∃ w g,kP l k a r w g∧0≤w∧w≤v:=fun v a ha=>by
   cases hfd:(l.take i).find? (isP k r (a:Int)) with
   | none=>rw [hfd] at ha; cases ha
   | some y =>
    rw [hfd] at ha
    have hy:=List.mem_of_mem_take (List.mem_of_find?_eq_some hfd)
    obtain ⟨y1,y2,y3,y4⟩:=zEP (List.find?_some hfd)
    exact ⟨_,_,⟨y,hy,y1,y2,y4,y3,rfl,rfl⟩,((zFl (hf y hy)).voted y1).1,by simpa using ha⟩
  unfold zML at hA
  rw [zIz] at hA
  rcases Bool.or_eq_true_iff.1 hA with h | h
  ·simp only [decide_eq_true_eq] at h
   refine ⟨fun a:Nat=>(((l.take i).find? (isP k r (a:Int))).map fun x=>decide (x.Voted≤0)).getD false,by omega,.inl fun a ha=>?_⟩
   obtain ⟨w,g,h1,h2,h3⟩:=hQ 0 a ha
   have:w=0:=by omega
   subst this
   exact ⟨g,h1⟩
  ·obtain ⟨y,hy,h⟩:=List.any_eq_true.1 h
   rw [zIz] at h
   simp only [Bool.and_eq_true,decide_eq_true_eq] at h
   obtain ⟨⟨h1,h2⟩,h3⟩:=h
   refine ⟨fun a:Nat=>(((l.take i).find? (isP k r (a:Int))).map fun x=>decide (x.Voted≤y.Voted)).getD false,by omega,.inr ?_⟩
   unfold prmS at hy
   obtain ⟨b,_,hb⟩:=List.mem_filterMap.1 hy
   have hym:=List.mem_of_mem_take (List.mem_of_find?_eq_some hb)
   obtain ⟨y1,y2,y3,y4⟩:=zEP (List.find?_some hb)
   refine ⟨b,y.Voted,h1,⟨y,hym,y1,y2,y4,y3,rfl,h2⟩,fun a ha=>?_⟩
   obtain ⟨w,g,k1,k2,k3⟩:=hQ y.Voted a ha
   exact ⟨w,g,k1,k3⟩
theorem vt_kV {l:List zA} {r:zB} {a:Nat} (h:vtB l r a=true):kV l r.Case a r.Round r.Finding:=by
 obtain ⟨x,hx,h⟩:=List.any_eq_true.1 h
 simp only [Bool.and_eq_true,decide_eq_true_eq] at h
 obtain ⟨h1,h2⟩:=QR.1 h.1
 exact ⟨x,hx,h1,by rw [← h2]; rfl,h.2,by rw [← h2]; rfl,by rw [← h2]; rfl⟩
def nxtS (c:zD) (a round:Int):Int:=round+1+(a - round) % c.Arbiters
theorem zNz {c:zD} {a round:Int} (hc:okC c=true) (h1:0≤a) (h2:a<c.Arbiters) (k:Nat) (hk:(k:Int)≤(a - round) % c.Arbiters) (h0:0≤round):(round+1+k - 1) % c.Arbiters=a↔(k:Int)=(a - round) % c.Arbiters:=by
 obtain ⟨g1,g2⟩:=jI hc
 have:c.Arbiters=3∨c.Arbiters=4∨c.Arbiters=5∨c.Arbiters=6∨c.Arbiters=7:=by omega
 rcases this with e | e | e | e | e <;> rw [e] at hk h2 ⊢ <;> omega
theorem nxt_lt {c:zD} (hc:okC c=true) (a round:Int):round<nxtS c a round∧nxtS c a round≤round+c.Arbiters:=by
 obtain ⟨g1,g2⟩:=jI hc
 unfold nxtS
 have:=Int.emod_nonneg (a - round) (by omega:c.Arbiters≠0)
 have:=Int.emod_lt_of_pos (a - round) (by omega:0<c.Arbiters)
 omega
theorem zHs {ρ:Type} {c:zD} {a round:Int} (hc:okC c=true) (h1:0≤a) (h2:a<c.Arbiters) (h0:0≤round) (h3:round≤1048576) {body:Int→Option (Int ⊕ ρ)} (fin:Int→ρ) (hb:∀ r,1≤r→r≤2000000→body r=some (if (r - 1) % c.Arbiters=a then .inr (fin r) else .inl (r+1))):Lp body fuel (round+1)=some (fin (nxtS c a round)):=by
 obtain ⟨g1,g2⟩:=jI hc
 have hn:=Int.emod_nonneg (a - round) (by omega:c.Arbiters≠0)
 have hm:=Int.emod_lt_of_pos (a - round) (by omega:0<c.Arbiters)
 suffices h:∃ r,Lp body fuel (round+1)=some r∧r=fin (nxtS c a round) by obtain ⟨r,h,rfl⟩:=h; exact h
 refine lp_inv' (fun (i:Nat) (s:Int)=>s=round+1+i∧(i:Int)≤(a - round) % c.Arbiters) _ ((a - round) % c.Arbiters).toNat (by omega) ⟨by simp,by simpa using hn⟩ fun i s hi hI=>?_
 obtain ⟨rfl,hI⟩:=hI
 have hst:=zNz hc h1 h2 i hI h0
 rw [hb _ (by omega) (by omega)]
 by_cases e:(i:Int)=(a - round) % c.Arbiters
 ·refine .inr ⟨_,by rw [if_pos (hst.2 e)],?_⟩
  unfold nxtS
  rw [e]
 ·refine .inl ⟨by omega,_,by rw [if_neg (fun q=>e (hst.1 q))],by omega,by omega⟩
theorem zHf {c:zD} {r:Int} (hc:okC c=true) (h1:1≤r) (h2:r≤2000000):rem (w64 (r - 1)) c.Arbiters=some ((r - 1) % c.Arbiters):=by
 obtain ⟨g1,g2⟩:=jI hc
 unfold rem
 rw [if_neg (by omega),JD (by omega) (by omega),Int.tmod_eq_emod_of_nonneg (by omega)]
theorem next_eq {c:zD} {a round:Int} (hc:okC c=true) (h1:0≤a) (h2:a<c.Arbiters) (h0:0≤round) (h3:round≤1048576):QK c a round=some (nxtS c a round):=by
 unfold QK
 rw [JD (by omega) (by omega)]
 refine zHs hc h1 h2 h0 h3 (fun r=>r) fun r q1 q2=>?_
 unfold Q3
 simp only
 rw [zHf hc q1 q2,Option.bind_some,JD (n:=r+1) (by omega) (by omega)]
 by_cases e:(r - 1) % c.Arbiters=a
 ·simp [e,yX]
 ·simp [e]
def zLm (c:zD) (a round:Int):Int×Int :=
 if okC c=true then (if inI a 0 (c.Arbiters - 1)=true∧inI round 0 1048576=true then (if 1048576<nxtS c a round then (0,2) else (nxtS c a round,0)) else (0,1)) else (0,1)
theorem zNe (c:zD) (a round:Int):zDY c a round=some (zLm c a round):=by
 unfold zDY zLm
 rw [zAt,chk0]
 cases h:okC c with
 | false=>simp [chkS,h]
 | true =>
  obtain ⟨g1,g2⟩:=jI h
  simp only [Bool.not_true,Bool.false_eq_true,if_false,if_true]
  show (if (!inI a 0 (w64 (c.Arbiters - 1)) || !inI round 0 1048576)=true then _ else _)=_
  rw [JD (by omega) (by omega)]
  cases e1:inI a 0 (c.Arbiters - 1) with
  | false=>simp
  | true =>
   cases e2:inI round 0 1048576 with
   | false=>simp
   | true =>
    have:=jQ.1 e1
    have:=jQ.1 e2
    simp only [Bool.not_true,Bool.or_self,Bool.false_eq_true,if_false,and_self,if_true]
    rw [JD (by omega) (by omega)]
    refine zHs h (by omega) (by omega) (by omega) (by omega) (fun r=>if 1048576<r then ((0:Int),(2:Int)) else (r,0)) fun r q1 q2=>?_
    unfold zDG
    simp only
    rw [zHf h q1 q2,Option.bind_some,JD (n:=r+1) (by omega) (by omega)]
    by_cases e:(r - 1) % c.Arbiters=a
    ·simp only [e,decide_true,Bool.not_true,Bool.false_eq_true,if_false,if_true,zDF,decide_eq_true_eq]
     split <;> rfl
    ·simp [e]
def pkF (a:Int×Int) (x:zA):Int×Int:=if a.1<x.Voted then (x.Voted,x.Finding) else a
def pkS (l:List zA):Int×Int:=l.foldl pkF (0,0)
theorem pick_eq (l:List zA) (hl:l.length≤4000):zDX l=some ((pkS l).2,decide (0<(pkS l).1)):=by
 unfold zDX
 refine (zBt l hl (fun a i=>(a.1,a.2,i)) pkF (fun a=>(a.2,decide (0<a.1))) (fun _ _=>True) (a:=(0,0)) rfl trivial (fun a i hi _=>⟨?_,trivial⟩) (fun a _=>?_))
 ·unfold zAd
  simp only [dlt hi,if_true,Zf hi,Option.bind_some,pkF,zAc,w64i hi hl,decide_eq_true_eq]
  split <;> rfl
 ·unfold zAd
  simp [dge,zDD]
theorem zMp (l:List zA) (hl:l.length≤4000):YH l=some ((pkS l).2,decide (0<(pkS l).1)):=by
 let g:zA→zA→zA:=fun a x=>if a.Voted<x.Voted then x else a
 have key:∀ (l:List zA) (a:zA),((l.foldl g a).Voted,(l.foldl g a).Finding)=l.foldl pkF (a.Voted,a.Finding):=by
  intro l
  induction l with
  | nil=>intro a; rfl
  | cons x r ih =>
   intro a
   simp only [List.foldl_cons]
   rw [ih]
   congr 1
   show ((if a.Voted<x.Voted then x else a).Voted,(if a.Voted<x.Voted then x else a).Finding)=pkF (a.Voted,a.Finding) x
   unfold pkF
   split <;> rfl
 have h:=zBt (body:=Jq l) l hl (fun a i=>(i,a.ID,a.Case,a.Kind,a.Round,a.From,a.To,a.Voted,a.Finding)) g (fun a=>(a.Finding,decide (0<a.Voted))) (fun _ _=>True) (a:=(⟨0,0,0,0,0,0,0,0⟩:zA)) rfl trivial (fun a i hi _=>⟨by
  unfold Jq
  simp only [dlt hi,if_true,Zf hi,Option.bind_some,JC,w64i hi hl,decide_eq_true_eq,g]
  split <;> rfl,trivial⟩) (fun a _=>by
  unfold Jq
  simp [dge,Jp])
 unfold YH
 rw [h]
 have:=key l ⟨0,0,0,0,0,0,0,0⟩
 unfold pkS
 rw [← this]
def prB (x y:zA):Bool:=decide (y.From=x.From)||(decide (0<x.Voted)&&decide (x.Voted=y.Voted) && !decide (x.Finding=y.Finding))
def Zh (L:List zA) (x:zA):Bool:=L.any fun y=>decide (y.From=x.From)
theorem zMM {m:List (Int×Bool)} {P:List zA} (h:Seen m P) (x:zA):(zO x.From m).getD false=Zh P x:=h x.From
def prF (c:zD) (r:zB) (acc:List zA) (x:zA):List zA:=if (acc.length:Int)<majS c∧zR x r=true∧Zh acc x=false then acc++[x] else acc
def prfS (c:zD) (l:List zA) (r:zB):List zA:=l.foldl (prF c r) []
theorem zE6 (c:zD) (l:List zA) (x:zA) (r:zB):prfS c (l++[x]) r=prF c r (prfS c l r) x:=by simp [prfS,List.foldl_append]
theorem zHk {c:zD} {l:List zA} {i:Nat} (h:i<l.length) (r:zB):prfS c (l.take (i+1)) r=prF c r (prfS c (l.take i) r) l[i]:=by rw [List.take_succ_eq_append_getElem h,zE6]
theorem zIV (c:zD) (l:List zA) (r:zB):(prfS c l r).length≤l.length:=by
 refine yT (motive:=fun l=>(prfS c l r).length≤l.length) (by simp [prfS]) (fun l x ih=>?_) l
 rw [zE6]
 unfold prF
 split <;> simp <;> omega
theorem zJT {c:zD} {r:zB}:∀ {l acc:List zA},majS c≤(acc.length:Int)→l.foldl (prF c r) acc=acc
 | [],acc,_=>rfl
 | x :: l,acc,h=>by
  have e:prF c r acc x=acc:=by unfold prF; rw [if_neg (by omega)]
  rw [List.foldl_cons,e]
  exact zJT h
theorem zNj {c:zD} {r:zB} {l:List zA} {i:Nat} (h:majS c≤((prfS c (l.take i) r).length:Int)):prfS c l r=prfS c (l.take i) r:=by
 have e:prfS c l r=(l.drop i).foldl (prF c r) (prfS c (l.take i) r):=by
  unfold prfS
  rw [← List.foldl_append,List.take_append_drop]
 rw [e,zJT h]
theorem shw_iff {x:zA} {r:zB} (hr:r.Case≠0):decide (zn x=r)=zR x r:=by
 rw [Bool.eq_iff_iff,decide_eq_true_eq,QR]
 unfold zn
 by_cases k:x.Kind=4
 ·simp only [k,decide_true,Bool.not_true,Bool.false_eq_true,if_false,true_and]
  rfl
 ·simp only [k,decide_false,Bool.not_false,if_true,false_and,iff_false]
  intro h; subst h; exact hr rfl
def prfA (c:zD) (l:List zA) (o:List zB) (id:Int):List zA×Int:=if yK c l=0 then (if inI id 1 1099511627776=true then (match o.find? fun r=>decide (r.Case=id) with | some r=>(prfS c l r,0) | none=>([],5)) else ([],1)) else ([],yK c l)
theorem prf_in (c:zD) (l acc:List zA) (i:Nat) (hi:i<l.length) (ha:acc.length≤4000) (b:Bool):Lp (YB l (i:Int) acc) fuel (b,0)=some (.inl (w64 ((i:Int)+1),if (b && !Zh acc l[i])=true then acc++[l[i]] else acc)):=by
 rw [zBt (body:=YB l (i:Int) acc) acc ha (fun f n=>(f,n)) (fun f y=>f && !decide (y.From=l[i].From)) (fun f=>Sum.inl (w64 ((i:Int)+1),if f=true then acc++[l[i]] else acc)) (fun _ _=>True) (a:=b) rfl trivial (fun f n hn _=>⟨?_,trivial⟩) (fun f _=>?_)]
 ·congr 3
  have key:∀ (L:List zA) (b:Bool),L.foldl (fun f y=>f && !decide (y.From=l[i].From)) b=(b && !Zh L l[i]):=by
   intro L
   induction L with
   | nil=>intro b; simp [Zh]
   | cons y L ih =>
    intro b
    rw [List.foldl_cons,ih]
    unfold Zh
    rw [List.any_cons,Bool.not_or,Bool.and_assoc]
  rw [key]
 ·unfold YB
  simp only [dlt hn,if_true,Zf hn,Zf hi,w64i hn ha]
  cases f <;> simp [gb]
 ·unfold YB
  simp only [dge,Bool.false_eq_true,if_false,zB7,Zf hi,Option.bind_some]
  cases f with
  | true =>
   simp only [if_true]
   rw [Zk (by simp; omega)]; rfl
  | false=>rfl
theorem zHa (c:zD) (l:List zA) (hl:l.length≤4000) (o:List zB) (k:Nat) (hk:k<o.length):Lp (Y4 c l o (k:Int)) fuel (0,[])=some ⟨prfS c l o[k],0⟩:=by
 suffices h:∃ s,Lp (Y4 c l o (k:Int)) fuel (0,[])=some s∧s=⟨prfS c l o[k],0⟩ by obtain ⟨s,h,rfl⟩:=h; exact h
 refine lp_inv' (fun (i:Nat) (s:Int×List zA)=>s=((i:Int),prfS c (l.take i) o[k])) _ l.length (by omega) rfl fun i s hi hI=>?_
 subst hI
 have hpl:(prfS c (l.take i) o[k]).length≤4000:=by
  have:=zIV c (l.take i) o[k]
  rw [List.length_take] at this; omega
 unfold Y4
 simp only [zFx]
 by_cases hlt:i<l.length
 ·by_cases hm:((prfS c (l.take i) o[k]).length:Int)<majS c
  ·refine .inl ⟨hlt,_,?_,rfl⟩
   simp only [dlt hlt,gb,if_true,Option.bind_some,Bool.true_and,decide_eq_true_eq,hm,Zf hlt,Zf hk]
   rw [prf_in c l _ i hlt hpl,zHk hlt,w64i hlt hl]
   unfold prF
   simp [hm]
  ·refine .inr ⟨⟨prfS c l o[k],0⟩,?_,rfl⟩
   simp only [dlt hlt,gb,if_true,Option.bind_some,Bool.true_and,decide_eq_true_eq,hm,if_false,qb,Option.map_some]
   rw [zNj (l:=l) (i:=i) (by omega)]
 ·have e:i=l.length:=by omega
  subst e
  refine .inr ⟨⟨prfS c l o[k],0⟩,?_,rfl⟩
  simp only [dge,gb,Bool.false_eq_true,if_false,Option.bind_some,Bool.false_and,qb,Option.map_some,List.take_length]
theorem zNl (c:zD) (l:List zA) (hl:l.length≤4000) (o:List zB) (k:Nat) (hk:k<o.length) (hr:o[k].Case≠0):Lp (yH c l o (k:Int)) fuel (0,[],[])=some (prfS c l o[k],0):=by
 suffices h:∃ s,Lp (yH c l o (k:Int)) fuel (0,[],[])=some s∧s=(prfS c l o[k],0) by obtain ⟨s,h,rfl⟩:=h; exact h
 refine lp_inv' (fun (i:Nat) (s:Int×List zA×List (Int×Bool)) => ∃ m,s=((i:Int),prfS c (l.take i) o[k],m)∧Seen m (prfS c (l.take i) o[k])) _ l.length (by omega) ⟨[],rfl,zKV⟩ fun i s hi hI=>?_
 obtain ⟨m,rfl,hs⟩:=hI
 have hpl:(prfS c (l.take i) o[k]).length≤4000:=by
  have:=zIV c (l.take i) o[k]
  rw [List.length_take] at this; omega
 unfold yH
 by_cases hlt:i<l.length
 ·refine .inl ⟨hlt,?_⟩
  simp only [dlt hlt,if_true,Zf hlt,Zf hk,Option.bind_some,zHG,JX,w64i hlt hl,zHk hlt,zMM hs]
  unfold prF
  by_cases hm:((prfS c (l.take i) o[k]).length:Int)<majS c
  ·simp only [hm,gb,decide_true,if_true,Option.bind_some,Bool.true_and,shw_iff hr,true_and]
   cases hv:zR l[i] o[k] with
   | false=>exact ⟨_,by simp,m,rfl,by simpa using hs⟩
   | true =>
    cases hf:Zh (prfS c (l.take i) o[k]) l[i] with
    | true=>exact ⟨_,by simp,m,rfl,by simpa using hs⟩
    | false =>
     simp only [Bool.not_false,Bool.and_self,if_true,true_and]
     rw [Zk (by simp; omega),Option.bind_some]
     exact ⟨_,rfl,_,rfl,zKU hs _⟩
  ·simp only [hm,gb,decide_false,Bool.false_eq_true,if_false,Option.bind_some,Bool.false_and,false_and]
   exact ⟨_,rfl,m,rfl,hs⟩
 ·have e:i=l.length:=by omega
  subst e
  refine .inr ⟨(prfS c l o[k],0),?_,rfl⟩
  simp only [dge,Bool.false_eq_true,if_false,yG,Option.map_some,List.take_length]
theorem zO7 (c:zD) (l:List zA) (hl:l.length≤4000) (o:List zB) (ho:o.length≤4000) (h:yK c l=0→ZW c l=some o∧jG c l=some o∧QM c l o) (id:Int):Yc c l id=some (prfA c l o id)∧zFd c l id=some ⟨(prfA c l o id).1,(prfA c l o id).2⟩:=by
 unfold Yc zFd prfA
 rw [zIT c l hl,zFG c l hl]
 simp only [Option.bind_some]
 by_cases e:yK c l=0
 ·obtain ⟨h1,h2,h3⟩:=h e
  have hro:=zCC e
  simp only [e,decide_true,Bool.not_true,Bool.false_eq_true,if_false,if_true]
  show (if (!inI id 1 1099511627776)=true then _ else _)=_∧(if (!inI id 1 1099511627776)=true then _ else _)=_
  cases e1:inI id 1 1099511627776 with
  | false=>simp
  | true =>
   simp only [Bool.not_true,Bool.false_eq_true,if_false,if_true,h1,h2,Option.bind_some]
   have hx:zt o id=some (ixOf (fun r=>decide (r.Case=id)) o):=by
    unfold zt
    refine YN _ o ho (fun i hi=>?_) ?_
    ·unfold ZJ
     simp only [dlt hi,if_true,Zf hi,Option.bind_some,w64i hi ho,yY]
     by_cases hc':o[i].Case=id <;> simp [hc']
    ·unfold ZJ
     simp [dge,zi]
   have hy:Lp (YA c l id o) fuel 0=jH c l o (match o.findIdx? (fun r=>decide (r.Case=id)) with | some k=>(k:Int) | none=>(o.length:Int)):=by
    have hz:∀ k:Nat,(hk:k≤o.length)→∃ v,jH c l o (k:Int)=some v:=fun k hk=>by
     unfold jH
     by_cases q:k=o.length
     ·subst q; exact ⟨⟨[],5⟩,by simp⟩
     ·have q' : ¬ (k:Int)=(o.length:Int):=by omega
      simp only [q',decide_false,Bool.false_eq_true,if_false]
      exact ⟨_,zHa c l hl o k (by omega)⟩
    have hz2:∀ k:Nat,k≤o.length→jH c l o (k:Int)=some ((jH c l o (k:Int)).getD default):=fun k hk=>by
     obtain ⟨v,hv⟩:=hz k hk
     rw [hv]; rfl
    have:=zA8 (fun r:zB=>decide (r.Case=id)) o ho (body:=YA c l id o) (fun k=>(jH c l o (k:Int)).getD default) ((jH c l o (o.length:Int)).getD default) (fun i hi=>by
     unfold YA
     simp only [dlt hi,gb,if_true,Zf hi,Option.bind_some,Bool.true_and,w64i hi ho]
     by_cases hc':o[i].Case=id
     ·simp only [hc',decide_true,Bool.not_true,Bool.false_eq_true,if_false,if_true]
      rw [hz2 i (by omega)]; rfl
     ·simp [hc']) (by
     unfold YA
     simp only [dge,gb,Bool.false_eq_true,if_false,Option.bind_some,Bool.false_and]
     rw [hz2 o.length (Nat.le_refl _)]; rfl)
    rw [this]
    cases hf:o.findIdx? (fun r=>decide (r.Case=id)) with
    | none=>exact (hz2 _ (Nat.le_refl _)).symm
    | some k =>
     obtain ⟨q1,_⟩:=List.findIdx?_eq_some_iff_getElem.1 hf
     exact (hz2 k (by omega)).symm
   rw [hx,hy,Option.bind_some,zGy]
   unfold ixOf
   cases hf:o.findIdx? (fun r=>decide (r.Case=id)) with
   | none=>exact ⟨by simp,by simp [jH]⟩
   | some k =>
    obtain ⟨q1,q2,_⟩:=List.findIdx?_eq_some_iff_getElem.1 hf
    have hk0:o[k].Case≠0:=by
     obtain ⟨⟨x,hx1,_,hx2⟩,_⟩:=(h3.mem o[k]).1 (List.getElem_mem q1)
     have:=(zFl (hro.2.2 x hx1)).case
     rw [← hx2]
     show x.Case≠0
     omega
    have n1 : ¬ (k:Int)<0:=by omega
    have n2 : ¬ (k:Int)=(o.length:Int):=by omega
    simp only [n1,decide_false,Bool.false_eq_true,if_false,zNl c l hl o k q1 hk0,jH,n2,zHa c l hl o k q1,Option.bind_some,List.getElem?_eq_getElem q1]
    exact ⟨trivial,trivial⟩
 ·simp [e]
def zMR (c:zD) (l:List zA) (x0:zA):Prop:=majS c≤(l.length:Int)∧l[0]? = some x0∧∀ i (h:i<l.length),zR l[i] (rulR x0)=true∧Zh (l.take i) l[i]=false
def zDq (c:zD) (l:List zA) (r:zB×Int):Prop:=(∃ x0,zMR c l x0∧r=(rulR x0,0))∨((¬ ∃ x0,zMR c l x0)∧r=(⟨0,0,0⟩,8))
theorem zCg {c:zD} {l:List zA} {r r':zB×Int} (h:zDq c l r) (h':zDq c l r'):r=r':=by
 rcases h with ⟨x0,h1,rfl⟩ | ⟨h1,rfl⟩
 ·rcases h' with ⟨x1,h2,rfl⟩ | ⟨h2,rfl⟩
  ·have:=h1.2.1.symm.trans h2.2.1
   simp only [Option.some.injEq] at this
   rw [this]
  ·exact absurd ⟨x0,h1⟩ h2
 ·rcases h' with ⟨x1,h2,rfl⟩ | ⟨h2,rfl⟩
  ·exact absurd ⟨x1,h2⟩ h1
  ·rfl
theorem zFz {c:zD} (hc:okC c=true):2≤majS c∧majS c≤4:=by
 obtain ⟨g1,g2⟩:=jI hc
 unfold majS
 rw [if_pos hc]
 omega
theorem zMm {c:zD} (hc:okC c=true) {l:List zA} (hl:l.length≤4000) (hm:majS c≤(l.length:Int)):∃ r,(Option.bind (ix l 0) fun x=>Option.bind (ix l 0) fun x1=>Option.bind (ix l 0) fun x2=>Lp (YC l x x1 x2) fuel 0)=some r∧zDq c l r:=by
 have h0:0<l.length:=by have:=(zFz hc).1; omega
 have hix:ix l 0=some l[0]:=Zf h0
 simp only [hix,Option.bind_some]
 refine lp_inv' (fun (i:Nat) (s:Int)=>s=(i:Int)∧∀ j (h:j<l.length),j<i→zR l[j] (rulR l[0])=true∧Zh (l.take j) l[j]=false) _ l.length (by omega) ⟨rfl,fun j _ h=>by omega⟩ fun i s hi hI=>?_
 obtain ⟨rfl,hI⟩:=hI
 unfold YC
 by_cases hlt:i<l.length
 ·simp only [dlt hlt,if_true,Zf hlt,Option.bind_some]
  have hin:∀ b:Bool,Lp (ji l (i:Int)) fuel (b,0)=some (if (b && !Zh (l.take i) l[i])=true then .inl (w64 ((i:Int)+1)) else .inr (⟨0,0,0⟩,8)):=fun b=>by
   have htl:(l.take i).length=i:=by rw [List.length_take]; omega
   rw [zBt (body:=ji l (i:Int)) (l.take i) (by omega) (fun f n=>(f,n)) (fun f y=>f && !decide (y.From=l[i].From)) (fun f=>if f=true then Sum.inl (w64 ((i:Int)+1)) else Sum.inr (⟨0,0,0⟩,8)) (fun _ _=>True) (a:=b) rfl trivial (fun f n hn _=>⟨?_,trivial⟩) (fun f _=>?_)]
   ·congr 2
    have key:∀ (L:List zA) (b:Bool),L.foldl (fun f y=>f && !decide (y.From=l[i].From)) b=(b && !Zh L l[i]):=by
     intro L
     induction L with
     | nil=>intro b; simp [Zh]
     | cons y L ih =>
      intro b
      rw [List.foldl_cons,ih]
      unfold Zh
      rw [List.any_cons,Bool.not_or,Bool.and_assoc]
    rw [key]
   ·rw [htl] at hn
    have hnl:n<l.length:=by omega
    have hni:(n:Int)<(i:Int):=by omega
    unfold ji
    simp only [hni,decide_true,if_true,Zf hnl,Zf hlt,w64i hnl hl,List.getElem_take]
    cases f <;> simp [gb]
   ·unfold ji
    simp only [htl,dge,Bool.false_eq_true,if_false,Qn]
    cases f <;> rfl
  rw [hin]
  show _∨_
  cases hb:(zR l[i] (rulR l[0]) && !Zh (l.take i) l[i]) with
  | true =>
   simp only [Bool.and_eq_true,Bool.not_eq_true'] at hb
   refine .inl ⟨hlt,((i+1:Nat):Int),?_,rfl,fun j hj hji=>?_⟩
   ·have:(zR l[i] (rulR l[0]) && !Zh (l.take i) l[i])=true:=by rw [hb.1,hb.2]; rfl
    rw [if_pos (by exact this),w64i hlt hl]
   ·by_cases e:j=i
    ·subst e; exact hb
    ·exact hI j hj (by omega)
  | false =>
   refine .inr ⟨(⟨0,0,0⟩,8),?_,.inr ⟨?_,rfl⟩⟩
   ·rw [if_neg (by show ¬ (zR l[i] (rulR l[0]) && !Zh (l.take i) l[i])=true; rw [hb]; simp)]
   ·rintro ⟨x0,_,h2,h3⟩
    rw [List.getElem?_eq_getElem h0] at h2
    simp only [Option.some.injEq] at h2
    have:=h3 i hlt
    rw [← h2] at this
    rw [this.1,this.2] at hb
    cases hb
 ·have e:i=l.length:=by omega
  subst e
  refine .inr ⟨(rulR l[0],0),?_,.inl ⟨l[0],⟨hm,List.getElem?_eq_getElem h0,fun i h=>hI i h h⟩,rfl⟩⟩
  simp only [dge,Bool.false_eq_true,if_false]
  rfl
theorem zKj {x:zA} (h:x.Kind=4):zn x=rulR x:=by
 unfold zn rulR
 simp [h]
theorem zOu {c:zD} (hc:okC c=true) {l:List zA} (hl:l.length≤4000):∃ r,Lp (JP c l) fuel (0,[])=some r∧zDq c l r:=by
 refine lp_inv' (fun (i:Nat) (s:Int×List (Int×Bool)) => ∃ m,s=((i:Int),m)∧Seen m (l.take i)∧∀ (h0:0<l.length) j (h:j<l.length),j<i→zR l[j] (rulR l[0])=true∧Zh (l.take j) l[j]=false) _ l.length (by omega) ⟨[],rfl,zKV,fun _ j _ h=>by omega⟩ fun i s hi hI=>?_
 obtain ⟨m,rfl,hs,hI⟩:=hI
 unfold JP
 by_cases hlt:i<l.length
 ·have h0:0<l.length:=by omega
  have hix:ix l 0=some l[0]:=Zf h0
  simp only [dlt hlt,if_true,Zf hlt,Option.bind_some,hix,w64i hlt hl,zMM hs]
  have bad : ¬ (zR l[i] (rulR l[0])=true∧Zh (l.take i) l[i]=false)→¬ ∃ x0,zMR c l x0:=fun hn ⟨x0,_,h2,h3⟩=>by
   rw [List.getElem?_eq_getElem h0] at h2
   simp only [Option.some.injEq] at h2
   have:=h3 i hlt
   rw [← h2] at this
   exact hn this
  by_cases k4:l[i].Kind=4
  ·have k0:l[0].Kind=4:=by
    by_cases e:i=0
    ·subst e; exact k4
    ·exact (QR.1 (hI h0 0 h0 (by omega)).1).1
   simp only [k4,gb,decide_true,Bool.not_true,Bool.not_false,if_true,Option.bind_some,Bool.false_or,zKj k4,zKj k0]
   by_cases e2:rulR l[i]=rulR l[0]
   ·cases e3:Zh (l.take i) l[i] with
    | false =>
     refine .inl ⟨hlt,(((i+1:Nat):Int),putM posI m l[i].From true),by simp [e2],_,rfl,?_,fun _ j hj hji=>?_⟩
     ·rw [List.take_succ_eq_append_getElem hlt]; exact zKU hs _
     ·by_cases e:j=i
      ·subst e; exact ⟨QR.2 ⟨k4,e2⟩,e3⟩
      ·exact hI h0 j hj (by omega)
    | true=>exact .inr ⟨_,by simp,.inr ⟨bad (by rw [e3]; simp),rfl⟩⟩
   ·exact .inr ⟨_,by simp [e2],.inr ⟨bad fun h=>e2 (QR.1 h.1).2,rfl⟩⟩
  ·exact .inr ⟨_,by simp [k4,gb],.inr ⟨bad fun h=>k4 (QR.1 h.1).1,rfl⟩⟩
 ·have e:i=l.length:=by omega
  subst e
  simp only [dge,Bool.false_eq_true,if_false,jW,zHG,Option.bind_some,decide_eq_true_eq]
  by_cases hm:(l.length:Int)<majS c
  ·exact .inr ⟨_,by rw [if_pos hm]; rfl,.inr ⟨fun ⟨x0,h1,_⟩=>by omega,rfl⟩⟩
  ·have h0:0<l.length:=by have:=(zFz hc).1; omega
   have hix:ix l 0=some l[0]:=Zf h0
   have:=hI h0 0 h0 h0
   refine .inr ⟨(rulR l[0],0),?_,.inl ⟨l[0],⟨by omega,List.getElem?_eq_getElem h0,fun i h=>hI h0 i h h⟩,rfl⟩⟩
   rw [if_neg hm,hix,Option.bind_some,zKj (QR.1 this.1).1]; rfl
theorem zPA (c:zD) (l:List zA) (hl:l.length≤4000):∃ r,JG c l=some r∧zAL c l=some r∧((yK c l≠0∧r=(⟨0,0,0⟩,yK c l))∨(yK c l=0∧zDq c l r)):=by
 unfold JG zAL
 rw [zIT c l hl,zFG c l hl]
 simp only [Option.bind_some]
 by_cases e:yK c l=0
 ·have hc:=(zCC e).1
  obtain ⟨r,h1,h2⟩:=zOu hc hl
  simp only [e,decide_true,Bool.not_true,Bool.false_eq_true,if_false,zFx,Option.bind_some,decide_eq_true_eq]
  refine ⟨r,h1,?_,.inr ⟨trivial,h2⟩⟩
  by_cases hm:(l.length:Int)<majS c
  ·rw [if_pos hm]
   have:zDq c l (⟨0,0,0⟩,8):=.inr ⟨fun ⟨x0,h1,_⟩=>by omega,rfl⟩
   rw [zCg h2 this]
  ·rw [if_neg hm]
   obtain ⟨r',h3,h4⟩:=zMm hc hl (by omega)
   rw [h3,zCg h2 h4]
 ·simp only [e,decide_false,Bool.not_false,if_true]
  exact ⟨_,rfl,rfl,.inl ⟨e,rfl⟩⟩
theorem QM.len {c:zD} {l:List zA} {o:List zB} (h:QM c l o) (hc:okC c=true) (hl:l.length≤4000):o.length≤l.length:=by
 obtain ⟨o',_,h2,h3⟩:=zFw c hc l hl
 rw [h.uniq h2]; exact h3
theorem zMg {α:Type} [DecidableEq α] (a:List α) (ha:a.length≤4000) {body:Int→Option (Int ⊕ Bool)} (step:∀ i (hi:i<a.length),body (i:Int)=some (.inl ((i+1:Nat):Int))) (last:body (a.length:Int)=some (.inr true)):Lp body fuel 0=some true:=by
 suffices h:∃ s,Lp body fuel 0=some s∧s=true by obtain ⟨s,h,rfl⟩:=h; exact h
 refine lp_inv' (fun (i:Nat) (s:Int)=>s=(i:Int)) _ a.length (by omega) rfl fun i s hi hI=>?_
 subst hI
 by_cases hlt:i<a.length
 ·exact .inl ⟨hlt,_,step i hlt,rfl⟩
 ·have e:i=a.length:=by omega
  subst e
  exact .inr ⟨true,last,rfl⟩
theorem zOV {c:zD} {L:List zA} (hf:∀ y∈L,0≤y.From∧y.From<c.Arbiters) (hd:∀ i (h:i<L.length),Zh (L.take i) L[i]=false):L.length=cnt (fun a=>L.any fun y=>decide (y.From=(a:Int))) c.Arbiters.toNat:=by
 have hn:(L.map (·.From)).Nodup:=by
  refine List.pairwise_iff_getElem.2 fun i j hi hj hij=>?_
  rw [List.length_map] at hi hj
  simp only [List.getElem_map]
  intro e
  have:=hd j hj
  unfold Zh at this
  rw [List.any_eq_false] at this
  exact this L[i] (by rw [List.mem_take_iff_getElem]; exact ⟨i,by omega,rfl⟩) (by simpa using e)
 rw [← List.length_map (as:=L) (·.From)]
 refine zHq hn fun a=>?_
 constructor
 ·intro h
  obtain ⟨y,hy,rfl⟩:=List.mem_map.1 h
  have:=hf y hy
  refine ⟨this.1,by omega,List.any_eq_true.2 ⟨y,hy,?_⟩⟩
  simp only [decide_eq_true_eq]; omega
 ·rintro ⟨q1,q2,q3⟩
  obtain ⟨y,hy,h⟩:=List.any_eq_true.1 q3
  simp only [decide_eq_true_eq] at h
  exact List.mem_map.2 ⟨y,hy,by omega⟩
structure PrOK (c:zD) (l:List zA) (r:zB) (p:List zA):Prop where
 sub:∀ y∈p,y∈l∧zR y r=true
 dif:∀ i (h:i<p.length),Zh (p.take i) p[i]=false
 all:(p.length:Int)<majS c→∀ x∈l,zR x r=true→Zh p x=true
theorem zNk (c:zD) (l:List zA) (r:zB):PrOK c l r (prfS c l r):=by
 refine yT (motive:=fun l=>PrOK c l r (prfS c l r)) ⟨fun y hy=>(by cases hy),fun i h=>absurd h (Nat.not_lt_zero _),fun _ x hx=>(by cases hx)⟩ (fun l x ih=>?_) l
 rw [zE6]
 obtain ⟨i1,i2,i3⟩:=ih
 generalize prfS c l r=p at i1 i2 i3
 unfold prF
 by_cases hc:(p.length:Int)<majS c∧zR x r=true∧Zh p x=false
 ·rw [if_pos hc]
  refine ⟨fun y hy=>?_,fun i hi=>?_,fun hm z hz hv=>?_⟩
  ·rcases List.mem_append.1 hy with hy | hy
   ·exact ⟨List.mem_append_left _ (i1 y hy).1,(i1 y hy).2⟩
   ·rw [List.mem_singleton] at hy; subst hy
    exact ⟨by simp,hc.2.1⟩
  ·by_cases e:i<p.length
   ·rw [List.getElem_append_left e,List.take_append_of_le_length (by omega)]
    exact i2 i e
   ·have e:i=p.length:=by simp at hi; omega
    subst e
    simpa using hc.2.2
  ·unfold Zh
   rw [List.any_append]
   rcases List.mem_append.1 hz with hz | hz
   ·have:=i3 hc.1 z hz hv
    unfold Zh at this
    rw [this]; rfl
   ·rw [List.mem_singleton] at hz; subst hz
    simp
 ·rw [if_neg hc]
  refine ⟨fun y hy=>⟨List.mem_append_left _ (i1 y hy).1,(i1 y hy).2⟩,i2,fun hm z hz hv=>?_⟩
  rcases List.mem_append.1 hz with hz | hz
  ·exact i3 hm z hz hv
  ·rw [List.mem_singleton] at hz; subst hz
   cases hs:Zh p z with
   | true=>rfl
   | false=>exact absurd ⟨hm,hv,hs⟩ hc
theorem zI0 {c:zD} {l:List zA} {o:List zB} {r:zB} (hc:okC c=true) (hl:∀ y∈l,fmB c y=true) (ho:QM c l o) (hr:r∈o):∃ x0,zMR c (prfS c l r) x0∧rulR x0=r:=by
 obtain ⟨i1,i2,i3⟩:=zNk c l r
 have hmaj:majS c≤((prfS c l r).length:Int):=by
  rcases Int.lt_or_le ((prfS c l r).length:Int) (majS c) with h | h
  ·have e:=zOV (c:=c) (fun y hy=>(zFl (hl y (i1 y hy).1)).from_) i2
   have h2:=((ho.mem r).1 hr).2
   have:cnt (vtB l r) c.Arbiters.toNat≤cnt (fun a=>(prfS c l r).any fun y=>decide (y.From=(a:Int))) c.Arbiters.toNat:=cnt_mono fun a _ ha=>by
    obtain ⟨x,hx,h4⟩:=List.any_eq_true.1 ha
    simp only [Bool.and_eq_true,decide_eq_true_eq] at h4
    have:=i3 h x hx h4.1
    unfold Zh at this
    rw [h4.2] at this
    exact this
   unfold vtS at h2
   omega
  ·exact h
 have h0:0<(prfS c l r).length:=by have:=(zFz hc).1; omega
 have hv:=(i1 _ (List.getElem_mem h0)).2
 have e:=(QR.1 hv).2
 refine ⟨_,⟨hmaj,List.getElem?_eq_getElem h0,fun i hi=>⟨?_,i2 i hi⟩⟩,e⟩
 rw [e]
 exact (i1 _ (List.getElem_mem hi)).2
theorem zMl {c:zD} {l p:List zA} (h:yK c l=0) (hp:∀ y∈p,y∈l) (hn:p.length≤2000):yK c p=0:=by
 obtain ⟨h1,h2,h3⟩:=zCC h
 unfold yK
 rw [if_pos h1,if_neg (by omega),if_pos (List.all_eq_true.2 fun y hy=>h3 y (hp y hy))]
end Go.Mx
