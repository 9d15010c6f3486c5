/- Part of the proof of ArbiterInTheEnd: plain laws about the functions of M, no program in sight. Conditions: none. -/
import Derived.Test.YtfoafeaplgmhmaaLawZg
import Derived.Test.YtfoafeaplgmhmaaLawZb
set_option linter.unusedVariables false
set_option linter.unusedSimpArgs false
namespace Go.Mx
theorem ixOf_some {α:Type} {p:α→Bool} {l:List α} (h:ixOf p l≠-1):∃ i,∃ hi:i<l.length,ixOf p l=(i:Int)∧p l[i]=true∧∀ j (hj:j<l.length),j<i→p l[j]=false:=by
 unfold ixOf at h ⊢
 cases hf:l.findIdx? p with
 | none=>rw [hf] at h; exact absurd rfl h
 | some i =>
  obtain ⟨h1,h2,h3⟩:=List.findIdx?_eq_some_iff_getElem.1 hf
  exact ⟨i,h1,rfl,h2,fun j hj hji=>by have:=h3 j hji; simpa using this⟩
theorem first_said {l:List api_Letter} {x:api_Letter} (hx:x∈l):∃ i,∃ hi:i<l.length,arbiter_said l[i]=arbiter_said x∧(l.take i).any (fun y=>ref09_Alike y l[i])=false:=by
 cases hf:l.findIdx? fun y=>decide (arbiter_said y=arbiter_said x) with
 | none =>
  have:=List.findIdx?_eq_none_iff.1 hf x hx
  simp at this
 | some i =>
  obtain ⟨h1,h2,h3⟩:=List.findIdx?_eq_some_iff_getElem.1 hf
  simp only [decide_eq_true_eq] at h2
  refine ⟨i,h1,h2,List.any_eq_false.2 fun y hy=>?_⟩
  obtain ⟨j,hj,rfl⟩:=List.mem_take_iff_getElem.1 hy
  have:=h3 j (by omega)
  rw [alike_said,h2]
  simpa using this
def kV (l:List api_Letter) (k:Int) (a:Nat) (r f:Int):Prop := ∃ x∈l,x.Kind=4∧x.Case=k∧x.From=(a:Int)∧x.Round=r∧x.Finding=f
def kP (l:List api_Letter) (k:Int) (a:Nat) (r w f:Int):Prop := ∃ x∈l,x.Kind=2∧x.Case=k∧x.From=(a:Int)∧x.Round=r∧x.Voted=w∧x.Finding=f
def kR (l:List api_Letter) (k r f:Int):Prop := ∃ x∈l,x.Kind=3∧x.Case=k∧x.Round=r∧x.Finding=f
def opK (l:List api_Letter) (a k r:Int):Bool := !l.any fun x=>wrdS a k x&&(decide (r<x.Round)||(decide (x.Round=r)&&decide (x.Kind=4)))
theorem law_at {c:api_Court} {l:List api_Letter} (hL:LawTo c l) {i:Nat} (hi:i<l.length) (hn:(l.take i).any (fun y=>ref09_Alike y l[i])=false):(l[i].Kind=2→(l.take i).any (isK 1 l[i].Case l[i].Round)=true∧l[i].Voted=(lastS (l.take i) l[i].From l[i].Case).1∧l[i].Finding=(lastS (l.take i) l[i].From l[i].Case).2) ∧
  (l[i].Kind=3→ableS c (prmS c (l.take i) l[i].Case l[i].Round) l[i].Finding=true) ∧
  (l[i].Kind=4→(∃ y∈l.take i,isK 3 l[i].Case l[i].Round y=true∧y.Finding=l[i].Finding)∧spkS (l.take i) l[i].From l[i].Case≤l[i].Round):=by
 have h:=hL i hi
 unfold lawS at h
 rw [if_neg (by rw [hn]; simp)] at h
 refine ⟨fun k=>?_,fun k=>?_,fun k=>?_⟩
 ·rw [if_neg (by omega),if_pos k] at h
  simp only [Bool.and_eq_true,decide_eq_true_eq] at h
  exact ⟨h.1.1.1,h.1.2,h.2⟩
 ·rw [if_neg (by omega),if_neg (by omega),if_pos k] at h
  simp only [Bool.and_eq_true] at h
  exact h.2
 ·rw [if_neg (by omega),if_neg (by omega),if_neg (by omega)] at h
  simp only [Bool.and_eq_true,decide_eq_true_eq] at h
  refine ⟨?_,h.1.2⟩
  have h2:=h.1.1
  unfold prpS at h2
  cases hf:(l.take i).find? (isK 3 l[i].Case l[i].Round) with
  | none=>rw [hf] at h2; cases h2
  | some y =>
   rw [hf] at h2
   exact ⟨y,List.mem_of_find?_eq_some hf,List.find?_some hf,by simpa using h2⟩
theorem cnt_prm (c:api_Court) (l:List api_Letter) (k r v:Int):cntI (fun x=>decide (x.Voted≤v)) (prmS c l k r)=(cnt (fun a:Nat=>((l.find? (isP k r (a:Int))).map fun x=>decide (x.Voted≤v)).getD false) c.Arbiters.toNat:Nat):=by
 unfold cntI prmS
 rw [List.countP_filterMap,List.countP_eq_length_filter,cnt_filter]
theorem isP_spec {k r a:Int} {x:api_Letter} (h:isP k r a x=true):x.Kind=2∧x.Case=k∧x.Round=r∧x.From=a:=by
 unfold isP isK at h
 simpa [and_assoc] using h
theorem pax_of {c:api_Court} {l:List api_Letter} (hc:okC c=true) (hf:∀ y∈l,fmB c y=true) (hL:LawTo c l) (k:Int):Pax c.Arbiters.toNat (majS c).toNat (kV l k) (kP l k) (kR l k) (fun a r=>opK l (a:Int) k r):=by
 obtain ⟨g1,g2⟩:=okC_spec hc
 have hmaj:majS c=c.Arbiters / 2+1:=by unfold majS; rw [if_pos hc]
 have hprop:∀ a r f,kV l k a r f→kR l k r f:=by
  rintro a r f ⟨x,hx,q1,q2,q3,q4,q5⟩
  obtain ⟨i,hi,e1,e2⟩:=first_said hx
  obtain ⟨s1,s2,s3,s4,s5,s6⟩:=said_iff.1 e1
  obtain ⟨⟨y,hy,hk,hfi⟩,_⟩:=(law_at hL hi e2).2.2 (s2.trans q1)
  have hk':y.Kind=3∧y.Case=l[i].Case∧y.Round=l[i].Round:=by simpa [isK,and_assoc] using hk
  exact ⟨y,List.mem_of_mem_take hy,hk'.1,by omega,by omega,by omega⟩
 refine ⟨by omega,?_,?_,?_,hprop,?_,?_,?_⟩
 ·rintro a r w f ⟨x,hx,q1,q2,q3,q4,q5,q6⟩ hw
  have hF:=(fm_of (hf x hx)).voted q1
  refine ⟨?_,by omega⟩
  obtain ⟨i,hi,e1,e2⟩:=first_said hx
  obtain ⟨s1,s2,s3,s4,s5,s6⟩:=said_iff.1 e1
  obtain ⟨_,h1,h2⟩:=(law_at hL hi e2).1 (s2.trans q1)
  rcases last_mem (l.take i) l[i].From l[i].Case with h | ⟨y,hy,y1,y2,y3,y4,y5,_⟩
  ·rw [h] at h1; simp only at h1; omega
  ·exact ⟨y,List.mem_of_mem_take hy,y1,by omega,by omega,by omega,by omega⟩
 ·rintro a r w f r' g ⟨x,hx,q1,q2,q3,q4,q5,q6⟩ ⟨y,hy,p1,p2,p3,p4,p5⟩ hlt
  obtain ⟨i,hi,e1,e2⟩:=first_said hx
  obtain ⟨s1,s2,s3,s4,s5,s6⟩:=said_iff.1 e1
  obtain ⟨j,hj,f1,f2⟩:=first_said hy
  obtain ⟨t1,t2,t3,t4,t5,t6⟩:=said_iff.1 f1
  rcases Nat.lt_trichotomy j i with c1 | c1 | c1
  ·obtain ⟨_,h1,h2⟩:=(law_at hL hi e2).1 (s2.trans q1)
   have:=(last_ge (l:=l.take i) (a:=l[i].From) (k:=l[i].Case)).2 l[j] (List.mem_take_iff_getElem.2 ⟨j,by omega,rfl⟩) (by omega) (by omega) (by omega)
   omega
  ·subst c1; omega
  ·obtain ⟨_,h1⟩:=(law_at hL hj f2).2.2 (t2.trans p1)
   have hR:=(fm_of (hf l[j] (List.getElem_mem hj))).round
   have:=(spk_lt (l.take j) l[j].From l[j].Case (l[j].Round+1) (by omega)).1 (by omega) l[i] (List.mem_take_iff_getElem.2 ⟨i,by omega,rfl⟩) (by
    unfold wrdS
    simp only [Bool.and_eq_true,Bool.or_eq_true,decide_eq_true_eq]
    exact ⟨⟨by omega,by omega⟩,.inl (by omega)⟩)
   omega
 ·rintro a r f ⟨x,hx,q1,q2,q3,q4,q5⟩
  have:=(fm_of (hf x hx)).round
  omega
 ·rintro r f g ⟨x,hx,q1,q2,q3,q4⟩ ⟨y,hy,p1,p2,p3,p4⟩
  have:=prop_uniq hL hx hy (k:=k) (r:=r) (by simp [isK,q1,q2,q3]) (by simp [isK,p1,p2,p3])
  omega
 ·rintro a r w f r' ⟨x,hx,q1,q2,q3,q4,q5,q6⟩ hlt
  have:l.any (fun x=>wrdS (a:Int) k x&&(decide (r'<x.Round)||(decide (x.Round=r')&&decide (x.Kind=4))))=true:=List.any_eq_true.2 ⟨x,hx,by
   have c1:r'<x.Round:=by omega
   simp [wrdS,q1,q2,q3,c1]⟩
  show opK l (a:Int) k r'=false
  unfold opK
  rw [this]; rfl
 ·rintro r f ⟨x,hx,q1,q2,q3,q4⟩
  obtain ⟨i,hi,e1,e2⟩:=first_said hx
  obtain ⟨s1,s2,s3,s4,s5,s6⟩:=said_iff.1 e1
  have hA:=(law_at hL hi e2).2.1 (s2.trans q1)
  have ec:l[i].Case=k:=by omega
  have er:l[i].Round=r:=by omega
  have ef:l[i].Finding=f:=by omega
  rw [ec,er,ef] at hA
  have hQ:∀ (v:Int) (a:Nat),(((l.take i).find? (isP k r (a:Int))).map fun x=>decide (x.Voted≤v)).getD false=true→∃ w g,kP l k a r w g∧0≤w∧w≤v:=fun v a ha=>by
   cases hfd:(l.take i).find? (isP k r (a:Int)) with
   | none=>rw [hfd] at ha; cases ha
   | some y =>
    rw [hfd] at ha
    have hy:=List.mem_of_mem_take (List.mem_of_find?_eq_some hfd)
    obtain ⟨y1,y2,y3,y4⟩:=isP_spec (List.find?_some hfd)
    exact ⟨_,_,⟨y,hy,y1,y2,y4,y3,rfl,rfl⟩,((fm_of (hf y hy)).voted y1).1,by simpa using ha⟩
  unfold ableS at hA
  rw [cnt_prm] at hA
  rcases Bool.or_eq_true_iff.1 hA with h | h
  ·simp only [decide_eq_true_eq] at h
   refine ⟨fun a:Nat=>(((l.take i).find? (isP k r (a:Int))).map fun x=>decide (x.Voted≤0)).getD false,by omega,.inl fun a ha=>?_⟩
   obtain ⟨w,g,h1,h2,h3⟩:=hQ 0 a ha
   have:w=0:=by omega
   subst this
   exact ⟨g,h1⟩
  ·obtain ⟨y,hy,h⟩:=List.any_eq_true.1 h
   rw [cnt_prm] at h
   simp only [Bool.and_eq_true,decide_eq_true_eq] at h
   obtain ⟨⟨h1,h2⟩,h3⟩:=h
   refine ⟨fun a:Nat=>(((l.take i).find? (isP k r (a:Int))).map fun x=>decide (x.Voted≤y.Voted)).getD false,by omega,.inr ?_⟩
   unfold prmS at hy
   obtain ⟨b,_,hb⟩:=List.mem_filterMap.1 hy
   have hym:=List.mem_of_mem_take (List.mem_of_find?_eq_some hb)
   obtain ⟨y1,y2,y3,y4⟩:=isP_spec (List.find?_some hb)
   refine ⟨b,y.Voted,h1,⟨y,hym,y1,y2,y4,y3,rfl,h2⟩,fun a ha=>?_⟩
   obtain ⟨w,g,k1,k2,k3⟩:=hQ y.Voted a ha
   exact ⟨w,g,k1,k3⟩
theorem vt_kV {l:List api_Letter} {r:api_Ruling} {a:Nat} (h:vtB l r a=true):kV l r.Case a r.Round r.Finding:=by
 obtain ⟨x,hx,h⟩:=List.any_eq_true.1 h
 simp only [Bool.and_eq_true,decide_eq_true_eq] at h
 obtain ⟨h1,h2⟩:=vf_iff.1 h.1
 exact ⟨x,hx,h1,by rw [← h2]; rfl,h.2,by rw [← h2]; rfl,by rw [← h2]; rfl⟩
def nxtS (c:api_Court) (a round:Int):Int:=round+1+(a - round) % c.Arbiters
theorem nxt_step {c:api_Court} {a round:Int} (hc:okC c=true) (h1:0≤a) (h2:a<c.Arbiters) (k:Nat) (hk:(k:Int)≤(a - round) % c.Arbiters) (h0:0≤round):(round+1+k - 1) % c.Arbiters=a↔(k:Int)=(a - round) % c.Arbiters:=by
 obtain ⟨g1,g2⟩:=okC_spec hc
 have:c.Arbiters=3∨c.Arbiters=4∨c.Arbiters=5∨c.Arbiters=6∨c.Arbiters=7:=by omega
 rcases this with e | e | e | e | e <;> rw [e] at hk h2 ⊢ <;> omega
theorem nxt_lt {c:api_Court} (hc:okC c=true) (a round:Int):round<nxtS c a round∧nxtS c a round≤round+c.Arbiters:=by
 obtain ⟨g1,g2⟩:=okC_spec hc
 unfold nxtS
 have:=Int.emod_nonneg (a - round) (by omega:c.Arbiters≠0)
 have:=Int.emod_lt_of_pos (a - round) (by omega:0<c.Arbiters)
 omega
theorem next_loop {ρ:Type} {c:api_Court} {a round:Int} (hc:okC c=true) (h1:0≤a) (h2:a<c.Arbiters) (h0:0≤round) (h3:round≤1048576) {body:Int→Option (Int ⊕ ρ)} (fin:Int→ρ) (hb:∀ r,1≤r→r≤2000000→body r=some (if (r - 1) % c.Arbiters=a then .inr (fin r) else .inl (r+1))):Lp body fuel (round+1)=some (fin (nxtS c a round)):=by
 obtain ⟨g1,g2⟩:=okC_spec hc
 have hn:=Int.emod_nonneg (a - round) (by omega:c.Arbiters≠0)
 have hm:=Int.emod_lt_of_pos (a - round) (by omega:0<c.Arbiters)
 suffices h:∃ r,Lp body fuel (round+1)=some r∧r=fin (nxtS c a round) by obtain ⟨r,h,rfl⟩:=h; exact h
 refine lp_inv' (fun (i:Nat) (s:Int)=>s=round+1+i∧(i:Int)≤(a - round) % c.Arbiters) _ ((a - round) % c.Arbiters).toNat (by omega) ⟨by simp,by simpa using hn⟩ fun i s hi hI=>?_
 obtain ⟨rfl,hI⟩:=hI
 have hst:=nxt_step hc h1 h2 i hI h0
 rw [hb _ (by omega) (by omega)]
 by_cases e:(i:Int)=(a - round) % c.Arbiters
 ·refine .inr ⟨_,by rw [if_pos (hst.2 e)],?_⟩
  unfold nxtS
  rw [e]
 ·refine .inl ⟨by omega,_,by rw [if_neg (fun q=>e (hst.1 q))],by omega,by omega⟩
theorem rem_chair {c:api_Court} {r:Int} (hc:okC c=true) (h1:1≤r) (h2:r≤2000000):rem (w64 (r - 1)) c.Arbiters=some ((r - 1) % c.Arbiters):=by
 obtain ⟨g1,g2⟩:=okC_spec hc
 unfold rem
 rw [if_neg (by omega),w64_id (by omega) (by omega),Int.tmod_eq_emod_of_nonneg (by omega)]
theorem next_eq {c:api_Court} {a round:Int} (hc:okC c=true) (h1:0≤a) (h2:a<c.Arbiters) (h0:0≤round) (h3:round≤1048576):arbiter_next c a round=some (nxtS c a round):=by
 unfold arbiter_next
 rw [w64_id (by omega) (by omega)]
 refine next_loop hc h1 h2 h0 h3 (fun r=>r) fun r q1 q2=>?_
 unfold arbiter_next_b2
 simp only
 rw [rem_chair hc q1 q2,Option.bind_some,w64_id (n:=r+1) (by omega) (by omega)]
 by_cases e:(r - 1) % c.Arbiters=a
 ·simp [e,arbiter_next_j1]
 ·simp [e]
def nextS (c:api_Court) (a round:Int):Int×Int :=
 if okC c=true then (if inI a 0 (c.Arbiters - 1)=true∧inI round 0 1048576=true then (if 1048576<nxtS c a round then (0,2) else (nxtS c a round,0)) else (0,1)) else (0,1)
theorem rNext_eq (c:api_Court) (a round:Int):ref09_Next c a round=some (nextS c a round):=by
 unfold ref09_Next nextS
 rw [rCheck_eq,chk0]
 cases h:okC c with
 | false=>simp [chkS,h]
 | true =>
  obtain ⟨g1,g2⟩:=okC_spec h
  simp only [Bool.not_true,Bool.false_eq_true,if_false,if_true]
  show (if (!inI a 0 (w64 (c.Arbiters - 1)) || !inI round 0 1048576)=true then _ else _)=_
  rw [w64_id (by omega) (by omega)]
  cases e1:inI a 0 (c.Arbiters - 1) with
  | false=>simp
  | true =>
   cases e2:inI round 0 1048576 with
   | false=>simp
   | true =>
    have:=inI_spec.1 e1
    have:=inI_spec.1 e2
    simp only [Bool.not_true,Bool.or_self,Bool.false_eq_true,if_false,and_self,if_true]
    rw [w64_id (by omega) (by omega)]
    refine next_loop h (by omega) (by omega) (by omega) (by omega) (fun r=>if 1048576<r then ((0:Int),(2:Int)) else (r,0)) fun r q1 q2=>?_
    unfold ref09_Next_b2
    simp only
    rw [rem_chair h q1 q2,Option.bind_some,w64_id (n:=r+1) (by omega) (by omega)]
    by_cases e:(r - 1) % c.Arbiters=a
    ·simp only [e,decide_true,Bool.not_true,Bool.false_eq_true,if_false,if_true,ref09_Next_j1,decide_eq_true_eq]
     split <;> rfl
    ·simp [e]
def pkF (a:Int×Int) (x:api_Letter):Int×Int:=if a.1<x.Voted then (x.Voted,x.Finding) else a
def pkS (l:List api_Letter):Int×Int:=l.foldl pkF (0,0)
theorem pick_eq (l:List api_Letter) (hl:l.length≤4000):ref09_pick l=some ((pkS l).2,decide (0<(pkS l).1)):=by
 unfold ref09_pick
 refine (sum_loop l hl (fun a i=>(a.1,a.2,i)) pkF (fun a=>(a.2,decide (0<a.1))) (fun _ _=>True) (a:=(0,0)) rfl trivial (fun a i hi _=>⟨?_,trivial⟩) (fun a _=>?_))
 ·unfold ref09_pick_b2
  simp only [dlt hi,if_true,ix_nat hi,Option.bind_some,pkF,ref09_pick_j3,w64i hi hl,decide_eq_true_eq]
  split <;> rfl
 ·unfold ref09_pick_b2
  simp [dge,ref09_pick_j1]
theorem picked_eq (l:List api_Letter) (hl:l.length≤4000):arbiter_picked l=some ((pkS l).2,decide (0<(pkS l).1)):=by
 let g:api_Letter→api_Letter→api_Letter:=fun a x=>if a.Voted<x.Voted then x else a
 have key:∀ (l:List api_Letter) (a:api_Letter),((l.foldl g a).Voted,(l.foldl g a).Finding)=l.foldl pkF (a.Voted,a.Finding):=by
  intro l
  induction l with
  | nil=>intro a; rfl
  | cons x r ih =>
   intro a
   simp only [List.foldl_cons]
   rw [ih]
   congr 1
   show ((if a.Voted<x.Voted then x else a).Voted,(if a.Voted<x.Voted then x else a).Finding)=pkF (a.Voted,a.Finding) x
   unfold pkF
   split <;> rfl
 have h:=sum_loop (body:=arbiter_picked_b2 l) l hl (fun a i=>(i,a.ID,a.Case,a.Kind,a.Round,a.From,a.To,a.Voted,a.Finding)) g (fun a=>(a.Finding,decide (0<a.Voted))) (fun _ _=>True) (a:=(⟨0,0,0,0,0,0,0,0⟩:api_Letter)) rfl trivial (fun a i hi _=>⟨by
  unfold arbiter_picked_b2
  simp only [dlt hi,if_true,ix_nat hi,Option.bind_some,arbiter_picked_j3,w64i hi hl,decide_eq_true_eq,g]
  split <;> rfl,trivial⟩) (fun a _=>by
  unfold arbiter_picked_b2
  simp [dge,arbiter_picked_j1])
 unfold arbiter_picked
 rw [h]
 have:=key l ⟨0,0,0,0,0,0,0,0⟩
 unfold pkS
 rw [← this]
def prB (x y:api_Letter):Bool:=decide (y.From=x.From)||(decide (0<x.Voted)&&decide (x.Voted=y.Voted) && !decide (x.Finding=y.Finding))
theorem RulOK.len {c:api_Court} {l:List api_Letter} {o:List api_Ruling} (h:RulOK c l o) (hc:okC c=true) (hl:l.length≤4000):o.length≤l.length:=by
 obtain ⟨o',_,h2,h3⟩:=rrul_eq c hc l hl
 rw [h.uniq h2]; exact h3
end Go.Mx
