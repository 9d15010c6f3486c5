/- Part of the proof of ArbiterWorlds: plain laws about the functions of M, no program in sight. Conditions: none. -/
import Derived.Test.YtfoafeaplgmhmaaGreatLawZg
import Derived.Test.YtfoafeaplgmhmaaGreatLawZb
set_option linter.unusedVariables false
set_option linter.unusedSimpArgs false
namespace Go.Mx
theorem ixOf_some {α:Type} {p:α→Bool} {l:List α} (h:ixOf p l≠-1):∃ i,∃ hi:i<l.length,ixOf p l=(i:Int)∧p l[i]=true∧∀ j (hj:j<l.length),j<i→p l[j]=false:=by
 unfold ixOf at h ⊢
 cases hf:l.findIdx? p with
 | none=>rw [hf] at h; exact absurd rfl h
 | some i =>
  obtain ⟨h1,h2,h3⟩:=List.findIdx?_eq_some_iff_getElem.1 hf
  exact ⟨i,h1,rfl,h2,fun j hj hji=>by have:=h3 j hji; simpa using this⟩
theorem cnt_prm (c:api_Court) (l:List api_Letter) (k r v:Int):cntI (fun x=>decide (x.Voted≤v)) (prmS c l k r)=(cnt (fun a:Nat=>((l.find? (isP k r (a:Int))).map fun x=>decide (x.Voted≤v)).getD false) c.Arbiters.toNat:Nat):=by
 unfold cntI prmS
 rw [List.countP_filterMap,List.countP_eq_length_filter,cnt_filter]
theorem isP_spec {k r a:Int} {x:api_Letter} (h:isP k r a x=true):x.Kind=2∧x.Case=k∧x.Round=r∧x.From=a:=by
 unfold isP isK at h
 simpa [and_assoc] using h
def nxtS (c:api_Court) (a round:Int):Int:=round+1+(a - round) % c.Arbiters
theorem nxt_step {c:api_Court} {a round:Int} (hc:okC c=true) (h1:0≤a) (h2:a<c.Arbiters) (k:Nat) (hk:(k:Int)≤(a - round) % c.Arbiters) (h0:0≤round):(round+1+k - 1) % c.Arbiters=a↔(k:Int)=(a - round) % c.Arbiters:=by
 obtain ⟨g1,g2⟩:=okC_spec hc
 have:c.Arbiters=3∨c.Arbiters=4∨c.Arbiters=5∨c.Arbiters=6∨c.Arbiters=7:=by omega
 rcases this with e | e | e | e | e <;> rw [e] at hk h2 ⊢ <;> omega
theorem nxt_lt {c:api_Court} (hc:okC c=true) (a round:Int):round<nxtS c a round∧nxtS c a round≤round+c.Arbiters:=by
 obtain ⟨g1,g2⟩:=okC_spec hc
 unfold nxtS
 have:=Int.emod_nonneg (a - round) (by omega:c.Arbiters≠0)
 have:=Int.emod_lt_of_pos (a - round) (by omega:0<c.Arbiters)
 omega
theorem next_loop {ρ:Type} {c:api_Court} {a round:Int} (hc:okC c=true) (h1:0≤a) (h2:a<c.Arbiters) (h0:0≤round) (h3:round≤1048576) {body:Int→Option (Int ⊕ ρ)} (fin:Int→ρ) (hb:∀ r,1≤r→r≤2000000→body r=some (if (r - 1) % c.Arbiters=a then .inr (fin r) else .inl (r+1))):Lp body fuel (round+1)=some (fin (nxtS c a round)):=by
 obtain ⟨g1,g2⟩:=okC_spec hc
 have hn:=Int.emod_nonneg (a - round) (by omega:c.Arbiters≠0)
 have hm:=Int.emod_lt_of_pos (a - round) (by omega:0<c.Arbiters)
 suffices h:∃ r,Lp body fuel (round+1)=some r∧r=fin (nxtS c a round) by obtain ⟨r,h,rfl⟩:=h; exact h
 refine lp_inv' (fun (i:Nat) (s:Int)=>s=round+1+i∧(i:Int)≤(a - round) % c.Arbiters) _ ((a - round) % c.Arbiters).toNat (by omega) ⟨by simp,by simpa using hn⟩ fun i s hi hI=>?_
 obtain ⟨rfl,hI⟩:=hI
 have hst:=nxt_step hc h1 h2 i hI h0
 rw [hb _ (by omega) (by omega)]
 by_cases e:(i:Int)=(a - round) % c.Arbiters
 ·refine .inr ⟨_,by rw [if_pos (hst.2 e)],?_⟩
  unfold nxtS
  rw [e]
 ·refine .inl ⟨by omega,_,by rw [if_neg (fun q=>e (hst.1 q))],by omega,by omega⟩
theorem rem_chair {c:api_Court} {r:Int} (hc:okC c=true) (h1:1≤r) (h2:r≤2000000):rem (w64 (r - 1)) c.Arbiters=some ((r - 1) % c.Arbiters):=by
 obtain ⟨g1,g2⟩:=okC_spec hc
 unfold rem
 rw [if_neg (by omega),w64_id (by omega) (by omega),Int.tmod_eq_emod_of_nonneg (by omega)]
theorem next_eq {c:api_Court} {a round:Int} (hc:okC c=true) (h1:0≤a) (h2:a<c.Arbiters) (h0:0≤round) (h3:round≤1048576):arbiter_next c a round=some (nxtS c a round):=by
 unfold arbiter_next
 rw [w64_id (by omega) (by omega)]
 refine next_loop hc h1 h2 h0 h3 (fun r=>r) fun r q1 q2=>?_
 unfold arbiter_next_b2
 simp only
 rw [rem_chair hc q1 q2,Option.bind_some,w64_id (n:=r+1) (by omega) (by omega)]
 by_cases e:(r - 1) % c.Arbiters=a
 ·simp [e,arbiter_next_j1]
 ·simp [e]
def nextS (c:api_Court) (a round:Int):Int×Int :=
 if okC c=true then (if inI a 0 (c.Arbiters - 1)=true∧inI round 0 1048576=true then (if 1048576<nxtS c a round then (0,2) else (nxtS c a round,0)) else (0,1)) else (0,1)
theorem rNext_eq (c:api_Court) (a round:Int):ref09_Next c a round=some (nextS c a round):=by
 unfold ref09_Next nextS
 rw [rCheck_eq,chk0]
 cases h:okC c with
 | false=>simp [chkS,h]
 | true =>
  obtain ⟨g1,g2⟩:=okC_spec h
  simp only [Bool.not_true,Bool.false_eq_true,if_false,if_true]
  show (if (!inI a 0 (w64 (c.Arbiters - 1)) || !inI round 0 1048576)=true then _ else _)=_
  rw [w64_id (by omega) (by omega)]
  cases e1:inI a 0 (c.Arbiters - 1) with
  | false=>simp
  | true =>
   cases e2:inI round 0 1048576 with
   | false=>simp
   | true =>
    have:=inI_spec.1 e1
    have:=inI_spec.1 e2
    simp only [Bool.not_true,Bool.or_self,Bool.false_eq_true,if_false,and_self,if_true]
    rw [w64_id (by omega) (by omega)]
    refine next_loop h (by omega) (by omega) (by omega) (by omega) (fun r=>if 1048576<r then ((0:Int),(2:Int)) else (r,0)) fun r q1 q2=>?_
    unfold ref09_Next_b2
    simp only
    rw [rem_chair h q1 q2,Option.bind_some,w64_id (n:=r+1) (by omega) (by omega)]
    by_cases e:(r - 1) % c.Arbiters=a
    ·simp only [e,decide_true,Bool.not_true,Bool.false_eq_true,if_false,if_true,ref09_Next_j1,decide_eq_true_eq]
     split <;> rfl
    ·simp [e]
def pkF (a:Int×Int) (x:api_Letter):Int×Int:=if a.1<x.Voted then (x.Voted,x.Finding) else a
def pkS (l:List api_Letter):Int×Int:=l.foldl pkF (0,0)
theorem pick_eq (l:List api_Letter) (hl:l.length≤4000):ref09_pick l=some ((pkS l).2,decide (0<(pkS l).1)):=by
 unfold ref09_pick
 refine (sum_loop l hl (fun a i=>(a.1,a.2,i)) pkF (fun a=>(a.2,decide (0<a.1))) (fun _ _=>True) (a:=(0,0)) rfl trivial (fun a i hi _=>⟨?_,trivial⟩) (fun a _=>?_))
 ·unfold ref09_pick_b2
  simp only [dlt hi,if_true,ix_nat hi,Option.bind_some,pkF,ref09_pick_j3,w64i hi hl,decide_eq_true_eq]
  split <;> rfl
 ·unfold ref09_pick_b2
  simp [dge,ref09_pick_j1]
theorem picked_eq (l:List api_Letter) (hl:l.length≤4000):arbiter_picked l=some ((pkS l).2,decide (0<(pkS l).1)):=by
 let g:api_Letter→api_Letter→api_Letter:=fun a x=>if a.Voted<x.Voted then x else a
 have key:∀ (l:List api_Letter) (a:api_Letter),((l.foldl g a).Voted,(l.foldl g a).Finding)=l.foldl pkF (a.Voted,a.Finding):=by
  intro l
  induction l with
  | nil=>intro a; rfl
  | cons x r ih =>
   intro a
   simp only [List.foldl_cons]
   rw [ih]
   congr 1
   show ((if a.Voted<x.Voted then x else a).Voted,(if a.Voted<x.Voted then x else a).Finding)=pkF (a.Voted,a.Finding) x
   unfold pkF
   split <;> rfl
 have h:=sum_loop (body:=arbiter_picked_b2 l) l hl (fun a i=>(i,a.ID,a.Case,a.Kind,a.Round,a.From,a.To,a.Voted,a.Finding)) g (fun a=>(a.Finding,decide (0<a.Voted))) (fun _ _=>True) (a:=(⟨0,0,0,0,0,0,0,0⟩:api_Letter)) rfl trivial (fun a i hi _=>⟨by
  unfold arbiter_picked_b2
  simp only [dlt hi,if_true,ix_nat hi,Option.bind_some,arbiter_picked_j3,w64i hi hl,decide_eq_true_eq,g]
  split <;> rfl,trivial⟩) (fun a _=>by
  unfold arbiter_picked_b2
  simp [dge,arbiter_picked_j1])
 unfold arbiter_picked
 rw [h]
 have:=key l ⟨0,0,0,0,0,0,0,0⟩
 unfold pkS
 rw [← this]
def prB (x y:api_Letter):Bool:=decide (y.From=x.From)||(decide (0<x.Voted)&&decide (x.Voted=y.Voted) && !decide (x.Finding=y.Finding))
theorem RulOK.len {c:api_Court} {l:List api_Letter} {o:List api_Ruling} (h:RulOK c l o) (hc:okC c=true) (hl:l.length≤4000):o.length≤l.length:=by
 obtain ⟨o',_,h2,h3⟩:=rrul_eq c hc l hl
 rw [h.uniq h2]; exact h3
theorem same_loop {α:Type} [DecidableEq α] (a:List α) (ha:a.length≤4000) {body:Int→Option (Int ⊕ Bool)} (step:∀ i (hi:i<a.length),body (i:Int)=some (.inl ((i+1:Nat):Int))) (last:body (a.length:Int)=some (.inr true)):Lp body fuel 0=some true:=by
 suffices h:∃ s,Lp body fuel 0=some s∧s=true by obtain ⟨s,h,rfl⟩:=h; exact h
 refine lp_inv' (fun (i:Nat) (s:Int)=>s=(i:Int)) _ a.length (by omega) rfl fun i s hi hI=>?_
 subst hI
 by_cases hlt:i<a.length
 ·exact .inl ⟨hlt,_,step i hlt,rfl⟩
 ·have e:i=a.length:=by omega
  subst e
  exact .inr ⟨true,last,rfl⟩
theorem SameR_refl (a:List api_Ruling) (ha:a.length≤4000):ref09_SameRulings a a=some true:=by
 unfold ref09_SameRulings
 simp only [decide_true,Bool.not_true,Bool.false_eq_true,if_false]
 refine same_loop a ha (fun i hi=>?_) ?_
 ·unfold ref09_SameRulings_b2
  simp only [dlt hi,if_true,ix_nat hi,w64i hi ha,Option.bind_some,decide_true,Bool.not_true,Bool.false_eq_true,if_false]
 ·unfold ref09_SameRulings_b2
  simp [dge,ref09_SameRulings_j1]
theorem SameL_refl (a:List api_Letter) (ha:a.length≤4000):ref09_SameLetters a a=some true:=by
 unfold ref09_SameLetters
 simp only [decide_true,Bool.not_true,Bool.false_eq_true,if_false]
 refine same_loop a ha (fun i hi=>?_) ?_
 ·unfold ref09_SameLetters_b2
  simp only [dlt hi,if_true,ix_nat hi,w64i hi ha,Option.bind_some,decide_true,Bool.not_true,Bool.false_eq_true,if_false]
 ·unfold ref09_SameLetters_b2
  simp [dge,ref09_SameLetters_j1]
end Go.Mx
