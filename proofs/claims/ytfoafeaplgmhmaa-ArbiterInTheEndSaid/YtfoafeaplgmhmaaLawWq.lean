/- Part of the proof of ArbiterInTheEnd: plain laws about the functions of M, no program in sight. Conditions: none. -/
import Derived.Test.YtfoafeaplgmhmaaLawWl
import Derived.Test.YtfoafeaplgmhmaaLawZi
set_option linter.unusedVariables false
set_option linter.unusedSimpArgs false
namespace Go.Mx
theorem onceW {c:api_Court} {l:List api_Letter} {o:List api_Ruling} (hc:okC c=true) (hf:∀ y∈l,fmB c y=true) (hL:LawTo c l) (ho:RulOK c l o) {x y:api_Ruling} (hx:x∈o) (hy:y∈o) (h:x.Case=y.Case):x.Finding=y.Finding:=by
 have hmaj:majS c=c.Arbiters / 2+1:=by unfold majS; rw [if_pos hc]
 obtain ⟨g1,g2⟩:=okC_spec hc
 have h1:=((ho.mem x).1 hx).2
 have h2:=((ho.mem y).1 hy).2
 unfold vtS at h1 h2
 exact pax_once (pax_of hc hf hL x.Case) (p1:=vtB l x) (p2:=vtB l y) (fun a ha=>vt_kV ha) (fun a ha=>by rw [h]; exact vt_kV ha) (by omega) (by omega) (by omega)
theorem rul_more {c:api_Court} {l l':List api_Letter} {o o':List api_Ruling} (h:VSub l l') (ho:RulOK c l o) (ho':RulOK c l' o') {r:api_Ruling} (hr:r∈o):r∈o':=by
 obtain ⟨⟨x,x1,x2,x3⟩,hm⟩:=(ho.mem r).1 hr
 obtain ⟨z,z1,z2,z3,_⟩:=h x x1 x2
 refine (ho'.mem r).2 ⟨⟨z,z1,z2,z3.trans x3⟩,Int.le_trans hm ?_⟩
 unfold vtS
 exact Int.ofNat_le.2 (cnt_mono fun a _ ha=>h.vt ha)
section
variable {c:api_Court} {k m:Nat} {w:wWorld} {y:ref09_World}
theorem run_to (hc:okC c=true) {P:wWorld→Prop} (K M:Nat) (hK:K≤3900) (hM:M≤3900) (hP:∀ {w y},Nxt c K M w y→P w):∀ (l:List api_Act) {k m:Nat} {w:wWorld} {y:ref09_World},k+7*l.length≤K→m+2*l.length≤M→Nxt c k m w y→RunTo c P l w
 | [],k,m,w,y,hk,hm,h=>hP (h.mono (by simpa using hk) (by simpa using hm))
 | x :: r,k,m,w,y,hk,hm,h=>by
  rw [List.length_cons] at hk hm
  obtain ⟨w',y',e,p1,p2,p3⟩:=do_spec hc (by omega) (by omega) h x
  exact ⟨h.bd.court,by have:=h.bd.room; omega,(w',e),p1,run_to hc K M hK hM hP r (by omega) (by omega) p3⟩
end
def kl (l:api_Letter):Int×Int×Int×Int×Int:=(l.Kind,l.Case,l.Round,l.From,l.To)
theorem send_kl (l:api_Letter):∀ (tos:List Int) (w:wWorld),w.letters.length+tos.length≤200→(sendsP l tos w).letters.map kl=w.letters.map kl++tos.map fun t=>(l.Kind,l.Case,l.Round,l.From,t)
 | [],w,_=>by simp [sendsP]
 | t :: r,w,h=>by
  rw [List.length_cons] at h
  have e:sendsP l (t :: r) w=sendsP l r (send1P l w t):=by unfold sendsP; rw [List.foldl_cons]
  have e2:(send1P l w t).letters=w.letters++[mkL l t (w.last+1)]:=by unfold send1P; simp only; rw [if_pos (by omega)]
  rw [e,send_kl l r _ (by rw [e2,List.length_append,List.length_singleton]; omega),e2]
  simp [kl,mkL]
theorem dl_eq {w:wWorld} {l:api_Letter} {r:List api_Letter} (h:w.letters=l :: r) (hl:w.letters.length≤4000):w_do w (dl l.ID)=Option.bind (w_read { w with letters:=r } l) fun w=>some (w,0):=by
 have e:w_do w (dl l.ID)=w_deliver w (dl l.ID):=by
  unfold w_do doR
  rw [if_neg (by simp)]
  rfl
 have e2:ixOf (fun x:api_Letter=>decide (x.ID=l.ID)) w.letters=((0:Nat):Int):=by
  unfold ixOf
  rw [h,List.findIdx?_cons]
  simp
 have e3 : ¬ (((0:Nat):Int)<0):=by omega
 rw [e]
 unfold w_deliver w_take
 simp only
 rw [find_eq l.ID hl,e2,Option.bind_some,if_neg e3,ix_nat (by rw [h]; simp),Option.bind_some]
 simp only [h,List.getElem_cons_zero,if_true,Option.bind_some,Int.toNat_natCast,List.eraseIdx_cons_zero]
section
variable {c:api_Court} {k m:Nat} {w:wWorld} {y:ref09_World} {a id:Int} {d:wDesk} {l:api_Letter}
theorem put_send (h:Nxt c k m w y) (hk:k≤3980) (hm:m≤3980) (hp:(w_desk w a id).isSome=true) (hv:d.votes=(w_get w a id).votes) (tos:List Int) (ht:tos.length≤7) (hr:w.letters.length+tos.length≤200):w_send l tos (w_put w a id d)=some (sendsP l tos (w_put w a id d))∧(sendsP l tos (w_put w a id d)).letters.map kl=w.letters.map kl++tos.map (fun t=>(l.Kind,l.Case,l.Round,l.From,t))∧w_get (sendsP l tos (w_put w a id d))=upd (w_get w) a id d:=by
 have hB:=h.bd.put (d:=d) hp hv
 refine ⟨wsend_eq l tos hB.num (by have:=hB.sent; omega) hB.room,send_kl l tos _ hr,?_⟩
 rw [get_sends,get_put hp]
theorem st_prepare (hk:k≤3980) (hm:m≤3980) (h:Nxt c k m w y) (hr:w.letters.length+1≤200) (h1 : ¬ (l.Round<(w_get w l.To l.Case).note.Promised∨l.Round≤(w_get w l.To l.Case).note.Voted)):∃ w',w_prepare w l=some w'∧w'.letters.map kl=w.letters.map kl++[(2,l.Case,l.Round,l.To,l.From)]∧w_get w'=upd (w_get w) l.To l.Case { w_get w l.To l.Case with note:={ (w_get w l.To l.Case).note with Promised:=l.Round } }:=by
 have hA:=h.at_ l.To l.Case
 have hp:=(get_at (w:=w) (a:=l.To) (id:=l.Case)).2
 have hgw:=(get_at (w:=w) (a:=l.To) (id:=l.Case)).1
 obtain ⟨e1,e2,e3,e4,e5⟩:=at_same w l.To l.Case
 obtain ⟨q1,q2,q3⟩:=put_send (l:=⟨0,l.Case,2,l.Round,l.To,0,(w_get w l.To l.Case).note.Voted,(w_get w l.To l.Case).note.Finding⟩) (d:={ w_get w l.To l.Case with note:={ (w_get w l.To l.Case).note with Promised:=l.Round } }) hA hk hm hp (by rw [hgw]) [l.From] (by simp) (by rw [e3]; exact hr)
 unfold w_prepare
 simp only
 rw [hgw,if_neg h1]
 refine ⟨_,q1,?_,?_⟩
 ·rw [q2,e3]; rfl
 ·rw [q3,hgw]
theorem st_proposed (hc:okC c=true) (hk:k≤3980) (hm:m≤3980) (h:Nxt c k m w y) (hr:w.letters.length+7≤200) (h1 : ¬ l.Round<(w_get w l.To l.Case).note.Promised):∃ w',w_proposed w l=some w'∧w'.letters.map kl=w.letters.map kl++(allI c).map (fun t=>(4,l.Case,l.Round,l.To,t))∧w_get w'=upd (w_get w) l.To l.Case { w_get w l.To l.Case with note:={ (w_get w l.To l.Case).note with Promised:=l.Round,Voted:=l.Round,Finding:=l.Finding } }:=by
 have hA:=h.at_ l.To l.Case
 have hp:=(get_at (w:=w) (a:=l.To) (id:=l.Case)).2
 have hgw:=(get_at (w:=w) (a:=l.To) (id:=l.Case)).1
 obtain ⟨e1,e2,e3,e4,e5⟩:=at_same w l.To l.Case
 obtain ⟨ne,le⟩:=allI_ne hc
 obtain ⟨q1,q2,q3⟩:=put_send (l:=⟨0,l.Case,4,l.Round,l.To,0,0,l.Finding⟩) (d:={ w_get w l.To l.Case with note:={ (w_get w l.To l.Case).note with Promised:=l.Round,Voted:=l.Round,Finding:=l.Finding } }) hA hk hm hp (by rw [hgw]) (allI c) le (by rw [e3]; omega)
 unfold w_proposed
 simp only
 rw [hgw,if_neg h1,all_eq hA.bd.court]
 refine ⟨_,q1,?_,?_⟩
 ·rw [q2,e3]
 ·rw [q3,hgw]
theorem st_vote (hm:m≤3980) (h:Nxt c k m w y):∃ w',w_vote w l=some w'∧w'.letters=w.letters∧∃ V,w_get w'=upd (w_get w) l.To l.Case { w_get w l.To l.Case with votes:=V }∧(∀ v∈(w_get w l.To l.Case).votes,v∈V)∧∃ v∈V,v.From=l.From∧v.Round=l.Round:=by
 have hp:=(get_at (w:=w) (a:=l.To) (id:=l.Case)).2
 have hgw:=(get_at (w:=w) (a:=l.To) (id:=l.Case)).1
 obtain ⟨e1,e2,e3,e4,e5⟩:=at_same w l.To l.Case
 have hvl:(w_get w l.To l.Case).votes.length≤m:=by
  have:=ddV_len (y.Got.filter (gotF l.To l.Case))
  have:=List.length_filter_le (gotF l.To l.Case) y.Got
  have:=h.bd.gotl
  rw [h.bd.rel.got]; omega
 unfold w_vote
 simp only
 rw [hgw,has_vote _ (by omega),Option.bind_some]
 cases ha:((w_get w l.To l.Case).votes.any fun x=>decide (x.From=l.From)&&decide (x.Round=l.Round)) with
 | true =>
  simp only [if_true]
  obtain ⟨v,v1,v2⟩:=List.any_eq_true.1 ha
  simp only [Bool.and_eq_true,decide_eq_true_eq] at v2
  refine ⟨_,rfl,e3,(w_get w l.To l.Case).votes,?_,fun v hv=>hv,v,v1,v2⟩
  rw [hgw]
  funext a' id'
  unfold upd
  split
  ·rename_i e; rw [e.1,e.2]
  ·rfl
 | false =>
  simp only [Bool.false_eq_true,if_false]
  rw [app_ok (by simp; omega),Option.bind_some]
  refine ⟨_,rfl,e3,(w_get w l.To l.Case).votes++[l],?_,fun v hv=>List.mem_append_left _ hv,l,by simp,rfl,rfl⟩
  rw [get_put hp,hgw]
theorem st_promise (hc:okC c=true) (hk:k≤3970) (hm:m≤3970) (h:Nxt c k m w y) (hr:w.letters.length+7≤200) {P:List api_Letter} {pr:Bool} (hh:(w_get w l.To l.Case).has=true) (hch:(w_get w l.To l.Case).chair=some ⟨l.Round,P,pr⟩) (hn:∀ p∈P,p.From≠l.From):∃ w',w_promise w l=some w'∧w'.letters.map kl=w.letters.map kl++(if pr=false∧majS c≤(P.length:Int)+1 then (allI c).map (fun t=>(3,l.Case,l.Round,l.To,t)) else [])∧w_get w'=upd (w_get w) l.To l.Case { w_get w l.To l.Case with chair:=some ⟨l.Round,P++[l],pr||decide (majS c≤(P.length:Int)+1)⟩ }:=by
 have hA:=h.at_ l.To l.Case
 have hp:=(get_at (w:=w) (a:=l.To) (id:=l.Case)).2
 have hgw:=(get_at (w:=w) (a:=l.To) (id:=l.Case)).1
 obtain ⟨e1,e2,e3,e4,e5⟩:=at_same w l.To l.Case
 obtain ⟨ne,le⟩:=allI_ne hc
 have hD:=h.ok.desk l.To l.Case
 have hC:=hD.chair _ hch
 have hfew:=prm_few hc h.ok.law h.ok.form hC
 simp only at hfew
 unfold w_promise
 simp only
 rw [hgw,hch]
 simp only [ne_eq,not_true,if_false]
 have ha:(P.any fun x=>decide (x.From=l.From))=false:=List.any_eq_false.2 fun p hp=>by simpa using hn p hp
 rw [has_prom P (by omega),Option.bind_some,ha]
 simp only [Bool.false_eq_true,if_false]
 rw [app_ok (by simp; omega),Option.bind_some]
 generalize hd:w_get w l.To l.Case=d at *
 generalize hw2:w_put (w_at w l.To l.Case) l.To l.Case { d with chair:=some ⟨l.Round,P++[l],pr⟩ }=w2
 have hg2:w_get w2=upd (w_get w) l.To l.Case { d with chair:=some ⟨l.Round,P++[l],pr⟩ }:=by rw [← hw2,get_put hp,hgw]
 have hg3:w_get w2 l.To l.Case = { d with chair:=some ⟨l.Round,P++[l],pr⟩ }:=by rw [hg2]; unfold upd; rw [if_pos ⟨rfl,rfl⟩]
 have hl2:w2.letters=w.letters:=by rw [← hw2]; exact e3
 have hB2:Bd c k (m+1) w2 { y with Seats:=putS y.Seats (seatOf l.To l.Case { d with chair:=some ⟨l.Round,P++[l],pr⟩ }) }:=by rw [← hw2]; exact hA.bd.put hp (by rw [hgw,hd])
 have hp2:(w_desk w2 l.To l.Case).isSome=true:=by
  rw [← hw2]; unfold w_put w_desk
  simp only
  rw [look_put hp,if_pos rfl]; rfl
 have hlen:((P++[l]).length:Int)=(P.length:Int)+1:=by simp
 unfold w_propose
 simp only
 rw [hg3]
 simp only
 cases pr with
 | true =>
  simp only [if_true,Bool.true_or,Bool.true_eq_false,false_and,if_false,List.append_nil]
  exact ⟨_,rfl,by rw [hl2],hg2⟩
 | false =>
  simp only [Bool.false_eq_true,if_false,Bool.false_or,true_and]
  rw [hB2.court,Maj_eq,Option.bind_some,hlen]
  by_cases hM:majS c≤(P.length:Int)+1
  ·have hM' : ¬ (P.length:Int)+1<majS c:=by omega
   rw [if_neg hM',if_pos hM,decide_eq_true hM,picked_eq (P++[l]) (by simp; omega),Option.bind_some]
   rw [if_neg (by simp [hh])]
   have hB3:=hB2.put (a:=l.To) (id:=l.Case) (d:={ d with chair:=some ⟨l.Round,P++[l],true⟩ }) hp2 (by rw [hg3])
   rw [all_eq hB2.court]
   refine ⟨_,wsend_eq _ (allI c) hB3.num (by have:=hB3.sent; omega) hB3.room,?_,?_⟩
   ·rw [send_kl _ (allI c) _ (by show w2.letters.length+_≤200; rw [hl2]; omega)]
    show w2.letters.map kl++_=_
    rw [hl2]
   ·rw [get_sends,get_put hp2,hg2]
    funext a' id'
    unfold upd
    split <;> rfl
  ·have hM':(P.length:Int)+1<majS c:=by omega
   rw [if_pos hM',if_neg hM,decide_eq_false hM,List.append_nil]
   exact ⟨_,rfl,by rw [hl2],hg2⟩
end
section
variable {c:api_Court} {k m:Nat} {w:wWorld} {y:ref09_World} {a id r:Int} {l:api_Letter} {rest:List api_Letter}
theorem del_step (hc:okC c=true) (hk:k≤3970) (hm:m≤3970) (h:Nxt c k m w y) (hl:w.letters=l :: rest) {w':wWorld} (hr:w_read { w with letters:=rest } l=some w'):w_do w (dl l.ID)=some (w',0)∧∃ y',Nxt c (k+7) (m+2) w' y':=by
 have e:w_do w (dl l.ID)=some (w',0):=by rw [dl_eq hl (by have:=h.bd.room; omega),hr]; rfl
 obtain ⟨w2,y2,e2,p1,p2,p3⟩:=do_spec hc hk hm h (dl l.ID)
 rw [e] at p1
 cases p1
 exact ⟨e,y2,p3⟩
theorem Nxt.tail (h:Nxt c k m w y) (hl:w.letters=l :: rest):∃ y',Nxt c k m { w with letters:=rest } y':=by
 have:=h.less 0
 rw [hl] at this
 exact ⟨_,this⟩
theorem Del.cons {P:wWorld→Prop} {n:Nat} (hc:okC c=true) (h:Nxt c k m w y) (hl:w.letters=l :: rest) {w':wWorld} (hd:w_do w (dl l.ID)=some (w',0)) (hn:Del P n w'):Del P (n+1) w:=by
 refine ⟨by rw [h.bd.court]; have:=okC_spec hc; omega,by have:=h.bd.room; omega,l,rest,hl,w',hd,hn⟩
def AllV (c:api_Court) (id r:Int) (w:wWorld):Prop := ∀ b t:Nat,b<c.Arbiters.toNat→t<c.Arbiters.toNat→∃ v∈(w_get w t id).votes,v.From=b∧v.Round=r
def EndV (c:api_Court) (id r:Int) (w:wWorld):Prop:=AllV c id r w∧∃ k m y,k≤3970∧m≤3970∧Nxt c k m w y
theorem del_votes (hc:okC c=true):∀ (n:Nat) {k m:Nat} {w:wWorld} {y:ref09_World},Nxt c k m w y→k+7*n≤3900→m+2*n≤3900→w.letters.length=n→(∀ l∈w.letters,l.Kind=4) →
  (∀ b t:Nat,b<c.Arbiters.toNat→t<c.Arbiters.toNat→(∃ l∈w.letters,kl l=(4,id,r,(b:Int),(t:Int)))∨∃ v∈(w_get w t id).votes,v.From=b∧v.Round=r)→Del (EndV c id r) n w
 | 0,k,m,w,y,h,hk,hm,hl,_,hv=>by
  have hl:w.letters=[]:=List.length_eq_zero_iff.1 hl
  refine ⟨hl,fun b t hb ht=>?_,k,m,y,by omega,by omega,h⟩
  rcases hv b t hb ht with ⟨l,h1,_⟩ | h1
  ·rw [hl] at h1; cases h1
  ·exact h1
 | n+1,k,m,w,y,h,hk,hm,hl,h4,hv=>by
  cases hw:w.letters with
  | nil=>rw [hw] at hl; cases hl
  | cons l rest =>
   have hK:l.Kind=4:=h4 l (by rw [hw]; exact List.mem_cons_self)
   obtain ⟨y1,h1⟩:=h.tail hw
   obtain ⟨w',e1,e2,V,e3,e4,e5⟩:=st_vote (l:=l) (by omega) h1
   have hr:w_read { w with letters:=rest } l=some w':=by
    unfold w_read
    rw [if_neg (by omega),if_neg (by omega),if_neg (by omega),if_pos hK]; exact e1
   obtain ⟨q1,y2,q2⟩:=del_step hc (by omega) (by omega) h hw hr
   have e2:w'.letters=rest:=e2
   have hg:∀ t id',(w_get w' t id').votes=if t=l.To∧id'=l.Case then V else (w_get w t id').votes:=fun t id' => by
    rw [e3]
    unfold upd
    by_cases e:t=l.To∧id'=l.Case
    ·rw [if_pos e,if_pos e]
    ·rw [if_neg e,if_neg e]; exact congrFun (congrFun (show (fun t id' => (w_get { w with letters:=rest } t id').votes)=fun t id' => (w_get w t id').votes from rfl) t) id'
   refine Del.cons hc h hw q1 (del_votes hc n q2 (by omega) (by omega) (by rw [e2]; rw [hw] at hl; simpa using hl) (fun x hx=>h4 x (by rw [hw]; exact List.mem_cons_of_mem _ (by rw [← e2]; exact hx))) fun b t hb ht=>?_)
   rw [hg]
   rcases hv b t hb ht with ⟨x,x1,x2⟩ | ⟨v,v1,v2⟩
   ·rw [hw] at x1
    rcases List.mem_cons.1 x1 with rfl | x1
    ·simp only [kl,Prod.mk.injEq] at x2
     obtain ⟨z1,z2,z3,z4,z5⟩:=x2
     obtain ⟨v,v1,v2,v3⟩:=e5
     exact .inr ⟨v,by rw [if_pos ⟨z5.symm,z2.symm⟩]; exact v1,by rw [v2,z4],by rw [v3,z3]⟩
    ·exact .inl ⟨x,by rw [e2]; exact x1,x2⟩
   ·refine .inr ⟨v,?_,v2⟩
    split
    ·rename_i e
     rw [e.1,e.2] at v1
     exact e4 v v1
    ·exact v1
theorem kl_head {L:List (Int×Int×Int×Int×Int)} {x:Int×Int×Int×Int×Int} (h:w.letters.map kl=x :: L):∃ l rest,w.letters=l :: rest∧kl l=x∧rest.map kl=L:=by
 cases hw:w.letters with
 | nil=>rw [hw] at h; cases h
 | cons l rest =>
  rw [hw,List.map_cons] at h
  injection h with h1 h2
  exact ⟨l,rest,rfl,h1,h2⟩
theorem rng_cons {i n:Nat} (h:i<n) {α:Type} (f:Nat→α):(List.range' i (n - i)).map f=f i :: (List.range' (i+1) (n - (i+1))).map f:=by
 have e:n - i=(n - (i+1))+1:=by omega
 rw [e,List.range'_succ,List.map_cons]
theorem rng_last {i:Nat} {α:Type} (f:Nat→α):(List.range (i+1)).map f=(List.range i).map f++[f i]:=by rw [List.range_succ,List.map_append]; rfl
theorem rng_end {n:Nat} {α:Type} (f:Nat→α):(List.range' n (n - n)).map f=[]:=by rw [Nat.sub_self]; rfl
theorem allI_map {α:Type} (c:api_Court) (f:Int→α):(allI c).map f=(List.range c.Arbiters.toNat).map fun n:Nat=>f (n:Int):=by unfold allI; rw [List.map_map]; rfl
def votesK (id r:Int) (N i:Nat):List (Int×Int×Int×Int×Int):=(List.range i).flatMap fun b:Nat=>(List.range N).map fun t:Nat=>(4,id,r,(b:Int),(t:Int))
theorem votesK_len (id r:Int) (N i:Nat):(votesK id r N i).length=i*N:=by
 unfold votesK
 induction i with
 | zero=>simp
 | succ i ih=>rw [List.range_succ,List.flatMap_append,List.length_append,ih]; simp [Nat.succ_mul]
theorem sq_le {i N:Nat} (h:i≤N) (hN:N≤7):i*N≤49:=Nat.mul_le_mul (Nat.le_trans h hN) hN
theorem del_props0 (hc:okC c=true) (h:Nxt c k m w y) (hk:k≤3500) (hm:m≤3500) (hl:w.letters.map kl=votesK id r c.Arbiters.toNat c.Arbiters.toNat):∃ n',n'≤49∧Del (EndV c id r) n' w:=by
 obtain ⟨g1,g2⟩:=okC_spec hc
 have hlen:w.letters.length=c.Arbiters.toNat*c.Arbiters.toNat:=by
  have:=congrArg List.length hl
  rw [List.length_map,votesK_len] at this
  exact this
 have hle:=sq_le (Nat.le_refl c.Arbiters.toNat) (by omega)
 refine ⟨w.letters.length,by omega,del_votes hc _ h (by omega) (by omega) rfl (fun l hl' => ?_) fun b t hb ht=>.inl ?_⟩
 ·have:=List.mem_map_of_mem (f:=kl) hl'
  rw [hl] at this
  obtain ⟨b,_,h2⟩:=List.mem_flatMap.1 this
  obtain ⟨t,_,h3⟩:=List.mem_map.1 h2
  have:=congrArg Prod.fst h3
  exact this.symm
 ·have:((4:Int),id,r,(b:Int),(t:Int))∈w.letters.map kl:=by
   rw [hl]
   exact List.mem_flatMap.2 ⟨b,List.mem_range.2 hb,List.mem_map.2 ⟨t,List.mem_range.2 ht,rfl⟩⟩
  obtain ⟨x,x1,x2⟩:=List.mem_map.1 this
  exact ⟨x,x1,x2⟩
theorem del_props (hc:okC c=true):∀ (n i:Nat) {k m:Nat} {w:wWorld} {y:ref09_World},i+n=c.Arbiters.toNat→Nxt c k m w y→k+7*n≤3500→m+2*n≤3500 →
  w.letters.map kl=(List.range' i (c.Arbiters.toNat - i)).map (fun b:Nat=>(3,id,r,a,(b:Int)))++votesK id r c.Arbiters.toNat i →
  (∀ b:Nat,b<c.Arbiters.toNat→(w_get w b id).note.Promised≤r)→∃ n',n'≤n+49∧Del (EndV c id r) n' w
 | 0,i,k,m,w,y,hi,h,hk,hm,hl,hp=>by
  have hi:i=c.Arbiters.toNat:=by omega
  rw [hi,rng_end,List.nil_append] at hl
  obtain ⟨n',h1,h2⟩:=del_props0 hc h (by omega) (by omega) hl
  exact ⟨n',by omega,h2⟩
 | n+1,i,k,m,w,y,hi,h,hk,hm,hl,hp=>by
  obtain ⟨g1,g2⟩:=okC_spec hc
  have hlt:i<c.Arbiters.toNat:=by omega
  have hroom:w.letters.length≤56:=by
   have:=congrArg List.length hl
   rw [List.length_map,List.length_append,List.length_map,votesK_len,List.length_range'] at this
   have:=sq_le (Nat.le_of_lt hlt) (by omega)
   omega
  rw [rng_cons hlt,List.cons_append] at hl
  obtain ⟨l,rest,hw,hkl,hrest⟩:=kl_head hl
  simp only [kl,Prod.mk.injEq] at hkl
  obtain ⟨z1,z2,z3,z4,z5⟩:=hkl
  obtain ⟨y1,h1⟩:=h.tail hw
  have hlr:rest.length≤56:=by rw [hw] at hroom; simp at hroom; omega
  have hd:w_get { w with letters:=rest }=w_get w:=rfl
  obtain ⟨w',e1,e2,e3⟩:=st_proposed (l:=l) hc (by omega) (by omega) h1 (by simp only; omega) (by rw [hd,z5,z2,z3]; have:=hp i hlt; omega)
  have hr:w_read { w with letters:=rest } l=some w':=by
   unfold w_read
   rw [if_neg (by omega),if_neg (by omega),if_pos z1]; exact e1
  obtain ⟨q1,y2,q2⟩:=del_step hc (by omega) (by omega) h hw hr
  have e2:w'.letters.map kl=rest.map kl++(allI c).map (fun t=>(4,l.Case,l.Round,l.To,t)):=e2
  rw [allI_map,z2,z3,z5] at e2
  obtain ⟨n',n1,n2⟩:=del_props hc n (i+1) (by omega) q2 (by omega) (by omega) (by
   rw [e2,hrest]
   unfold votesK
   rw [List.range_succ,List.flatMap_append,List.append_assoc]
   simp) (fun b hb=>by
   rw [e3,hd]
   unfold upd
   split
   ·rw [z3]; exact Int.le_refl _
   ·exact hp b hb)
  exact ⟨n'+1,by omega,Del.cons hc h hw q1 n2⟩
end
end Go.Mx
