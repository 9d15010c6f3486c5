/- Part of the proof of ArbiterInTheEnd: plain laws about the functions of M, no program in sight. Conditions: none. -/
import Derived.Test.YtfoafeaplgmhmaaLawWq
set_option linter.unusedVariables false
set_option linter.unusedSimpArgs false
namespace Go.Mx
section
variable {c:api_Court} {k m:Nat} {w:wWorld} {y:ref09_World} {a id r:Int} {l:api_Letter} {rest:List api_Letter}
abbrev propK (id r a:Int) (b:Nat):Int×Int×Int×Int×Int:=(3,id,r,a,(b:Int))
abbrev promK (id r a:Int) (b:Nat):Int×Int×Int×Int×Int:=(2,id,r,(b:Int),a)
abbrev prepK (id r a:Int) (b:Nat):Int×Int×Int×Int×Int:=(1,id,r,a,(b:Int))
theorem maj_le (hc:okC c=true):1≤majS c∧majS c≤(c.Arbiters.toNat:Nat):=by
 obtain ⟨g1,g2⟩:=okC_spec hc
 unfold majS
 rw [if_pos hc]
 omega
theorem del_proms (hc:okC c=true):∀ (n j:Nat) {k m:Nat} {w:wWorld} {y:ref09_World} {P:List api_Letter},j+n=c.Arbiters.toNat→Nxt c k m w y→k+7*n≤3400→m+2*n≤3400 →
  w.letters.map kl=(List.range' j (c.Arbiters.toNat - j)).map (promK id r a)++(if majS c≤(j:Nat) then (List.range c.Arbiters.toNat).map (propK id r a) else []) →
  (w_get w a id).has=true→(w_get w a id).chair=some ⟨r,P,decide (majS c≤(j:Nat))⟩→P.map (·.From)=(List.range j).map (fun b:Nat=>(b:Int)) →
  (∀ b:Nat,b<c.Arbiters.toNat→(w_get w b id).note.Promised≤r)→∃ n',n'≤n+60∧Del (EndV c id r) n' w
 | 0,j,k,m,w,y,P,hj,h,hk,hm,hl,hh,hch,hP,hp=>by
  obtain ⟨g1,g2⟩:=okC_spec hc
  have hj:j=c.Arbiters.toNat:=by omega
  rw [hj,rng_end,List.nil_append,if_pos (maj_le hc).2] at hl
  obtain ⟨n',h1,h2⟩:=del_props (id:=id) (r:=r) (a:=a) hc c.Arbiters.toNat 0 (by omega) h (by omega) (by omega) (by
   rw [hl,Nat.sub_zero,← List.range_eq_range']
   unfold votesK
   simp) hp
  exact ⟨n',by omega,h2⟩
 | n+1,j,k,m,w,y,P,hj,h,hk,hm,hl,hh,hch,hP,hp=>by
  obtain ⟨g1,g2⟩:=okC_spec hc
  have hlt:j<c.Arbiters.toNat:=by omega
  have hroom:w.letters.length≤14:=by
   have:=congrArg List.length hl
   rw [List.length_map,List.length_append,List.length_map,List.length_range'] at this
   have h2:(if majS c≤(j:Nat) then (List.range c.Arbiters.toNat).map (propK id r a) else []).length≤7:=by
    split
    ·rw [List.length_map,List.length_range]; omega
    ·simp
   omega
  rw [rng_cons hlt,List.cons_append] at hl
  obtain ⟨l,rest,hw,hkl,hrest⟩:=kl_head hl
  simp only [kl,Prod.mk.injEq] at hkl
  obtain ⟨z1,z2,z3,z4,z5⟩:=hkl
  obtain ⟨y1,h1⟩:=h.tail hw
  have hlr:rest.length≤14:=by rw [hw] at hroom; simp at hroom; omega
  have hd:w_get { w with letters:=rest }=w_get w:=rfl
  have hPl:P.length=j:=by
   have:=congrArg List.length hP
   simpa using this
  obtain ⟨w',e1,e2,e3⟩:=st_promise (l:=l) (P:=P) (pr:=decide (majS c≤(j:Nat))) hc (by omega) (by omega) h1 (by simp only; omega) (by rw [hd,z5,z2]; exact hh) (by rw [hd,z5,z2,z3]; exact hch) (fun p hp' q=>by
   have:p.From∈P.map (·.From):=List.mem_map_of_mem hp'
   rw [hP] at this
   obtain ⟨b,b1,b2⟩:=List.mem_map.1 this
   have:=List.mem_range.1 b1
   rw [q,z4] at b2
   omega)
  have hr:w_read { w with letters:=rest } l=some w':=by
   unfold w_read
   rw [if_neg (by omega),if_pos z1]; exact e1
  obtain ⟨q1,y2,q2⟩:=del_step hc (by omega) (by omega) h hw hr
  have e2:w'.letters.map kl=rest.map kl++(if decide (majS c≤(j:Nat))=false∧majS c≤(P.length:Int)+1 then (allI c).map (fun t=>(3,l.Case,l.Round,l.To,t)) else []):=e2
  rw [allI_map,z2,z3,z5,hPl,hrest,List.append_assoc] at e2
  rw [hd,z5,z2,z3,hPl] at e3
  have hg:w_get w' a id = { w_get w a id with chair:=some ⟨r,P++[l],decide (majS c≤(j:Nat))||decide (majS c≤(j:Int)+1)⟩ }:=by
   rw [e3]; unfold upd; rw [if_pos ⟨rfl,rfl⟩]
  have hm1:(decide (majS c≤(j:Nat))||decide (majS c≤(j:Int)+1))=decide (majS c≤((j+1:Nat):Int)):=by
   rw [← Bool.decide_or]
   exact decide_eq_decide.2 (by omega)
  obtain ⟨n',n1,n2⟩:=del_proms hc n (j+1) (P:=P++[l]) (by omega) q2 (by omega) (by omega) (by
   rw [e2]
   congr 1
   by_cases c1:majS c≤(j:Nat)
   ·rw [if_pos c1,if_neg (by rw [decide_eq_true c1]; simp),List.append_nil,if_pos (by omega)]
   ·rw [if_neg c1,List.nil_append]
    by_cases c2:majS c≤(j:Int)+1
    ·rw [if_pos ⟨decide_eq_false c1,c2⟩,if_pos (by omega)]
    ·rw [if_neg (fun q=>c2 q.2),if_neg (by omega)]) (by rw [hg]; exact hh) (by rw [hg,hm1]) (by rw [List.map_append,hP,rng_last,List.map_singleton,z4]) (fun b hb=>by
   rw [e3]
   unfold upd
   split
   ·rename_i e; have:=hp b hb; rw [e.1] at this; exact this
   ·exact hp b hb)
  exact ⟨n'+1,by omega,Del.cons hc h hw q1 n2⟩
theorem del_preps (hc:okC c=true):∀ (n i:Nat) {k m:Nat} {w:wWorld} {y:ref09_World},i+n=c.Arbiters.toNat→Nxt c k m w y→k+7*n≤3300→m+2*n≤3300 →
  w.letters.map kl=(List.range' i (c.Arbiters.toNat - i)).map (prepK id r a)++(List.range i).map (promK id r a) →
  (w_get w a id).has=true→(w_get w a id).chair=some ⟨r,[],false⟩ →
  (∀ b:Nat,b<c.Arbiters.toNat→(w_get w b id).note.Promised≤r∧(w_get w b id).note.Voted<r)→∃ n',n'≤n+70∧Del (EndV c id r) n' w
 | 0,i,k,m,w,y,hi,h,hk,hm,hl,hh,hch,hp=>by
  obtain ⟨g1,g2⟩:=okC_spec hc
  have hi:i=c.Arbiters.toNat:=by omega
  rw [hi,rng_end,List.nil_append] at hl
  have h0 : ¬ majS c≤((0:Nat):Int):=by have:=(maj_le hc).1; omega
  obtain ⟨n',h1,h2⟩:=del_proms (id:=id) (r:=r) (a:=a) (P:=[]) hc c.Arbiters.toNat 0 (by omega) h (by omega) (by omega) (by
   rw [hl,Nat.sub_zero,← List.range_eq_range',if_neg h0,List.append_nil]) hh (by rw [hch,decide_eq_false h0]) rfl fun b hb=>(hp b hb).1
  exact ⟨n',by omega,h2⟩
 | n+1,i,k,m,w,y,hi,h,hk,hm,hl,hh,hch,hp=>by
  obtain ⟨g1,g2⟩:=okC_spec hc
  have hlt:i<c.Arbiters.toNat:=by omega
  have hroom:w.letters.length≤14:=by
   have:=congrArg List.length hl
   rw [List.length_map,List.length_append,List.length_map,List.length_map,List.length_range,List.length_range'] at this
   omega
  rw [rng_cons hlt,List.cons_append] at hl
  obtain ⟨l,rest,hw,hkl,hrest⟩:=kl_head hl
  simp only [kl,Prod.mk.injEq] at hkl
  obtain ⟨z1,z2,z3,z4,z5⟩:=hkl
  obtain ⟨y1,h1⟩:=h.tail hw
  have hlr:rest.length≤14:=by rw [hw] at hroom; simp at hroom; omega
  have hd:w_get { w with letters:=rest }=w_get w:=rfl
  have hpi:=hp i hlt
  obtain ⟨w',e1,e2,e3⟩:=st_prepare (l:=l) (by omega) (by omega) h1 (by simp only; omega) (by rw [hd,z5,z2,z3]; omega)
  have hr:w_read { w with letters:=rest } l=some w':=by
   unfold w_read
   rw [if_pos z1]; exact e1
  obtain ⟨q1,y2,q2⟩:=del_step hc (by omega) (by omega) h hw hr
  have e2:w'.letters.map kl=rest.map kl++[(2,l.Case,l.Round,l.To,l.From)]:=e2
  rw [z2,z3,z5,z4,hrest,List.append_assoc] at e2
  rw [hd,z5,z2,z3] at e3
  have hg:∀ b,(w_get w' b id).has=(w_get w b id).has∧(w_get w' b id).chair=(w_get w b id).chair∧(w_get w' b id).note.Voted=(w_get w b id).note.Voted∧((w_get w' b id).note.Promised=r∨(w_get w' b id).note.Promised=(w_get w b id).note.Promised):=fun b=>by
   rw [e3]
   unfold upd
   by_cases e:b=(i:Int)∧id=id
   ·rw [if_pos e,e.1]; exact ⟨rfl,rfl,rfl,.inl rfl⟩
   ·rw [if_neg e]; exact ⟨rfl,rfl,rfl,.inr rfl⟩
  obtain ⟨n',n1,n2⟩:=del_preps hc n (i+1) (by omega) q2 (by omega) (by omega) (by rw [e2,rng_last]) (by rw [(hg a).1]; exact hh) (by rw [(hg a).2.1]; exact hch) (fun b hb=>by
   obtain ⟨_,_,x3,x4⟩:=hg b
   have:=hp b hb
   omega)
  exact ⟨n'+1,by omega,Del.cons hc h hw q1 n2⟩
end
section
variable {c:api_Court} {k m:Nat} {w:wWorld} {y:ref09_World} {a id r:Int} {l:api_Letter} {rest:List api_Letter}
theorem cnt_all {p:Nat→Bool}:∀ {n:Nat},(∀ a,a<n→p a=true)→cnt p n=n
 | 0,_=>rfl
 | n+1,h=>by
  unfold cnt
  rw [cnt_all fun a ha=>h a (by omega),if_pos (h n (by omega))]
theorem in_end (hc:okC c=true) (h:EndV c id r w):InEnd c id w:=by
 obtain ⟨hv,k,m,y,hk,hm,h⟩:=h
 obtain ⟨g1,g2⟩:=okC_spec hc
 have hN:0<c.Arbiters.toNat:=by omega
 obtain ⟨v0,v1,v2,v3⟩:=hv 0 0 hN hN
 have vot:∀ t:Nat,∀ v∈(w_get w t id).votes,v∈w.sent∧v.Kind=4∧v.Case=id∧v.To=t:=fun t v hv=>(h.ok.desk t id).votes v hv
 obtain ⟨s1,s2,s3,s4⟩:=vot 0 v0 v1
 have hfm:=fm_all (h.ok.form v0 s1)
 have hrs:=h.bd.sent
 obtain ⟨os,p1,p2⟩:=rul_eq c w.sent (by omega) h.ok.form
 have hall:∀ t:Nat,t<c.Arbiters.toNat→∀ v∈(w_get w t id).votes,v.Round=r→v.Finding=v0.Finding:=fun t ht v hv2 hr=>by
  obtain ⟨q1,q2,q3,q4⟩:=vot t v hv2
  obtain ⟨x,x1,x2,x3⟩:=vote_prop h.ok.law q1 q2
  obtain ⟨z,z1,z2,z3⟩:=vote_prop h.ok.law s1 s2
  rw [q3,hr] at x2
  rw [s3,v3] at z2
  rw [← x3,← z3]
  exact prop_uniq h.ok.law x1 z1 x2 z2
 have hrul:∀ t:Nat,t<c.Arbiters.toNat→∃ o,KnownIs w t o∧o.length≤1000000∧(⟨id,r,v0.Finding⟩:api_Ruling)∈o∧∀ x∈o,x∈os:=fun t ht=>by
  obtain ⟨kk,q1,q2,q3⟩:=known_spec hc (by omega) h (t:Int)
  have hvl:=votes_len (t:Int) w.desks
  have htv:=h.bd.tv
  have hf:∀ x∈votesOf (t:Int) w.desks,x∈w.sent:=fun x hx=>(h.bd.gots x (votes_got h hx).1).1
  obtain ⟨o',o1,o2⟩:=rul_eq c (votesOf (t:Int) w.desks) (by omega) fun x hx=>h.ok.form x (hf x hx)
  have:=q1.2 _ (List.Perm.refl _)
  rw [h.bd.court,o1] at this
  injection this with this
  subst this
  refine ⟨_,q1,by omega,?_,fun x hx=>rul_more (VSub.of_sub hf) o2 p2 hx⟩
  have hin:∀ b:Nat,b<c.Arbiters.toNat→∃ x∈votesOf (t:Int) w.desks,x.Kind=4∧x.From=b∧rulR x=⟨id,r,v0.Finding⟩:=fun b hb=>by
   obtain ⟨v,x1,x2,x3⟩:=hv b t hb ht
   obtain ⟨q1,q2,q3,q4⟩:=vot t v x1
   refine ⟨v,(mem_votes h).2 ⟨by rw [q3]; exact x1,q4⟩,q2,x2,?_⟩
   unfold rulR
   rw [q3,x3,hall t ht v x1 x3]
  refine (o2.mem _).2 ⟨?_,?_⟩
  ·obtain ⟨x,x1,x2,x3,x4⟩:=hin 0 hN
   exact ⟨x,x1,x2,x4⟩
  ·have:vtS c (votesOf (t:Int) w.desks) ⟨id,r,v0.Finding⟩=(c.Arbiters.toNat:Nat):=by
    unfold vtS
    rw [cnt_all fun b hb=>?_]
    obtain ⟨x,x1,x2,x3,x4⟩:=hin b hb
    unfold rulR at x4
    injection x4 with e1 e2 e3
    unfold vtB
    refine List.any_eq_true.2 ⟨x,x1,?_⟩
    simp [ref09_votesFor,x2,e1,e2,e3,x3]
   rw [this]
   exact (maj_le hc).2
 refine ⟨v0.Finding,hfm.2.2.2.2.2.2.1.1,fun b hb=>?_⟩
 have hb:b<c.Arbiters.toNat:=by omega
 obtain ⟨o,o1,o2,o3,o4⟩:=hrul b hb
 exact ⟨o,o1,o2,fun x hx hcs=>onceW hc h.ok.form h.ok.law p2 (o4 x hx) (o4 _ o3) hcs,_,o3,rfl⟩
theorem Del.mono {P Q:wWorld→Prop} (h:∀ w,P w→Q w):∀ {n:Nat} {w:wWorld},Del P n w→Del Q n w
 | 0,w,hd=>⟨hd.1,h w hd.2⟩
 | n+1,w,⟨h1,h2,l,r,h3,w',h4,h5⟩=>⟨h1,h2,l,r,h3,w',h4,Del.mono h h5⟩
theorem prom_prep {P:List api_Letter}:LawTo c P→∀ {y:api_Letter},y∈P→y.Kind=2→∃ p∈P,isK 1 y.Case y.Round p=true:=by
 refine snoc_rec (motive:=fun P=>LawTo c P→∀ {y:api_Letter},y∈P→y.Kind=2→∃ p∈P,isK 1 y.Case y.Round p=true) (fun _ y h=>by cases h) (fun P x ih=>?_) P
 intro hL y hy hk
 obtain ⟨hL1,hL2⟩:=LawTo_snoc.1 hL
 rcases List.mem_append.1 hy with h | h
 ·obtain ⟨p,p1,p2⟩:=ih hL1 h hk
  exact ⟨p,List.mem_append_left _ p1,p2⟩
 ·rw [List.mem_singleton] at h
  subst h
  unfold lawS at hL2
  split at hL2
  ·rename_i ha
   obtain ⟨v,v1,v2⟩:=any_alike.1 ha
   obtain ⟨e1,e2,e3,e4,e5,e6⟩:=said_iff.1 v2
   obtain ⟨p,p1,p2⟩:=ih hL1 v1 (e2.trans hk)
   exact ⟨p,List.mem_append_left _ p1,by rw [← e1,← e3]; exact p2⟩
  ·have n1 : ¬ y.Kind=1:=by omega
   rw [if_neg n1] at hL2
   simp only [Bool.and_eq_true] at hL2
   obtain ⟨p,p1,p2⟩:=List.any_eq_true.1 hL2.1.1.1
   exact ⟨p,List.mem_append_left _ p1,p2⟩
theorem most_ge (w:wWorld) (id:Int):∀ (n:Nat) (b:Nat),b<n→(w_get w b id).note.Opened≤mostS w id n
 | 0,b,h=>by omega
 | n+1,b,h=>by
  unfold mostS
  rcases Nat.lt_or_ge b n with q | q
  ·have:=most_ge w id n b q; omega
  ·have:b=n:=by omega
   subst this
   omega
theorem most_nn (w:wWorld) (id:Int):∀ n:Nat,0≤mostS w id n
 | 0=>Int.le_refl 0
 | n+1=>by have:=most_nn w id n; unfold mostS; omega
theorem prom_most (hc:okC c=true) (h:Nxt c k m w y) (b:Int):(w_get w b id).note.Promised≤mostS w id c.Arbiters.toNat:=by
 obtain ⟨g1,g2⟩:=okC_spec hc
 have hD:=h.ok.desk b id
 have hv:=hD.vle
 have key:∀ p∈w.sent,(p.Kind=1∨p.Kind=3)→p.Case=id→p.Round≤mostS w id c.Arbiters.toNat:=fun p hp hk hcs=>by
  have hf:=(fm_all (h.ok.form p hp)).2.2.2.1
  have:=(h.ok.desk p.From id).opn p hp hk hcs rfl
  have e:p.From=((p.From.toNat:Nat):Int):=by omega
  rw [e] at this
  have:=most_ge w id c.Arbiters.toNat p.From.toNat (by omega)
  omega
 rcases Int.lt_or_le (w_get w b id).note.Voted (w_get w b id).note.Promised with q | q
 ·obtain ⟨z,z1,z2,z3,z4,z5,_⟩:=hD.prom q
  obtain ⟨p,p1,p2⟩:=prom_prep h.ok.law z1 z2
  obtain ⟨k1,k2,k3⟩:=isK_iff.1 p2
  rw [← z5,← k3]
  exact key p p1 (.inl k1) (k2.trans z3)
 ·rcases last_mem w.sent b id with e | ⟨z,z1,z2,z3,z4,z5,z6,z7⟩
  ·have:=hD.last
   rw [e] at this
   injection this with e1 e2
   have:=most_nn w id c.Arbiters.toNat
   omega
  ·rw [hD.last] at z5
   obtain ⟨p,p1,p2,p3⟩:=vote_prop h.ok.law z1 z2
   obtain ⟨k1,k2,k3⟩:=isK_iff.1 p2
   have:=key p p1 (.inr k1) (k2.trans z3)
   simp only at z5
   omega
theorem st_open (hc:okC c=true) (hk:k≤3900) (hm:m≤3900) (h:Nxt c k m w y) (hl:w.letters=[]) (ha:0≤a∧a<c.Arbiters) (hid:inI id 1 1099511627776=true):∃ f,w_do w ⟨2,a,id,0,0⟩=some f∧(f.2=2∨f.2=0∧∃ r,f.1.letters.map kl=(List.range c.Arbiters.toNat).map (prepK id r a)∧w_get f.1=upd (w_get w) a id { w_get w a id with note:={ (w_get w a id).note with Opened:=r },chair:=some ⟨r,[],false⟩ }):=by
 have hdo:w_do w ⟨2,a,id,0,0⟩=w_open w ⟨2,a,id,0,0⟩:=by
  unfold w_do doR
  rw [if_neg (by simp)]
  rfl
 have hcw:=h.bd.court
 have hgw:=(get_at (w:=w) (a:=a) (id:=id)).1
 have hp:=(get_at (w:=w) (a:=a) (id:=id)).2
 have hA:=h.at_ a id
 obtain ⟨e1,e2,e3,e4,e5⟩:=at_same w a id
 have hD:=h.ok.desk a id
 have hv:=hD.vle
 have ho:=hD.op
 have hin:inI a 0 (c.Arbiters - 1)=true:=inI_spec.2 ⟨ha.1,by omega⟩
 have hcond:(!arbiter_judge w.court a || !arbiter_topic id)=false:=by
  rw [hcw,judge_eq hc]
  unfold arbiter_topic
  rw [within_eq,hin,hid]; rfl
 rw [hdo]
 unfold w_open
 simp only [hcond,Bool.false_eq_true,if_false]
 rw [wfull_eq id (by have:=h.bd.few; omega),Option.bind_some]
 cases hf:(!decide (id∈w.cases)&&decide (40≤(w.cases.length:Int))) with
 | true=>exact ⟨(w,2),rfl,.inl rfl⟩
 | false =>
  simp only [Bool.false_eq_true,if_false]
  rw [hgw,hA.bd.court]
  generalize hd:w_get w a id=d at *
  have hmx:0≤max d.note.Promised d.note.Opened∧max d.note.Promised d.note.Opened≤1048576:=by omega
  rw [next_eq hc ha.1 ha.2 hmx.1 hmx.2,Option.bind_some]
  by_cases hr:1048576<nxtS c a (max d.note.Promised d.note.Opened)
  ·rw [if_pos hr]
   exact ⟨(_,2),rfl,.inl rfl⟩
  ·rw [if_neg hr]
   generalize nxtS c a (max d.note.Promised d.note.Opened)=r at *
   rw [wname_eq (by rw [e5]; exact h.bd.cases) (by rw [e5]; have:=h.bd.few; omega),Option.bind_some]
   have h2:=hA.name (id:=id) hid (by rw [e5]; exact hf)
   obtain ⟨ne,le⟩:=allI_ne hc
   obtain ⟨q1,q2,q3⟩:=put_send (a:=a) (id:=id) (l:=⟨0,id,1,r,a,0,0,0⟩) (d:={ d with note:={ d.note with Opened:=r },chair:=some ⟨r,[],false⟩ }) h2 (by omega) (by omega) hp (by
    have:w_get { w_at w a id with cases:=nmC (w_at w a id).cases id }=w_get (w_at w a id):=rfl
    rw [this,hgw,hd]) (allI c) le (by show (w_at w a id).letters.length+_≤200; rw [e3,hl]; simp; omega)
   have hall:w_all { w_at w a id with cases:=nmC (w_at w a id).cases id }=allI c:=all_eq h2.bd.court
   rw [hall]
   refine ⟨(_,0),by rw [q1]; rfl,.inr ⟨rfl,r,?_,?_⟩⟩
   ·show (sendsP _ _ _).letters.map kl=_
    rw [q2,allI_map]
    show (w_at w a id).letters.map kl++_=_
    rw [e3,hl]; rfl
   ·show w_get (sendsP _ _ _)=_
    rw [q3]
    have:w_get { w_at w a id with cases:=nmC (w_at w a id).cases id }=w_get (w_at w a id):=rfl
    rw [this,hgw]
theorem lose_eq (hl:w.letters=l :: rest) (hn:w.letters.length≤4000):w_do w ⟨4,0,0,0,l.ID⟩=some ({ w with letters:=rest },0):=by
 have e:w_do w ⟨4,0,0,0,l.ID⟩=w_lose w ⟨4,0,0,0,l.ID⟩:=by
  unfold w_do doR
  rw [if_neg (by simp)]
  rfl
 have e2:ixOf (fun x:api_Letter=>decide (x.ID=l.ID)) w.letters=((0:Nat):Int):=by
  unfold ixOf
  rw [hl,List.findIdx?_cons]
  simp
 have e3 : ¬ (((0:Nat):Int)<0):=by omega
 rw [e]
 unfold w_lose w_take
 simp only
 rw [find_eq l.ID hn,e2,Option.bind_some,if_neg e3,ix_nat (by rw [hl]; simp),Option.bind_some]
 simp only [hl,List.getElem_cons_zero,if_true,Option.bind_some,Int.toNat_natCast,List.eraseIdx_cons_zero]
theorem lose_all (hc:okC c=true) {P:wWorld→Prop}:∀ (L:List api_Letter) {w:wWorld} {y:ref09_World},Nxt c k m w y→w.letters=L→(∀ {w2 y2},Nxt c k m w2 y2→w2.letters=[]→w_get w2=w_get w→P w2)→Lose P L w
 | [],w,y,h,hl,hP=>hP h hl rfl
 | l :: r,w,y,h,hl,hP=>by
  have hroom:=h.bd.room
  obtain ⟨y2,h2⟩:=h.tail hl
  refine ⟨by rw [h.bd.court]; have:=okC_spec hc; omega,by omega,_,lose_eq hl (by omega),lose_all hc r h2 rfl fun q1 q2 q3=>hP q1 q2 (q3.trans rfl)⟩
theorem end_law (hc:okC c=true) (hk:k≤2000) (hm:m≤2000) (h:Nxt c k m w y) (ha:0≤a∧a<c.Arbiters):EndLaw c a id w:=by
 intro hh
 obtain ⟨g1,g2⟩:=okC_spec hc
 have hid:=((h.ok.desk a id).wish hh).2.2
 refine ⟨by have:=h.bd.room; omega,lose_all hc _ h rfl fun {w2 y2} h2 hl hg=>?_⟩
 obtain ⟨f,f1,f2⟩:=st_open (id:=id) hc (by omega) (by omega) h2 hl ha hid
 refine ⟨f,f1,by rw [h2.bd.court]; omega,by rw [hl]; simp,?_,fun he hmost=>?_⟩
 ·rcases f2 with q | ⟨q,_⟩
  ·exact .inr q
  ·exact .inl q
 ·rcases f2 with q | ⟨_,r,q1,q2⟩
  ·omega
  ·obtain ⟨w3,y3,e3,p1,p2,p3⟩:=do_spec hc (by omega) (by omega) h2 ⟨2,a,id,0,0⟩
   rw [f1] at p1
   injection p1 with p1
   subst p1
   rw [q2,hg] at hmost
   have hr:mostS w id c.Arbiters.toNat<r:=by
    unfold upd at hmost
    rw [if_pos ⟨rfl,rfl⟩] at hmost
    exact hmost
   have hga:w_get w3 a id = { w_get w a id with note:={ (w_get w a id).note with Opened:=r },chair:=some ⟨r,[],false⟩ }:=by
    show w_get (w3,e3).1 a id=_
    rw [q2,hg]; unfold upd; rw [if_pos ⟨rfl,rfl⟩]
   have hnt:∀ b:Int,(w_get w3 b id).note.Promised=(w_get w b id).note.Promised∧(w_get w3 b id).note.Voted=(w_get w b id).note.Voted:=fun b=>by
    show (w_get (w3,e3).1 b id).note.Promised=_∧_
    rw [q2,hg]
    unfold upd
    split
    ·rename_i e; rw [e.1]; exact ⟨rfl,rfl⟩
    ·exact ⟨rfl,rfl⟩
   obtain ⟨n',n1,n2⟩:=del_preps (id:=id) (r:=r) (a:=a) hc c.Arbiters.toNat 0 (by omega) p3 (by omega) (by omega) (by
    rw [q1,Nat.sub_zero,← List.range_eq_range']
    simp) (by rw [hga]; exact hh) (by rw [hga]) fun b hb=>by
     obtain ⟨x1,x2⟩:=hnt b
     have:=prom_most (id:=id) hc h (b:Int)
     have:=((h.ok.desk (b:Int) id).vle)
     rw [x1,x2]
     omega
   exact ⟨n',by omega,Del.mono (fun w hw=>in_end hc hw) n2⟩
theorem end_good (c:api_Court) (acts:List api_Act) (who id:Int) (hw:0≤who∧who≤255):EndGood c acts who id:=by
 refine ⟨⟨_,_,san_good⟩,fun hl hc=>?_⟩
 have hc:okC c=true:=by
  rw [Check_eq] at hc
  unfold chkS at hc
  split at hc
  ·assumption
  ·cases hc
 obtain ⟨g1,g2⟩:=okC_spec hc
 have hrem:rem (w64 who) c.Arbiters=some (who % c.Arbiters):=by
  rw [w64_id (by omega) (by omega)]
  unfold rem
  rw [if_neg (by omega),Int.tmod_eq_emod_of_nonneg hw.1]
 have ha:0≤who % c.Arbiters∧who % c.Arbiters<c.Arbiters:=⟨Int.emod_nonneg _ (by omega),Int.emod_lt_of_pos _ (by omega)⟩
 exact ⟨by omega,_,hrem,run_to hc 280 80 (by decide) (by decide) (fun h=>end_law hc (by decide) (by decide) h ha) acts (by omega) (by omega) (new_spec hc)⟩
end
end Go.Mx
