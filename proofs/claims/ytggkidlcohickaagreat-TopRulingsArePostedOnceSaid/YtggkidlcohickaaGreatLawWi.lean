/- Part of the proof of TopRulingsArePostedOnce: plain laws about the functions of M, no program in sight. Conditions: none. -/
import Derived.Test.YtggkidlcohickaaGreatLawWg
import Derived.Test.YtggkidlcohickaaGreatLawZj
set_option linter.unusedVariables false
set_option linter.unusedSimpArgs false
namespace Go.Mx
section
variable {c:zD} {k m:Nat} {w:zN} {y:zH} {a id:Int} {d:zT} {l:zA}
theorem zOP (L:List zA) (hl:L.length≤4000) (l:zA):zZ L l=some (L.any fun x=>decide (x.From=l.From)):=by
 unfold zZ zy
 rw [YN (fun x=>decide (x.From=l.From)) L hl (fun i hi=>by
  unfold zk
  simp only [dlt hi,if_true,Zf hi,Option.bind_some,w64i hi hl,jR]
  split <;> rfl) (by
  unfold zk
  simp [dge,zY])]
 simp only [Option.bind_some,zCQ]
theorem zOO (L:List zA) (hl:L.length≤4000) (l:zA):zg L l=some (L.any fun x=>decide (x.From=l.From)&&decide (x.Round=l.Round)):=by
 unfold zg ZH
 rw [YN (fun x=>decide (x.From=l.From)&&decide (x.Round=l.Round)) L hl (fun i hi=>by
  unfold zx
  simp only [dlt hi,if_true,Zf hi,Option.bind_some,w64i hi hl,jo]
  split <;> rfl) (by
  unfold zx
  simp [dge,ze])]
 simp only [Option.bind_some,zCQ]
theorem Nxt.one (h:Nxt c k m w y) (hc:okC c=true) (hk:k≤3980) (hm:m≤3980) (hp:(Z7 w a id).isSome=true) (hv:d.votes=(ZP w a id).votes) (t:Int) (hform:∀ n,0≤n→n≤1099511627776→fmB c (mkL l t n)=true) (hnew:∀ x,Alk x l→fmB c x=true→lawS c w.sent x=true∧jJ c (w.sent++[x]) a id d) (hl:l.From=a∧l.Case=id):yx l [t] (j6 w a id d)=some (y9 l [t] (j6 w a id d))∧QU { y with Seats:=putS y.Seats (ZC a id d) } { l with To:=t }=some (rsends l [t] { y with Seats:=putS y.Seats (ZC a id d) })∧Nxt c (k+7) (m+1) (y9 l [t] (j6 w a id d)) (rsends l [t] { y with Seats:=putS y.Seats (ZC a id d) }):=by
 have hB:=h.bd.put (d:=d) hp hv
 refine ⟨zDt l [t] hB.num (by have:=hB.sent; simp only [List.length_singleton]; omega) hB.room,?_,hB.sends (by simp),?_⟩
 ·rw [zGG _ (by simp only; rw [h.bd.rel.num,h.bd.rel.all]; exact h.bd.num) (by simp only; rw [h.bd.rel.all]; have:=h.bd.sent; omega) (by simp only; rw [h.bd.rel.way]; exact h.bd.room)]
  unfold rsends
  rw [List.foldl_cons,List.foldl_nil]
  rfl
 ·rw [zC2,get_put hp]
  refine zBJ (w:=j6 w a id d) hB.num (by have:=hB.sent; omega) (by simp) (by simp) (fun t' ht n n1 n2=>?_) fun x hx hfx=>?_
  ·rw [List.mem_singleton] at ht; subst ht; exact hform n n1 n2
  ·obtain ⟨e1,e2,e3,e4,e5,e6⟩:=jF.1 hx
   obtain ⟨n1,n2⟩:=hnew x hx hfx
   have hnew:=h.ok.new (d:=d) hfx n1 (by rw [e4,e1,hl.1,hl.2]; exact n2)
   rw [e4,e1,hl.1,hl.2] at hnew
   exact hnew
theorem zIW (hc:okC c=true) (hk:k≤3970) (hm:m≤3970) (h:Nxt c k m w y) (hl:l∈w.sent) (hK:l.Kind=1):∃ w' y',qF w l=some w'∧Jt y l=some y'∧Nxt c (k+7) (m+2) w' y':=by
 have hf:=Q0 (h.ok.form l hl)
 have hfrom:=zIq (h.ok.form l hl) (.inl hK)
 have h1:=h.at_ l.To l.Case
 have hp:=(get_at (w:=w) (a:=l.To) (id:=l.Case)).2
 have hgw:=(get_at (w:=w) (a:=l.To) (id:=l.Case)).1
 obtain ⟨e1,e2,e3,e4,e5⟩:=zAW w l.To l.Case
 unfold qF Jt
 simp only
 rw [zCk y (by have:=h.bd.seats; omega),Option.bind_some,h.bd.rel.seat,hgw]
 generalize hw1:w_at w l.To l.Case=w1 at *
 generalize hd:ZP w l.To l.Case=d at *
 have hdw:ZP w1 l.To l.Case=d:=by rw [hgw]; exact hd
 obtain ⟨s1,s2,s3,s4,s5⟩:=zAp l.To l.Case d
 simp only [hK,decide_true,if_true,s1]
 by_cases hg:l.Round<d.note.Promised∨l.Round≤d.note.Voted
 ·rw [if_pos hg,if_pos (by simpa using hg)]
  exact ⟨_,_,rfl,rfl,h1.mono (by omega) (by omega)⟩
 ·rw [if_neg hg,if_neg (by simpa using hg)]
  have hD:=h1.ok.desk l.To l.Case
  rw [hdw] at hD
  have hv:=hD.vle
  have hseat:(⟨(ZC l.To l.Case d).Arbiter,(ZC l.To l.Case d).Case,(⟨l.Round,d.note.Voted,d.note.Finding,d.note.Opened⟩:QL),(ZC l.To l.Case d).Wish,(ZC l.To l.Case d).Wishes,(ZC l.To l.Case d).Round,(ZC l.To l.Case d).List,(ZC l.To l.Case d).Proposed⟩:zS)=ZC l.To l.Case { d with note:={ d.note with Promised:=l.Round } }:=by
   unfold ZC
   cases d.chair <;> rfl
  rw [hseat,zCl y (by have:=h.bd.seats; omega)]
  simp only [Option.bind_some]
  obtain ⟨q1,q2,q3⟩:=h1.one (a:=l.To) (id:=l.Case) (d:={ d with note:={ d.note with Promised:=l.Round } }) (l:=⟨0,l.Case,2,l.Round,l.To,0,d.note.Voted,d.note.Finding⟩) hc (by omega) (by omega) hp (by rw [hdw]) l.From (fun n n1 n2=>by
   refine zJ6 hc hf.2.1 hf.2.2.1 ⟨hf.2.2.2.2.1.1,by have:=hf.2.2.2.2.1.2; simp only; omega⟩ ⟨hf.2.2.2.1.1,by have:=hf.2.2.2.1.2; omega⟩ ⟨n1,n2⟩ ⟨hD.fin.1,hD.fin.2.1⟩ ?_
   unfold kdB mkL
   have hch:zAA c l.Round=l.From:=by rw [zC7 hc hf.2.2.1]; exact hfrom.symm
   have hin:inI d.note.Voted 0 (l.Round - 1)=true:=jQ.2 ⟨hv.1,by omega⟩
   have hfi:(decide (0<d.note.Voted)||decide (d.note.Finding=0))=true:=by
    by_cases q:0<d.note.Voted
    ·simp [q]
    ·have:=hD.fin.2.2 (by omega)
     simp [this]
   simp [hch,hin,hfi]) (fun z hz hfz=>by
   obtain ⟨z1,z2,z3,z4,z5,z6⟩:=jF.1 hz
   simp only at z1 z2 z3 z4 z5 z6
   have hr:d.note.Promised≤z.Round:=by omega
   refine ⟨zJn hD z2 z1 z4 hr (by omega) z5 z6 ⟨l,by rw [e4]; exact hl,zBT.2 ⟨hK,rfl,z3.symm⟩⟩,?_⟩
   have:=hD.promise z2 z1 z4 hr (by have:=hf.2.2.1.2; omega) z5 z6
   rw [z3] at this
   exact this) ⟨rfl,rfl⟩
  simp only at q2
  rw [q1,q2]
  exact ⟨_,_,rfl,rfl,q3.mono (by omega) (by omega)⟩
theorem zHM (hc:okC c=true) (hk:k≤3970) (hm:m≤3970) (h:Nxt c k m w y) (hl:l∈w.sent) (hK:l.Kind=3):∃ w' y',QP w l=some w'∧Jt y l=some y'∧Nxt c (k+7) (m+2) w' y':=by
 have hf:=Q0 (h.ok.form l hl)
 have h1:=h.at_ l.To l.Case
 have hp:=(get_at (w:=w) (a:=l.To) (id:=l.Case)).2
 have hgw:=(get_at (w:=w) (a:=l.To) (id:=l.Case)).1
 obtain ⟨e1,e2,e3,e4,e5⟩:=zAW w l.To l.Case
 unfold QP Jt
 simp only
 rw [zCk y (by have:=h.bd.seats; omega),Option.bind_some,h.bd.rel.seat,hgw]
 generalize hw1:w_at w l.To l.Case=w1 at *
 generalize hd:ZP w l.To l.Case=d at *
 have hdw:ZP w1 l.To l.Case=d:=by rw [hgw]; exact hd
 obtain ⟨s1,s2,s3,s4,s5⟩:=zAp l.To l.Case d
 have n1 : ¬ ((3:Int)=1):=by decide
 have n2 : ¬ ((3:Int)=2):=by decide
 simp only [hK,n1,n2,decide_false,Bool.false_eq_true,if_false,decide_true,if_true,s1]
 by_cases hg:l.Round<d.note.Promised
 ·simp only [hg,decide_true,if_true]
  exact ⟨_,_,rfl,rfl,h1.mono (by omega) (by omega)⟩
 ·simp only [hg,decide_false,Bool.false_eq_true,if_false]
  have hD:=h1.ok.desk l.To l.Case
  rw [hdw] at hD
  have hv:=hD.vle
  have hseat:(⟨(ZC l.To l.Case d).Arbiter,(ZC l.To l.Case d).Case,(⟨l.Round,l.Round,l.Finding,d.note.Opened⟩:QL),(ZC l.To l.Case d).Wish,(ZC l.To l.Case d).Wishes,(ZC l.To l.Case d).Round,(ZC l.To l.Case d).List,(ZC l.To l.Case d).Proposed⟩:zS)=ZC l.To l.Case { d with note:={ d.note with Promised:=l.Round,Voted:=l.Round,Finding:=l.Finding } }:=by
   unfold ZC
   cases d.chair <;> rfl
  rw [hseat,zCl y (by have:=h.bd.seats; omega)]
  simp only [Option.bind_some]
  have hl1:l∈w1.sent:=by rw [e4]; exact hl
  obtain ⟨q1,q2,q3⟩:=h1.all (a:=l.To) (id:=l.Case) (d:={ d with note:={ d.note with Promised:=l.Round,Voted:=l.Round,Finding:=l.Finding } }) (l:=⟨0,l.Case,4,l.Round,l.To,0,0,l.Finding⟩) hc (by omega) (by omega) hp (by rw [hdw]) (fun t ht n n1 n2=>by
   refine zJ6 hc hf.2.1 hf.2.2.1 ⟨hf.2.2.2.2.1.1,by have:=hf.2.2.2.2.1.2; simp only; omega⟩ (zHD ht) ⟨n1,n2⟩ hf.2.2.2.2.2.2.1 ?_
   unfold kdB mkL
   simp) (fun z hz hfz=>by
   obtain ⟨z1,z2,z3,z4,z5,z6⟩:=jF.1 hz
   simp only at z1 z2 z3 z4 z5 z6
   have hr:d.note.Promised≤z.Round:=by omega
   have hpl:∃ y∈w1.sent,isK 3 l.Case z.Round y=true∧y.Finding=z.Finding:=⟨l,hl1,zBT.2 ⟨hK,rfl,z3.symm⟩,z6.symm⟩
   refine ⟨zOC hD h1.ok.law h1.ok.form z2 z1 z4 hr (by have:=hf.2.2.1.1; omega) z5 hpl,?_⟩
   rcases Int.lt_or_le d.note.Voted z.Round with q | q
   ·have:=hD.vote z2 z1 z4 hr (by have:=hf.2.2.1.2; omega) q (by rw [z6]; exact hf.2.2.2.2.2.2.1)
    rw [z3,z6] at this
    exact this
   ·have hvr:d.note.Voted=z.Round:=by omega
    obtain ⟨o1,o2⟩:=zJB hD h1.ok.law h1.ok.form z2 z1 z4 hvr (by have:=hf.2.2.1.1; omega) z5 hpl
    have:=hD.alike o1
    have e:({ d with note:={ d.note with Promised:=l.Round,Voted:=l.Round,Finding:=l.Finding } }:zT)=d:=by
     obtain ⟨⟨p1,p2,p3,p4⟩,_,_,_,_⟩:=d
     simp only at hvr o2 hr hv ⊢
     have a1:l.Round=p1:=by omega
     have a2:l.Round=p2:=by omega
     have a3:l.Finding=p3:=by omega
     rw [a3,← a1]
     congr 2
    rw [e]
    exact this) ⟨rfl,rfl⟩
  rw [q1,q2]
  exact ⟨_,_,rfl,rfl,q3.mono (by omega) (by omega)⟩
theorem zOZ {α ρ:Type} (p:α→Bool) (L:List α) (hl:L.length≤4000) {body:Int→Option (Int ⊕ ρ)} (r:ρ) (h:L.any p=true)
  (step:∀ (i:Nat) (h:i<L.length),body (i:Int)=some (if p L[i]=true then .inr r else .inl ((i+1:Nat):Int))):Lp body fuel 0=some r:=by
 cases hf:L.findIdx? p with
 | none =>
  obtain ⟨x,h1,h2⟩:=List.any_eq_true.1 h
  rw [List.findIdx?_eq_none_iff.1 hf x h1] at h2
  cases h2
 | some i0 =>
  obtain ⟨hi,h1,h2⟩:=List.findIdx?_eq_some_iff_getElem.1 hf
  suffices h:∃ s,Lp body fuel 0=some s∧s=r by obtain ⟨s,h,rfl⟩:=h; exact h
  refine lp_inv' (fun (i:Nat) (s:Int)=>s=(i:Int)) (fun s=>s=r) i0 (by omega) rfl fun i s hi' hI=>?_
  subst hI
  by_cases hlt:i<i0
  ·have:=h2 i hlt
   refine .inl ⟨hlt,_,?_,rfl⟩
   rw [step i (by omega),if_neg (by simpa using this)]
  ·have e:i=i0:=by omega
   subst e
   exact .inr ⟨r,by rw [step i hi,if_pos h1],rfl⟩
theorem zIU (hc:okC c=true) (hk:k≤3970) (hm:m≤3970) (h:Nxt c k m w y) (hl:l∈w.sent) (hK:l.Kind=2):∃ w' y',qE w l=some w'∧Jt y l=some y'∧Nxt c (k+7) (m+2) w' y':=by
 have hf:=Q0 (h.ok.form l hl)
 have h1:=h.at_ l.To l.Case
 have hp:=(get_at (w:=w) (a:=l.To) (id:=l.Case)).2
 have hgw:=(get_at (w:=w) (a:=l.To) (id:=l.Case)).1
 obtain ⟨e1,e2,e3,e4,e5⟩:=zAW w l.To l.Case
 unfold qE Jt
 simp only
 rw [zCk y (by have:=h.bd.seats; omega),Option.bind_some,h.bd.rel.seat,hgw]
 generalize hw1:w_at w l.To l.Case=w1 at *
 generalize hd:ZP w l.To l.Case=d at *
 have hdw:ZP w1 l.To l.Case=d:=by rw [hgw]; exact hd
 have n1 : ¬ ((2:Int)=1):=by decide
 simp only [hK,n1,decide_false,Bool.false_eq_true,if_false,decide_true,if_true]
 have hD:=h1.ok.desk l.To l.Case
 rw [hdw] at hD
 cases hch:d.chair with
 | none =>
  have hr : ¬ (0:Int)=l.Round:=by have:=hf.2.2.1.1; omega
  unfold ZC
  simp only [hch,hr,decide_false,Bool.not_false,if_true]
  exact ⟨_,_,rfl,rfl,h1.mono (by omega) (by omega)⟩
 | some ch =>
  have hC:=hD.chair ch hch
  have hs:ZC l.To l.Case d=⟨l.To,l.Case,d.note,d.wish,d.has,ch.round,ch.promises,ch.proposed⟩:=by unfold ZC; rw [hch]
  rw [hs]
  simp only
  by_cases hr:ch.round=l.Round
  ·obtain ⟨r0,Pm,pr⟩:=ch
   simp only at hr hC ⊢
   subst hr
   simp only [decide_true,Bool.not_true,Bool.false_eq_true,if_false,ne_eq,not_true]
   have hfew:=zLd hc h1.ok.law h1.ok.form hC
   simp only at hfew
   have hstep:∀ (i:Nat) (hi:i<Pm.length),YW y l ⟨l.To,l.Case,d.note,d.wish,d.has,l.Round,Pm,pr⟩ (i:Int)=some (if decide (Pm[i].From=l.From)=true then .inr y else .inl ((i+1:Nat):Int)):=fun i hi=>by
    unfold YW
    simp only [dlt hi,if_true,Zf hi,Option.bind_some,w64i hi (by omega:Pm.length≤4000)]
    split <;> rfl
   rw [zOP Pm (by omega),Option.bind_some]
   cases ha:(Pm.any fun x=>decide (x.From=l.From)) with
   | true =>
    simp only [if_true]
    rw [zOZ (fun x=>decide (x.From=l.From)) Pm (by omega) y ha hstep]
    exact ⟨_,_,rfl,rfl,h1.mono (by omega) (by omega)⟩
   | false =>
    simp only [Bool.false_eq_true,if_false]
    rw [Zk (by simp; omega),Option.bind_some]
    have hl1:l∈w1.sent:=by rw [e4]; exact hl
    have h3:=h1.put (a:=l.To) (id:=l.Case) (d:={ d with chair:=some ⟨l.Round,Pm++[l],pr⟩ }) hp (by rw [hdw]) ⟨hD.last,hD.vle,hD.said,hD.prom,hD.fin,hD.op,hD.opn,fun ch' hc' => by
     simp only [Option.some.injEq] at hc'
     subst hc'
     refine ⟨hC.r1,hC.r2,hC.mod,fun p hp=>?_,?_,hC.fresh⟩
     ·rcases List.mem_append.1 hp with q | q
      ·exact hC.prom p q
      ·rw [List.mem_singleton.1 q]; exact ⟨hl1,hK,rfl,rfl⟩
     ·simp only [List.map_append,List.map_cons,List.map_nil]
      rw [List.nodup_append]
      refine ⟨hC.nd,by simp,fun f hf g hg e=>?_⟩
      rw [List.mem_singleton] at hg
      obtain ⟨p,hp,rfl⟩:=List.mem_map.1 hf
      have:=List.any_eq_false.1 ha p hp
      exact this (by rw [decide_eq_true_eq]; rw [e,hg]),hD.wish,hD.votes⟩
    have hseat:(⟨l.To,l.Case,d.note,d.wish,d.has,l.Round,Pm++[l],pr⟩:zS)=ZC l.To l.Case { d with chair:=some ⟨l.Round,Pm++[l],pr⟩ }:=rfl
    have hpp:(Z7 (j6 w1 l.To l.Case { d with chair:=some ⟨l.Round,Pm++[l],pr⟩ }) l.To l.Case).isSome=true:=by
     unfold j6 Z7
     simp only
     rw [zEI hp,if_pos rfl]; rfl
    obtain ⟨w',y',p1,p2,p3,p4⟩:=zD8 hc (by omega) (by omega) h3.bd h3.ok hpp ⟨hf.2.2.2.2.1.1,by have:=hf.2.2.2.2.1.2; omega⟩ hf.2.1
    have hgg:ZP (j6 w1 l.To l.Case { d with chair:=some ⟨l.Round,Pm++[l],pr⟩ }) l.To l.Case = { d with chair:=some ⟨l.Round,Pm++[l],pr⟩ }:=by
     rw [get_put hp]; unfold upd; rw [if_pos ⟨rfl,rfl⟩]
    rw [hgg] at p2
    have hj:zAb y l ⟨l.To,l.Case,d.note,d.wish,d.has,l.Round,Pm,pr⟩=some y':=by
     unfold zAb
     simp only
     rw [Zk (by simp; omega),Option.bind_some,List.nil_append,Zk (by simp; omega),Option.bind_some,hseat,zCl y (by have:=h.bd.seats; omega)]
     simp only [Option.bind_some]
     rw [p2]; rfl
    have hlast:YW y l ⟨l.To,l.Case,d.note,d.wish,d.has,l.Round,Pm,pr⟩ (Pm.length:Int)=some (.inr y'):=by
     unfold YW
     simp only [dge,Bool.false_eq_true,if_false]
     rw [hj]; rfl
    rw [zA8 (fun x=>decide (x.From=l.From)) Pm (by omega) (fun _=>y) y' hstep hlast]
    have hnone:Pm.findIdx? (fun x=>decide (x.From=l.From))=none:=by
     rw [List.findIdx?_eq_none_iff]
     intro x hx
     have:=List.any_eq_false.1 ha x hx
     simpa using this
    rw [hnone,p1]
    exact ⟨w',y',rfl,rfl,⟨p3.mono (by omega) (by omega),p4⟩⟩
  ·simp only [hr,decide_false,Bool.not_false,if_true,ne_eq,not_false_eq_true]
   exact ⟨_,_,rfl,rfl,h1.mono (by omega) (by omega)⟩
end
section
variable {c:zD} {k m:Nat} {w:zN} {y:zH} {a id:Int} {d:zT} {l:zA}
theorem zEf (L:List zA) (x:zA):ddV (L++[x])=ddF2 (ddV L) x:=by simp [ddV,List.foldl_append]
theorem zIx (L:List zA):∀ x∈ddV L,x∈L:=by
 refine yT (motive:=fun L => ∀ x∈ddV L,x∈L) (fun x h=>by cases h) (fun L x ih=>?_) L
 intro z hz
 rw [zEf] at hz
 unfold ddF2 at hz
 split at hz
 ·exact List.mem_append_left _ (ih z hz)
 ·rcases List.mem_append.1 hz with q | q
  ·exact List.mem_append_left _ (ih z q)
  ·exact List.mem_append_right _ q
theorem ddV_len (L:List zA):(ddV L).length≤L.length:=by
 refine yT (motive:=fun L=>(ddV L).length≤L.length) (Nat.le_refl _) (fun L x ih=>?_) L
 rw [zEf]
 unfold ddF2
 split
 ·simp; omega
 ·simp; omega
theorem zMZ (hc:okC c=true) (hk:k≤3970) (hm:m≤3970) (h:Nxt c k m w y) (hl:l∈w.sent) (hK:l.Kind=4):∃ w' y',zEv w l=some w'∧Jt y l=some y'∧Nxt c (k+7) (m+2) w' y':=by
 have hf:=Q0 (h.ok.form l hl)
 have h1:=h.at_ l.To l.Case
 have hp:=(get_at (w:=w) (a:=l.To) (id:=l.Case)).2
 have hgw:=(get_at (w:=w) (a:=l.To) (id:=l.Case)).1
 obtain ⟨e1,e2,e3,e4,e5⟩:=zAW w l.To l.Case
 unfold zEv Jt
 simp only
 rw [zCk y (by have:=h.bd.seats; omega),Option.bind_some]
 have hgotl:=h.bd.gotl
 generalize hw1:w_at w l.To l.Case=w1 at *
 generalize hd:ZP w1 l.To l.Case=d at *
 have n1 : ¬ ((4:Int)=1):=by decide
 have n2 : ¬ ((4:Int)=2):=by decide
 have n3 : ¬ ((4:Int)=3):=by decide
 simp only [hK,n1,n2,n3,decide_false,Bool.false_eq_true,if_false]
 have a1:app ([]:List zA) y.Got=some y.Got:=by rw [Zk (by simp; omega)]; rfl
 have a2:app y.Got [l]=some (y.Got++[l]):=Zk (by simp; omega)
 rw [a1,Option.bind_some,a2,Option.bind_some]
 have hD:=h1.ok.desk l.To l.Case
 rw [hd] at hD
 have hgot:=h1.bd.rel.got l.To l.Case
 rw [hd] at hgot
 have hvl:d.votes.length≤m:=by
  have:=ddV_len (y.Got.filter (gotF l.To l.Case))
  have:=List.length_filter_le (gotF l.To l.Case) y.Got
  rw [hgot]; omega
 have hself:gotF l.To l.Case l=true:=by simp [gotF]
 have hfil:∀ a' id',ddV ((y.Got++[l]).filter (gotF a' id'))=if a'=l.To∧id'=l.Case then ddF2 (ddV (y.Got.filter (gotF a' id'))) l else ddV (y.Got.filter (gotF a' id')):=fun a' id' => by
  rw [List.filter_append]
  by_cases e:a'=l.To∧id'=l.Case
  ·rw [if_pos e,e.1,e.2,List.filter_cons_of_pos hself,List.filter_nil,zEf]
  ·rw [if_neg e]
   have:gotF a' id' l=false:=by
    unfold gotF
    cases q:decide (l.To=a') with
    | false=>rfl
    | true =>
     cases q2:decide (l.Case=id') with
     | false=>rfl
     | true=>exact absurd ⟨(of_decide_eq_true q).symm,(of_decide_eq_true q2).symm⟩ e
   rw [List.filter_cons_of_neg (by rw [this]; decide),List.filter_nil,List.append_nil]
 have hgs:∀ g∈y.Got++[l],g∈w1.sent∧g.Kind=4:=fun g hg=>by
  rcases List.mem_append.1 hg with q | q
  ·exact h1.bd.gots g q
  ·rw [List.mem_singleton.1 q,e4]; exact ⟨hl,hK⟩
 rw [zOO d.votes (by omega),Option.bind_some]
 cases ha:(d.votes.any fun x=>decide (x.From=l.From)&&decide (x.Round=l.Round)) with
 | true =>
  simp only [if_true]
  refine ⟨_,_,rfl,rfl,⟨h1.bd.court,h1.bd.way,h1.bd.num,h1.bd.keys,h1.bd.cases,h1.bd.few,h1.bd.room,⟨h1.bd.rel.C,h1.bd.rel.named,h1.bd.rel.way,h1.bd.rel.all,h1.bd.rel.num,h1.bd.rel.seat,fun a' id' => ?_⟩,by have:=h1.bd.sent; omega,by have:=h1.bd.seats; simp only; omega,by simp only [List.length_append,List.length_singleton]; omega,by have:=h1.bd.tv; omega,hgs,h1.bd.ids⟩,h1.ok⟩
  simp only
  rw [hfil]
  by_cases e:a'=l.To∧id'=l.Case
  ·rw [if_pos e,e.1,e.2,hd,← hgot]
   unfold ddF2
   rw [if_pos ha]
  ·rw [if_neg e]; exact h1.bd.rel.got a' id'
 | false =>
  simp only [Bool.false_eq_true,if_false]
  rw [Zk (by simp; omega),Option.bind_some]
  have hl1:l∈w1.sent:=by rw [e4]; exact hl
  have hD':jJ c w1.sent l.To l.Case { d with votes:=d.votes++[l] }:=⟨hD.last,hD.vle,hD.said,hD.prom,hD.fin,hD.op,hD.opn,hD.chair,hD.wish,fun v hv=>by
   rcases List.mem_append.1 hv with q | q
   ·exact hD.votes v q
   ·rw [List.mem_singleton.1 q]; exact ⟨hl1,hK,rfl,rfl⟩⟩
  have hg2:=get_put (d:={ d with votes:=d.votes++[l] }) hp
  refine ⟨_,_,rfl,rfl,⟨h1.bd.court,h1.bd.way,h1.bd.num,?_,h1.bd.cases,h1.bd.few,h1.bd.room,⟨h1.bd.rel.C,h1.bd.rel.named,h1.bd.rel.way,h1.bd.rel.all,h1.bd.rel.num,fun a' id' => ?_,fun a' id' => ?_⟩,by have:=h1.bd.sent; show w1.sent.length≤_; omega,by have:=h1.bd.seats; simp only; omega,by simp only [List.length_append,List.length_singleton]; omega,?_,hgs,h1.bd.ids⟩,?_⟩
  ·show ((putD _ _ w1.desks).map (·.1)).Nodup
   rw [zGN]; exact h1.bd.keys
  ·simp only
   rw [hg2]
   unfold upd
   by_cases e:a'=l.To∧id'=l.Case
   ·rw [if_pos e,h1.bd.rel.seat,e.1,e.2,hd]; rfl
   ·rw [if_neg e]; exact h1.bd.rel.seat a' id'
  ·simp only
   rw [hg2,hfil]
   unfold upd
   by_cases e:a'=l.To∧id'=l.Case
   ·rw [if_pos e,if_pos e,e.1,e.2,← hgot]
    unfold ddF2
    rw [if_neg (by rw [ha]; decide)]
   ·rw [if_neg e,if_neg e]; exact h1.bd.rel.got a' id'
  ·have:=zFy (l.To,l.Case) { d with votes:=d.votes++[l] } 1 w1.desks (ZP w1 l.To l.Case) (zJG hp) (by rw [hd]; simp)
   have:=h1.bd.tv
   show tvl (putD _ _ w1.desks)≤_
   omega
  ·rw [hg2]; exact h1.ok.set hD'
theorem zMk (hc:okC c=true) (hk:k≤3970) (hm:m≤3970) (h:Nxt c k m w y) (hl:l∈w.sent):∃ w' y',zEw w l=some w'∧Jt y l=some y'∧Nxt c (k+7) (m+2) w' y':=by
 unfold zEw
 have hf:=zFl (h.ok.form l hl)
 rcases hf.kind with e | e | e | e
 ·rw [if_pos e]; exact zIW hc hk hm h hl e
 ·rw [if_neg (by omega),if_pos e]; exact zIU hc hk hm h hl e
 ·have n1 : ¬ l.Kind=1:=by omega
  have n2 : ¬ l.Kind=2:=by omega
  rw [if_neg n1,if_neg n2,if_pos e]; exact zHM hc hk hm h hl e
 ·have n1 : ¬ l.Kind=1:=by omega
  have n2 : ¬ l.Kind=2:=by omega
  have n3 : ¬ l.Kind=3:=by omega
  rw [if_neg n1,if_neg n2,if_neg n3,if_pos e]; exact zMZ hc hk hm h hl e
theorem find_eq {w:zN} (id:Int) (hl:w.letters.length≤4000):zEy w id=some (ixOf (fun x=>decide (x.ID=id)) w.letters):=by
 unfold zEy ZI
 refine YN (fun x=>decide (x.ID=id)) w.letters hl (fun i hi=>?_) ?_
 ·unfold zz
  simp only [dlt hi,if_true,Zf hi,Option.bind_some,w64i hi hl,jq]
  split <;> rfl
 ·unfold zz
  simp [dge,zf]
theorem rway_eq {y:zH} (id:Int) (hl:y.Way.length≤4000):zE4 y id=some (ixOf (fun x=>decide (x.ID=id)) y.Way):=by
 unfold zE4
 refine YN (fun x=>decide (x.ID=id)) y.Way hl (fun i hi=>?_) ?_
 ·unfold zBL
  simp only [dlt hi,if_true,Zf hi,Option.bind_some,w64i hi hl]
  split <;> rfl
 ·unfold zBL
  simp [dge,zD4]
theorem Nxt.less (h:Nxt c k m w y) (i:Nat):Nxt c k m { w with letters:=w.letters.eraseIdx i } { y with Way:=y.Way.eraseIdx i } :=
 ⟨⟨h.bd.court,fun x hx=>h.bd.way x (List.mem_of_mem_eraseIdx hx),h.bd.num,h.bd.keys,h.bd.cases,h.bd.few,Nat.le_trans (List.length_eraseIdx_le _ _) h.bd.room,⟨h.bd.rel.C,h.bd.rel.named,by simp only; rw [h.bd.rel.way],h.bd.rel.all,h.bd.rel.num,h.bd.rel.seat,h.bd.rel.got⟩,h.bd.sent,h.bd.seats,h.bd.gotl,h.bd.tv,h.bd.gots,h.bd.ids⟩,h.ok⟩
theorem ix_neg1 {α:Type} (p:α→Bool) (L:List α):ixOf p L = -1∨∃ i,∃ h:i<L.length,ixOf p L=(i:Int):=by
 rcases Decidable.em (ixOf p L = -1) with q | q
 ·exact .inl q
 ·obtain ⟨i,h1,h2,_⟩:=zM4 q
  exact .inr ⟨i,h1,h2⟩
theorem zMo (hc:okC c=true) (hk:k≤3970) (hm:m≤3970) (h:Nxt c k m w y) (x:ZO) (hA:x.A=0∧x.Case=0∧x.Finding=0) (hK:x.Kind=3∨x.Kind=4∨x.Kind=5):∃ w' y' e,(if x.Kind=3 then QQ w x else if x.Kind=4 then zDQ w x else qN w x)=some (w',e)∧qZ y x=some (y',e)∧Nxt c (k+7) (m+2) w' y':=by
 have hroom:=h.bd.room
 have hway:=h.bd.rel.way
 unfold QQ zDQ qN zDP qZ
 rw [find_eq x.N (by omega),rway_eq x.N (by rw [hway]; omega),hway]
 simp only [hA.1,hA.2.1,hA.2.2,decide_true,Bool.not_true,Bool.or_self,Bool.false_eq_true,if_false,Option.bind_some]
 rcases ix_neg1 (fun z=>decide (z.ID=x.N)) w.letters with hi | ⟨i,hi,he⟩
 ·have hneg:((-1:Int)<0):=by decide
  rw [hi]
  simp only [hneg,if_true,decide_true,Option.bind_some,Bool.false_eq_true,if_false]
  have:(if x.Kind=3 then some (w,(5:Int)) else if x.Kind=4 then some (w,5) else some (w,5))=some (w,5):=by
   by_cases e:x.Kind=3 <;> by_cases e2:x.Kind=4 <;> simp [e,e2]
  rw [this]
  exact ⟨w,y,5,rfl,rfl,h.mono (by omega) (by omega)⟩
 ·have hneg : ¬ ((i:Int)<0):=by omega
  rw [he]
  simp only [hneg,if_false,decide_false,Bool.false_eq_true,Zf hi,Option.bind_some,Int.toNat_natCast,if_true]
  have hlw:w.letters[i]∈w.sent:=h.bd.way _ (List.getElem_mem hi)
  generalize hle:w.letters[i]=l at *
  have hsub:Option.bind (sub w.letters 0 (i:Int)) (fun l=>Option.bind (app [] l) fun l1=>Option.bind (sub w.letters (w64 ((i:Int)+1)) w.letters.length) fun l2=>app l1 l2)=some (w.letters.eraseIdx i):=by
   rw [w64i hi (by omega),zGA (by omega),Option.bind_some,Zk (by simp; omega),Option.bind_some,List.nil_append,zBu (by omega),Option.bind_some,Zk (by simp; omega),List.eraseIdx_eq_take_drop_succ]
  have hp:∀ F:List zA→Option (zH×Int),(Option.bind (sub w.letters 0 (i:Int)) fun l=>Option.bind (app [] l) fun l1=>Option.bind (sub w.letters (w64 ((i:Int)+1)) w.letters.length) fun l2=>Option.bind (app l1 l2) F)=F (w.letters.eraseIdx i):=fun F=>by
   rw [w64i hi (by omega),zGA (by omega),Option.bind_some,Zk (by simp; omega),Option.bind_some,List.nil_append,zBu (by omega),Option.bind_some,Zk (by simp; omega),Option.bind_some,List.eraseIdx_eq_take_drop_succ]
  have h1:=h.less i
  rw [hway] at h1
  rcases hK with e | e | e
  ·simp only [e,if_true,decide_true,(by decide : ¬ (3:Int)=5),decide_false,Bool.false_eq_true,if_false]
   rw [hp]
   obtain ⟨w',y',p1,p2,p3⟩:=zMk hc hk hm h1 (show l∈w.sent from hlw)
   rw [p1,p2]
   exact ⟨w',y',0,rfl,rfl,p3⟩
  ·simp only [e,if_true,decide_true,(by decide : ¬ (4:Int)=3),(by decide : ¬ (4:Int)=5),decide_false,Bool.false_eq_true,if_false]
   rw [hp]
   exact ⟨_,_,0,rfl,rfl,h1.mono (by omega) (by omega)⟩
  ·simp only [e,if_true,decide_true,(by decide : ¬ (5:Int)=3),(by decide : ¬ (5:Int)=4),decide_false,Bool.false_eq_true,if_false]
   unfold zBs
   by_cases hr:(200:Int)≤(w.letters.length:Nat)
   ·have hr' : ¬ ((w.letters.length:Nat):Int)<200:=by omega
    simp only [hr,hr',decide_true,decide_false,Bool.not_false,if_true]
    exact ⟨w,y,2,rfl,rfl,h.mono (by omega) (by omega)⟩
   ·have hr':((w.letters.length:Nat):Int)<200:=by omega
    simp only [hr,hr',decide_true,decide_false,Bool.not_true,Bool.false_eq_true,if_false,Option.bind_some]
    have hf:=Q0 (h.ok.form l hlw)
    rw [zDt l [l.To] h.bd.num (by have:=h.bd.sent; simp only [List.length_singleton]; omega) hroom,zGG l (by rw [h.bd.rel.num,h.bd.rel.all]; exact h.bd.num) (by rw [h.bd.rel.all]; have:=h.bd.sent; omega) (by rw [hway]; exact hroom)]
    have hB:=h.bd.sends (l:=l) (tos:=[l.To]) (by simp)
    have hrs:rsends l [l.To] y=rsend1 l y l.To:=by unfold rsends; rw [List.foldl_cons,List.foldl_nil]
    rw [hrs] at hB
    refine ⟨_,_,0,rfl,rfl,⟨hB.mono (by omega) (by omega),?_⟩⟩
    rw [zC2]
    refine zBJ h.bd.num (by have:=h.bd.sent; omega) (by simp) (by simp) (fun t' ht n n1 n2=>?_) fun z hz hfz=>h.ok.alike hfz ⟨l,hlw,hz.symm⟩
    rw [List.mem_singleton] at ht
    subst ht
    refine zJ6 hc hf.2.1 hf.2.2.1 ⟨hf.2.2.2.1.1,by have:=hf.2.2.2.1.2; omega⟩ ⟨hf.2.2.2.2.1.1,by have:=hf.2.2.2.2.1.2; omega⟩ ⟨n1,n2⟩ hf.2.2.2.2.2.2.1 ?_
    exact hf.2.2.2.2.2.2.2
end
end Go.Mx
