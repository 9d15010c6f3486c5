/- Part of the proof of TopRulingsArePostedOnce: plain laws about the functions of M, no program in sight. Conditions: none. -/
import Derived.Test.YtggkidlcohickaaGreatLawWi
import Derived.Test.YtggkidlcohickaaGreatLawZj
set_option linter.unusedVariables false
set_option linter.unusedSimpArgs false
namespace Go.Mx
section
variable {c:zD} {k m:Nat} {w:zN} {y:zH}
def fgD (A a:Int) (d:zT):zT:=if a=A then { d with chair:=none } else d
def fgS (A:Int) (s:zS):zS:=if s.Arbiter=A then { s with Round:=0,List:=[],Proposed:=false } else s
theorem zLp (A:Int) (k:Int×Int):∀ l:List ((Int×Int)×zT),zO k (l.map fun p=>if p.1.1=A then (p.1,{ p.2 with chair:=none }) else p)=(zO k l).map (fgD A k.1)
 | []=>rfl
 | p :: r=>by
  have e1:∀ p:(Int×Int)×zT,(if p.1.1=A then (p.1,{ p.2 with chair:=none }) else p)=(p.1,fgD A p.1.1 p.2):=fun p=>by
   unfold fgD; split <;> rfl
  rw [List.map_cons,e1]
  simp only [zO]
  by_cases e:k=p.1
  ·rw [if_pos e,if_pos e,e]; rfl
  ·rw [if_neg e,if_neg e]; exact zLp A k r
theorem sit_fg (A:Int) (L:List zS) (a id:Int):sitS (L.map (fgS A)) a id=fgS A (sitS L a id):=by
 have e0:∀ s,(fgS A s).Arbiter=s.Arbiter∧(fgS A s).Case=s.Case:=fun s=>by unfold fgS; split <;> exact ⟨rfl,rfl⟩
 have e1:(L.map (fgS A)).find? (atB a id)=(L.find? (atB a id)).map (fgS A):=by
  rw [List.find?_map]
  congr 1
  congr 1
  funext s
  show atB a id (fgS A s)=atB a id s
  unfold atB
  rw [(e0 s).1,(e0 s).2]
 unfold sitS
 rw [e1]
 cases q:L.find? (atB a id) with
 | some s=>rfl
 | none =>
  simp only [Option.map_none,Option.getD_none]
  unfold fgS; split <;> rfl
theorem fg_loop (y:zH) (x:ZO) (hl:y.Seats.length≤4000):Lp (yU y x) fuel (0,[])=some ({ y with Seats:=y.Seats.map (fgS x.A) },0):=by
 suffices h:∃ r,Lp (yU y x) fuel (0,[])=some r∧r=({ y with Seats:=y.Seats.map (fgS x.A) },0) by obtain ⟨r,h,rfl⟩:=h; exact h
 refine lp_inv' (fun (i:Nat) (s:Int×List zS)=>s=((i:Int),(y.Seats.take i).map (fgS x.A))) _ y.Seats.length (by omega) rfl fun i s hi hI=>?_
 subst hI
 by_cases h1:i<y.Seats.length
 ·refine .inl ⟨h1,_,?_,rfl⟩
  unfold yU Qv
  simp only [dlt h1,if_true,Zf h1,Option.bind_some]
  rw [Zk (by simp; omega),Zk (by simp; omega),List.take_succ_eq_append_getElem h1,List.map_append,List.map_singleton,w64i h1 hl]
  unfold fgS
  by_cases e:y.Seats[i].Arbiter=x.A
  ·simp [e]
  ·simp [e]
 ·refine .inr ⟨_,?_,rfl⟩
  have e:i=y.Seats.length:=by omega
  subst e
  unfold yU zBi
  simp [dge]
theorem zLJ (A:Int):∀ l:List ((Int×Int)×zT),tvl (l.map fun p=>if p.1.1=A then (p.1,{ p.2 with chair:=none }) else p)=tvl l
 | []=>rfl
 | p :: r=>by
  rw [List.map_cons,qP,qP,zLJ A r]
  congr 1
  split <;> rfl
theorem zJ4 (hc:okC c=true) (h:Nxt c k m w y) (hm:m≤3970) (x:ZO) (h0:x.Case=0∧x.Finding=0∧x.N=0):∃ w' y' e,J5 w x=(w',e)∧Y2 y x=some (y',e)∧Nxt c (k+7) (m+2) w' y':=by
 have j1:zW w.court x.A=inI x.A 0 (c.Arbiters - 1):=by rw [h.bd.court,zGk hc]
 have j2:w64 (y.C.Arbiters - 1)=c.Arbiters - 1:=by rw [h.bd.rel.C,h.bd.court,zEh hc]
 unfold J5 Y2
 rw [j1,j2]
 simp only [zOK,h0.1,h0.2.1,h0.2.2,decide_true,Bool.not_true,Bool.or_false]
 cases g:(!inI x.A 0 (c.Arbiters - 1)) with
 | true=>simp only [if_true]; exact ⟨w,y,1,rfl,rfl,h.mono (by omega) (by omega)⟩
 | false =>
  simp only [Bool.false_eq_true,if_false]
  rw [fg_loop y x (by have:=h.bd.seats; omega)]
  have hg:∀ a id,ZP { w with desks:=w.desks.map fun p=>if p.1.1=x.A then (p.1,{ p.2 with chair:=none }) else p } a id=fgD x.A a (ZP w a id):=fun a id=>by
   unfold ZP Z7
   simp only
   rw [zLp]
   cases zO (a,id) w.desks with
   | some d=>rfl
   | none=>unfold fgD; split <;> rfl
  have hv:∀ a d,(fgD x.A a d).votes=d.votes:=fun a d=>by unfold fgD; split <;> rfl
  refine ⟨_,_,0,rfl,rfl,⟨⟨h.bd.court,h.bd.way,h.bd.num,?_,h.bd.cases,h.bd.few,h.bd.room,⟨h.bd.rel.C,h.bd.rel.named,h.bd.rel.way,h.bd.rel.all,h.bd.rel.num,fun a id=>?_,fun a id=>?_⟩,by have:=h.bd.sent; simp only; omega,by have:=h.bd.seats; simp only [List.length_map]; omega,by have:=h.bd.gotl; simp only; omega,?_,h.bd.gots,h.bd.ids⟩,⟨h.ok.law,h.ok.form,fun a id=>?_⟩⟩⟩
  ·have e:(w.desks.map fun p=>if p.1.1=x.A then (p.1,{ p.2 with chair:=none }) else p).map (·.1)=w.desks.map (·.1):=by
    rw [List.map_map]
    refine List.map_congr_left fun p _=>?_
    simp only [Function.comp]
    split <;> rfl
   simp only
   rw [e]; exact h.bd.keys
  ·simp only
   rw [hg,sit_fg,h.bd.rel.seat]
   unfold fgD fgS
   rw [(zAp a id (ZP w a id)).2.2.2.1]
   by_cases e:a=x.A
   ·rw [if_pos e,if_pos e]
    unfold ZC
    cases (ZP w a id).chair <;> rfl
   ·rw [if_neg e,if_neg e]
  ·simp only
   rw [hg,hv]; exact h.bd.rel.got a id
  ·simp only
   rw [zLJ]; have:=h.bd.tv; omega
  ·rw [hg]
   have hD:=h.ok.desk a id
   unfold fgD
   split
   ·exact ⟨hD.last,hD.vle,hD.said,hD.prom,hD.fin,hD.op,hD.opn,(fun ch hch=>by cases hch),hD.wish,hD.votes⟩
   ·exact hD
theorem do_spec (hc:okC c=true) (hk:k≤3970) (hm:m≤3970) (h:Nxt c k m w y) (x:ZO):∃ w' y' e,w_do w x=some (w',e)∧zJO y x=some (y',e)∧Nxt c (k+7) (m+2) w' y':=by
 have same:∃ w' y' e',some (w,(1:Int))=some (w',e')∧some (y,(1:Int))=some (y',e')∧Nxt c (k+7) (m+2) w' y':=⟨w,y,1,rfl,rfl,h.mono (by omega) (by omega)⟩
 obtain ⟨K,A,C,F,N⟩:=x
 unfold w_do zJO doR
 simp only
 by_cases k1:K=1
 ·subst k1
  simp only [decide_true,if_true]
  by_cases hN:N=0
  ·rw [if_neg (by simp [hN])]
   obtain ⟨w',y',e,p1,p2,p3⟩:=zMU hc hk hm h ⟨1,A,C,F,N⟩ hN
   rw [p1,p2]
   exact ⟨w',y',e,rfl,rfl,p3⟩
  ·rw [if_pos (by simp [hN])]
   have:qV y ⟨1,A,C,F,N⟩=some (y,1):=by unfold qV; simp [hN]
   rw [this]
   exact same
 by_cases k2:K=2
 ·subst k2
  simp only [k1,decide_true,decide_false,Bool.false_eq_true,if_false,if_true]
  by_cases hN:F=0∧N=0
  ·rw [if_neg (by simp [hN])]
   obtain ⟨w',y',e,p1,p2,p3⟩:=zMt hc hk hm h ⟨2,A,C,F,N⟩ hN.2 hN.1
   rw [p1,p2]
   exact ⟨w',y',e,rfl,rfl,p3⟩
  ·rw [if_pos (by simpa using hN)]
   have:Qm y ⟨2,A,C,F,N⟩=some (y,1):=by
    unfold Qm
    rw [if_pos]
    rcases Decidable.em (F=0) with e | e
    ·have : ¬ N=0:=fun q=>hN ⟨e,q⟩
     simp [this]
    ·simp [e]
   rw [this]
   exact same
 by_cases k3:K=3∨K=4∨K=5
 ·have e3:((decide (K=3)||decide (K=4))||decide (K=5))=true:=by
   rcases k3 with e | e | e <;> subst e <;> rfl
  have k6 : ¬ K=6:=by omega
  simp only [k1,k2,e3,decide_false,Bool.false_eq_true,if_false,if_true]
  rw [if_pos k3]
  by_cases hN:A=0∧C=0∧F=0
  ·rw [if_neg (by simp [hN])]
   obtain ⟨w',y',e,p1,p2,p3⟩:=zMo hc hk hm h ⟨K,A,C,F,N⟩ hN k3
   simp only at p1
   have p1':(if K=3 then QQ w ⟨K,A,C,F,N⟩ else if K=4 then zDQ w ⟨K,A,C,F,N⟩ else if K=5 then qN w ⟨K,A,C,F,N⟩ else if K=6 then some (J5 w ⟨K,A,C,F,N⟩) else some (w,1))=some (w',e):=by
    rw [← p1]
    rcases k3 with e | e | e <;> subst e <;> rfl
   rw [p1',p2]
   exact ⟨w',y',e,rfl,rfl,p3⟩
  ·rw [if_pos (by simpa using hN)]
   have:qZ y ⟨K,A,C,F,N⟩=some (y,1):=by
    unfold qZ
    rw [if_pos]
    rcases Decidable.em (A=0) with e | e
    ·rcases Decidable.em (C=0) with e2 | e2
     ·have : ¬ F=0:=fun q=>hN ⟨e,e2,q⟩
      simp [this]
     ·simp [e2]
    ·simp [e]
   rw [this]
   exact same
 have k3' : ¬ K=3:=fun q=>k3 (.inl q)
 have k4' : ¬ K=4:=fun q=>k3 (.inr (.inl q))
 have k5' : ¬ K=5:=fun q=>k3 (.inr (.inr q))
 simp only [k1,k2,k3',k4',k5',decide_false,Bool.or_self,Bool.false_eq_true,if_false,or_self]
 by_cases k6:K=6
 ·subst k6
  simp only [decide_true,if_true]
  by_cases hN:C=0∧F=0∧N=0
  ·rw [if_neg (by simp [hN])]
   obtain ⟨w',y',e,p1,p2,p3⟩:=zJ4 hc h hm ⟨6,A,C,F,N⟩ hN
   rw [p1,p2]
   exact ⟨w',y',e,rfl,rfl,p3⟩
  ·rw [if_pos (by simpa using hN)]
   have:Y2 y ⟨6,A,C,F,N⟩=some (y,1):=by
    unfold Y2
    rw [if_pos]
    rcases Decidable.em (C=0) with e | e
    ·rcases Decidable.em (F=0) with e2 | e2
     ·have : ¬ N=0:=fun q=>hN ⟨e,e2,q⟩
      simp [this]
     ·simp [e2]
    ·simp [e]
   rw [this]
   exact same
 ·simp only [k6,decide_false,Bool.false_eq_true,if_false]
  split <;> exact same
theorem zN3 (hc:okC c=true):Nxt c 0 0 (zAl c) (zMj c).W:=by
 have hg:∀ a id,ZP (zAl c) a id=yN:=fun a id=>rfl
 refine ⟨⟨rfl,(fun x hx=>by cases hx),rfl,List.nodup_nil,List.Pairwise.nil,Nat.zero_le _,Nat.zero_le _,⟨rfl,rfl,rfl,rfl,rfl,fun a id=>rfl,fun a id=>rfl⟩,Nat.le_refl _,Nat.le_refl _,Nat.le_refl _,Nat.le_refl _,(fun g hg=>by cases hg),(fun i hi=>by cases hi)⟩,⟨?_,(fun x hx=>by cases hx),fun a id=>?_⟩⟩
 ·intro i hi
  exact absurd hi (Nat.not_lt_zero _)
 ·rw [hg]
  exact ⟨rfl,⟨by decide,by decide,by decide⟩,(fun x hx=>by cases hx),(fun q=>by cases q),⟨by decide,by decide,fun _=>rfl⟩,⟨by decide,by decide⟩,(fun x hx=>by cases hx),(fun ch q=>by cases q),(fun q=>by cases q),(fun x hx=>by cases hx)⟩
end
def VSub (l l':List zA):Prop := ∀ x∈l,x.Kind=4→∃ z∈l',z.Kind=4∧rulR z=rulR x∧z.From=x.From
theorem VSub.vt {l l':List zA} (h:VSub l l') {r:zB} {a:Nat} (hv:vtB l r a=true):vtB l' r a=true:=by
 unfold vtB at hv ⊢
 obtain ⟨x,h1,h2⟩:=List.any_eq_true.1 hv
 simp only [Bool.and_eq_true,decide_eq_true_eq,zR] at h2
 obtain ⟨⟨⟨⟨q1,q2⟩,q3⟩,q4⟩,q5⟩:=h2
 obtain ⟨z,z1,z2,z3,z4⟩:=h x h1 q1
 unfold rulR at z3
 injection z3 with e1 e2 e3
 refine List.any_eq_true.2 ⟨z,z1,?_⟩
 simp only [Bool.and_eq_true,decide_eq_true_eq,zR]
 exact ⟨⟨⟨⟨z2,e1.trans q2⟩,e2.trans q3⟩,e3.trans q4⟩,z4.trans q5⟩
theorem VSub.rul {c:zD} {l l':List zA} (h:VSub l l') (h':VSub l' l) {o:List zB} (ho:QM c l o):QM c l' o:=by
 refine ⟨ho.sorted,fun r=>?_⟩
 rw [ho.mem]
 have e:vtS c l' r=vtS c l r:=by
  unfold vtS
  congr 1
  refine zNG fun a _=>?_
  rw [Bool.eq_iff_iff]
  exact ⟨h'.vt,h.vt⟩
 rw [e]
 refine and_congr_left fun _=>⟨fun ⟨x,x1,x2,x3⟩=>?_,fun ⟨x,x1,x2,x3⟩=>?_⟩
 ·obtain ⟨z,z1,z2,z3,_⟩:=h x x1 x2
  exact ⟨z,z1,z2,z3.trans x3⟩
 ·obtain ⟨z,z1,z2,z3,_⟩:=h' x x1 x2
  exact ⟨z,z1,z2,z3.trans x3⟩
theorem VSub.zId {l l':List zA} (h:∀ x∈l,x∈l'):VSub l l':=fun x hx hk=>⟨x,h x hx,hk,rfl,rfl⟩
theorem ddV_has (L:List zA):∀ x∈L,∃ v∈ddV L,v.From=x.From∧v.Round=x.Round:=by
 refine yT (motive:=fun L => ∀ x∈L,∃ v∈ddV L,v.From=x.From∧v.Round=x.Round) (fun x h=>by cases h) (fun L t ih=>?_) L
 intro z hz
 rw [zEf]
 unfold ddF2
 split
 ·rename_i h
  rcases List.mem_append.1 hz with q | q
  ·exact ih z q
  ·rw [List.mem_singleton.1 q]
   obtain ⟨v,v1,v2⟩:=List.any_eq_true.1 h
   simp only [Bool.and_eq_true,decide_eq_true_eq] at v2
   exact ⟨v,v1,v2⟩
 ·rcases List.mem_append.1 hz with q | q
  ·obtain ⟨v,v1,v2⟩:=ih z q
   exact ⟨v,List.mem_append_left _ v1,v2⟩
  ·rw [List.mem_singleton.1 q]
   exact ⟨t,by simp,rfl,rfl⟩
theorem zJj {k:Int×Int} {d:zT}:∀ {l:List ((Int×Int)×zT)},zO k l=some d→(k,d)∈l
 | [],h=>by cases h
 | p :: r,h=>by
  simp only [zO] at h
  by_cases e:k=p.1
  ·rw [if_pos e] at h; cases h; rw [e]; exact List.mem_cons_self
  ·rw [if_neg e] at h; exact List.mem_cons_of_mem _ (zJj h)
theorem zJh {k:Int×Int} {d:zT}:∀ {l:List ((Int×Int)×zT)},(l.map (·.1)).Nodup→(k,d)∈l→zO k l=some d
 | [],_,h=>by cases h
 | p :: r,hn,h=>by
  rw [List.map_cons,List.nodup_cons] at hn
  simp only [zO]
  rcases List.mem_cons.1 h with e | e
  ·rw [← e,if_pos rfl]
  ·rw [if_neg,zJh hn.2 e]
   rintro rfl
   exact hn.1 (List.mem_map.2 ⟨_,e,rfl⟩)
theorem zEz (a:Int):∀ l:List ((Int×Int)×zT),(Zz a l).length≤tvl l
 | []=>Nat.le_refl _
 | p :: r=>by
  have:=zEz a r
  rw [qP]
  unfold Zz at this ⊢
  rw [List.flatMap_cons,List.length_append]
  split
  ·omega
  ·simp only [List.length_nil]; omega
section
variable {c:zD} {k m:Nat} {w:zN} {y:zH} {a id:Int}
theorem zHt (h:Nxt c k m w y) {x:zA}:x∈Zz a w.desks↔x∈(ZP w a x.Case).votes∧x.To=a:=by
 unfold Zz
 rw [List.mem_flatMap]
 constructor
 ·rintro ⟨⟨⟨a',id⟩,d⟩,p1,p2⟩
  simp only at p2
  by_cases e:a'=a
  ·subst e
   rw [if_pos rfl] at p2
   have hl:=zJh h.bd.keys p1
   have hd:ZP w a' id=d:=by unfold ZP Z7; rw [hl]; rfl
   have hg:=h.bd.rel.got a' id
   rw [hd] at hg
   rw [hg] at p2
   have:=(List.mem_filter.1 (zIx _ x p2)).2
   simp only [gotF,Bool.and_eq_true,decide_eq_true_eq] at this
   rw [this.2,hd,hg]
   exact ⟨p2,this.1⟩
  ·rw [if_neg e] at p2; cases p2
 ·rintro ⟨h1,h2⟩
  cases q:zO (a,x.Case) w.desks with
  | none =>
   unfold ZP Z7 at h1
   rw [q] at h1
   cases h1
  | some d =>
   refine ⟨((a,x.Case),d),zJj q,?_⟩
   simp only [if_true]
   unfold ZP Z7 at h1
   rw [q] at h1
   exact h1
theorem zE0 (h:Nxt c k m w y) {x:zA} (hx:x∈Zz a w.desks):x∈y.Got∧x.To=a:=by
 obtain ⟨h1,h2⟩:=(zHt h).1 hx
 rw [h.bd.rel.got] at h1
 exact ⟨(List.mem_filter.1 (zIx _ x h1)).1,h2⟩
theorem zMY (h:Nxt c k m w y):VSub (y.Got.filter fun x=>decide (x.To=a)) (Zz a w.desks):=by
 intro x hx hk
 obtain ⟨x1,x2⟩:=List.mem_filter.1 hx
 have x2:=of_decide_eq_true x2
 obtain ⟨v,v1,v2,v3⟩:=ddV_has (y.Got.filter (gotF a x.Case)) x (List.mem_filter.2 ⟨x1,by simp [gotF,x2]⟩)
 obtain ⟨v4,v5⟩:=List.mem_filter.1 (zIx _ v v1)
 simp only [gotF,Bool.and_eq_true,decide_eq_true_eq] at v5
 obtain ⟨g1,g2⟩:=h.bd.gots x x1
 obtain ⟨g3,g4⟩:=h.bd.gots v v4
 obtain ⟨p,p1,p2,p3⟩:=zE1 h.ok.law g1 g2
 obtain ⟨p',p4,p5,p6⟩:=zE1 h.ok.law g3 g4
 rw [v5.2,v3] at p5
 have:=zCo h.ok.law p1 p4 p2 p5
 refine ⟨v,(zHt h).2 ⟨by rw [v5.2,h.bd.rel.got]; exact v1,v5.1⟩,g4,?_,v2⟩
 unfold rulR
 rw [v5.2,v3,← p3,← p6,this]
theorem zJM {y:zH} {a:Int} {o:List zB} (hl:y.Got.length≤4000) (hr:jG y.C (y.Got.filter fun x=>decide (x.To=a))=some o):zCA y a=some o:=by
 unfold zCA
 suffices h:∃ r,Lp (Y5 y a) fuel (0,[])=some r∧r=o by obtain ⟨r,h,rfl⟩:=h; exact h
 refine lp_inv' (fun (i:Nat) (s:Int×List zA)=>s=((i:Int),(y.Got.take i).filter fun x=>decide (x.To=a))) _ y.Got.length (by omega) rfl fun i s hi hI=>?_
 subst hI
 by_cases h1:i<y.Got.length
 ·refine .inl ⟨h1,_,?_,rfl⟩
  have:=List.length_filter_le (fun x:zA=>decide (x.To=a)) (y.Got.take i)
  unfold Y5 qc
  simp only [dlt h1,if_true,Zf h1,Option.bind_some]
  rw [Zk (by simp at this ⊢; omega),List.take_succ_eq_append_getElem h1,List.filter_append,w64i h1 hl]
  by_cases e:y.Got[i].To=a
  ·simp [e]
  ·simp [e]
 ·refine .inr ⟨_,?_,rfl⟩
  have e:i=y.Got.length:=by omega
  subst e
  unfold Y5 zB9
  simp only [dge,Bool.false_eq_true,if_false,List.take_length,hr]
  rfl
theorem zK2 (hc:okC c=true) (hm:m≤4000) (h:Nxt c k m w y) (a:Int):∃ o,qD w a o∧zCA y a=some o∧o.length≤4000:=by
 have hl:=h.bd.gotl
 have htv:=h.bd.tv
 have hv:=zEz a w.desks
 have hfl:=List.length_filter_le (fun x:zA=>decide (x.To=a)) y.Got
 obtain ⟨o,o1,o2,o3⟩:=zFw c hc (y.Got.filter fun x=>decide (x.To=a)) (by omega)
 refine ⟨o,⟨by omega,fun v hp=>?_⟩,?_,by omega⟩
 ·rw [h.bd.court]
  have hmem:∀ x,x∈v↔x∈Zz a w.desks:=fun x=>hp.mem_iff
  obtain ⟨o',q1,q2⟩:=zIP c v (by rw [hp.length_eq]; omega) (fun x hx=>h.ok.form x (h.bd.gots x (zE0 h ((hmem x).1 hx)).1).1)
  rw [q1]
  congr 1
  refine q2.uniq (VSub.rul (l:=y.Got.filter fun x=>decide (x.To=a)) ?_ ?_ o2)
  ·intro x hx hk
   obtain ⟨z,z1,z2⟩:=zMY h x hx hk
   exact ⟨z,(hmem z).2 z1,z2⟩
  ·exact VSub.zId fun x hx=>by
    obtain ⟨g1,g2⟩:=zE0 h ((hmem x).1 hx)
    exact List.mem_filter.2 ⟨g1,decide_eq_true g2⟩
 ·exact zJM (by omega) (by rw [h.bd.rel.C,h.bd.court]; exact o1)
end
def san1 : zN:=⟨⟨3⟩,0,[],[],[((0,4),⟨⟨0,0,0,0⟩,7,true,none,[]⟩)],[4]⟩
def sanA (o:Option (zN×Int)):zN:=(o.getD default).1
theorem some_of {o:Option (zN×Int)} (h:(o.map (·.2))=some 0):o=some (sanA o,0):=by
 cases o with
 | none=>cases h
 | some p =>
  simp only [Option.map_some,Option.some.injEq] at h
  show some p=some (p.1,0)
  rw [← h]
theorem san_a1 : w_do (zAl ⟨3⟩) ⟨1,0,4,7,0⟩=some (san1,0):=by
 have h:zBI (w_at (zAl ⟨3⟩) 0 4) 4=some { w_at (zAl ⟨3⟩) 0 4 with cases:=[4] }:=zF7 List.Pairwise.nil (by decide)
 have hd:w_do (zAl ⟨3⟩) ⟨1,0,4,7,0⟩=zBr (zAl ⟨3⟩) ⟨1,0,4,7,0⟩:=by unfold w_do; rfl
 have hf:zDR (zAl ⟨3⟩) 4=some false:=by decide +kernel
 have hj:(!zW (zAl ⟨3⟩).court 0 || !Zj 4 || !jL 7)=false:=by decide +kernel
 rw [hd]
 unfold zBr
 simp only [hj,hf,Bool.false_eq_true,if_false,Option.bind_some]
 have hh:(ZP (w_at (zAl ⟨3⟩) 0 4) 0 4).has=false:=by decide +kernel
 simp only [hh,h,Bool.false_eq_true,if_false,Option.bind_some]
 decide +kernel
theorem zOF {c:zD} {w:zN} {a:Int} {o:List zB} (hc:okC c=true) (hw:w.court=c) (hl:(Zz a w.desks).length≤4000) (hf:∀ y∈Zz a w.desks,fmB c y=true) (hr:jG c (Zz a w.desks)=some o):qD w a o:=by
 refine ⟨by omega,fun v hp=>?_⟩
 rw [hw]
 obtain ⟨o1,p1,p2,_⟩:=zFw c hc (Zz a w.desks) hl
 rw [hr] at p1
 cases p1
 obtain ⟨o',q1,q2⟩:=zIP c v (by rw [hp.length_eq]; exact hl) (fun x hx=>hf x (hp.mem_iff.1 hx))
 rw [q1]
 congr 1
 exact q2.uniq (VSub.rul (VSub.zId fun x hx=>hp.mem_iff.2 hx) (VSub.zId fun x hx=>hp.mem_iff.1 hx) p2)
theorem onceW {c:zD} {l:List zA} {o:List zB} (hc:okC c=true) (hf:∀ y∈l,fmB c y=true) (hL:Qs c l) (ho:QM c l o) {x y:zB} (hx:x∈o) (hy:y∈o) (h:x.Case=y.Case):x.Finding=y.Finding:=by
 have hmaj:majS c=c.Arbiters / 2+1:=by unfold majS; rw [if_pos hc]
 obtain ⟨g1,g2⟩:=jI hc
 have h1:=((ho.mem x).1 hx).2
 have h2:=((ho.mem y).1 hy).2
 unfold vtS at h1 h2
 exact zNm (pax_of hc hf hL x.Case) (p1:=vtB l x) (p2:=vtB l y) (fun a ha=>vt_kV ha) (fun a ha=>by rw [h]; exact vt_kV ha) (by omega) (by omega) (by omega)
theorem zNY {c:zD} {l l':List zA} {o o':List zB} (h:VSub l l') (ho:QM c l o) (ho':QM c l' o') {r:zB} (hr:r∈o):r∈o':=by
 obtain ⟨⟨x,x1,x2,x3⟩,hm⟩:=(ho.mem r).1 hr
 obtain ⟨z,z1,z2,z3,_⟩:=h x x1 x2
 refine (ho'.mem r).2 ⟨⟨z,z1,z2,z3.trans x3⟩,Int.le_trans hm ?_⟩
 unfold vtS
 exact Int.ofNat_le.2 (cnt_mono fun a _ ha=>h.vt ha)
section
variable {c:zD} {k m:Nat} {w:zN} {y:zH}
end
end Go.Mx
