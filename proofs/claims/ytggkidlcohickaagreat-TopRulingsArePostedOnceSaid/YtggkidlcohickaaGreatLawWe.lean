/- Part of the proof of TopRulingsArePostedOnce: plain laws about the functions of M, no program in sight. Conditions: none. -/
import Derived.Test.YtggkidlcohickaaGreatLawWb
set_option linter.unusedVariables false
set_option linter.unusedSimpArgs false
namespace Go.Mx
theorem zEI {k k':Int×Int} {d:zT}:∀ {l:List ((Int×Int)×zT)},(zO k l).isSome=true→zO k' (putD k d l)=if k'=k then some d else zO k' l
 | [],h=>by cases h
 | p :: r,h=>by
  unfold putD
  by_cases e:p.1=k
  ·rw [if_pos e]
   simp only [zO]
   by_cases e2:k'=k
   ·rw [if_pos e2,if_pos e2]
   ·rw [if_neg e2,if_neg e2,if_neg (fun q=>e2 (q.trans e))]
  ·rw [if_neg e]
   have h':(zO k r).isSome=true:=by
    unfold zO at h
    rwa [if_neg (fun q=>e q.symm)] at h
   simp only [zO]
   by_cases e2:k'=p.1
   ·rw [if_pos e2,if_pos e2,if_neg (fun q=>e (e2.symm.trans q))]
   ·rw [if_neg e2,if_neg e2]
    exact zEI h'
theorem zGN (k:Int×Int) (d:zT):∀ (l:List ((Int×Int)×zT)),(putD k d l).map (·.1)=l.map (·.1)
 | []=>rfl
 | p :: r=>by
  unfold putD
  by_cases e:p.1=k
  ·rw [if_pos e]; simp [e]
  ·rw [if_neg e]; simp [zGN k d r]
def tvl (l:List ((Int×Int)×zT)):Nat:=(l.flatMap fun p=>p.2.votes).length
theorem qP (p:(Int×Int)×zT) (r:List ((Int×Int)×zT)):tvl (p :: r)=p.2.votes.length+tvl r:=by unfold tvl; rw [List.flatMap_cons,List.length_append]
theorem zFy (k:Int×Int) (d:zT) (m:Nat):∀ (l:List ((Int×Int)×zT)) (d0:zT),zO k l=some d0→d.votes.length≤d0.votes.length+m→tvl (putD k d l)≤tvl l+m
 | [],d0,h,_=>by cases h
 | p :: r,d0,h,hv=>by
  unfold putD
  simp only [zO] at h
  by_cases e:p.1=k
  ·rw [if_pos e.symm] at h
   cases h
   rw [if_pos e,qP,qP]
   simp only
   omega
  ·rw [if_neg (fun q=>e q.symm)] at h
   have:=zFy k d m r d0 h hv
   rw [if_neg e,qP,qP]
   omega
theorem get_put {w:zN} {a id:Int} {d:zT} (h:(Z7 w a id).isSome=true):ZP (j6 w a id d)=upd (ZP w) a id d:=by
 funext a' id'
 unfold ZP j6 Z7 upd
 simp only
 rw [zEI h]
 by_cases e:a'=a∧id'=id
 ·rw [if_pos (by rw [e.1,e.2]),if_pos e]; rfl
 ·rw [if_neg (fun q=>e (Prod.mk.inj q)),if_neg e]
theorem zHv {k:Int×Int}:∀ {l:List ((Int×Int)×zT)},zO k l=none↔k∉l.map (·.1)
 | []=>by simp [zO]
 | p :: r=>by
  simp only [zO,List.map_cons,List.mem_cons,not_or]
  by_cases e:k=p.1
  ·rw [if_pos e]; simp [e]
  ·rw [if_neg e,zHv (l:=r)]; simp [e]
theorem zGf {k k':Int×Int} {d:zT}:∀ {l:List ((Int×Int)×zT)},zO k' (l++[(k,d)])=(zO k' l).or (if k'=k then some d else none)
 | []=>by simp [zO]
 | p :: r=>by
  simp only [List.cons_append,zO]
  by_cases e:k'=p.1
  ·rw [if_pos e,if_pos e]; rfl
  ·rw [if_neg e,if_neg e]; exact zGf
theorem get_at {w:zN} {a id:Int}:ZP (w_at w a id)=ZP w∧(Z7 (w_at w a id) a id).isSome=true:=by
 unfold w_at
 by_cases h:(Z7 w a id).isSome=true
 ·rw [if_pos h]; exact ⟨rfl,h⟩
 ·rw [if_neg h]
  have hn:zO (a,id) w.desks=none:=by
   unfold Z7 at h
   cases q:zO (a,id) w.desks with
   | none=>rfl
   | some d=>rw [q] at h; exact absurd rfl h
  constructor
  ·funext a' id'
   unfold ZP Z7
   simp only
   rw [zGf]
   by_cases e:(a',id')=(a,id)
   ·rw [e,hn,if_pos rfl]; rfl
   ·rw [if_neg e,Option.or_none]
  ·unfold Z7
   simp only
   rw [zGf,hn,if_pos rfl]; rfl
def ZC (a id:Int) (d:zT):zS:=match d.chair with
 | none=>⟨a,id,d.note,d.wish,d.has,0,[],false⟩
 | some ch=>⟨a,id,d.note,d.wish,d.has,ch.round,ch.promises,ch.proposed⟩
def atB (a id:Int) (s:zS):Bool:=decide (s.Arbiter=a)&&decide (s.Case=id)
def sitS (L:List zS) (a id:Int):zS:=(L.find? (atB a id)).getD ⟨a,id,⟨0,0,0,0⟩,0,false,0,[],false⟩
def putS (L:List zS) (s:zS):List zS:=match L.findIdx? (atB s.Arbiter s.Case) with
 | none=>L++[s]
 | some i=>L.set i s
theorem zKP (s:zS):atB s.Arbiter s.Case s=true:=by simp [atB]
theorem zFW {a id:Int} {s:zS} (h:atB a id s=true):s.Arbiter=a∧s.Case=id:=by simpa [atB] using h
theorem zJ7 {p:zS→Bool} {s:zS}:∀ {L:List zS} {i:Nat} {t:zS},L[i]? = some t→p t=p s→(p s=true→∀ (j:Nat) u,j<i→L[j]? = some u→p u=false)→(L.set i s).find? p=if p s=true then some s else L.find? p
 | [],i,t,h,_,_=>by cases h
 | u :: r,0,t,h,hp,_=>by
  simp only [List.getElem?_cons_zero,Option.some.injEq] at h
  subst h
  rw [List.set_cons_zero,List.find?_cons,List.find?_cons,hp]
  cases p s <;> rfl
 | u :: r,i+1,t,h,hp,hn=>by
  simp only [List.getElem?_cons_succ] at h
  have ih:=zJ7 (L:=r) (i:=i) h hp fun q j v hj hv=>hn q (j+1) v (by omega) (by simpa using hv)
  rw [List.set_cons_succ,List.find?_cons,List.find?_cons,ih]
  cases hs:p s with
  | true =>
   have:=hn hs 0 u (by omega) rfl
   simp [this]
  | false=>simp
theorem sit_put (L:List zS) (s:zS) (a id:Int):sitS (putS L s) a id=if a=s.Arbiter∧id=s.Case then s else sitS L a id:=by
 unfold putS
 cases hf:L.findIdx? (atB s.Arbiter s.Case) with
 | none =>
  have hn:=List.findIdx?_eq_none_iff.1 hf
  unfold sitS
  simp only [List.find?_append,List.find?_cons,List.find?_nil]
  by_cases e:a=s.Arbiter∧id=s.Case
  ·rw [if_pos e,e.1,e.2,List.find?_eq_none.2 (fun x hx=>by rw [hn x hx]; decide),zKP]; rfl
  ·have:atB a id s=false:=by
    cases q:atB a id s with
    | false=>rfl
    | true=>exact absurd ⟨(zFW q).1.symm,(zFW q).2.symm⟩ e
   rw [if_neg e,this,Option.or_none]
 | some i =>
  obtain ⟨hi,h1,h2⟩:=List.findIdx?_eq_some_iff_getElem.1 hf
  unfold sitS
  simp only
  have hli:=zFW h1
  rw [zJ7 (List.getElem?_eq_getElem hi) (by unfold atB; rw [hli.1,hli.2]) (fun q j u hj hu=>by
   have:=h2 j hj
   obtain ⟨hj',e⟩:=List.getElem?_eq_some_iff.1 hu
   rw [← e]
   have q2:=zFW q
   rw [← q2.1,← q2.2]
   simpa using this)]
  by_cases e:a=s.Arbiter∧id=s.Case
  ·rw [if_pos e,e.1,e.2,zKP,if_pos rfl]; rfl
  ·have:atB a id s=false:=by
    cases q:atB a id s with
    | false=>rfl
    | true=>exact absurd ⟨(zFW q).1.symm,(zFW q).2.symm⟩ e
   rw [if_neg e,this,if_neg (by decide)]
theorem zNh (L:List zS) (s:zS):(putS L s).length≤L.length+1:=by
 unfold putS
 split <;> simp
theorem zNc (y:zH) (hl:y.Seats.length≤4000) (a id:Int):zD6 y a id=some (ixOf (atB a id) y.Seats):=by
 unfold zD6
 refine YN (atB a id) y.Seats hl (fun i hi=>?_) ?_
 ·unfold zB5
  simp only [dlt hi,if_true,Zf hi,Option.bind_some,w64i hi hl]
  unfold atB
  rw [gb_some fun h=>by rw [h]; simp]
  split <;> rfl
 ·unfold zB5
  simp [dge,zFc]
theorem zCk (y:zH) (hl:y.Seats.length≤4000) (a id:Int):zAs y a id=some (sitS y.Seats a id):=by
 unfold zAs sitS
 rw [zNc y hl,Option.bind_some,zGy]
 unfold ixOf
 cases hf:y.Seats.findIdx? (atB a id) with
 | none=>simp
 | some i =>
  obtain ⟨hi,_⟩:=List.findIdx?_eq_some_iff_getElem.1 hf
  have : ¬ (i:Int)<0:=by omega
  simp only [this,decide_false,Bool.false_eq_true,if_false,Zf hi,Option.bind_some,List.getElem?_eq_getElem hi,Option.getD_some]
theorem zCl (y:zH) (hl:y.Seats.length≤3999) (s:zS):Yo y s=some { y with Seats:=putS y.Seats s }:=by
 unfold Yo putS
 rw [zNc y (by omega),Option.bind_some,Zk (by simp; omega),Option.bind_some,List.nil_append]
 unfold ixOf
 cases hf:y.Seats.findIdx? (atB s.Arbiter s.Case) with
 | none =>
  have:((-1:Int)<0):=by omega
  simp only [this,decide_true,if_true]
  rw [Zk (by simp; omega),Option.bind_some]; rfl
 | some i =>
  obtain ⟨hi,_⟩:=List.findIdx?_eq_some_iff_getElem.1 hf
  have : ¬ (i:Int)<0:=by omega
  simp only [this,decide_false,Bool.false_eq_true,if_false,Zf hi,Option.bind_some]
  rfl
def mkL (l:zA) (t n:Int):zA:={ l with To:=t,ID:=n }
theorem mkL_alk (l:zA) (t n:Int):Alk (mkL l t n) l:=jF.2 ⟨rfl,rfl,rfl,rfl,rfl,rfl⟩
def yl (l:zA) (w:zN) (t:Int):zN:={ w with last:=w.last+1,sent:=w.sent++[mkL l t (w.last+1)],letters:=if (w.letters.length:Int)<200 then w.letters++[mkL l t (w.last+1)] else w.letters }
def y9 (l:zA) (tos:List Int) (w:zN):zN:=tos.foldl (yl l) w
theorem zMT {w:zN} (l:zA) (t:Int) (hn:w.last=(w.sent.length:Nat)) (hs:w.sent.length≤3999) (hl:w.letters.length≤200):zDv w l t=some (yl l w t):=by
 have e:w64 (w.last+1)=w.last+1:=JD (by omega) (by omega)
 unfold zDv yl zBs mkL
 rw [e,Zk (by simp; omega),Option.bind_some]
 by_cases h:(w.letters.length:Int)<200
 ·rw [if_pos (decide_eq_true h),if_pos h,Zk (by simp; omega),Option.bind_some]
 ·rw [if_neg (by rw [decide_eq_false h]; decide),if_neg h]
theorem zDt (l:zA):∀ (tos:List Int) {w:zN},w.last=(w.sent.length:Nat)→w.sent.length+tos.length≤4000→w.letters.length≤200→yx l tos w=some (y9 l tos w)
 | [],w,_,_,_=>rfl
 | t :: r,w,h1,h2,h3=>by
  simp only [List.length_cons] at h2
  unfold yx
  rw [zMT l t h1 (by omega) h3,Option.bind_some]
  refine zDt l r ?_ ?_ ?_
  ·unfold yl; simp only [List.length_append,List.length_singleton]; omega
  ·unfold yl; simp only [List.length_append,List.length_singleton]; omega
  ·unfold yl
   simp only
   split
   ·simp only [List.length_append,List.length_singleton]; omega
   ·exact h3
structure SendsTo (l:zA) (tos:List Int) (w w':zN) (X:List zA):Prop where
 sent:w'.sent=w.sent++X
 len:X.length=tos.length
 mem:∀ x∈X,∃ t∈tos,∃ n,w.last<n∧n≤w.last+tos.length∧x=mkL l t n
 last:w'.last=w.last+tos.length
 court:w'.court=w.court
 desks:w'.desks=w.desks
 cases:w'.cases=w.cases
 way:∀ y∈w'.letters,y∈w.letters∨y∈X
 room:w.letters.length≤200→w'.letters.length≤200
theorem zBK (l:zA):∀ (tos:List Int) (w:zN),∃ X,SendsTo l tos w (y9 l tos w) X
 | [],w=>⟨[],⟨(List.append_nil _).symm,rfl,(fun x h=>by cases h),(by simp [y9]),rfl,rfl,rfl,fun y h=>.inl h,fun h=>h⟩⟩
 | t :: r,w=>by
  obtain ⟨X,h⟩:=zBK l r (yl l w t)
  have hl:(yl l w t).last=w.last+1:=rfl
  refine ⟨mkL l t (w.last+1) :: X,⟨?_,by simp [h.len],fun x hx=>?_,?_,h.court,h.desks,h.cases,fun y hy=>?_,fun hr=>h.room ?_⟩⟩
  ·have:=h.sent
   show (y9 l r (yl l w t)).sent=_
   rw [this]
   simp [yl]
  ·rcases List.mem_cons.1 hx with rfl | hx
   ·exact ⟨t,List.mem_cons_self,_,by omega,by simp only [List.length_cons]; omega,rfl⟩
   ·obtain ⟨t',h1,n,h2,h3,h4⟩:=h.mem x hx
    exact ⟨t',List.mem_cons_of_mem _ h1,n,by omega,by simp only [List.length_cons]; omega,h4⟩
  ·have:=h.last
   show (y9 l r (yl l w t)).last=_
   rw [this,hl]; simp only [List.length_cons]; omega
  ·rcases h.way y hy with q | q
   ·unfold yl at q
    simp only at q
    split at q
    ·rcases List.mem_append.1 q with q | q
     ·exact .inl q
     ·exact .inr (by rw [List.mem_singleton.1 q]; exact List.mem_cons_self)
    ·exact .inl q
   ·exact .inr (List.mem_cons_of_mem _ q)
  ·unfold yl
   simp only
   split
   ·simp only [List.length_append,List.length_singleton]; omega
   ·exact hr
def rsend1 (l:zA) (y:zH) (t:Int):zH:={ y with Number:=y.Number+1,All:=y.All++[mkL l t (y.Number+1)],Way:=if (y.Way.length:Int)<200 then y.Way++[mkL l t (y.Number+1)] else y.Way }
def rsends (l:zA) (tos:List Int) (y:zH):zH:=tos.foldl (rsend1 l) y
theorem zGG {y:zH} (l:zA) (hn:y.Number=(y.All.length:Nat)) (hs:y.All.length≤3999) (hl:y.Way.length≤200):QU y l=some (rsend1 l y l.To):=by
 have e:w64 (y.Number+1)=y.Number+1:=JD (by omega) (by omega)
 unfold QU zAa rsend1 mkL
 rw [e,Zk (by simp; omega),Option.bind_some,Zk (by simp; omega),Option.bind_some]
 by_cases h:(y.Way.length:Int)<200
 ·rw [if_pos (decide_eq_true h),if_pos h,Zk (by simp; omega),Option.bind_some,Zk (by simp; omega),Option.bind_some]; rfl
 ·rw [if_neg (by rw [decide_eq_false h]; decide),if_neg h]; rfl
structure RSends (tos:Nat) (y y':zH):Prop where
 num:y'.Number=(y'.All.length:Nat)
 len:y'.All.length=y.All.length+tos
 way:y'.Way.length≤200
 C:y'.C=y.C
 seats:y'.Seats=y.Seats
 got:y'.Got=y.Got
 named:y'.Named=y.Named
theorem zD0 (l:zA) (y:zH) (t:Int):(rsend1 l y t).C=y.C∧(rsend1 l y t).Seats=y.Seats∧(rsend1 l y t).Got=y.Got∧(rsend1 l y t).Named=y.Named:=by unfold rsend1; exact ⟨rfl,rfl,rfl,rfl⟩
theorem zBz (l:zA):∀ (tos:List Int) {y:zH},y.Number=(y.All.length:Nat)→y.Way.length≤200→RSends tos.length y (rsends l tos y)
 | [],y,h1,h2=>⟨h1,rfl,h2,rfl,rfl,rfl,rfl⟩
 | t :: r,y,h1,h2=>by
  have h:=zBz l r (y:=rsend1 l y t) (by unfold rsend1; simp only [List.length_append,List.length_singleton]; omega) (by
   unfold rsend1
   simp only
   split
   ·simp only [List.length_append,List.length_singleton]; omega
   ·exact h2)
  have e:rsends l (t :: r) y=rsends l r (rsend1 l y t):=by unfold rsends; rw [List.foldl_cons]
  rw [e]
  have hl:(rsend1 l y t).All.length=y.All.length+1:=by
   show (y.All++[mkL l t (y.Number+1)]).length=_
   rw [List.length_append]; rfl
  have h1:(rsends l r (rsend1 l y t)).All.length=y.All.length+(t :: r).length:=by
   rw [h.len,hl,List.length_cons]
   omega
  exact { num:=h.num,len:=h1,way:=h.way,C:=h.C.trans (zD0 l y t).1,seats:=h.seats.trans (zD0 l y t).2.1,got:=h.got.trans (zD0 l y t).2.2.1,named:=h.named.trans (zD0 l y t).2.2.2 }
def allI (c:zD):List Int:=(List.range c.Arbiters.toNat).map fun (n:Nat)=>(n:Int)
theorem zO3 (c:zD):(allI c).length=c.Arbiters.toNat:=by simp [allI]
theorem zHD {c:zD} {t:Int} (h:t∈allI c):0≤t∧t<c.Arbiters:=by
 unfold allI at h
 obtain ⟨n,h1,rfl⟩:=List.mem_map.1 h
 have:=List.mem_range.1 h1
 omega
theorem all_eq {w:zN} {c:zD} (h:w.court=c):yz w=allI c:=by unfold yz allI; rw [h]
theorem zJK {y:zH} (l:zA) {c:zD} (hc:okC c=true) (hC:y.C=c) (hn:y.Number=(y.All.length:Nat)) (hs:y.All.length≤3990) (hl:y.Way.length≤200):Js y l=some (rsends l (allI c) y):=by
 obtain ⟨g1,g2⟩:=jI hc
 unfold Js
 suffices h:∃ s,Lp (QT l) fuel (0,y.C.Arbiters,y.Named,y.Seats,y.Got,y.Way,y.All,y.Number,l.To)=some s∧s=rsends l (allI c) y by obtain ⟨s,h,rfl⟩:=h; exact h
 have hpre:∀ i,((List.range i).map fun (n:Nat)=>(n:Int)).length=i:=fun i=>by simp
 refine lp_inv' (fun (i:Nat) (s:Int×Int×(List Int)×(List zS)×(List zA)×(List zA)×(List zA)×Int×Int) => ∃ To,∀ z,z=rsends l ((List.range i).map fun (n:Nat)=>(n:Int)) y→s=((i:Int),z.C.Arbiters,z.Named,z.Seats,z.Got,z.Way,z.All,z.Number,To)) (fun s=>s=rsends l (allI c) y) c.Arbiters.toNat (by omega) ⟨l.To,fun z hz=>by subst hz; rfl⟩ fun i s hi hI=>?_
 obtain ⟨To,hs'⟩:=hI
 have hsp:=zBz l ((List.range i).map fun (n:Nat)=>(n:Int)) hn hl
 rw [hpre] at hsp
 generalize hz:rsends l ((List.range i).map fun (n:Nat)=>(n:Int)) y=z at hs' hsp
 rw [hs' z rfl]
 have hzc:z.C.Arbiters=c.Arbiters:=by rw [hsp.C,hC]
 unfold QT
 by_cases hlt:i<c.Arbiters.toNat
 ·have h1:(i:Int)<z.C.Arbiters:=by omega
  simp only [h1,decide_true,if_true]
  have e:=zGG (y:=(⟨⟨z.C.Arbiters⟩,z.Named,z.Seats,z.Got,z.Way,z.All,z.Number⟩:zH)) (⟨l.ID,l.Case,l.Kind,l.Round,l.From,(i:Int),l.Voted,l.Finding⟩:zA) hsp.num (by have:=hsp.len; simp only; omega) hsp.way
  rw [e,Option.bind_some]
  refine .inl ⟨hlt,_,rfl,(i:Int),fun z' hz' => ?_⟩
  have e2:rsends l ((List.range (i+1)).map fun (n:Nat)=>(n:Int)) y=rsend1 l z (i:Int):=by
   rw [List.range_succ,List.map_append]
   unfold rsends at hz ⊢
   rw [List.foldl_append,hz]; rfl
  rw [hz',e2,w64s i (by omega)]
  rfl
 ·have hi':i=c.Arbiters.toNat:=by omega
  have h1 : ¬ (i:Int)<z.C.Arbiters:=by omega
  simp only [h1,decide_false,Bool.false_eq_true,if_false]
  refine .inr ⟨z,rfl,?_⟩
  rw [← hz,hi']; rfl
def insS (l:List Int) (id:Int):List Int:=l.takeWhile (fun x=>decide (x<id))++id :: l.dropWhile (fun x=>decide (x<id))
def nmC (l:List Int) (id:Int):List Int:=if id∈l then l else insS l id
theorem zJy {l:List Int} (hl:l.length≤4000) (v:Int):slices_Contains_int l v=some (decide (v∈l)):=by
 unfold slices_Contains_int slices_Index_int
 rw [YN (fun x=>decide (v=x)) l hl (fun i hi=>by
  unfold J4
  simp only [dlt hi,if_true,Zf hi,Option.bind_some,w64i hi hl]
  by_cases e:v=l[i]
  ·simp [e,jB]
  ·simp [e,jB]) (by
  unfold J4
  simp [dge,jB])]
 simp only [Option.bind_some,zCQ]
 congr 1
 rw [Bool.eq_iff_iff]
 simp
theorem zJr {l:List Int} {id:Int} (hs:l.Pairwise (· < ·)) (hn:id∉l):(insS l id).Pairwise (· < ·)∧(insS l id).Perm (l++[id])∧(insS l id).length=l.length+1:=by
 have e:l=l.takeWhile (fun x=>decide (x<id))++l.dropWhile (fun x=>decide (x<id)):=List.takeWhile_append_dropWhile.symm
 have h1:∀ x∈l.takeWhile (fun x=>decide (x<id)),x<id:=fun x hx=>by
  have:∀ (l:List Int) (x:Int),x∈l.takeWhile (fun x=>decide (x<id))→x<id:=by
   intro l
   induction l with
   | nil=>intro x hx; cases hx
   | cons y r ih =>
    intro x hx
    rw [List.takeWhile_cons] at hx
    split at hx
    ·rename_i hy
     rcases List.mem_cons.1 hx with rfl | hx
     ·exact of_decide_eq_true hy
     ·exact ih x hx
    ·cases hx
  exact this l x hx
 have h2:∀ x∈l.dropWhile (fun x=>decide (x<id)),id<x:=by
  clear e h1
  induction l with
  | nil=>intro x hx; cases hx
  | cons y r ih =>
   intro x hx
   rw [List.pairwise_cons] at hs
   rw [List.dropWhile_cons] at hx
   split at hx
   ·exact ih hs.2 (fun q=>hn (List.mem_cons_of_mem _ q)) x hx
   ·rename_i hy
    have hy' : ¬ y<id:=by simpa using hy
    have hne:id≠y:=fun q=>hn (by rw [q]; exact List.mem_cons_self)
    rcases List.mem_cons.1 hx with rfl | hx
    ·omega
    ·have:=hs.1 x hx; omega
 have hp:(insS l id).Perm (l++[id]):=by
  unfold insS
  conv=>rhs; rw [e]
  rw [List.append_assoc]
  exact List.Perm.append_left _ (List.perm_append_comm (l₁:=[id]))
 refine ⟨?_,hp,by have:=hp.length_eq; simpa using this⟩
 unfold insS
 rw [e,List.pairwise_append] at hs
 rw [List.pairwise_append,List.pairwise_cons]
 refine ⟨hs.1,⟨h2,hs.2.1⟩,fun x hx y hy=>?_⟩
 rcases List.mem_cons.1 hy with rfl | hy
 ·exact h1 x hx
 ·exact hs.2.2 x hx y hy
theorem nm_spec {l:List Int} (id:Int) (hs:l.Pairwise (· < ·)):(nmC l id).Pairwise (· < ·)∧(nmC l id).length≤l.length+1∧(∀ x,x∈nmC l id↔x∈l∨x=id):=by
 unfold nmC
 split
 ·rename_i h
  refine ⟨hs,by omega,fun x=>⟨.inl,?_⟩⟩
  rintro (q | rfl)
  ·exact q
  ·exact h
 ·rename_i h
  obtain ⟨h1,h2,h3⟩:=zJr hs h
  refine ⟨h1,by omega,fun x=>?_⟩
  rw [h2.mem_iff,List.mem_append,List.mem_singleton]
theorem zF7 {w:zN} {id:Int} (hs:w.cases.Pairwise (· < ·)) (hl:w.cases.length≤3999):zBI w id=some { w with cases:=nmC w.cases id }:=by
 unfold zBI nmC
 rw [zJy (by omega),Option.bind_some]
 by_cases h:id∈w.cases
 ·rw [if_pos (decide_eq_true h),if_pos h]
 ·rw [if_neg (by rw [decide_eq_false h]; decide),if_neg h,Zk (by simp; omega),Option.bind_some]
  obtain ⟨h1,h2,h3⟩:=zJr hs h
  have e:srtI (w.cases++[id])=insS w.cases id:=by
   obtain ⟨q1,q2⟩:=zAo (w.cases++[id])
   exact List.Perm.eq_of_pairwise (le:=fun a b:Int=>a≤b) (fun a b _ _ h1 h2=>by omega) q2 (h1.imp fun h=>Int.le_of_lt h) (q1.trans h2.symm)
  unfold srtO
  rw [if_pos (by simp; omega),Option.bind_some,e]
theorem zKc (l:List Int) (id:Int):l.takeWhile (fun x=>decide (x<id))=l.take (l.takeWhile (fun x=>decide (x<id))).length∧l.dropWhile (fun x=>decide (x<id))=l.drop (l.takeWhile (fun x=>decide (x<id))).length:=by
 have e:l.takeWhile (fun x=>decide (x<id))++l.dropWhile (fun x=>decide (x<id))=l:=List.takeWhile_append_dropWhile
 generalize l.takeWhile (fun x=>decide (x<id))=a at e ⊢
 generalize l.dropWhile (fun x=>decide (x<id))=b at e ⊢
 subst e
 exact ⟨List.take_left.symm,List.drop_left.symm⟩
theorem zHd {y:zH} (id:Int) (hl:y.Named.length≤4000):zAJ y id=some (decide (id∈y.Named)):=by
 unfold zAJ
 rw [zO2 (fun x=>decide (x=id)) y.Named hl (fun i hi=>by
  unfold qa
  simp only [dlt hi,if_true,Zf hi,Option.bind_some,w64i hi hl]
  split <;> rfl) (by
  unfold qa
  simp [dge,zB4])]
 congr 1
 rw [Bool.eq_iff_iff]
 simp
theorem zJL {y:zH} {id:Int} (hl:y.Named.length≤3999):zBM y id=some { y with Named:=nmC y.Named id }:=by
 unfold zBM nmC
 rw [zHd id (by omega),Option.bind_some]
 by_cases h:id∈y.Named
 ·rw [if_pos (decide_eq_true h),if_pos h]
 ·rw [if_neg (by rw [decide_eq_false h]; decide),if_neg h]
  obtain ⟨t1,t2⟩:=zKc y.Named id
  have hkl:(y.Named.takeWhile (fun x=>decide (x<id))).length≤y.Named.length:=(List.takeWhile_sublist _).length_le
  have hin:∀ i,i<(y.Named.takeWhile (fun x=>decide (x<id))).length→∃ h:i<y.Named.length,y.Named[i]<id:=fun i hi=>by
   have hlt:i<y.Named.length:=by omega
   refine ⟨hlt,?_⟩
   have:y.Named[i]∈y.Named.takeWhile (fun x=>decide (x<id)):=by
    rw [t1]
    rw [List.mem_take_iff_getElem]
    exact ⟨i,by omega,rfl⟩
   have key:∀ (l:List Int) (x:Int),x∈l.takeWhile (fun x=>decide (x<id))→x<id:=by
    intro l
    induction l with
    | nil=>intro x hx; cases hx
    | cons y r ih =>
     intro x hx
     rw [List.takeWhile_cons] at hx
     split at hx
     ·rename_i hy
      rcases List.mem_cons.1 hx with rfl | hx
      ·exact of_decide_eq_true hy
      ·exact ih x hx
     ·cases hx
   exact key _ _ this
  have hat:∀ h:(y.Named.takeWhile (fun x=>decide (x<id))).length<y.Named.length,¬ y.Named[(y.Named.takeWhile (fun x=>decide (x<id))).length]<id:=fun hlt hc=>by
   have key:∀ (l:List Int) (hlt:(l.takeWhile (fun x=>decide (x<id))).length<l.length),¬ l[(l.takeWhile (fun x=>decide (x<id))).length]<id:=by
    intro l
    induction l with
    | nil=>intro h; simp at h
    | cons z r ih =>
     intro hlt
     by_cases hz:z<id
     ·have e:(z :: r).takeWhile (fun x=>decide (x<id))=z :: r.takeWhile (fun x=>decide (x<id)):=by rw [List.takeWhile_cons,if_pos (decide_eq_true hz)]
      simp only [e,List.length_cons,List.getElem_cons_succ] at hlt ⊢
      exact ih (by omega)
     ·have e:(z :: r).takeWhile (fun x=>decide (x<id))=[]:=by rw [List.takeWhile_cons,if_neg (by rw [decide_eq_false hz]; decide)]
      simp only [e,List.length_nil,List.getElem_cons_zero]
      exact hz
   exact key _ hlt hc
  suffices h:∃ s,Lp (zAf y id) fuel 0=some s∧s = { y with Named:=insS y.Named id } by obtain ⟨s,h,rfl⟩:=h; exact h
  generalize hk:(y.Named.takeWhile (fun x=>decide (x<id))).length=k at *
  refine lp_inv' (fun (i:Nat) (s:Int)=>s=(i:Int)) (fun s=>s = { y with Named:=insS y.Named id }) k (by omega) rfl fun i s hi hI=>?_
  subst hI
  unfold zAf
  by_cases hlt:i<k
  ·obtain ⟨hil,hx⟩:=hin i hlt
   refine .inl ⟨hlt,((i+1:Nat):Int),?_,rfl⟩
   simp only [dlt hil,Zf hil,gb,if_true,Option.bind_some,Bool.true_and,decide_eq_true hx,w64i hil (by omega:y.Named.length≤4000)]
  ·have e:i=k:=by omega
   subst e
   have hj:zAe y id (i:Int)=some { y with Named:=insS y.Named id }:=by
    unfold zAe
    rw [zGA hkl,Option.bind_some,Zk (by simp; omega),Option.bind_some,List.nil_append,Zk (by simp; omega),Option.bind_some,zBu hkl,Option.bind_some,Zk (by simp; omega),Option.bind_some]
    unfold insS
    rw [t1,t2]
    simp
   refine .inr ⟨_,?_,rfl⟩
   by_cases hil:i<y.Named.length
   ·have hx:=hat hil
    simp only [dlt hil,Zf hil,gb,if_true,Option.bind_some,Bool.true_and,decide_eq_false hx,Bool.false_eq_true,if_false,hj,Option.map_some]
   ·have hc : ¬ (i:Int)<(y.Named.length:Int):=by omega
    simp only [hc,decide_false,gb,Bool.false_eq_true,if_false,Bool.false_and,Option.bind_some,hj,Option.map_some]
theorem zI9 {w:zN} (id:Int) (hl:w.cases.length≤4000):zDR w id=some (!decide (id∈w.cases)&&decide (40≤(w.cases.length:Int))):=by
 unfold zDR
 rw [zJy hl,Option.bind_some]
theorem zHe {y:zH} (id:Int) (hl:y.Named.length≤4000):zAK y id=some (!(!decide (id∈y.Named)&&decide (40≤(y.Named.length:Int)))):=by
 unfold zAK
 rw [zHd id hl,Option.bind_some]
 congr 1
 have:decide ((y.Named.length:Int)<40) = !decide (40≤(y.Named.length:Int)):=by
  rw [Bool.eq_iff_iff]
  simp
 rw [this]
 cases decide (id∈y.Named) <;> cases decide (40≤(y.Named.length:Int)) <;> rfl
end Go.Mx
