/- Part of the proof of TopRulingsArePostedOnce: plain laws about the functions of M, no program in sight. Conditions: none. -/
import Derived.Test.YtggkidlcohickaaGreatLawWe
set_option linter.unusedVariables false
set_option linter.unusedSimpArgs false
namespace Go.Mx
def ddF2 (acc:List zA) (x:zA):List zA:=if acc.any (fun y=>decide (y.From=x.From)&&decide (y.Round=x.Round))=true then acc else acc++[x]
def ddV (L:List zA):List zA:=L.foldl ddF2 []
def gotF (a id:Int) (x:zA):Bool:=decide (x.To=a)&&decide (x.Case=id)
structure Rel (w:zN) (y:zH):Prop where
 C:y.C=w.court
 named:y.Named=w.cases
 way:y.Way=w.letters
 all:y.All=w.sent
 num:y.Number=w.last
 seat:∀ a id,sitS y.Seats a id=ZC a id (ZP w a id)
 got:∀ a id,(ZP w a id).votes=ddV (y.Got.filter (gotF a id))
structure Bd (c:zD) (k m:Nat) (w:zN) (y:zH):Prop where
 court:w.court=c
 way:∀ x∈w.letters,x∈w.sent
 num:w.last=(w.sent.length:Nat)
 keys:(w.desks.map (·.1)).Nodup
 cases:w.cases.Pairwise (· < ·)
 few:w.cases.length≤40
 room:w.letters.length≤200
 rel:Rel w y
 sent:w.sent.length≤k
 seats:y.Seats.length≤m
 gotl:y.Got.length≤m
 tv:tvl w.desks≤m
 gots:∀ g∈y.Got,g∈w.sent∧g.Kind=4
 ids:∀ i∈w.cases,inI i 1 1099511627776=true
section
variable {c:zD} {k m:Nat} {w:zN} {y:zH} {a id:Int} {d:zT} {l:zA} {tos:List Int}
theorem Bd.mono {k' m':Nat} (h:Bd c k m w y) (hk:k≤k') (hm:m≤m'):Bd c k' m' w y :=
 ⟨h.court,h.way,h.num,h.keys,h.cases,h.few,h.room,h.rel,Nat.le_trans h.sent hk,Nat.le_trans h.seats hm,Nat.le_trans h.gotl hm,Nat.le_trans h.tv hm,h.gots,h.ids⟩
theorem zAW (w:zN) (a id:Int):(w_at w a id).court=w.court∧(w_at w a id).last=w.last∧(w_at w a id).letters=w.letters∧(w_at w a id).sent=w.sent∧(w_at w a id).cases=w.cases:=by
 unfold w_at
 split <;> exact ⟨rfl,rfl,rfl,rfl,rfl⟩
theorem Bd.at_ (h:Bd c k m w y) (a id:Int):Bd c k m (w_at w a id) y:=by
 obtain ⟨e1,e2,e3,e4,e5⟩:=zAW w a id
 have hg:=(get_at (w:=w) (a:=a) (id:=id)).1
 refine ⟨e1.trans h.court,by rw [e3,e4]; exact h.way,by rw [e2,e4]; exact h.num,?_,by rw [e5]; exact h.cases,by rw [e5]; exact h.few,by rw [e3]; exact h.room,⟨by rw [e1]; exact h.rel.C,by rw [e5]; exact h.rel.named,by rw [e3]; exact h.rel.way,by rw [e4]; exact h.rel.all,by rw [e2]; exact h.rel.num,by rw [hg]; exact h.rel.seat,by rw [hg]; exact h.rel.got⟩,by rw [e4]; exact h.sent,h.seats,h.gotl,?_,by rw [e4]; exact h.gots,by rw [e5]; exact h.ids⟩
 ·unfold w_at
  split
  ·exact h.keys
  ·rename_i hn
   simp only [List.map_append,List.map_cons,List.map_nil]
   rw [List.nodup_append]
   refine ⟨h.keys,by simp,fun x hx z hz e=>?_⟩
   rw [List.mem_singleton] at hz
   subst hz
   subst e
   refine hn ?_
   unfold Z7
   cases q:zO (a,id) w.desks with
   | some d=>rfl
   | none=>exact absurd hx (zHv.1 q)
 ·unfold w_at
  split
  ·exact h.tv
  ·have:tvl (w.desks++[((a,id),yN)])=tvl w.desks:=by unfold tvl; simp [yN]
   simp only
   rw [this]
   exact h.tv
theorem zJG {w:zN} {a id:Int} (h:(Z7 w a id).isSome=true):zO (a,id) w.desks=some (ZP w a id):=by
 unfold ZP
 unfold Z7 at h ⊢
 cases q:zO (a,id) w.desks with
 | none=>rw [q] at h; cases h
 | some d=>rfl
theorem Bd.put (h:Bd c k m w y) (hp:(Z7 w a id).isSome=true) (hv:d.votes=(ZP w a id).votes):Bd c k (m+1) (j6 w a id d) { y with Seats:=putS y.Seats (ZC a id d) }:=by
 have hg:=get_put (d:=d) hp
 refine ⟨h.court,h.way,h.num,?_,h.cases,h.few,h.room,⟨h.rel.C,h.rel.named,h.rel.way,h.rel.all,h.rel.num,fun a' id' => ?_,fun a' id' => ?_⟩,h.sent,?_,by have:=h.gotl; simp only; omega,?_,h.gots,h.ids⟩
 ·show ((putD (a,id) d w.desks).map (·.1)).Nodup
  rw [zGN]; exact h.keys
 ·simp only
  rw [hg,sit_put]
  have e1:(ZC a id d).Arbiter=a:=by unfold ZC; split <;> rfl
  have e2:(ZC a id d).Case=id:=by unfold ZC; split <;> rfl
  rw [e1,e2]
  unfold upd
  by_cases e:a'=a∧id'=id
  ·rw [if_pos e,if_pos e,e.1,e.2]
  ·rw [if_neg e,if_neg e]; exact h.rel.seat a' id'
 ·rw [hg]
  unfold upd
  by_cases e:a'=a∧id'=id
  ·rw [if_pos e,hv,e.1,e.2]; exact h.rel.got a id
  ·rw [if_neg e]; exact h.rel.got a' id'
 ·have:=zNh y.Seats (ZC a id d)
  have:=h.seats
  simp only; omega
 ·have:=zFy (a,id) d 0 w.desks (ZP w a id) (zJG hp) (by rw [hv]; omega)
  have:=h.tv
  show tvl (putD (a,id) d w.desks)≤m+1
  omega
theorem zMi (h:Rel w y) (t:Int):Rel (yl l w t) (rsend1 l y t):=by
 obtain ⟨r1,r2,r3,r4⟩:=zD0 l y t
 refine ⟨r1.trans h.C,r4.trans h.named,?_,?_,?_,fun a id=>by rw [r2]; exact h.seat a id,fun a id=>by rw [r3]; exact h.got a id⟩
 ·unfold rsend1 yl; simp only; rw [h.way,h.num]
 ·unfold rsend1 yl; simp only; rw [h.all,h.num]
 ·unfold rsend1 yl; simp only; rw [h.num]
theorem zHg : ∀ (tos:List Int) {w:zN} {y:zH},Rel w y→Rel (y9 l tos w) (rsends l tos y)
 | [],w,y,h=>h
 | t :: r,w,y,h=>by
  have e1:y9 l (t :: r) w=y9 l r (yl l w t):=by unfold y9; rw [List.foldl_cons]
  have e2:rsends l (t :: r) y=rsends l r (rsend1 l y t):=by unfold rsends; rw [List.foldl_cons]
  rw [e1,e2]
  exact zHg r (zMi h t)
theorem Bd.sends (h:Bd c k m w y) (hl:tos.length≤7):Bd c (k+7) m (y9 l tos w) (rsends l tos y):=by
 obtain ⟨X,hX⟩:=zBK l tos w
 have hr:=zBz l tos (y:=y) (by rw [h.rel.num,h.rel.all]; exact h.num) (by rw [h.rel.way]; exact h.room)
 refine ⟨hX.court.trans h.court,fun x hx=>?_,?_,by rw [hX.desks]; exact h.keys,by rw [hX.cases]; exact h.cases,by rw [hX.cases]; exact h.few,hX.room h.room,zHg tos h.rel,?_,by rw [hr.seats]; exact h.seats,by rw [hr.got]; exact h.gotl,by rw [hX.desks]; exact h.tv,by rw [hr.got,hX.sent]; exact fun g hg=>⟨List.mem_append_left _ (h.gots g hg).1,(h.gots g hg).2⟩,by rw [hX.cases]; exact h.ids⟩
 ·rw [hX.sent]
  rcases hX.way x hx with q | q
  ·exact List.mem_append_left _ (h.way x q)
  ·exact List.mem_append_right _ q
 ·rw [hX.last,hX.sent,List.length_append,hX.len,h.num]; omega
 ·rw [hX.sent,List.length_append,hX.len]
  have:=h.sent
  omega
theorem zC2 : ZP (y9 l tos w)=ZP w:=by
 obtain ⟨X,hX⟩:=zBK l tos w
 funext a id
 unfold ZP Z7
 rw [hX.desks]
theorem zBJ {g:Int→Int→zT} (hn:w.last=(w.sent.length:Nat)) (hs:w.sent.length≤4000) (hl:tos.length≤7) (hne:tos≠[]) (hform:∀ t∈tos,∀ n,0≤n→n≤1099511627776→fmB c (mkL l t n)=true) (hnew:∀ x,Alk x l→fmB c x=true→yJ c (w.sent++[x]) g):yJ c (y9 l tos w).sent g:=by
 obtain ⟨X,hX⟩:=zBK l tos w
 rw [hX.sent]
 cases X with
 | nil =>
  have:=hX.len
  cases tos with
  | nil=>exact absurd rfl hne
  | cons t r=>cases this
 | cons x X =>
  have hall:∀ z∈x :: X,fmB c z=true∧Alk z l:=fun z hz=>by
   obtain ⟨t,h1,n,h2,h3,rfl⟩:=hX.mem z hz
   exact ⟨hform t h1 n (by omega) (by omega),mkL_alk l t n⟩
  obtain ⟨f1,f2⟩:=hall x List.mem_cons_self
  have h1:=hnew x f2 f1
  have:=h1.more l X ⟨x,by simp,f2⟩ fun z hz=>hall z (List.mem_cons_of_mem _ hz)
  rwa [List.append_assoc] at this
theorem zJ6 (hc:okC c=true) {t n:Int} (h1:1≤l.Case∧l.Case≤1099511627776) (h2:1≤l.Round∧l.Round≤1048576) (h3:0≤l.From∧l.From<c.Arbiters) (h4:0≤t∧t<c.Arbiters) (h5:0≤n∧n≤1099511627776) (h6:0≤l.Finding∧l.Finding≤65536) (h7:kdB c (mkL l t n)=true):fmB c (mkL l t n)=true:=by
 unfold fmB
 simp only [Bool.and_eq_true,jQ]
 exact ⟨⟨⟨⟨⟨⟨⟨hc,h1⟩,h2⟩,⟨h3.1,by have:=h3.2; show l.From≤_; omega⟩⟩,⟨h4.1,by have:=h4.2; show t≤_; omega⟩⟩,h5⟩,h6⟩,h7⟩
theorem zLd {S:List zA} {ch:qO} {op:Int} (hc:okC c=true) (hL:Qs c S) (hF:∀ y∈S,fmB c y=true) (h:zBg c S a id op ch):ch.promises.length≤7:=by
 have h1:=zFD hc hL hF h (v:=(pkS ch.promises).1) (zIX ch.promises).2.1
 have h2:=(cntI_le (fun x=>decide (x.Voted≤(pkS ch.promises).1)) (prmS c S id ch.round)).2
 have h3:=zNi c hc S id ch.round
 omega
theorem zI4 (hc:okC c=true):allI c≠[]∧(allI c).length≤7:=by
 obtain ⟨g1,g2⟩:=jI hc
 have:=zO3 c
 refine ⟨fun e=>?_,by omega⟩
 rw [e] at this
 simp at this
 omega
theorem Bd.rall (h:Bd c k m w y) (hc:okC c=true) (hk:k≤3990) (l:zA):Js y l=some (rsends l (allI c) y) :=
 zJK l hc (h.rel.C.trans h.court) (by rw [h.rel.num,h.rel.all]; exact h.num) (by rw [h.rel.all]; have:=h.sent; omega) (by rw [h.rel.way]; exact h.room)
theorem Bd.wall (h:Bd c k m w y) (hc:okC c=true) (hk:k≤3990) (l:zA):yx l (yz w) w=some (y9 l (allI c) w):=by
 rw [all_eq h.court]
 exact zDt l (allI c) h.num (by have:=h.sent; have:=(zI4 hc).2; omega) h.room
theorem zD8 (hc:okC c=true) (hk:k≤3980) (hm:m≤3980) (h:Bd c k m w y) (hS:yJ c w.sent (ZP w)) (hp:(Z7 w a id).isSome=true) (ha:0≤a∧a<c.Arbiters) (hid:1≤id∧id≤1099511627776):∃ w' y',Yl w a id=some w'∧Qf y (ZC a id (ZP w a id))=some y'∧Bd c (k+7) (m+1) w' y'∧yJ c w'.sent (ZP w'):=by
 have hD:=hS.desk a id
 unfold Yl Qf
 simp only
 generalize hd:ZP w a id=d at hD
 have same:∃ w' y',some w=some w'∧some y=some y'∧Bd c (k+7) (m+1) w' y'∧yJ c w'.sent (ZP w'):=⟨w,y,rfl,rfl,h.mono (by omega) (by omega),hS⟩
 cases hch:d.chair with
 | none =>
  unfold ZC
  simp only [hch,decide_true,Bool.true_or,if_true,Bool.not_true,gb]
  exact same
 | some ch =>
  have hC:=hD.chair ch hch
  have hr0 : ¬ ch.round=0:=by have:=hC.r1; omega
  have h1:ZC a id d=⟨a,id,d.note,d.wish,d.has,ch.round,ch.promises,ch.proposed⟩:=by unfold ZC; rw [hch]
  rw [h1]
  simp only [hr0,decide_false,Bool.false_or]
  cases hpr:ch.proposed with
  | true =>
   simp only [Bool.not_true,gb,Bool.true_or,if_true]
   exact same
  | false =>
   simp only [Bool.not_false,gb,if_true,Bool.false_or,Bool.false_eq_true,if_false]
   rw [h.court,h.rel.C,h.court,zHG,zFx]
   simp only [Option.bind_some]
   by_cases hlen:(ch.promises.length:Int)<majS c
   ·simp only [hlen,decide_true,if_true]
    exact same
   ·simp only [hlen,decide_false,Bool.false_eq_true,if_false]
    have hfew:=zLd hc hS.law hS.form hC
    rw [zMp ch.promises (by omega),pick_eq ch.promises (by omega)]
    simp only [Option.bind_some]
    obtain ⟨q1,q2,q3⟩:=zIX ch.promises
    -- what is proposed
    have main:∀ f:Int,(0≤f∧f≤65536)→(0<(pkS ch.promises).1→f=(pkS ch.promises).2)→∃ w' y',yx ⟨0,id,3,ch.round,a,0,0,f⟩ (yz w) (j6 w a id { d with chair:=some { ch with proposed:=true } })=some w'∧YJ y ⟨a,id,d.note,d.wish,d.has,ch.round,ch.promises,false⟩ f=some y'∧Bd c (k+7) (m+1) w' y'∧yJ c w'.sent (ZP w'):=by
     intro f hf hb
     have hB:=h.put (d:={ d with chair:=some { ch with proposed:=true } }) hp (by rw [hd])
     have hseat:ZC a id { d with chair:=some { ch with proposed:=true } }=⟨a,id,d.note,d.wish,d.has,ch.round,ch.promises,true⟩:=rfl
     rw [hseat] at hB
     have hw:=hS.desk a id
     obtain ⟨ne,le⟩:=zI4 hc
     refine ⟨_,_,?_,?_,hB.sends (l:=⟨0,id,3,ch.round,a,0,0,f⟩) le,?_⟩
     ·exact hB.wall hc (by omega) _
     ·unfold YJ
      simp only
      rw [zCl y (by have:=h.seats; omega),Option.bind_some,hB.rall hc (by omega),Option.bind_some]
     ·rw [zC2,get_put hp]
      have hop:=hD.op
      refine zBJ (w:=j6 w a id { d with chair:=some { ch with proposed:=true } }) hB.num (by have:=hB.sent; omega) le ne (fun t ht n n1 n2=>?_) fun x hx hfx=>?_
      ·refine zJ6 hc hid ⟨hC.r1,by have:=hC.r2; simp only; omega⟩ ha (zHD ht) ⟨n1,n2⟩ hf ?_
       unfold kdB mkL
       have:zAA c ch.round=a:=by rw [zC7 hc ⟨hC.r1,by have:=hC.r2; omega⟩]; exact hC.mod
       simp [this]
      ·obtain ⟨e1,e2,e3,e4,e5,e6⟩:=jF.1 hx
       simp only at e1 e2 e3 e4 e5 e6
       have hnew:=hS.new (d:={ d with chair:=some { ch with proposed:=true } }) hfx (zJm hc hS.law hS.form hC hpr (by omega) e2 e1 e3 (fun q=>by rw [e6]; exact hb q)) (by rw [e4,e1]; exact hD.propose hch e2 e3)
       rw [e4,e1] at hnew
       exact hnew
    by_cases hv:0<(pkS ch.promises).1
    ·simp only [hv,decide_true,Bool.not_true,Bool.false_and,Bool.false_eq_true,if_false,if_true]
     refine main _ ?_ fun _=>rfl
     obtain ⟨p,p1,p2,p3⟩:=q3 hv
     rw [← p3]
     exact (Q0 (hS.form p (hC.prom p p1).1)).2.2.2.2.2.2.1
    ·simp only [hv,decide_false,Bool.not_false,Bool.true_and,Bool.false_eq_true,if_false,if_true]
     cases hh:d.has with
     | false =>
      simp only [Bool.not_false,if_true]
      exact same
     | true =>
      simp only [Bool.not_true,Bool.false_eq_true,if_false]
      have:=main d.wish ⟨(hD.wish hh).1,(hD.wish hh).2.1⟩ fun q=>absurd q hv
      rw [hh] at this
      exact this
end
section
variable {c:zD} {k m:Nat} {w:zN} {y:zH} {a id:Int} {d:zT} {l:zA}
structure Nxt (c:zD) (k m:Nat) (w':zN) (y':zH):Prop where
 bd:Bd c k m w' y'
 ok:yJ c w'.sent (ZP w')
theorem Nxt.mono {k' m':Nat} (h:Nxt c k m w y) (hk:k≤k') (hm:m≤m'):Nxt c k' m' w y:=⟨h.bd.mono hk hm,h.ok⟩
theorem Nxt.at_ (h:Nxt c k m w y) (a id:Int):Nxt c k m (w_at w a id) y:=⟨h.bd.at_ a id,by rw [(zAW w a id).2.2.2.1,get_at.1]; exact h.ok⟩
theorem Nxt.name (h:Nxt c k m w y) (hid:inI id 1 1099511627776=true) (hf:(!decide (id∈w.cases)&&decide (40≤(w.cases.length:Int)))=false):Nxt c k m { w with cases:=nmC w.cases id } { y with Named:=nmC y.Named id }:=by
 obtain ⟨n1,n2,n3⟩:=nm_spec id h.bd.cases
 refine ⟨⟨h.bd.court,h.bd.way,h.bd.num,h.bd.keys,n1,?_,h.bd.room,⟨h.bd.rel.C,by simp only; rw [h.bd.rel.named],h.bd.rel.way,h.bd.rel.all,h.bd.rel.num,h.bd.rel.seat,h.bd.rel.got⟩,h.bd.sent,h.bd.seats,h.bd.gotl,h.bd.tv,h.bd.gots,fun i hi=>((n3 i).1 hi).elim (h.bd.ids i) (fun q=>q.symm▸hid)⟩,h.ok⟩
 simp only
 by_cases e:id∈w.cases
 ·unfold nmC; rw [if_pos e]; exact h.bd.few
 ·simp only [e,decide_false,Bool.not_false,Bool.true_and,decide_eq_false_iff_not] at hf
  omega
theorem Nxt.put (h:Nxt c k m w y) (hp:(Z7 w a id).isSome=true) (hv:d.votes=(ZP w a id).votes) (hd:jJ c w.sent a id d):Nxt c k (m+1) (j6 w a id d) { y with Seats:=putS y.Seats (ZC a id d) } :=
 ⟨h.bd.put hp hv,by rw [get_put hp]; exact h.ok.set hd⟩
theorem zAp (a id:Int) (d:zT):(ZC a id d).Book=d.note∧(ZC a id d).Wish=d.wish∧(ZC a id d).Wishes=d.has∧(ZC a id d).Arbiter=a∧(ZC a id d).Case=id:=by unfold ZC; split <;> exact ⟨rfl,rfl,rfl,rfl,rfl⟩
theorem zHS (n lo hi:Int):ZG n lo hi=inI n lo hi:=rfl
theorem zOK (n lo hi:Int):jS n lo hi=inI n lo hi:=rfl
theorem zEh (hc:okC c=true):w64 (c.Arbiters - 1)=c.Arbiters - 1:=by have:=jI hc; exact JD (by omega) (by omega)
theorem zGk (hc:okC c=true) (n:Int):zW c n=inI n 0 (c.Arbiters - 1):=by unfold zW; rw [zEh hc]; rfl
theorem nxt_mod {c:zD} {a round:Int} (hc:okC c=true) (h1:0≤a) (h2:a<c.Arbiters):(nxtS c a round - 1) % c.Arbiters=a:=by
 obtain ⟨g1,g2⟩:=jI hc
 unfold nxtS
 have:c.Arbiters=3∨c.Arbiters=4∨c.Arbiters=5∨c.Arbiters=6∨c.Arbiters=7:=by omega
 rcases this with e | e | e | e | e <;> rw [e] at h2 ⊢ <;> omega
theorem Nxt.all (h:Nxt c k m w y) (hc:okC c=true) (hk:k≤3980) (hm:m≤3980) (hp:(Z7 w a id).isSome=true) (hv:d.votes=(ZP w a id).votes) (hform:∀ t∈allI c,∀ n,0≤n→n≤1099511627776→fmB c (mkL l t n)=true) (hnew:∀ x,Alk x l→fmB c x=true→lawS c w.sent x=true∧jJ c (w.sent++[x]) a id d) (hl:l.From=a∧l.Case=id):yx l (yz w) (j6 w a id d)=some (y9 l (allI c) (j6 w a id d))∧Js { y with Seats:=putS y.Seats (ZC a id d) } l=some (rsends l (allI c) { y with Seats:=putS y.Seats (ZC a id d) })∧Nxt c (k+7) (m+1) (y9 l (allI c) (j6 w a id d)) (rsends l (allI c) { y with Seats:=putS y.Seats (ZC a id d) }):=by
 have hB:=h.bd.put (d:=d) hp hv
 obtain ⟨ne,le⟩:=zI4 hc
 refine ⟨hB.wall hc (by omega) l,hB.rall hc (by omega) l,hB.sends le,?_⟩
 rw [zC2,get_put hp]
 refine zBJ (w:=j6 w a id d) hB.num (by have:=hB.sent; omega) le ne hform fun x hx hfx=>?_
 obtain ⟨e1,e2,e3,e4,e5,e6⟩:=jF.1 hx
 obtain ⟨n1,n2⟩:=hnew x hx hfx
 have hnew:=h.ok.new (d:=d) hfx n1 (by rw [e4,e1,hl.1,hl.2]; exact n2)
 rw [e4,e1,hl.1,hl.2] at hnew
 exact hnew
theorem zMU (hc:okC c=true) (hk:k≤3970) (hm:m≤3970) (h:Nxt c k m w y) (x:ZO) (hN:x.N=0):∃ w' y' e,zBr w x=some (w',e)∧qV y x=some (y',e)∧Nxt c (k+7) (m+2) w' y':=by
 unfold zBr qV
 rw [h.bd.court,zGk hc,h.bd.rel.C,h.bd.court,zEh hc]
 simp only [Zj,jL,zHS,zOK,hN,decide_true,Bool.not_true,Bool.or_false]
 have same:∀ e:Int,∃ w' y' e',some (w,e)=some (w',e')∧some (y,e)=some (y',e')∧Nxt c (k+7) (m+2) w' y':=fun e=>⟨w,y,e,rfl,rfl,h.mono (by omega) (by omega)⟩
 cases g:(!inI x.A 0 (c.Arbiters - 1) || !inI x.Case 1 1099511627776 || !inI x.Finding 0 65536) with
 | true=>simp only [if_true]; exact same 1
 | false =>
  simp only [Bool.or_eq_false_iff,Bool.not_eq_false',jQ] at g
  obtain ⟨⟨g1,g2⟩,g3⟩:=g
  simp only [Bool.false_eq_true,if_false]
  rw [zI9 x.Case (by have:=h.bd.few; omega),zHe x.Case (by rw [h.bd.rel.named]; have:=h.bd.few; omega),h.bd.rel.named]
  simp only [Option.bind_some,Bool.not_not]
  cases hf:(!decide (x.Case∈w.cases)&&decide (40≤(w.cases.length:Int))) with
  | true=>simp only [if_true]; exact same 2
  | false =>
   simp only [Bool.false_eq_true,if_false]
   have h1:=h.at_ x.A x.Case
   have hp:=(get_at (w:=w) (a:=x.A) (id:=x.Case)).2
   have hgw:=(get_at (w:=w) (a:=x.A) (id:=x.Case)).1
   obtain ⟨e1,e2,e3,e4,e5⟩:=zAW w x.A x.Case
   rw [zCk y (by have:=h.bd.seats; omega),Option.bind_some,h.bd.rel.seat,hgw]
   generalize hw1:w_at w x.A x.Case=w1 at *
   generalize hd:ZP w x.A x.Case=d at *
   have hdw:ZP w1 x.A x.Case=d:=by rw [hgw]; exact hd
   obtain ⟨s1,s2,s3,s4,s5⟩:=zAp x.A x.Case d
   rw [s3]
   cases hh:d.has with
   | true =>
    simp only [if_true]
    exact ⟨_,_,_,rfl,rfl,h1.mono (by omega) (by omega)⟩
   | false =>
    simp only [Bool.false_eq_true,if_false]
    rw [zF7 (by rw [e5]; exact h.bd.cases) (by rw [e5]; have:=h.bd.few; omega),zJL (by rw [h.bd.rel.named]; have:=h.bd.few; omega)]
    simp only [Option.bind_some]
    have h2:=h1.name (id:=x.Case) (jQ.2 g2) (by rw [e5]; exact hf)
    generalize hw2:({ w1 with cases:=nmC w1.cases x.Case }:zN)=w2 at *
    generalize hy2:({ y with Named:=nmC y.Named x.Case }:zH)=y2 at *
    have hg2:ZP w2=ZP w1:=by rw [← hw2]; rfl
    have hp2:(Z7 w2 x.A x.Case).isSome=true:=by rw [← hw2]; exact hp
    have hs2:w2.sent=w1.sent:=by rw [← hw2]
    have hD:=h2.ok.desk x.A x.Case
    rw [hg2,hdw] at hD
    have h3:=h2.put (a:=x.A) (id:=x.Case) (d:={ d with wish:=x.Finding,has:=true }) hp2 (by rw [hg2,hdw]) ⟨hD.last,hD.vle,hD.said,hD.prom,hD.fin,hD.op,hD.opn,hD.chair,fun _=>⟨g3.1,g3.2,jQ.2 g2⟩,hD.votes⟩
    have hseat:(⟨(ZC x.A x.Case d).Arbiter,(ZC x.A x.Case d).Case,(ZC x.A x.Case d).Book,x.Finding,true,(ZC x.A x.Case d).Round,(ZC x.A x.Case d).List,(ZC x.A x.Case d).Proposed⟩:zS)=ZC x.A x.Case { d with wish:=x.Finding,has:=true }:=by
     unfold ZC
     cases d.chair <;> rfl
    rw [hseat,zCl y2 (by have:=h2.bd.seats; omega)]
    simp only [Option.bind_some]
    have hpp:(Z7 (j6 w2 x.A x.Case { d with wish:=x.Finding,has:=true }) x.A x.Case).isSome=true:=by
     unfold j6 Z7
     simp only
     rw [zEI hp2,if_pos rfl]; rfl
    obtain ⟨w',y',p1,p2,p3,p4⟩:=zD8 hc (by omega) (by omega) h3.bd h3.ok hpp ⟨g1.1,by omega⟩ g2
    have hgg:ZP (j6 w2 x.A x.Case { d with wish:=x.Finding,has:=true }) x.A x.Case = { d with wish:=x.Finding,has:=true }:=by
     rw [get_put hp2]; unfold upd; rw [if_pos ⟨rfl,rfl⟩]
    rw [hgg] at p2
    rw [p1,p2]
    exact ⟨w',y',0,rfl,rfl,⟨p3.mono (by omega) (by omega),p4⟩⟩
theorem zMt (hc:okC c=true) (hk:k≤3970) (hm:m≤3970) (h:Nxt c k m w y) (x:ZO) (hN:x.N=0) (hF:x.Finding=0):∃ w' y' e,zEx w x=some (w',e)∧Qm y x=some (y',e)∧Nxt c (k+7) (m+2) w' y':=by
 unfold zEx Qm
 rw [h.bd.court,zGk hc,h.bd.rel.C,h.bd.court,zEh hc]
 simp only [Zj,zHS,zOK,hN,hF,decide_true,Bool.not_true,Bool.or_false]
 have same:∀ e:Int,∃ w' y' e',some (w,e)=some (w',e')∧some (y,e)=some (y',e')∧Nxt c (k+7) (m+2) w' y':=fun e=>⟨w,y,e,rfl,rfl,h.mono (by omega) (by omega)⟩
 cases g:(!inI x.A 0 (c.Arbiters - 1) || !inI x.Case 1 1099511627776) with
 | true=>simp only [if_true]; exact same 1
 | false =>
  simp only [Bool.or_eq_false_iff,Bool.not_eq_false',jQ] at g
  obtain ⟨g1,g2⟩:=g
  simp only [Bool.false_eq_true,if_false]
  rw [zI9 x.Case (by have:=h.bd.few; omega),zHe x.Case (by rw [h.bd.rel.named]; have:=h.bd.few; omega),h.bd.rel.named,zCk y (by have:=h.bd.seats; omega)]
  simp only [Option.bind_some,Bool.not_not]
  rw [h.bd.rel.seat]
  have hgw:=(get_at (w:=w) (a:=x.A) (id:=x.Case)).1
  have hp:=(get_at (w:=w) (a:=x.A) (id:=x.Case)).2
  have h1:=h.at_ x.A x.Case
  obtain ⟨e1,e2,e3,e4,e5⟩:=zAW w x.A x.Case
  rw [hgw]
  generalize hw1:w_at w x.A x.Case=w1 at *
  generalize hd:ZP w x.A x.Case=d at *
  have hdw:ZP w1 x.A x.Case=d:=by rw [hgw]; exact hd
  have hmod:=nxt_mod (round:=max d.note.Promised d.note.Opened) hc g1.1 (show x.A<c.Arbiters by omega)
  obtain ⟨s1,s2,s3,s4,s5⟩:=zAp x.A x.Case d
  have hD:=h1.ok.desk x.A x.Case
  rw [hdw] at hD
  have hv:=hD.vle
  have ho:=hD.op
  have hmx:0≤max d.note.Promised d.note.Opened∧max d.note.Promised d.note.Opened≤1048576:=by omega
  rw [s1,zNe,h1.bd.court,next_eq hc g1.1 (by omega) hmx.1 hmx.2]
  simp only [Option.bind_some]
  obtain ⟨n1,n2⟩:=nxt_lt hc x.A (max d.note.Promised d.note.Opened)
  have hnext:zLm c x.A (max d.note.Promised d.note.Opened)=if 1048576<nxtS c x.A (max d.note.Promised d.note.Opened) then (0,2) else (nxtS c x.A (max d.note.Promised d.note.Opened),0):=by
   unfold zLm
   simp [hc,jQ,g1.1,g1.2,hmx.1,hmx.2]
  rw [hnext]
  cases hf:(!decide (x.Case∈w.cases)&&decide (40≤(w.cases.length:Int))) with
  | true =>
   simp only [if_true,Bool.true_or]
   exact same 2
  | false =>
   simp only [Bool.false_eq_true,if_false,Bool.false_or]
   by_cases hr:1048576<nxtS c x.A (max d.note.Promised d.note.Opened)
   ·simp only [hr,if_true]
    exact ⟨_,_,_,rfl,rfl,h1.mono (by omega) (by omega)⟩
   ·simp only [hr,if_false,decide_true,Bool.not_true,Bool.false_eq_true]
    generalize hrr:nxtS c x.A (max d.note.Promised d.note.Opened)=r at *
    rw [zF7 (by rw [e5]; exact h.bd.cases) (by rw [e5]; have:=h.bd.few; omega),zJL (by rw [h.bd.rel.named]; have:=h.bd.few; omega)]
    simp only [Option.bind_some]
    have h2:=h1.name (id:=x.Case) (jQ.2 g2) (by rw [e5]; exact hf)
    generalize hw2:({ w1 with cases:=nmC w1.cases x.Case }:zN)=w2 at *
    generalize hy2:({ y with Named:=nmC y.Named x.Case }:zH)=y2 at *
    have hg2:ZP w2=ZP w1:=by rw [← hw2]; rfl
    have hp2:(Z7 w2 x.A x.Case).isSome=true:=by rw [← hw2]; exact hp
    have hD:=h2.ok.desk x.A x.Case
    rw [hg2,hdw] at hD
    have hseat:(⟨(ZC x.A x.Case d).Arbiter,(ZC x.A x.Case d).Case,(⟨d.note.Promised,d.note.Voted,d.note.Finding,r⟩:QL),(ZC x.A x.Case d).Wish,(ZC x.A x.Case d).Wishes,r,[],false⟩:zS)=ZC x.A x.Case { d with note:={ d.note with Opened:=r },chair:=some ⟨r,[],false⟩ }:=by
     rw [s2,s3,s4,s5]; rfl
    rw [hseat,zCl y2 (by have:=h2.bd.seats; omega)]
    simp only [Option.bind_some]
    obtain ⟨q1,q2,q3⟩:=h2.all (a:=x.A) (id:=x.Case) (d:={ d with note:={ d.note with Opened:=r },chair:=some ⟨r,[],false⟩ }) (l:=⟨0,x.Case,1,r,x.A,0,0,0⟩) hc (by omega) (by omega) hp2 (by rw [hg2,hdw]) (fun t ht n n1 n2=>by
     refine zJ6 hc g2 ⟨by simp only; omega,by simp only; omega⟩ ⟨g1.1,by simp only; omega⟩ (zHD ht) ⟨n1,n2⟩ ⟨Int.le_refl 0,by show (0:Int)≤65536; decide⟩ ?_
     unfold kdB mkL
     have:zAA c r=x.A:=by rw [zC7 hc ⟨by omega,by omega⟩]; exact hmod
     simp [this]) (fun z hz hfz=>by
     obtain ⟨z1,z2,z3,z4,z5,z6⟩:=jF.1 hz
     simp only at z1 z2 z3 z4 z5 z6
     refine ⟨?_,hD.open_ h2.ok.form z2 z3 (by omega) (by omega) hmod⟩
     unfold lawS
     split
     ·rfl
     ·simp [z2]) ⟨rfl,rfl⟩
    rw [q1,q2]
    exact ⟨_,_,0,rfl,rfl,q3.mono (by omega) (by omega)⟩
end
end Go.Mx
