/- Part of the proof of TopRulingsArePostedOnce: plain laws about the functions of M, no program in sight. Conditions: none. -/
import Derived.Test.YtggkidlcohickaaGreatLawRc
import Derived.Test.YtggkidlcohickaaGreatLawZj
set_option linter.unusedVariables false
set_option linter.unusedSimpArgs false
namespace Go.Mx
structure Bk (b:jX) (n:Nat):Prop where
 closed:b.closed = -1
 keys:(b.bills.map (·.1)).Nodup
 posts:b.posts.length≤2*n
 taken:b.taken.length≤n
 bills:b.bills.length≤n
 sum:sumP b.posts 0=0
theorem zJR {α β:Type} [DecidableEq α] (pos:α→List α→Nat) (l:List (α×β)) (k:α) (v:β):(putM pos l k v).length≤l.length+1:=by
 unfold putM
 split
 ·rw [List.length_set]; omega
 ·rw [(zC0 _ _ _).length_eq,List.length_cons]; omega
theorem zJD (P:List jr) (h:sumP P 0=0) (i d a a2 v:Int):sumP ((P++[⟨i,d,a,v⟩])++[⟨i,d,a2,w64 (0 - v)⟩]) 0=0:=by
 have key:∀ (L:List jr) (x:jr),sumP (L++[x]) 0=w64 (sumP L 0+x.Amount):=fun L x=>by unfold sumP; rw [List.foldl_append]; rfl
 rw [key,key,h]
 simp only
 unfold w64
 omega
theorem zLe {b:jX} {n:Nat} (h:Bk b n) (hn:n≤1000) (x:zF) (a v:Int):zAh b x 1 (ZX a 2 v)=some { b with posts:=(b.posts++[⟨x.ID,1,a,v⟩])++[⟨x.ID,1,2,w64 (0 - v)⟩] }:=by
 unfold zAh ZX
 rw [h.closed]
 have hp:=h.posts
 have e:max (1:Int) (w64 (-1+1))=1:=by decide
 rw [e,if_neg (by decide)]
 simp only [zCx]
 rw [Zk (by simp; omega),Option.bind_some,Zk (by simp; omega),Option.bind_some,Option.bind_some]
def stB (am:Int) (p:Int×Nat):Zi:=⟨l_bl am p,am,[⟨1,am⟩]⟩
theorem zHZ (am:Int):∀ (L:List (Int×Nat)) (b:jX) (n:Nat),Bk b n→n+L.length≤100→(L.map (·.1)).Nodup→(∀ p∈L,zO p.1 b.bills=none) →
  ∃ b',(∀ known X,1≤known→zBm known (L.map (l_bl am)++X) b=zBm known X b')∧Bk b' (n+L.length)∧(∀ p∈L,zO p.1 b'.bills=some (stB am p))∧∀ id,id∉L.map (·.1)→zO id b'.bills=zO id b.bills
 | [],b,n,h,_,_,_=>⟨b,fun _ _ _=>rfl,h,fun p hp=>(by cases hp),fun _ _=>rfl⟩
 | p :: L,b,n,h,hn,hnd,hno=>by
  rw [List.length_cons] at hn
  rw [List.map_cons,List.nodup_cons] at hnd
  have ht:=h.taken
  have hb:=h.bills
  have hps:=h.posts
  have h1:zCL b (l_bl am p)=some { b with posts:=(b.posts++[⟨(l_bl am p).ID,1,20,am⟩])++[⟨(l_bl am p).ID,1,2,w64 (0 - am)⟩],bills:=putM posI b.bills p.1 (stB am p) }:=by
   unfold zCL
   have k1:(l_bl am p).Kind=1:=rfl
   rw [if_pos k1]
   unfold zGj
   have:zO (l_bl am p).Bill b.bills=none:=hno p List.mem_cons_self
   rw [this]
   have hp:=zLe h (by omega) (l_bl am p) 20 am
   have e:zAh b (l_bl am p) (l_bl am p).Day (ZX (l_bl am p).Account 2 (l_bl am p).Amount)=zAh b (l_bl am p) 1 (ZX 20 2 am):=rfl
   rw [if_neg (by simp),e,hp,Option.bind_some]
   rfl
  obtain ⟨b2,hb2⟩:∃ b2:jX,b2 = { b with posts:=(b.posts++[⟨(l_bl am p).ID,1,20,am⟩])++[⟨(l_bl am p).ID,1,2,w64 (0 - am)⟩],bills:=putM posI b.bills p.1 (stB am p),taken:=b.taken++[l_bl am p] }:=⟨_,rfl⟩
  have hB2:Bk b2 (n+1):=by
   rw [hb2]
   have:=zJR posI b.bills p.1 (stB am p)
   exact ⟨h.closed,(zAv posI b.bills p.1 (stB am p) h.keys).1,by simp; omega,by simp; omega,by simp only; omega,zJD _ h.sum _ _ _ _ _⟩
  have hl2:∀ id,zO id b2.bills=if id=p.1 then some (stB am p) else zO id b.bills:=fun id=>by rw [hb2]; exact zCu _ _ _ _ _
  obtain ⟨b',r1,r2,r3,r4⟩:=zHZ am L b2 (n+1) hB2 (by omega) hnd.2 fun q hq=>by
   rw [hl2,if_neg fun e=>hnd.1 (List.mem_map.2 ⟨q,hq,e⟩)]
   exact hno q (List.mem_cons_of_mem _ hq)
  refine ⟨b',?_,by rw [List.length_cons,show n+(L.length+1)=n+1+L.length by omega]; exact r2,fun q hq=>?_,fun id hid=>?_⟩
  ·intro known X hk
   rw [← r1 known X hk,List.map_cons,List.cons_append]
   conv=>lhs; unfold zBm
   rw [if_neg (by show ¬ known<1; omega),h1,Option.bind_some]
   simp only
   rw [Zk (by simp; omega),Option.bind_some,← hb2]
  ·rcases List.mem_cons.1 hq with rfl | hq
   ·rw [r4 _ hnd.1,hl2,if_pos rfl]
   ·exact r3 q hq
  ·rw [List.map_cons,List.mem_cons,not_or] at hid
   rw [r4 _ hid.2,hl2,if_neg hid.1]
def mdS (v:Int) (s:Zi):Zi:={ s with amount:=v,hist:=s.hist++[⟨2,v⟩] }
theorem zHW (f:Int→Int):∀ (L:List (Int×Nat)) (b:jX) (n:Nat),Bk b n→n+L.length≤100→(L.map (·.1)).Nodup→(∀ p∈L,∃ s,zO p.1 b.bills=some s∧s.item.Day=1∧s.hist.length≤10) →
  ∃ b',(∀ known,2≤known→zBm known (L.map (mdI f)) b=some b')∧Bk b' (n+L.length)∧(∀ p∈L,zO p.1 b'.bills=(zO p.1 b.bills).map (mdS (f p.1)))∧∀ id,id∉L.map (·.1)→zO id b'.bills=zO id b.bills
 | [],b,n,h,_,_,_=>⟨b,fun _ _=>rfl,h,fun p hp=>(by cases hp),fun _ _=>rfl⟩
 | p :: L,b,n,h,hn,hnd,hall=>by
  rw [List.length_cons] at hn
  rw [List.map_cons,List.nodup_cons] at hnd
  have ht:=h.taken
  have hb:=h.bills
  have hps:=h.posts
  obtain ⟨s,hs,hday,hhl⟩:=hall p List.mem_cons_self
  obtain ⟨v,hv⟩:∃ v,v=w64 (f p.1 - s.amount):=⟨_,rfl⟩
  have h1:zCL b (mdI f p)=some { b with posts:=(b.posts++[⟨(mdI f p).ID,1,s.item.Account,v⟩])++[⟨(mdI f p).ID,1,2,w64 (0 - v)⟩],bills:=putM posI b.bills p.1 (mdS (f p.1) s) }:=by
   unfold zCL
   have k1:(mdI f p).Kind=2:=rfl
   rw [if_neg (by rw [k1]; decide),if_pos k1]
   unfold zGi
   have:zO (mdI f p).Bill b.bills=some s:=hs
   rw [this]
   have hp:=zLe h (by omega) (mdI f p) s.item.Account v
   have e:zAh b (mdI f p) s.item.Day (ZX s.item.Account 2 (w64 ((mdI f p).Amount - s.amount)))=zAh b (mdI f p) 1 (ZX s.item.Account 2 v):=by rw [hday,hv]; rfl
   simp only
   rw [e,hp,Option.bind_some,Zk (by simp; omega),Option.bind_some]
   rfl
  obtain ⟨b2,hb2⟩:∃ b2:jX,b2 = { b with posts:=(b.posts++[⟨(mdI f p).ID,1,s.item.Account,v⟩])++[⟨(mdI f p).ID,1,2,w64 (0 - v)⟩],bills:=putM posI b.bills p.1 (mdS (f p.1) s),taken:=b.taken++[mdI f p] }:=⟨_,rfl⟩
  have hB2:Bk b2 (n+1):=by
   rw [hb2]
   have:=zJR posI b.bills p.1 (mdS (f p.1) s)
   exact ⟨h.closed,(zAv posI b.bills p.1 (mdS (f p.1) s) h.keys).1,by simp; omega,by simp; omega,by simp only; omega,zJD _ h.sum _ _ _ _ _⟩
  have hl2:∀ id,zO id b2.bills=if id=p.1 then some (mdS (f p.1) s) else zO id b.bills:=fun id=>by rw [hb2]; exact zCu _ _ _ _ _
  have hne:∀ q∈L,zO q.1 b2.bills=zO q.1 b.bills:=fun q hq=>by rw [hl2,if_neg fun e=>hnd.1 (List.mem_map.2 ⟨q,hq,e⟩)]
  obtain ⟨b',r1,r2,r3,r4⟩:=zHW f L b2 (n+1) hB2 (by omega) hnd.2 fun q hq=>by
   rw [hne q hq]
   exact hall q (List.mem_cons_of_mem _ hq)
  refine ⟨b',?_,by rw [List.length_cons,show n+(L.length+1)=n+1+L.length by omega]; exact r2,fun q hq=>?_,fun id hid=>?_⟩
  ·intro known hk
   rw [← r1 known hk,List.map_cons]
   conv=>lhs; unfold zBm
   rw [if_neg (by show ¬ known<2; omega),h1,Option.bind_some]
   simp only
   rw [Zk (by simp; omega),Option.bind_some,← hb2]
  ·rcases List.mem_cons.1 hq with rfl | hq
   ·rw [r4 _ hnd.1,hl2,if_pos rfl,hs]; rfl
   ·rw [r3 q hq,hne q hq]
  ·rw [List.map_cons,List.mem_cons,not_or] at hid
   rw [r4 _ hid.2,hl2,if_neg hid.1]
section
variable {cs:List Int} {f:Int→Int} {am:Int}
theorem zip_fst (cs:List Int):cs.zipIdx.map (·.1)=cs:=by
 refine List.ext_getElem? fun i=>?_
 rw [List.getElem?_map,List.getElem?_zipIdx]
 cases cs[i]? <;> rfl
structure zMS (cs:List Int) (f:Int→Int) (am:Int) (R:Int→Bool) (b1 b5:jX):Prop where
 r1:RdIs (canon cs f am R) 1 b1
 r5:∀ known,2≤known→RdIs (canon cs f am R) known b5
 k1:(b1.bills.map (·.1)).Nodup
 l1:b1.bills.length≤100
 look1:∀ p∈cs.zipIdx,zO p.1 b1.bills=some (stB am p)
 none1:∀ id,id∉cs→zO id b1.bills=none
 look5:∀ p∈cs.zipIdx,zO p.1 b5.bills=some (if R p.1=true then mdS (f p.1) (stB am p) else stB am p)
 p5:b5.posts.length≤1000
 sum:sumP b5.posts 0=0
theorem zKK (h:zEq cs f am) (R:Int→Bool):∃ b1 b5,zMS cs f am R b1 b5:=by
 have hfew:=h.few
 have h0:Bk ⟨-1,[],[],[]⟩ 0:=⟨rfl,List.nodup_nil,Nat.le_refl _,Nat.le_refl _,Nat.le_refl _,rfl⟩
 have hz:cs.zipIdx.length≤8:=by rw [List.length_zipIdx]; exact hfew
 obtain ⟨b1,q1,q2,q3,q4⟩:=zHZ am cs.zipIdx ⟨-1,[],[],[]⟩ 0 h0 (by omega) (by rw [zip_fst]; exact h.nd) fun _ _=>rfl
 have hfl:=List.length_filter_le (fun p:Int×Nat=>R p.1) cs.zipIdx
 have hnd2:((cs.zipIdx.filter fun p=>R p.1).map (·.1)).Nodup:=by
  have:=(List.filter_sublist (p:=fun p:Int×Nat=>R p.1) (l:=cs.zipIdx)).map (·.1)
  rw [zip_fst] at this
  exact this.nodup h.nd
 obtain ⟨b5,t1,t2,t3,t4⟩:=zHW f (cs.zipIdx.filter fun p=>R p.1) b1 _ q2 (by omega) hnd2 fun p hp=>⟨_,q3 p (List.mem_filter.1 hp).1,rfl,by show 1≤10; omega⟩
 have hs:JU (canon cs f am R)=some (canon cs f am R):=by
  have hcl:=zBE (cs:=cs) (f:=f) (am:=am) R
  obtain ⟨r,e1,e2,e3,_⟩:=zFb (canon cs f am R) (by omega) fun x hx y hy _ e=>zIl h (Qd hx) (Qd hy) e
  rw [e1,e3.uniq (zHA R) e2]
 have hcl:=zBE (cs:=cs) (f:=f) (am:=am) R
 refine ⟨b1,b5,⟨_,hs,by omega,?_⟩,fun known hk=>⟨_,hs,by omega,?_⟩,q2.keys,by have:=q2.bills; omega,q3,fun id hid=>by rw [q4 id (by rw [zip_fst]; exact hid)]; rfl,fun p hp=>?_,by have:=t2.posts; omega,t2.sum⟩
 ·unfold canon
  rw [q1 1 _ (by decide)]
  cases cs.zipIdx.filter fun p=>R p.1 with
  | nil=>rfl
  | cons p L =>
   rw [List.map_cons]
   unfold zBm
   rw [if_pos (by show (1:Int)<2; decide)]
 ·unfold canon
  rw [q1 known _ (by omega),t1 known hk]
 ·by_cases hR:R p.1=true
  ·rw [if_pos hR,t3 p (List.mem_filter.2 ⟨hp,hR⟩),q3 p hp]; rfl
  ·rw [if_neg hR,t4 p.1 (fun hm=>?_),q3 p hp]
   obtain ⟨q,hq,e⟩:=List.mem_map.1 hm
   have:=(List.mem_filter.1 hq).2
   rw [e] at this
   exact hR this
theorem book_is (h:zEq cs f am) {R:Int→Bool} {b1 b5:jX} (hb:zMS cs f am R b1 b5) {id:Int} (hid:id∈cs):∃ s m,zPB (canon cs f am R) id b1 b5 b5 s s m∧s.amount=(if R id=true then f id else am)∧s.hist.length=(if R id=true then 2 else 1)∧(m.any fun x=>decide (x=id)) = !decide (s.amount=am):=by
 obtain ⟨n,hn⟩:=zNP hid
 have hcl:=zBE (cs:=cs) (f:=f) (am:=am) R
 have hfew:=h.few
 have hck:=zBB h (canon cs f am R) (by omega) fun x hx=>Qd hx
 have l5:=hb.look5 _ hn
 simp only at l5
 obtain ⟨s,hs⟩:∃ s,s=if R id=true then mdS (f id) (stB am (id,n)) else stB am (id,n):=⟨_,rfl⟩
 rw [← hs] at l5
 have hml:(yn b1 b5).length≤100:=by
  unfold yn
  rw [List.length_map]
  exact Nat.le_trans (List.length_filter_le _ _) hb.l1
 obtain ⟨p1,p2⟩:=zAo (yn b1 b5)
 refine ⟨s,srtI (yn b1 b5),⟨zEn hck (by decide +kernel),zEn hck (by decide +kernel),hck,lwithin (h.ids id hid),hb.r1,hb.r5 5 (by decide),hb.r5 728 (by decide),l5,l5,fun p hp=>?_,by have:=hb.l1; omega,fun v hv=>?_,by rw [p1.length_eq]; omega⟩,?_,?_,?_⟩
 ·have hk:zO p.1 b1.bills=some p.2:=(qK hb.k1 p.1 p.2).2 hp
  by_cases hm:p.1∈cs
  ·obtain ⟨n',hn'⟩:=zNP hm
   exact ⟨_,hb.look5 _ hn'⟩
  ·rw [hb.none1 _ hm] at hk; cases hk
 ·unfold srtO
  have:=hv.length_eq
  rw [if_pos (by omega)]
  obtain ⟨g1,g2⟩:=zAo v
  congr 1
  exact List.Perm.eq_of_pairwise (le:=fun a b=>a≤b) (fun a b _ _ h1 h2=>Int.le_antisymm h1 h2) g2 p2 (g1.trans (hv.trans p1.symm))
 ·rw [hs]; split <;> rfl
 ·rw [hs]; split <;> rfl
 ·have e1:((srtI (yn b1 b5)).any fun x=>decide (x=id))=decide (id∈yn b1 b5):=by
   rw [Bool.eq_iff_iff,List.any_eq_true,decide_eq_true_eq]
   constructor
   ·rintro ⟨x,hx,e⟩
    rw [← of_decide_eq_true e]
    exact p1.mem_iff.1 hx
   ·exact fun hx=>⟨id,p1.mem_iff.2 hx,decide_eq_true rfl⟩
  rw [e1,Bool.eq_iff_iff,decide_eq_true_eq]
  have hl1:=hb.look1 _ hn
  simp only at hl1
  have hmv:∀ st:Zi,mvB b5 (id,st) = !decide (s.amount=st.amount):=fun st=>by
   unfold mvB
   simp only
   rw [l5]
  unfold yn
  rw [List.mem_map]
  constructor
  ·rintro ⟨⟨i,st⟩,hm,rfl⟩
   obtain ⟨hm1,hm2⟩:=List.mem_filter.1 hm
   have:=(qK hb.k1 i st).2 hm1
   rw [hl1] at this
   have this:=Option.some.inj this
   rw [hmv,← this] at hm2
   exact hm2
  ·intro hne
   exact ⟨(id,stB am (id,n)),List.mem_filter.2 ⟨(qK hb.k1 _ _).1 hl1,by rw [hmv]; exact hne⟩,rfl⟩
end
section
variable {cs:List Int} {f:Int→Int} {am:Int}
theorem allK_s (kf:Nat→List zB) (n:Nat):allK kf (n+1)=allK kf n++kf n:=by unfold allK; rw [List.range_succ,List.flatMap_append]; simp
theorem zBG {kf:Nat→List zB} {n:Nat} {r:zB}:r∈allK kf n↔∃ a,a<n∧r∈kf a:=by unfold allK; simp
def foS (cs:List Int) (f:Int→Int) (am:Int) (kg:Nat→List zB) (a:Nat):List zF:=if a=0 then [] else canon cs f am (anyK (allK kg a))
theorem zL7 {kg:Nat→List zB} {a:Nat} {x:zF} (hx:x∈foS cs f am kg a):Its cs f am x:=by
 unfold foS at hx
 split at hx
 ·cases hx
 ·exact Qd hx
theorem zIp (kg:Nat→List zB) (a:Nat):(foS cs f am kg a).length≤2*cs.length:=by
 unfold foS
 split
 ·exact Nat.zero_le _
 ·exact zBE _
theorem zJ5 (h:zEq cs f am) {kg:Nat→List zB} (hk:∀ a,∀ r∈kg a,r.Finding=f r.Case) (hl:∀ a,(kg a).length≤30) (a:Nat):zAQ (foS cs f am kg a) (Yq cs (kg a) am)=some (foS cs f am kg (a+1),0)∧zAQ (Yq cs (kg a) am) (foS cs f am kg a)=some (foS cs f am kg (a+1),0):=by
 have h1:=zIp (cs:=cs) (f:=f) (am:=am) kg a
 have h2:=zMC (am:=am) h.nd (kg a)
 have h3:=h.few
 have h4:=hl a
 have hE:∀ x∈Yq cs (kg a) am,Its cs f am x:=fun x hx=>Qd ((zMB (hk a)).1 hx)
 have e:foS cs f am kg (a+1)=canon cs f am (anyK (allK kg (a+1))):=by unfold foS; rw [if_neg (by omega)]
 have hm:∀ x,x∈canon cs f am (anyK (allK kg (a+1)))↔x∈foS cs f am kg a∨x∈Yq cs (kg a) am:=fun x=>by
  rw [zMB (hk a),allK_s]
  have hor:∀ id,anyK (allK kg a++kg a) id=true↔anyK (allK kg a) id=true∨anyK (kg a) id=true:=fun id=>by unfold anyK; rw [List.any_append,Bool.or_eq_true]
  unfold foS
  by_cases e0:a=0
  ·subst e0
   rw [if_pos rfl]
   have e1:allK kg 0++kg 0=kg 0:=rfl
   rw [e1]
   simp
  ·rw [if_neg e0,zBD,zBD,zBD]
   constructor
   ·rintro ⟨p,hp,q | ⟨q1,q2⟩⟩
    ·exact .inl ⟨p,hp,.inl q⟩
    ·rcases (hor _).1 q1 with q1 | q1
     ·exact .inl ⟨p,hp,.inr ⟨q1,q2⟩⟩
     ·exact .inr ⟨p,hp,.inr ⟨q1,q2⟩⟩
   ·rintro (⟨p,hp,q | ⟨q1,q2⟩⟩ | ⟨p,hp,q | ⟨q1,q2⟩⟩)
    ·exact ⟨p,hp,.inl q⟩
    ·exact ⟨p,hp,.inr ⟨(hor _).2 (.inl q1),q2⟩⟩
    ·exact ⟨p,hp,.inl q⟩
    ·exact ⟨p,hp,.inr ⟨(hor _).2 (.inr q1),q2⟩⟩
 rw [e]
 exact ⟨zJg h (fun x hx=>zL7 hx) hE (by omega) (zHA _) hm,zJg h hE (fun x hx=>zL7 hx) (by omega) (zHA _) fun x=>(hm x).trans or_comm⟩
theorem zLU {id:Int}:∀ (L:List zB) (p:Int×Bool),(∀ r∈L,r.Finding=f r.Case)→JY id L p=if anyK L id=true then (f id,true) else p
 | [],p,_=>rfl
 | r :: L,p,h=>by
  have ih:=fun p=>zLU (id:=id) L p fun r hr=>h r (List.mem_cons_of_mem _ hr)
  have hr:=h r List.mem_cons_self
  unfold JY at ih ⊢
  rw [List.foldl_cons,ih]
  unfold anyK
  rw [List.any_cons]
  by_cases e:r.Case=id
  ·rw [if_pos e,decide_eq_true e,Bool.true_or,if_pos rfl,hr,e]
   split <;> rfl
  ·rw [if_neg e,decide_eq_false e,Bool.false_or]
end
section
variable {c:zD} {k m:Nat} {w:zN} {y:zH}
structure Knows (c:zD) (w:zN) (o:List zB) (kf:Nat→List zB):Prop where
 read:yK c w.sent=0
 rul:ZW c w.sent=some o∧jG c w.sent=some o∧QM c w.sent o
 once:∀ x∈o,∀ y∈o,x.Case=y.Case→x.Finding=y.Finding
 known:∀ a:Nat,(a:Int)<c.Arbiters→qD w a (kf a)
 few:∀ a,(kf a).length≤30
 of:∀ a,∀ r∈kf a,r∈o
theorem knows (hc:okC c=true) (hk:k≤4000) (hm:m≤4000) (h:Nxt c k m w y) (hs:w.sent.length≤2000) (htv:tvl w.desks≤60):∃ o kf,Knows c w o kf:=by
 have hr:yK c w.sent=0:=by
  unfold yK
  rw [if_pos hc,if_neg (by omega),if_pos]
  exact List.all_eq_true.2 h.ok.form
 obtain ⟨o,e3,_,e4⟩:=zI6 c w.sent (by omega)
 have hR:ZW c w.sent=some o∧jG c w.sent=some o∧QM c w.sent o:=by
  rcases e4 with ⟨h,_⟩ | ⟨_,h⟩
  ·exact absurd hr h
  ·exact h
 have key:∀ a:Nat,∃ kk:List zB,((a:Int)<c.Arbiters→qD w a kk)∧kk.length≤30∧∀ r∈kk,r∈o:=fun a=>by
  by_cases ha:(a:Int)<c.Arbiters
  ·obtain ⟨kk,q1,q2,q3⟩:=zK2 hc hm h (a:Int)
   have hv:=zEz (a:Int) w.desks
   have hf:∀ x∈Zz (a:Int) w.desks,x∈w.sent:=fun x hx=>(h.bd.gots x (zE0 h hx).1).1
   obtain ⟨o',p1,p2⟩:=zIP c (Zz (a:Int) w.desks) (by omega) fun x hx=>h.ok.form x (hf x hx)
   have:=q1.2 _ (List.Perm.refl _)
   rw [h.bd.court,p1] at this
   injection this with this
   subst this
   have:=rul_few hc p2
   exact ⟨_,fun _=>q1,by omega,fun r hr=>zNY (VSub.zId hf) p2 hR.2.2 hr⟩
  ·exact ⟨[],fun h=>absurd h ha,Nat.zero_le _,fun r hr=>by cases hr⟩
 exact ⟨o,fun a=>Classical.choose (key a),hr,hR,fun x hx y hy e=>onceW hc h.ok.form h.ok.law hR.2.2 hx hy e,fun a ha=>(Classical.choose_spec (key a)).1 ha,fun a=>(Classical.choose_spec (key a)).2.1,fun a=>(Classical.choose_spec (key a)).2.2⟩
def fndS (o:List zB) (id:Int):Int:=((o.find? fun r=>decide (r.Case=id)).map (·.Finding)).getD 0
theorem fnd_is {o:List zB} (h:∀ x∈o,∀ y∈o,x.Case=y.Case→x.Finding=y.Finding) {r:zB} (hr:r∈o):r.Finding=fndS o r.Case:=by
 unfold fndS
 cases e:o.find? (fun q=>decide (q.Case=r.Case)) with
 | none=>have:=List.find?_eq_none.1 e r hr; simp at this
 | some q =>
  exact h r hr q (List.mem_of_find?_eq_some e) (by have:=List.find?_some e; simpa using (of_decide_eq_true this).symm)
theorem fnd_in {o:List zB} (hf:∀ x∈w.sent,fmB c x=true) (ho:QM c w.sent o) (id:Int):0≤fndS o id∧fndS o id≤65536:=by
 unfold fndS
 cases e:o.find? (fun q=>decide (q.Case=id)) with
 | none=>exact ⟨by decide,by decide⟩
 | some q =>
  obtain ⟨⟨x,x1,_,x3⟩,_⟩:=(ho.mem q).1 (List.mem_of_find?_eq_some e)
  have:=(Q0 (hf x x1)).2.2.2.2.2.2.1
  have e2:q.Finding=x.Finding:=by rw [← x3]; rfl
  simp only [Option.map_some,Option.getD_some]
  rw [e2]
  exact this
theorem zNv (hc:okC c=true) (hk:k≤4000) (hm:m≤4000) (h:Nxt c k m w y) (hs:w.sent.length≤2000) (hcs:w.cases.length≤8) (htv:tvl w.desks≤60) {am:Int} (ham:0≤am∧am≤65535) {ord:Int} (hord:0≤ord∧ord≤255):∃ kf fo ft b,zMP c w am ord kf fo ft b:=by
 obtain ⟨o,kf,hK⟩:=knows hc hk hm h hs htv
 obtain ⟨f,hf⟩:∃ f,f=fndS o:=⟨_,rfl⟩
 have hform:=(zCC hK.read).2.2
 have hI:zEq w.cases f am:=⟨h.bd.cases.imp fun {a b} q e=>by omega,hcs,fun i hi=>jQ.1 (h.bd.ids i hi),fun i=>by rw [hf]; exact fnd_in hform hK.rul.2.2 i,ham⟩
 have hkf:∀ a,∀ r∈kf a,r.Finding=f r.Case:=fun a r hr=>by rw [hf]; exact fnd_is hK.once (hK.of a r hr)
 obtain ⟨hc3,hc7⟩:=jI hc
 obtain ⟨n,hn⟩:∃ n,n=c.Arbiters.toNat:=⟨_,rfl⟩
 have hcn:c.Arbiters=(n:Int):=by omega
 obtain ⟨s,hs'⟩:∃ s:Nat,ord=(s:Int):=⟨ord.toNat,by omega⟩
 obtain ⟨kg,hkg⟩:∃ kg:Nat→List zB,kg=fun a=>kf ((a+s) % n):=⟨_,rfl⟩
 have hkg2:∀ a,∀ r∈kg a,r.Finding=f r.Case:=fun a r hr=>by rw [hkg] at hr; exact hkf _ r hr
 have hkg3:∀ a,(kg a).length≤30:=fun a=>by rw [hkg]; exact hK.few _
 have hall:anyK (allK kf n)=anyK (allK kg n):=by
  funext id
  rw [Bool.eq_iff_iff,zCb,zCb]
  have hn37:n=3∨n=4∨n=5∨n=6∨n=7:=by omega
  constructor
  ·rintro ⟨r,hr,e⟩
   obtain ⟨a,ha,hr⟩:=zBG.1 hr
   refine ⟨r,zBG.2 ⟨(a+(n - s % n)) % n,Nat.mod_lt _ (by omega),?_⟩,e⟩
   rw [hkg]
   simp only
   have:((a+(n - s % n)) % n+s) % n=a:=by
    rcases hn37 with q | q | q | q | q <;> subst q <;> omega
   rw [this]; exact hr
  ·rintro ⟨r,hr,e⟩
   obtain ⟨a,ha,hr⟩:=zBG.1 hr
   rw [hkg] at hr
   exact ⟨r,zBG.2 ⟨(a+s) % n,Nat.mod_lt _ (by omega),hr⟩,e⟩
 have hsame:foS w.cases f am kf n=foS w.cases f am kg n:=by unfold foS; rw [hall]
 have hlen:=hI.few
 have hfo:foS w.cases f am kf n=canon w.cases f am (anyK (allK kf n)):=by unfold foS; rw [if_neg (by omega)]
 obtain ⟨b1,b5,hb⟩:=zKK hI (anyK (allK kf n))
 have hcl:=zBE (cs:=w.cases) (f:=f) (am:=am) (anyK (allK kf n))
 have hck:=zBB hI (canon w.cases f am (anyK (allK kf n))) (by omega) fun x hx=>Qd hx
 refine ⟨kf,foS w.cases f am kf,foS w.cases f am kg,b5,⟨rfl,rfl,fun a ha=>⟨hK.known a ha,by have:=hK.few a; omega,by have:=zMC (am:=am) hI.nd (kf a); have:=hK.few a; omega⟩,fun a ha=>⟨(zJ5 hI hkf hK.few a).1,(a+s) % n,?_,?_,?_⟩,fun a=>?_⟩,?_,fun id hid=>?_,?_,?_,?_,hb.sum⟩
 ·have:(a+s) % n<n:=Nat.mod_lt _ (by omega)
  omega
 ·unfold rem
  rw [if_neg (by omega),hs',JD (by omega) (by omega),Int.tmod_eq_emod_of_nonneg (by omega),hcn]
  congr 1
 ·have:=(zJ5 hI hkg2 hkg3 a).2
  rw [hkg] at this ⊢
  exact this
 ·have h1:=zIp (cs:=w.cases) (f:=f) (am:=am) kf a
  have h2:=zIp (cs:=w.cases) (f:=f) (am:=am) kg a
  omega
 ·rw [← hn,← hsame]
  exact zK6 _ (by rw [hfo]; omega)
 ·rw [← hn,hfo]
  obtain ⟨st,mm,q1,q2,q3,q4⟩:=book_is hI hb hid
  have hw:JY id (allK kf n) (am,false)=if anyK (allK kf n) id=true then (f id,true) else (am,false):=zLU _ _ fun r hr=>by
   obtain ⟨a,_,hr⟩:=zBG.1 hr
   exact hkf a r hr
  refine ⟨b1,b5,b5,st,st,mm,if anyK (allK kf n) id=true then (f id,true) else (am,false),q1,fun a ha=>⟨hK.known a ha,by have:=hK.few a; omega⟩,by omega,by omega,by rw [← hn]; exact hw,?_,?_,?_,?_⟩
  ·rw [q2]; split <;> rfl
  ·rw [q4,q2]; split <;> rfl
  ·intro e
   split at e
   ·cases e
   ·rename_i q; rw [q3,if_neg q]
  ·intro e
   split at e
   ·rename_i q
    refine ⟨by rw [q3,if_pos q],?_⟩
    rw [if_pos q]
    obtain ⟨r,hr,e2⟩:=zCb.1 q
    obtain ⟨a,ha,hr⟩:=zBG.1 hr
    have hro:=hK.of a r hr
    have hol:=hK.rul.2.2.len hc (by omega)
    obtain ⟨r0,hr0⟩:∃ r0,o.find? (fun q=>decide (q.Case=id))=some r0:=by
     cases e3:o.find? (fun q=>decide (q.Case=id)) with
     | none=>have:=List.find?_eq_none.1 e3 r hro; simp [e2] at this
     | some r0=>exact ⟨r0,rfl⟩
    have hm0:=List.mem_of_find?_eq_some hr0
    have hc0:r0.Case=id:=by have:=List.find?_some hr0; simpa using this
    have hp:=(zO7 c w.sent (by omega) o (by omega) (fun _=>hK.rul) id).1
    have hpA:prfA c w.sent o id=(prfS c w.sent r0,0):=by
     unfold prfA
     rw [if_pos hK.read,if_pos (h.bd.ids id hid),hr0]
    rw [hpA] at hp
    obtain ⟨x0,x1,x2⟩:=zI0 hc hform hK.rul.2.2 hm0
    have hpl:=zIV c w.sent r0
    obtain ⟨rr,g1,_,g2⟩:=zPA c (prfS c w.sent r0) (by omega)
    have hrd:yK c (prfS c w.sent r0)=0:=zMl hK.read (fun y hy=>((zNk c w.sent r0).1 y hy).1) (by omega)
    have hres:zDq c (prfS c w.sent r0) rr:=by
     rcases g2 with ⟨q,_⟩ | ⟨_,q⟩
     ·exact absurd hrd q
     ·exact q
    have hrr:rr=(r0,0):=zCg hres (.inl ⟨x0,x1,by rw [x2]⟩)
    rw [hrr] at g1
    refine ⟨_,r0,hp,g1,hc0,?_⟩
    simp only
    rw [hf]
    unfold fndS
    rw [hr0]; rfl
   ·cases e
 ·rw [← hn,hfo]
  exact zEn hck (by decide +kernel)
 ·rw [← hn,hfo]
  exact hb.r5 5 (by decide)
 ·have:=hb.p5; omega
theorem zHY (hc:okC c=true) {P:zN→Prop} (K M:Nat) (hK:K≤3900) (hM:M≤3900) (hP:∀ {w y},Nxt c K M w y→tvl w.desks≤60→P w):∀ (l:List ZO) {k m:Nat} {w:zN} {y:zH},k+7*l.length≤K→m+2*l.length≤M→tvl w.desks+l.length≤60→Nxt c k m w y→zMO c P l w
 | [],k,m,w,y,hk,hm,ht,h=>hP (h.mono (by simpa using hk) (by simpa using hm)) (by simpa using ht)
 | x :: r,k,m,w,y,hk,hm,ht,h=>by
  rw [List.length_cons] at hk hm ht
  obtain ⟨w',y',e,p1,p2,p3⟩:=do_spec hc (by omega) (by omega) h x
  have:=tv_do p1
  simp only at this
  exact ⟨h.bd.court,by have:=h.bd.room; omega,(w',e),p1,zHY hc K M hK hM hP r (by omega) (by omega) (by simp only; omega) p3⟩
def sanR : Nat→zN
 | 0=>sanA (w_do san1 ⟨2,0,4,0,0⟩)
 | j+1=>sanA (w_do (sanR j) (dl ((j+1:Nat):Int)))
set_option maxRecDepth 20000 in
theorem zKl : ∃ b s,zFZ san1 sanR b s:=by
 have hI:zEq [4] (fun _=>7) 100:=⟨by decide,by decide,fun i hi=>by rw [List.mem_singleton] at hi; omega,fun _=>by omega,by omega⟩
 obtain ⟨b1,b5,hb⟩:=zKK hI (fun _=>true)
 have e:Yq [4] [⟨4,1,7⟩] 100=canon [4] (fun _=>7) 100 (fun _=>true):=by decide +kernel
 refine ⟨b5,mdS 7 (stB 100 (4,0)),san_a1,some_of (by decide +kernel),fun j h=>?_,rfl,fun j h=>(by decide +kernel:∀ j<19,(sanR j).court=⟨3⟩) j (by omega),by decide,fun j h=>(by decide +kernel:∀ j<19,(sanR j).letters.length≤1000000) j (by omega),by decide +kernel,zOF (c:=⟨3⟩) (by decide) (by decide +kernel) (by decide +kernel) (by decide +kernel) (by decide +kernel),?_,?_,?_,rfl⟩
 ·have:∀ j<18,(w_do (sanR j) (dl ((j+1:Nat):Int))).isSome=true:=by decide +kernel
  have:=this j h
  cases q:w_do (sanR j) (dl ((j+1:Nat):Int)) with
  | none=>rw [q] at this; cases this
  | some p=>exact ⟨p.2,by show some p=some (sanA (w_do (sanR j) (dl ((j+1:Nat):Int))),p.2); rw [q]; rfl⟩
 ·rw [e]
  exact zEn (zBB hI _ (by decide) fun x hx=>Qd hx) (by decide +kernel)
 ·rw [e]
  exact hb.r5 3 (by decide)
 ·exact hb.look5 (4,0) (by decide)
theorem zKk (c:zD) (acts:List ZO) {amount order:Int} (h1:0≤amount∧amount≤65535) (h2:0≤order∧order≤255):zIF c acts amount order:=by
 obtain ⟨b,s,hr⟩:=zKl
 refine ⟨⟨_,_,b,s,hr⟩,fun hl hc=>?_⟩
 have hc:okC c=true:=by
  rw [Qt] at hc
  unfold chkS at hc
  split at hc
  ·assumption
  ·cases hc
 refine ⟨by have:=jI hc; omega,zHY hc 420 120 (by decide) (by decide) (fun h ht=>⟨by have:=h.bd.few; omega,by have:=h.bd.sent; omega,fun hcs hs=>zNv hc (by decide) (by decide) h hs hcs ht (by rw [JD (by omega) (by omega)]; exact h1) (by rw [JD (by omega) (by omega)]; exact h2)⟩) acts (by omega) (by omega) (by show 0+acts.length≤60; omega) (zN3 hc)⟩
end
end Go.Mx
