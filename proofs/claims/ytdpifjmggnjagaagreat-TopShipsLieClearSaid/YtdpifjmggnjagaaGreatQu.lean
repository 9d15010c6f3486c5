/- What is left of an own slice from a place on (a queue). Conditions: none. -/
import Derived.Test.YtdpifjmggnjagaaGreatOwn
set_option linter.unusedVariables false
set_option linter.unusedSimpArgs false
namespace Go.Am
open Go Go.Wk Go.RowKit Go.Mx
abbrev oqv {α:Type} (id:Nat) (l:List α) (a:Int):V:=.osl id a.toNat (l.drop a.toNat).length
namespace X
section
variable {C:Cfg} {K:List (Nat×V)} {H:List Blk} {lo nid:Nat}
theorem lenQ {α:Type} {l:List α} {a:Int} {xo:Operand} {t id:Nat} {T:TI} {e es:Nat} (hT:C.ty t=some T) (hk:T.kd = .slice e es) (hx:kev K xo=some (oqv id l a)):zZ C K H lo nid (.call ⟨.builtin .len,#[xo],#[t]⟩)=some ⟨.i ((l.drop a.toNat).length:Nat),[],[]⟩:=by
  simp [zZ,jb,kevs,hx,Jd,zDQ,hT,hk,Am.lenS]
theorem ix_drop {α:Type} {l:List α} {a m:Int} {y:α} (hm:ix (l.drop a.toNat) m=some y):ix l ((a.toNat:Int)+m)=some y:=by
  obtain ⟨h0,h1,h2⟩:=zD8 hm
  unfold ix
  rw [ck (by omega)]
  rw [List.getElem?_drop] at h2
  rw [← h2]; congr 1; omega
theorem indexQ {α:Type} {f:α→V} {l:List α} {y:α} {a:Int} {t id:Nat} {xo io:Operand} {T:TI} {e es:Nat} {m:Int} {ik:IntKind} (hm:ix (l.drop a.toNat) m=some y) (hT:C.ty t=some T) (hk:T.kd = .slice e es) (hx:kev K xo=some (oqv id l a)) (hi:kev K io=some (.lit (.int ik m))) (hH:hget H id = .rows es (l.map f)):zZ C K H lo nid (.indexAddr t xo io)=some ⟨.ptr id ((a.toNat:Int)+m).toNat 0,[],[id]⟩:=by
  obtain ⟨h0,h1,h2⟩:=zD8 hm
  have e5:((a.toNat:Int)+m).toNat=a.toNat+m.toNat:=by omega
  have h3:a.toNat+m.toNat<l.length:=by rw [List.length_drop] at h1; omega
  have h4:m<((l.length - a.toNat:Nat):Int):=by rw [List.length_drop] at h1; exact h1
  rw [e5]
  simp [zZ,Jc,hT,hx,hi,zEb,hk,h0,h4,hH]
theorem sliceQ {α:Type} {f:α→V} {l:List α} {a b x:Int} {t id:Nat} {xo lo1:Operand} {T Te:TI} {e es:Nat} (hm:qsl l a x=some b) (hT:C.ty t=some T) (hk:T.kd = .slice e es) (hTe:C.ty e=some Te) (hes:Te.size=es) (hx:kev K xo=some (oqv id l a)) (hH:hget H id = .rows es (l.map f)) (h1:YC K (some lo1) 0=some x):zZ C K H lo nid (.slice t xo (some lo1) none none)=some ⟨oqv id l b,[],[id]⟩:=by
  unfold qsl at hm
  split at hm
  · rename_i hc
    cases hm
    obtain ⟨q0,q1⟩:=hc
    simp only [zZ,zBS,yu,hT,hk,hTe,hx]
    rw [hes]
    unfold zCw
    simp only [Am.lenS,h1,zNp,Option.isSome_none,Bool.false_and,Bool.false_eq_true,if_false,zEy,hH]
    rw [ck ⟨q0,by rw [List.length_drop]; omega,by rw [List.length_map,List.length_drop]; omega,by simp⟩]
    have e1:((a.toNat:Int)+x).toNat=a.toNat+x.toNat:=by omega
    have e2:((List.drop a.toNat l).length:Int).toNat - x.toNat=(List.drop ((a.toNat:Int)+x).toNat l).length:=by
      rw [e1,List.length_drop,List.length_drop]; omega
    rw [e2,← e1]
  · cases hm
theorem appQ {α:Type} {f:α→V} {l xs r:List α} {a:Int} {t e es id:Nat} {T Te:TI} {xo yo:Operand} {yv:V} {rd:List Nat} (hm:qapp l a xs=some r) (hs:∀ a,qA Te (f a)=true) (hT:C.ty t=some T) (hk:T.kd = .slice e es) (hTe:C.ty e=some Te) (hes:Te.size=es) (hby:Nat.ble Te.bytes 4096=true) (hx:kev K xo=some (oqv id l a)) (hH:hget H id = .rows es (l.map f)) (hlo:Nat.ble lo id=true) (hy:kev K yo=some yv) (hr:rowsOf H yv=some (xs.map f,rd)) :
    zZ C K H lo nid (.call ⟨.builtin .append,#[xo,yo],#[t,t]⟩)=some ⟨.osl nid 0 r.length,[(id,.dead),(nid,.rows es (r.map f))],nid :: id :: rd⟩:=by
  unfold qapp at hm
  split at hm
  · rename_i hc
    cases hm
    subst hes
    have hlo' : ¬ id<lo:=by have:=cz hlo; omega
    have hby':Te.bytes≤4096:=cz hby
    have ht:Nat.beq t t=true:=Nat.beq_refl t
    have he:Nat.beq Te.size Te.size=true:=Nat.beq_refl _
    simp only [zZ,jb,kevs,hx,hy,Jd,zDR,ht,cond_true,yu,hT,hk,hTe,zBc,hr,zHu hs,hlo',if_false,hH,he,zEJ,List.length_map,zB1]
    rw [ck (by rw [List.length_drop]; omega),ck ⟨by rw [List.length_drop]; omega,hby'⟩]
    simp [List.map_drop]
  · cases hm
end
end X
end Go.Am
namespace Go.Am
open Go Go.Wk Go.RowKit Go.Mx
theorem recell {I:Ij} {m:Mem} {H:List Blk} {w:World} (hs:Sim I m H w) {j:Nat} {B B':Blk} (hj:get H j=some B) (hl:B.live=true) (hl':B'.live=true) (hB:∀ g,I j=some g→Jt I m w g B→Jt I m w g B'):Sim I m (hput H j B') w:=by
  have hlt:=zAo hj
  have hlv:∀ k,Live (hput H j B') k→Live H k:=fun k hk=>by
    rcases Z8 (cx hlt) hk with ⟨h,_⟩ | ⟨_,h⟩
    · subst h; exact ⟨B,hj,hl⟩
    · exact h
  refine ⟨hs.sub,fun k A hA hlvA=>?_,fun k hk=>?_,fun k g h1 h2=>hs.off k g (hlv k h1) h2,fun a b g g' h1 h2 h3 h4 h5=>hs.inj a b g g' (hlv a h1) (hlv b h2) h3 h4 h5⟩
  · rw [jD H j k _ (cx hlt)] at hA
    by_cases e:j=k
    · subst e
      rw [ck rfl,ce] at hA
      subst hA
      obtain ⟨g,q1,q2⟩:=hs.blk j B hj hl
      exact ⟨g,q1,hB g q1 q2⟩
    · rw [cj e] at hA; exact hs.blk k A hA hlvA
  · rw [jD H j k _ (cx hlt)] at hk
    by_cases e:j=k
    · rw [ck e] at hk
      rcases hk with h | h
      · cases h
      · rw [ce] at h; subst h; cases hl'
    · rw [cj e] at hk; exact hs.free k hk
theorem zE5 {I:Ij} {m:Mem} {w:World} {g:Inf} {eb:Nat} {v v':V} (h:Jt I m w g (.rows eb [v])) (hv:∀ u,Rep m v I u→Rep m v' I u):Jt I m w g (.rows eb [v']):=by
  obtain ⟨h0,c,ty,q1,q2,q3,q4,q5,q6⟩:=h
  refine ⟨h0,c,ty,q1,q2,q3,q4,q5,fun i x hx=>?_⟩
  cases i with
  | zero =>
    simp only [List.getElem?_cons_zero,ce] at hx
    subst hx
    obtain ⟨u,r1,r2⟩:=q6 0 v rfl
    exact ⟨u,hv u r1,r2⟩
  | succ i=>simp at hx
def Ctx (c:V→V):Prop := ∀ (m:Mem) (I:Ij) (x x':V),(∀ u,Rep m x I u→Rep m x' I u)→∀ u,Rep m (c x) I u→Rep m (c x') I u
theorem ctx_id : Ctx (fun x=>x):=fun m I x x' h u=>h u
theorem GS.freezeB {C:Cfg} {k:List It} {K:List (Nat×V)} {H:List Blk} {lo n j id es eb len:Nat} {rnd:Option Nat} {Q:Ex→St→Prop} {l:List V} {c:V→V} (hcx:Ctx c) (hj:hget H j = .rows eb [c (.osl id 0 len)]) (hne:j≠id) (hloj:lo≤j) (hg:hget H id = .rows es l) (hlo:lo≤id) (hlen:len≤l.length) (hsh:∀ v∈l.take len,shut 9 v=true)
    (h:GS C 0 k ⟨K,hput (hput H id .dead) j (.rows eb [c (.sl (l.take len))]),lo,rnd,n⟩ Q):GS C 0 k ⟨K,H,lo,rnd,n⟩ Q:=by
  intro hC E I m a w hE hs
  have hb:=YN hg
  have hbj:=YN hj
  have hid:id<H.length:=zAo hb
  have hjd:j<H.length:=zAo hbj
  have hjd':j<(hput H id .dead).length:=by rw [Zy _ _ _ (cx hid)]; omega
  obtain ⟨f,hf,hes,cc,ty,q1,q2,q3,q4,q5,q6⟩:=hs.sim.blk id _ hb rfl
  have hoff:m f.b=none:=hs.sim.off id f ⟨_,hb,rfl⟩ hf
  have hle:m.Le (yO m w f.b):=by
    intro k o hk
    unfold yO
    split
    · rename_i e; subst e; rw [hoff] at hk; cases hk
    · exact hk
  have hself:yO m w f.b f.b=some (.cells cc ty (0,0)):=by unfold yO; rw [ck rfl]; exact q1
  have hother:∀ k,k≠f.b→yO m w f.b k=m k:=fun k hk=>by unfold yO; rw [cj hk]
  have hH0:E.H0=[]:=List.eq_nil_of_length_eq_zero (Nat.le_zero.1 hE.len)
  have hnew:E.w0.heap.size≤f.b:=by
    rcases hs.fx.own id f (by rw [← hs.lo]; exact hlo) ⟨_,hb,rfl⟩ hf with h | ⟨i0,f0,_,⟨B,hB,_⟩,_⟩
    · exact h
    · rw [hH0] at hB; simp [Am.get] at hB
  have hlv:∀ j,Live (hput H id .dead) j→j≠id∧Live H j:=fun j hj=>by
    rcases Z8 (cx hid) hj with ⟨_,h⟩ | h
    · cases h
    · exact h
  have hsim0:Sim I (yO m w f.b) (hput H id .dead) w:=by
    refine (hs.sim.kill hid).world hle (fun k o hk=>?_) (fun j g hj hg' => ⟨rfl,?_⟩)
    · by_cases e : k = f.b
      · subst e; rw [hself] at hk; rw [← hk]; exact q1
      · rw [hother k e] at hk; exact hs.sim.sub k o hk
    · obtain ⟨hne, hj2⟩ := hlv j hj
      rw [hother]
      · exact hs.sim.off j g hj2 hg'
      · intro e
        exact hne (hs.sim.inj j id g f hj2 ⟨_,hb,rfl⟩ hg' hf e)
  have hgj:get (hput H id .dead) j=some (.rows eb [c (.osl id 0 len)]):=by
    rw [jD H id j _ (cx hid),cj (fun e=>hne e.symm)]; exact hbj
  have hsim:Sim I (yO m w f.b) (hput (hput H id .dead) j (.rows eb [c (.sl (l.take len))])) w:=by
    refine recell hsim0 hgj rfl rfl fun g hg' hB=>zE5 hB (hcx _ _ _ _ fun u h2=>?_)
    unfold Rep at h2 ⊢
    obtain ⟨f',ad,g1,g2,g3,g4,g5⟩:=h2
    rw [hf] at g1; cases g1
    have hl2:(l.take len).length=len:=by simp; omega
    refine ⟨ad,_,es,by rw [hl2]; exact g2,by rw [hl2]; omega,fun hne=>?_⟩
    have hpos:0<len:=by
      rcases Nat.eq_zero_or_pos len with h | h
      · subst h; exact absurd (by simp) hne
      · exact h
    refine ⟨f.b,f.o,by rw [g4 (by omega)]; simp,jS.mk fun i v hv=>?_⟩
    have hm:=List.mem_of_getElem? hv
    rw [List.getElem?_take] at hv
    split at hv
    · obtain ⟨u', r1, r2, r3⟩ := q6 i v hv
      refine ⟨u',Rep.mono hle v (Ij.Le.rfl' _) (qB 9 v u' (hsh v hm) r1),r2,fun j x hx=>⟨(r3 j x hx).1,?_⟩⟩
      unfold Mem.cell
      rw [hself]
      exact (r3 j x hx).2
    · cases hv
  have hlv2:∀ i,Live (hput (hput H id .dead) j (.rows eb [c (.sl (l.take len))])) i→i≠id∧Live H i:=fun i hi=>by
    rcases Z8 (cx hjd') hi with ⟨h,_⟩ | ⟨_,h⟩
    · subst h; exact ⟨hne,⟨_,hbj,rfl⟩⟩
    · exact hlv i h
  have hfx:Fx I H E.lo w I (hput (hput H id .dead) j (.rows eb [c (.sl (l.take len))])) w:=by
    refine ⟨JZ.rfl' w,fun _ _ _=>rfl,Ij.Le.rfl' _,fun j g h1 h2 h3=>.inr ⟨j,g,h1,(hlv2 j h2).2,h3,rfl⟩,fun i hi=>?_,by rw [Zy _ _ _ (cx hjd'),Zy _ _ _ (cx hid)]; omega⟩
    have hlo':=hs.lo
    simp only at hlo'
    rw [jD _ j i _ (cx hjd'),cj (by omega),jD H id i _ (cx hid),cj (by omega)]
  refine h hC E I (yO m w f.b) a w hE { sim:=hsim,slots := ?_,size:=hs.size,n:=hs.n,lo:=hs.lo,rnd:=hs.rnd,fx:=hs.fx.tr hfx,mem:=fun k o hk=>hle k o (hs.mem k o hk),fresh:=fun k o hk=>?_,lole:=hs.lole,dfr := ?_,rok:=hs.rok }
  · intro t v hv
    obtain ⟨u,h1,h2⟩:=hs.slots t v hv
    exact ⟨u,h1,Rep.mono hle v (Ij.Le.rfl' _) h2⟩
  · by_cases e : k = f.b
    · subst e; exact .inr hnew
    · rw [hother k e] at hk; exact hs.fresh k o hk
  · obtain ⟨ds, h1, h2, h3, h4⟩ := hs.dfr
    refine ⟨ds,h1,h2,fun D hD=>?_,h4⟩
    obtain ⟨k1,k2,k3,k4⟩:=h3 D hD
    refine ⟨k1,k2,?_,fun j g hj hg' => k4 j g (hlv2 j hj).2 hg'⟩
    rw [hother D fun e=>k4 id f ⟨_,hb,rfl⟩ hf e.symm]; exact k3
namespace X
theorem zP9 {C:Cfg} {k:List It} {K:List (Nat×V)} {H H':List Blk} {lo n id es eb:Nat} {rnd:Option Nat} {Q:Ex→St→Prop} {α:Type} {z:Bool} {f:α→V} {l:List α} (j:Nat) {c:V→V} (hcx:Ctx c) (hj:hget H j = .rows eb [c (ovlz z id l)]) (hg:hget H id=oblz z es f l) (hne:Nat.beq j id=false) (hid:Nat.blt id H.length=true) (hlo:Nat.ble lo id=true) (hloj:Nat.ble lo j=true) (hsh:∀ x,shut 9 (f x)=true) (hH:hput (hput H id .dead) j (.rows eb [c (.sl (l.map f))])=H')
    (h:GS C 0 k ⟨K,H',lo,rnd,n⟩ Q):GS C 0 k ⟨K,H,lo,rnd,n⟩ Q:=by
  subst hH
  have hne':j≠id:=Nat.ne_of_beq_eq_false hne
  rcases zAm z id es f l with ⟨rfl,rfl⟩ | ⟨e1,e2⟩
  · have e : hput H id .dead = H := zCv (by rw [hg]; rfl) hid
    rw [e] at h
    have hbj:=YN hj
    have hjd:=zAo hbj
    intro hC E I m a w hE hs
    have hlv2:∀ i,Live (hput H j (.rows eb [c (.sl (([]:List α).map f))])) i→Live H i:=fun i hi=>by
      rcases Z8 (cx hjd) hi with ⟨h,_⟩ | ⟨_,h⟩
      · subst h; exact ⟨_,hbj,rfl⟩
      · exact h
    have hfx:Fx I H E.lo w I (hput H j (.rows eb [c (.sl (([]:List α).map f))])) w:=by
      refine ⟨JZ.rfl' w,fun _ _ _=>rfl,Ij.Le.rfl' _,fun j g h1 h2 h3=>.inr ⟨j,g,h1,hlv2 j h2,h3,rfl⟩,fun i hi=>?_,by rw [Zy _ _ _ (cx hjd)]; omega⟩
      have hlo':=hs.lo
      have:=cz hloj
      simp only at hlo'
      rw [jD _ j i _ (cx hjd),cj (by omega)]
    refine h hC E I m a w hE { hs with sim:=recell hs.sim hbj rfl rfl fun g hg' hB=>zE5 hB (hcx _ _ _ _ fun u h2=>?_),slots:=hs.slots,n:=hs.n,lo:=hs.lo,rnd:=hs.rnd,fx:=hs.fx.tr hfx,dfr := ?_ }
    · have h3 : u = Value.slice none 0 0 := h2.lit
      subst h3
      unfold Rep
      exact ⟨none,0,0,rfl,dc _,fun h=>absurd rfl h⟩
    · obtain ⟨ds, h1, h2, h3, h4⟩ := hs.dfr
      refine ⟨ds,h1,h2,fun D hD=>?_,h4⟩
      obtain ⟨k1,k2,k3,k4⟩:=h3 D hD
      exact ⟨k1,k2,k3,fun j g hj hg' => k4 j g (hlv2 j hj) hg'⟩
  · rw [e1] at hj
    rw [e2] at hg
    have hl:l.length=(l.map f).length:=(List.length_map ..).symm
    have ht:(l.map f).take l.length=l.map f:=by rw [hl,List.take_length]
    exact GS.freezeB (C:=C) (k:=k) (K:=K) (len:=l.length) (rnd:=rnd) (n:=n) (Q:=Q) hcx hj hne' (cz hloj) hg (cz hlo) (by rw [← hl]; exact dc _) (by rw [ht]; intro v hv; obtain ⟨x,_,rfl⟩:=List.mem_map.1 hv; exact hsh x) (by rw [ht]; exact h)
end X
end Go.Am
namespace Go.Am
open Go Go.Wk Go.RowKit Go.Mx
namespace X
theorem nilBox {C:Cfg} {N:Nat} {k:List It} {K:List (Nat×V)} {H H':List Blk} {lo n eb:Nat} {rnd:Option Nat} {Q:Ex→St→Prop} (j:Nat) (hj:hget H j = .rows eb [.nil]) (hloj:Nat.ble lo j=true) (hH:hput H j (.rows eb [.sl []])=H')
    (h:GS C N k ⟨K,H',lo,rnd,n⟩ Q):GS C N k ⟨K,H,lo,rnd,n⟩ Q:=by
  subst hH
  have hbj:=YN hj
  have hjd:=zAo hbj
  intro hC E I m a w hE hs
  have hlv2:∀ i,Live (hput H j (.rows eb [.sl []])) i→Live H i:=fun i hi=>by
    rcases Z8 (cx hjd) hi with ⟨h,_⟩ | ⟨_,h⟩
    · subst h; exact ⟨_,hbj,rfl⟩
    · exact h
  have hfx:Fx I H E.lo w I (hput H j (.rows eb [.sl []])) w:=by
    refine ⟨JZ.rfl' w,fun _ _ _=>rfl,Ij.Le.rfl' _,fun j g h1 h2 h3=>.inr ⟨j,g,h1,hlv2 j h2,h3,rfl⟩,fun i hi=>?_,by rw [Zy _ _ _ (cx hjd)]; omega⟩
    have hlo':=hs.lo
    have:=cz hloj
    simp only at hlo'
    rw [jD _ j i _ (cx hjd),cj (by omega)]
  refine h hC E I m a w hE { hs with sim:=recell hs.sim hbj rfl rfl fun g hg' hB=>zE5 hB fun u h2=>?_,slots:=hs.slots,n:=hs.n,lo:=hs.lo,rnd:=hs.rnd,fx:=hs.fx.tr hfx,dfr := ?_ }
  · have h3 : u = Value.slice none 0 0 := h2.lit
    subst h3
    unfold Rep
    exact ⟨none,0,0,rfl,dc _,fun h=>absurd rfl h⟩
  · obtain ⟨ds, h1, h2, h3, h4⟩ := hs.dfr
    refine ⟨ds,h1,h2,fun D hD=>?_,h4⟩
    obtain ⟨k1,k2,k3,k4⟩:=h3 D hD
    exact ⟨k1,k2,k3,fun j g hj hg' => k4 j g (hlv2 j hj) hg'⟩
end X
end Go.Am
namespace Go.Am
open Go Go.Wk Go.RowKit Go.Mx
namespace X
end X
end Go.Am
namespace Go.Am
open Go Go.Wk Go.RowKit Go.Mx
namespace X
theorem zED : ∀ (H:List Blk) (B:Blk),hput H H.length B=H++[B]
  | [],B=>rfl
  | x :: r,B=>by simp only [cv,hput,zED r B,List.cons_append]
theorem max3E {C:Cfg} {K:List (Nat×V)} {H:List Blk} {lo nid:Nat} {a b c:Int} {t u v:Nat} {xo yo zo:Operand} (hx:kev K xo=some (.i a)) (hy:kev K yo=some (.i b)) (hz:kev K zo=some (.i c)):zZ C K H lo nid (.call ⟨.builtin .max,#[xo,yo,zo],#[t,u,v]⟩)=some ⟨.i (max (max a b) c),[],[]⟩:=by
  have h1:(if a<b then b else a)=max a b:=by rw [Int.max_def]; split <;> split <;> omega
  have h2:(if max a b<c then c else max a b)=max (max a b) c:=by rw [Int.max_def (max a b)]; split <;> split <;> omega
  simp [zZ,jb,kevs,hx,hy,hz,Jd,zNs,maxR,J6,yG,h1,h2]
theorem zHG {C:Cfg} {K:List (Nat×V)} {H:List Blk} {lo nid:Nat} {α:Type} {f:α→V} {n m:Int} {y:α} {l:List α} {t e es:Nat} {T Te:TI} {xo yo:Operand} (hm:mkS n m y=some l) (hT:C.ty t=some T) (hk:T.kd = .slice e es) (hTe:C.ty e=some Te) (hes:Te.size=es) (hz:Te.zero=f y) (hby:Nat.ble Te.bytes 4096=true) (hx:kev K xo=some (.i n)) (hy:kev K yo=some (.i m)) :
    zZ C K H lo nid (.makeSlice t xo yo)=some ⟨.osl nid 0 l.length,[(nid,.rows es (l.map f))],[nid]⟩:=by
  unfold mkS at hm
  split at hm
  · rename_i h
    cases hm
    have hby':Te.bytes≤4096:=cz hby
    simp only [zZ,zBT,yu,hT,hk,hTe,hx,hy]
    rw [ck ⟨h.1,h.2.1,h.2.2,hby'⟩,hz,hes]
    simp
  · cases hm
end X
mutual
def zLG : V→V
  | .sl _=>.uns
  | .agg l=>.agg (zNI l)
  | .tup l=>.tup (zNI l)
  | v=>v
def zNI : List V→List V
  | []=>[]
  | v :: r=>zLG v :: zNI r
end
mutual
theorem zJk {m:Mem} {I:Ij}:∀ (v:V) {u:Value},Rep m v I u→Rep m (zLG v) I u
  | .sl _,u,h=>by unfold Rep at h; obtain ⟨ad,cap,_,rfl,_⟩:=h; unfold zLG Rep; exact ⟨_,_,_,rfl⟩
  | .agg l,u,h=>by unfold Rep at h; obtain ⟨us,rfl,h1,h2⟩:=h; unfold zLG Rep; exact ⟨us,rfl,h1,zFO l h2⟩
  | .tup l,u,h=>by unfold Rep at h; obtain ⟨us,rfl,h2⟩:=h; unfold zLG Rep; exact ⟨us,rfl,zFO l h2⟩
  | .lit _,u,h=>h
  | .ptr _ _ _,u,h=>h
  | .fptr _ _ _,u,h=>h
  | .osl _ _ _,u,h=>h
  | .fn _ _,u,h=>h
  | .yld _,u,h=>h
  | .map _,u,h=>h
  | .fmap _ _,u,h=>h
  | .uns,u,h=>h
theorem zFO {m:Mem} {I:Ij}:∀ (l:List V) {us:List Value},RepL m l I us→RepL m (zNI l) I us
  | [],us,h=>h
  | v :: r,us,h=>by
    unfold RepL at h
    obtain ⟨u,us',rfl,h1,h2⟩:=h
    unfold zNI RepL
    exact ⟨u,us',rfl,zJk v h1,zFO r h2⟩
end
theorem Ct.mask {P:Program} {f:Nat} {args:List V} {v:V} (h:Ct P f args v):Ct P f args (zLG v):=⟨fun m w us hm hr=>(h.1 m w us hm hr).mono fun e w' ⟨u,m',h1,h2,h3,h4,h5,h6⟩=>⟨u,m',h1,h2,h3,h4,h5,zJk v h6⟩,h.2⟩
end Go.Am
