/- What is left of an own slice from a place on (a queue). Conditions: none. -/
import Derived.Test.YtfoafeaplgmhmaaGreatOwn
set_option linter.unusedVariables false
set_option linter.unusedSimpArgs false
namespace Go.Am
open Go Go.Wk Go.RowKit Go.Mx
namespace X
section
variable {C:Cfg} {K:List (Nat×V)} {H:List Blk} {lo nid:Nat}
end
end X
end Go.Am
namespace Go.Am
open Go Go.Wk Go.RowKit Go.Mx
theorem recell {I:Ij} {m:Mem} {H:List Blk} {w:World} (hs:Sim I m H w) {j:Nat} {B B':Blk} (hj:get H j=some B) (hl:B.live=true) (hl':B'.live=true) (hB:∀ g,I j=some g→BlkOK I m w g B→BlkOK I m w g B'):Sim I m (hput H j B') w:=by
  have hlt:=get_lt hj
  have hlv:∀ k,Live (hput H j B') k→Live H k:=fun k hk=>by
    rcases live_hput (Nat.le_of_lt hlt) hk with ⟨h,_⟩ | ⟨_,h⟩
    · subst h; exact ⟨B,hj,hl⟩
    · exact h
  refine ⟨hs.sub,fun k A hA hlvA=>?_,fun k hk=>?_,fun k g h1 h2=>hs.off k g (hlv k h1) h2,fun a b g g' h1 h2 h3 h4 h5=>hs.inj a b g g' (hlv a h1) (hlv b h2) h3 h4 h5⟩
  · rw [get_hput H j k _ (Nat.le_of_lt hlt)] at hA
    by_cases e:j=k
    · subst e
      rw [if_pos rfl,Option.some.injEq] at hA
      subst hA
      obtain ⟨g,q1,q2⟩:=hs.blk j B hj hl
      exact ⟨g,q1,hB g q1 q2⟩
    · rw [if_neg e] at hA; exact hs.blk k A hA hlvA
  · rw [get_hput H j k _ (Nat.le_of_lt hlt)] at hk
    by_cases e:j=k
    · rw [if_pos e] at hk
      rcases hk with h | h
      · cases h
      · rw [Option.some.injEq] at h; subst h; cases hl'
    · rw [if_neg e] at hk; exact hs.free k hk
theorem recell_rows {I:Ij} {m:Mem} {w:World} {g:Inf} {eb:Nat} {v v':V} (h:BlkOK I m w g (.rows eb [v])) (hv:∀ u,Rep m v I u→Rep m v' I u):BlkOK I m w g (.rows eb [v']):=by
  obtain ⟨h0,c,ty,q1,q2,q3,q4,q5,q6⟩:=h
  refine ⟨h0,c,ty,q1,q2,q3,q4,q5,fun i x hx=>?_⟩
  cases i with
  | zero =>
    simp only [List.getElem?_cons_zero,Option.some.injEq] at hx
    subst hx
    obtain ⟨u,r1,r2⟩:=q6 0 v rfl
    exact ⟨u,hv u r1,r2⟩
  | succ i=>simp at hx
def Ctx (c:V→V):Prop := ∀ (m:Mem) (I:Ij) (x x':V),(∀ u,Rep m x I u→Rep m x' I u)→∀ u,Rep m (c x) I u→Rep m (c x') I u
theorem ctx_list {m:Mem} {I:Ij} {x x':V} (h:∀ u,Rep m x I u→Rep m x' I u):∀ (pre post:List V) (us:List Value),RepL m (pre++x :: post) I us→RepL m (pre++x' :: post) I us
  | [],post,us,hu=>by
    unfold RepL at hu ⊢
    obtain ⟨u,us',h1,h2,h3⟩:=hu
    exact ⟨u,us',h1,h u h2,h3⟩
  | v :: pre,post,us,hu=>by
    simp only [List.cons_append] at hu ⊢
    unfold RepL at hu ⊢
    obtain ⟨u,us',h1,h2,h3⟩:=hu
    exact ⟨u,us',h1,h2,ctx_list h pre post us' h3⟩
theorem ctx_agg (pre post:List V):Ctx (fun x=>.agg (pre++x :: post)):=fun m I x x' h u hu=>by
  unfold Rep at hu ⊢
  obtain ⟨us,h1,h0,h2⟩:=hu
  exact ⟨us,h1,h0,ctx_list h pre post us h2⟩
theorem GS.freezeB {C:Cfg} {k:List It} {K:List (Nat×V)} {H:List Blk} {lo n j id es eb len:Nat} {rnd:Option Nat} {Q:Ex→St→Prop} {l:List V} {c:V→V} (hcx:Ctx c) (hj:hget H j = .rows eb [c (.osl id 0 len)]) (hne:j≠id) (hloj:lo≤j) (hg:hget H id = .rows es l) (hlo:lo≤id) (hlen:len≤l.length) (hsh:∀ v∈l.take len,shut 9 v=true)
    (h:GS C 0 k ⟨K,hput (hput H id .dead) j (.rows eb [c (.sl (l.take len))]),lo,rnd,n⟩ Q):GS C 0 k ⟨K,H,lo,rnd,n⟩ Q:=by
  intro hC E I m a w hE hs
  have hb:=hget_rows hg
  have hbj:=hget_rows hj
  have hid:id<H.length:=get_lt hb
  have hjd:j<H.length:=get_lt hbj
  have hjd':j<(hput H id .dead).length:=by rw [hput_length _ _ _ (Nat.le_of_lt hid)]; omega
  obtain ⟨f,hf,hes,cc,ty,q1,q2,q3,q4,q5,q6⟩:=hs.sim.blk id _ hb rfl
  have hoff:m f.b=none:=hs.sim.off id f ⟨_,hb,rfl⟩ hf
  have hle:m.Le (memAdd m w f.b):=by
    intro k o hk
    unfold memAdd
    split
    · rename_i e; subst e; rw [hoff] at hk; cases hk
    · exact hk
  have hself:memAdd m w f.b f.b=some (.cells cc ty (0,0)):=by unfold memAdd; rw [if_pos rfl]; exact q1
  have hother:∀ k,k≠f.b→memAdd m w f.b k=m k:=fun k hk=>by unfold memAdd; rw [if_neg hk]
  have hH0:E.H0=[]:=List.eq_nil_of_length_eq_zero (Nat.le_zero.1 hE.len)
  have hnew:E.w0.heap.size≤f.b:=by
    rcases hs.fx.own id f (by rw [← hs.lo]; exact hlo) ⟨_,hb,rfl⟩ hf with h | ⟨i0,f0,_,⟨B,hB,_⟩,_⟩
    · exact h
    · rw [hH0] at hB; simp [Am.get] at hB
  have hlv:∀ j,Live (hput H id .dead) j→j≠id∧Live H j:=fun j hj=>by
    rcases live_hput (Nat.le_of_lt hid) hj with ⟨_,h⟩ | h
    · cases h
    · exact h
  have hsim0:Sim I (memAdd m w f.b) (hput H id .dead) w:=by
    refine (hs.sim.kill hid).world hle (fun k o hk=>?_) (fun j g hj hg' => ⟨rfl,?_⟩)
    · by_cases e : k = f.b
      · subst e; rw [hself] at hk; rw [← hk]; exact q1
      · rw [hother k e] at hk; exact hs.sim.sub k o hk
    · obtain ⟨hne, hj2⟩ := hlv j hj
      rw [hother]
      · exact hs.sim.off j g hj2 hg'
      · intro e
        exact hne (hs.sim.inj j id g f hj2 ⟨_,hb,rfl⟩ hg' hf e)
  have hgj:get (hput H id .dead) j=some (.rows eb [c (.osl id 0 len)]):=by
    rw [get_hput H id j _ (Nat.le_of_lt hid),if_neg (fun e=>hne e.symm)]; exact hbj
  have hsim:Sim I (memAdd m w f.b) (hput (hput H id .dead) j (.rows eb [c (.sl (l.take len))])) w:=by
    refine recell hsim0 hgj rfl rfl fun g hg' hB=>recell_rows hB (hcx _ _ _ _ fun u h2=>?_)
    unfold Rep at h2 ⊢
    obtain ⟨f',ad,g1,g2,g3,g4,g5⟩:=h2
    rw [hf] at g1; cases g1
    have hl2:(l.take len).length=len:=by simp; omega
    refine ⟨ad,_,es,by rw [hl2]; exact g2,by rw [hl2]; omega,fun hne=>?_⟩
    have hpos:0<len:=by
      rcases Nat.eq_zero_or_pos len with h | h
      · subst h; exact absurd (by simp) hne
      · exact h
    refine ⟨f.b,f.o,by rw [g4 (by omega)]; simp,RepRows.mk fun i v hv=>?_⟩
    have hm:=List.mem_of_getElem? hv
    rw [List.getElem?_take] at hv
    split at hv
    · obtain ⟨u', r1, r2, r3⟩ := q6 i v hv
      refine ⟨u',Rep.mono hle v (Ij.Le.rfl' _) (shut_sound 9 v u' (hsh v hm) r1),r2,fun j x hx=>⟨(r3 j x hx).1,?_⟩⟩
      unfold Mem.cell
      rw [hself]
      exact (r3 j x hx).2
    · cases hv
  have hlv2:∀ i,Live (hput (hput H id .dead) j (.rows eb [c (.sl (l.take len))])) i→i≠id∧Live H i:=fun i hi=>by
    rcases live_hput (Nat.le_of_lt hjd') hi with ⟨h,_⟩ | ⟨_,h⟩
    · subst h; exact ⟨hne,⟨_,hbj,rfl⟩⟩
    · exact hlv i h
  have hfx:Fx I H E.lo w I (hput (hput H id .dead) j (.rows eb [c (.sl (l.take len))])) w:=by
    refine ⟨StaysD.rfl' w,fun _ _ _=>rfl,Ij.Le.rfl' _,fun j g h1 h2 h3=>.inr ⟨j,g,h1,(hlv2 j h2).2,h3,rfl⟩,fun i hi=>?_,by rw [hput_length _ _ _ (Nat.le_of_lt hjd'),hput_length _ _ _ (Nat.le_of_lt hid)]; omega⟩
    have hlo':=hs.lo
    simp only at hlo'
    rw [get_hput _ j i _ (Nat.le_of_lt hjd'),if_neg (by omega),get_hput H id i _ (Nat.le_of_lt hid),if_neg (by omega)]
  refine h hC E I (memAdd m w f.b) a w hE { sim:=hsim,slots := ?_,size:=hs.size,n:=hs.n,lo:=hs.lo,rnd:=hs.rnd,fx:=hs.fx.tr hfx,mem:=fun k o hk=>hle k o (hs.mem k o hk),fresh:=fun k o hk=>?_,lole:=hs.lole,dfr := ?_,rok:=hs.rok }
  · intro t v hv
    obtain ⟨u,h1,h2⟩:=hs.slots t v hv
    exact ⟨u,h1,Rep.mono hle v (Ij.Le.rfl' _) h2⟩
  · by_cases e : k = f.b
    · subst e; exact .inr hnew
    · rw [hother k e] at hk; exact hs.fresh k o hk
  · obtain ⟨ds, h1, h2, h3, h4⟩ := hs.dfr
    refine ⟨ds,h1,h2,fun D hD=>?_,h4⟩
    obtain ⟨k1,k2,k3,k4⟩:=h3 D hD
    refine ⟨k1,k2,?_,fun j g hj hg' => k4 j g (hlv2 j hj).2 hg'⟩
    rw [hother D fun e=>k4 id f ⟨_,hb,rfl⟩ hf e.symm]; exact k3
namespace X
theorem freezeBox {C:Cfg} {k:List It} {K:List (Nat×V)} {H H':List Blk} {lo n id es eb:Nat} {rnd:Option Nat} {Q:Ex→St→Prop} {α:Type} {z:Bool} {f:α→V} {l:List α} (j:Nat) {c:V→V} (hcx:Ctx c) (hj:hget H j = .rows eb [c (ovlz z id l)]) (hg:hget H id=oblz z es f l) (hne:Nat.beq j id=false) (hid:Nat.blt id H.length=true) (hlo:Nat.ble lo id=true) (hloj:Nat.ble lo j=true) (hsh:∀ x,shut 9 (f x)=true) (hH:hput (hput H id .dead) j (.rows eb [c (.sl (l.map f))])=H')
    (h:GS C 0 k ⟨K,H',lo,rnd,n⟩ Q):GS C 0 k ⟨K,H,lo,rnd,n⟩ Q:=by
  subst hH
  have hne':j≠id:=Nat.ne_of_beq_eq_false hne
  rcases ovlz_cases z id es f l with ⟨rfl,rfl⟩ | ⟨e1,e2⟩
  · have e : hput H id .dead = H := hput_same (by rw [hg]; rfl) hid
    rw [e] at h
    have hbj:=hget_rows hj
    have hjd:=get_lt hbj
    intro hC E I m a w hE hs
    have hlv2:∀ i,Live (hput H j (.rows eb [c (.sl (([]:List α).map f))])) i→Live H i:=fun i hi=>by
      rcases live_hput (Nat.le_of_lt hjd) hi with ⟨h,_⟩ | ⟨_,h⟩
      · subst h; exact ⟨_,hbj,rfl⟩
      · exact h
    have hfx:Fx I H E.lo w I (hput H j (.rows eb [c (.sl (([]:List α).map f))])) w:=by
      refine ⟨StaysD.rfl' w,fun _ _ _=>rfl,Ij.Le.rfl' _,fun j g h1 h2 h3=>.inr ⟨j,g,h1,hlv2 j h2,h3,rfl⟩,fun i hi=>?_,by rw [hput_length _ _ _ (Nat.le_of_lt hjd)]; omega⟩
      have hlo':=hs.lo
      have:=Nat.le_of_ble_eq_true hloj
      simp only at hlo'
      rw [get_hput _ j i _ (Nat.le_of_lt hjd),if_neg (by omega)]
    refine h hC E I m a w hE { hs with sim:=recell hs.sim hbj rfl rfl fun g hg' hB=>recell_rows hB (hcx _ _ _ _ fun u h2=>?_),slots:=hs.slots,n:=hs.n,lo:=hs.lo,rnd:=hs.rnd,fx:=hs.fx.tr hfx,dfr := ?_ }
    · have h3 : u = Value.slice none 0 0 := h2.lit
      subst h3
      unfold Rep
      exact ⟨none,0,0,rfl,Nat.le_refl _,fun h=>absurd rfl h⟩
    · obtain ⟨ds, h1, h2, h3, h4⟩ := hs.dfr
      refine ⟨ds,h1,h2,fun D hD=>?_,h4⟩
      obtain ⟨k1,k2,k3,k4⟩:=h3 D hD
      exact ⟨k1,k2,k3,fun j g hj hg' => k4 j g (hlv2 j hj) hg'⟩
  · rw [e1] at hj
    rw [e2] at hg
    have hl:l.length=(l.map f).length:=(List.length_map ..).symm
    have ht:(l.map f).take l.length=l.map f:=by rw [hl,List.take_length]
    exact GS.freezeB (C:=C) (k:=k) (K:=K) (len:=l.length) (rnd:=rnd) (n:=n) (Q:=Q) hcx hj hne' (Nat.le_of_ble_eq_true hloj) hg (Nat.le_of_ble_eq_true hlo) (by rw [← hl]; exact Nat.le_refl _) (by rw [ht]; intro v hv; obtain ⟨x,_,rfl⟩:=List.mem_map.1 hv; exact hsh x) (by rw [ht]; exact h)
end X
end Go.Am
namespace Go.Am
open Go Go.Wk Go.RowKit Go.Mx
namespace X
theorem nilBoxC {C:Cfg} {N:Nat} {k:List It} {K:List (Nat×V)} {H H':List Blk} {lo n eb:Nat} {rnd:Option Nat} {Q:Ex→St→Prop} (j:Nat) {c:V→V} (hcx:Ctx c) (hj:hget H j = .rows eb [c .nil]) (hloj:Nat.ble lo j=true) (hH:hput H j (.rows eb [c (.sl [])])=H')
    (h:GS C N k ⟨K,H',lo,rnd,n⟩ Q):GS C N k ⟨K,H,lo,rnd,n⟩ Q:=by
  subst hH
  have hbj:=hget_rows hj
  have hjd:=get_lt hbj
  intro hC E I m a w hE hs
  have hlv2:∀ i,Live (hput H j (.rows eb [c (.sl [])])) i→Live H i:=fun i hi=>by
    rcases live_hput (Nat.le_of_lt hjd) hi with ⟨h,_⟩ | ⟨_,h⟩
    · subst h; exact ⟨_,hbj,rfl⟩
    · exact h
  have hfx:Fx I H E.lo w I (hput H j (.rows eb [c (.sl [])])) w:=by
    refine ⟨StaysD.rfl' w,fun _ _ _=>rfl,Ij.Le.rfl' _,fun j g h1 h2 h3=>.inr ⟨j,g,h1,hlv2 j h2,h3,rfl⟩,fun i hi=>?_,by rw [hput_length _ _ _ (Nat.le_of_lt hjd)]; omega⟩
    have hlo':=hs.lo
    have:=Nat.le_of_ble_eq_true hloj
    simp only at hlo'
    rw [get_hput _ j i _ (Nat.le_of_lt hjd),if_neg (by omega)]
  refine h hC E I m a w hE { hs with sim:=recell hs.sim hbj rfl rfl fun g hg' hB=>recell_rows hB (hcx _ _ _ _ fun u h2=>?_),slots:=hs.slots,n:=hs.n,lo:=hs.lo,rnd:=hs.rnd,fx:=hs.fx.tr hfx,dfr := ?_ }
  · have h3 : u = Value.slice none 0 0 := h2.lit
    subst h3
    unfold Rep
    exact ⟨none,0,0,rfl,Nat.le_refl _,fun h=>absurd rfl h⟩
  · obtain ⟨ds, h1, h2, h3, h4⟩ := hs.dfr
    refine ⟨ds,h1,h2,fun D hD=>?_,h4⟩
    obtain ⟨k1,k2,k3,k4⟩:=h3 D hD
    exact ⟨k1,k2,k3,fun j g hj hg' => k4 j g (hlv2 j hj) hg'⟩
end X
end Go.Am
namespace Go.Am
open Go Go.Wk Go.RowKit Go.Mx
namespace X
end X
end Go.Am
namespace Go.Am
open Go Go.Wk Go.RowKit Go.Mx
namespace X
theorem hput_end : ∀ (H:List Blk) (B:Blk),hput H H.length B=H++[B]
  | [],B=>rfl
  | x :: r,B=>by simp only [List.length_cons,hput,hput_end r B,List.cons_append]
theorem appNilS {C:Cfg} {N:Nat} {all os:List Oper} {k:List It} {K:List (Nat×V)} {H H':List Blk} {lo n:Nat} {rnd:Option Nat} {Q:Ex→St→Prop} {d:Nat} {ty:TypeId} {pos:String} {after:Array Edge} {g:Option (Nat×Bool)} {α:Type} {f:α→V} {xs r:List α} {t e es:Nat} {T Te:TI} {xo yo:Operand} {yv:V} {rd:List Nat} {m:Nat} (hL:H.length=m) (hm:app [] xs=some r) (hs:∀ a,sizeOK Te (f a)=true) (hw:wants all K g=some true) (hT:C.ty t=some T) (hk:T.kd = .slice e es) (hTe:C.ty e=some Te) (hes:Te.size=es) (hby:Nat.ble Te.bytes 4096=true) (hx:kev K xo=some .nil) (hy:kev K yo=some yv) (hr:rowsOf H yv=some (xs.map f,rd)) (hd:Nat.blt d n=true) (hH':H++[obl es f r]=H')
    (h:GS C N (.ops all os :: k) ⟨(d,ovl m r) :: K,H',lo,rnd,n⟩ Q):GS C N (.ops all (⟨some d,.call ⟨.builtin .append,#[xo,yo],#[t,t]⟩,ty,pos,after,g⟩ :: os) :: k) ⟨K,H,lo,rnd,n⟩ Q:=by
  subst hH' hL
  cases xs with
  | nil =>
    obtain ⟨_,rfl⟩:=app_of hm
    have he:opEff C K H lo H.length (.call ⟨.builtin .append,#[xo,yo],#[t,t]⟩)=some ⟨.nil,[],rd⟩:=by
      have ht:Nat.beq t t=true:=Nat.beq_refl t
      simp [opEff,effBuiltin,kevs,hx,hy,builtinA,biAppend,ht,sliceElem,hT,hk,hTe,appendA,hr,newOK,V.nil]
    exact opR hw he hd (GS.pad h)
  | cons a xs =>
    refine opW hw (appNil hm hs hT hk hTe hes hby hx hy hr) ?_ hd ?_ (H':=H++[.rows es (r.map f)])
    · simp only [puts,hput_end]
    · have hne : r ≠ [] := app_ne hm
      have e1:ovl H.length r = .osl H.length 0 r.length:=ovl_ne hne
      have e2:obl es f r = .rows es (r.map f):=obl_ne hne
      rw [e1,e2] at h
      exact h
theorem appNS {C:Cfg} {N:Nat} {all os:List Oper} {k:List It} {K:List (Nat×V)} {H H':List Blk} {lo n:Nat} {rnd:Option Nat} {Q:Ex→St→Prop} {d:Nat} {ty:TypeId} {pos:String} {after:Array Edge} {g:Option (Nat×Bool)} {α:Type} {z:Bool} {f:α→V} {l xs r:List α} {t e es id:Nat} {T Te:TI} {xo yo:Operand} {yv:V} {rd:List Nat} {m:Nat} (hL:H.length=m) (hm:app l xs=some r) (hs:∀ a,sizeOK Te (f a)=true) (hw:wants all K g=some true) (hT:C.ty t=some T) (hk:T.kd = .slice e es) (hTe:C.ty e=some Te) (hes:Te.size=es) (hby:Nat.ble Te.bytes 4096=true) (hx:kev K xo=some (ovlz z id l)) (hH:hget H id=oblz z es f l) (hid:Nat.blt id H.length=true) (hlo:Nat.ble lo id=true) (hy:kev K yo=some yv) (hr:rowsOf H yv=some (xs.map f,rd)) (hd:Nat.blt d n=true) (hH':hput H id .dead++[oblz z es f r]=H')
    (h:GS C N (.ops all os :: k) ⟨(d,ovlz z m r) :: K,H',lo,rnd,n⟩ Q):GS C N (.ops all (⟨some d,.call ⟨.builtin .append,#[xo,yo],#[t,t]⟩,ty,pos,after,g⟩ :: os) :: k) ⟨K,H,lo,rnd,n⟩ Q:=by
  subst hH' hL
  have hidl:id<H.length:=by simpa [Nat.blt_eq] using hid
  have hlen:(hput H id .dead).length=H.length:=by rw [hput_length _ _ _ (Nat.le_of_lt hidl)]; omega
  have hend:∀ B:Blk,puts H [(id,.dead),(H.length,B)]=hput H id .dead++[B]:=fun B=>by
    simp only [puts]
    have:=hput_end (hput H id .dead) B
    rw [hlen] at this; exact this
  cases xs with
  | cons a xs =>
    have hne:r≠[]:=by
      obtain ⟨_,rfl⟩:=app_of hm
      simp
    refine appN hm hs hw hT hk hTe hes hby hx hH hid hlo hy hr hd (hend _) ?_
    rw [← ovl_ne (z:=z) (id:=H.length) hne,← obl_ne (z:=z) (es:=es) (f:=f) hne]
    exact h
  | nil =>
    obtain ⟨hmax,e0⟩:=app_of hm
    rw [List.append_nil] at e0
    subst e0
    rcases ovlz_cases z id es f r with ⟨rfl,rfl⟩ | ⟨e1,e2⟩
    · have ht : Nat.beq t t = true := Nat.beq_refl t
      have he:opEff C K H lo H.length (.call ⟨.builtin .append,#[xo,yo],#[t,t]⟩)=some ⟨.nil,[],rd⟩:=by
        simp only [opEff,effBuiltin,kevs,hx,hy,builtinA,biAppend,ht,_root_.cond_true,sliceElem,hT,hk,hTe,appendA,hr,List.map_nil,newOK,ovlz]
      refine opR hw he hd (GS.pad ?_)
      rw [show hput H id Blk.dead=H from hput_same hH hid] at h
      exact h
    · rw [e2] at hH
      rw [e1] at hx
      have e3:ovlz z H.length r = .osl H.length 0 r.length:=by
        rcases ovlz_cases z H.length es f r with ⟨rfl,rfl⟩ | ⟨e3,_⟩
        · cases e1
        · exact e3
      refine opW hw (appO (l:=r) (xs:=[]) (r:=r) hm hs hT hk hTe hes hby hx hH hlo hy hr) (hend _) hd ?_
      rw [← e3,← e2]
      exact h
end X
end Go.Am
