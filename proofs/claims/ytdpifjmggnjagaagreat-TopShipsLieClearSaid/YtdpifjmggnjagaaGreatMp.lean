/- Own results of calls over own slices; frozen maps. Conditions: none. -/
import Derived.Test.YtdpifjmggnjagaaGreatQu
set_option linter.unusedVariables false
set_option linter.unusedSimpArgs false
namespace Go.Am
open Go Go.Wk Go.RowKit Go.Mx
section
variable {C:Cfg} {E:Env} {s:St} {I:Ij} {m:Mem} {a:Act} {w:World}
theorem zRc {α:Type} {f:α→V} {l:List α} {es nn:Nat} {I1 I2:Ij} {m':Mem} {w':World} {g:Inf} (hf:∀ x,flat nn (f x)=true) (h:Jt I1 m' w' g (.rows es (l.map f))):Jt I2 m w' g (.rows es (l.map f)):=by
 obtain ⟨h0,c,ty,h1,h2,h3,h4,h5,h6⟩:=h
 refine ⟨h0,c,ty,h1,h2,h3,h4,h5,fun i v hv=>?_⟩
 obtain ⟨u,q1,q2⟩:=h6 i v hv
 rw [List.getElem?_map] at hv
 cases hl:l[i]? with
 | none=>rw [hl] at hv; cases hv
 | some x =>
  rw [hl] at hv
  simp only [da,ce] at hv
  subst hv
  exact ⟨u,zBu nn (f x) u (hf x) q1,q2⟩
theorem zPn {α:Type} {f:α→V} {l:List α} {es nn:Nat} (hC:C.OK) (hss:SS E s I m a w) {fn:Nat} {args args':List V} {us:List Value} (hca:Zt s.H true args args') (hr:RepL m args I us) (hX:zHf C.P fn args' (fun z=>ovlz z 0 l) (fun z=>oblz z es f l)) (hf:∀ x,flat nn (f x)=true) :
  Calls C.P fn us.toArray w (fun e w' => ∃ u,e = .returned u∧∃ z I',Rep m (ovlz z s.H.length l) I' u∧SS E { s with H:=s.H++[oblz z es f l] } I' m a w'):=by
 have hm:=zMg (fl:=true) hss.sim
 have h1:=Qs hss.sim hca hr
 refine (hX.1 _ w us hm.2 h1).mono ?_
 rintro e w' ⟨z,u,m',I1,rfl,hx,h2,h3,h4,h5,h6⟩
 have hsame:∀ k,k<w.heap.size→w'.heap[k]? = w.heap[k]?:=fun k hk=>hx.block k hk
 have hsub:m.Le (wmem w'):=fun k o hk=>by
  have:=hss.sim.sub k o hk
  show w'.heap[k]? = some o
  rw [hsame k (Array.getElem?_eq_some_iff.1 this).1]; exact this
 have hro:SS E s I m a w':=hss.ro hx.stays hsame (fun _ _ h=>h) hsub (fun _ _ h=>.inl h)
 rcases zAm z 0 es f l with ⟨rfl,rfl⟩ | ⟨e1,e2⟩
 ·exact ⟨u,rfl,true,I,zBu 1 _ u rfl h6,hro.pad⟩
 ·have e3:ovlz z s.H.length l = .osl s.H.length 0 l.length:=by
   rcases zAm z s.H.length es f l with ⟨rfl,rfl⟩ | ⟨e3,_⟩
   ·cases e1
   ·exact e3
  simp only [e1] at h6
  simp only [e2] at h4 h5
  obtain ⟨g,g1,g2⟩:=h4.blk 0 (.rows es (l.map f)) rfl rfl
  have hge:=h5 g g1 rfl
  let I2:Ij:=fun id=>if id=s.H.length then some g else I id
  have hN:I s.H.length=none:=hss.sim.free _ (.inl (Qc.2 (dc _)))
  have hle:I.Le I2:=fun id g h=>by
   show (if id=s.H.length then _ else I id)=some g
   rw [cj (fun e=>by subst e; rw [hN] at h; cases h)]; exact h
  have hold:∀ id A,get s.H id=some A→A.live=true→∃ g,I2 id=some g∧I id=some g∧Jt I2 m w' g A∧g.b<w.heap.size:=by
   intro id A hA hl
   obtain ⟨g,q1,q2⟩:=hss.sim.blk id A hA hl
   have hlt:=q2.lt hl
   exact ⟨g,hle id g q1,q1,q2.mono (fun _ _ h=>h) hle (hx.block g.b hlt),hlt⟩
  have hoffg:m g.b=none:=by
   cases hm':m g.b with
   | none=>rfl
   | some o =>
    have:=(Array.getElem?_eq_some_iff.1 (hss.sim.sub _ _ hm')).1
    omega
  have hsim:Sim I2 m (s.H++[.rows es (l.map f)]) w':=by
   refine ⟨hsub,fun id A hA hl=>?_,fun id hid=>?_,fun id k ⟨A,hA,hl⟩ hg=>?_,fun i j k k' ⟨A,hA,hl⟩ ⟨A',hA',hl'⟩ hg hg' he=>?_⟩
   ·rw [Qb] at hA
    by_cases e:id=s.H.length
    ·subst e
     rw [ck rfl] at hA
     cases hA
     exact ⟨g,ck rfl,zRc hf g2⟩
    ·rw [cj e] at hA
     obtain ⟨k,q1,_,q2,_⟩:=hold id A hA hl
     exact ⟨k,q1,q2⟩
   ·rw [Qb] at hid
    by_cases e:id=s.H.length
    ·rw [ck e] at hid
     rcases hid with h | h <;> cases h
    ·rw [cj e] at hid
     show (if id=s.H.length then _ else I id)=none
     rw [cj e]; exact hss.sim.free id hid
   ·rw [Qb] at hA
    by_cases e:id=s.H.length
    ·subst e
     have:I2 s.H.length=some g:=ck rfl
     rw [this] at hg; cases hg; exact hoffg
    ·rw [cj e] at hA
     obtain ⟨k',q1,q2,_⟩:=hold id A hA hl
     rw [q1] at hg; cases hg
     exact hss.sim.off id k ⟨A,hA,hl⟩ q2
   ·rw [Qb] at hA hA'
    have hs:I2 s.H.length=some g:=ck rfl
    by_cases e:i=s.H.length
    ·subst e
     rw [hs] at hg; cases hg
     by_cases e':j=s.H.length
     ·exact e'.symm
     ·rw [cj e'] at hA'
      obtain ⟨k2,p1,_,_,p3⟩:=hold j A' hA' hl'
      rw [p1] at hg'; cases hg'
      omega
    ·rw [cj e] at hA
     obtain ⟨k1,q1,q2,_,q3⟩:=hold i A hA hl
     rw [q1] at hg; cases hg
     by_cases e':j=s.H.length
     ·subst e'
      rw [hs] at hg'; cases hg'
      omega
     ·rw [cj e'] at hA'
      obtain ⟨k2,p1,p2,_⟩:=hold j A' hA' hl'
      rw [p1] at hg'; cases hg'
      exact hss.sim.inj i j _ _ ⟨A,hA,hl⟩ ⟨A',hA',hl'⟩ q2 p2 he
  have hfx:Fx I s.H s.lo w I2 (s.H++[.rows es (l.map f)]) w':=by
   have hlo:s.lo≤s.H.length:=by rw [hss.lo]; exact Nat.le_trans hss.lole hss.fx.len
   refine ⟨hx.stays,fun k hk _=>hx.block k hk,hle,fun id k h1 ⟨A,hA,hl⟩ hg=>?_,fun id hid=>?_,by simp⟩
   ·rw [Qb] at hA
    by_cases e:id=s.H.length
    ·subst e
     have:I2 s.H.length=some g:=ck rfl
     rw [this] at hg; cases hg
     exact .inl hge
    ·rw [cj e] at hA
     have c1:I2 id=I id:=cj e
     exact .inr ⟨id,k,h1,⟨A,hA,hl⟩,by rw [← c1]; exact hg,rfl⟩
   ·rw [Qb,cj (by omega)]
  refine ⟨u,rfl,z,I2,?_,?_⟩
  ·rw [e3]
   unfold Rep at h6 ⊢
   obtain ⟨k,ad,q1,q2⟩:=h6
   rw [g1] at q1; cases q1
   exact ⟨g,ad,ck rfl,q2⟩
  ·rw [e2]
   exact hss.step hsim hfx (fun _ _ h=>h) (fun _ _ h=>.inl h)
end
theorem GS.ownF {C:Cfg} {N:Nat} {k:List It} {s:St} {Q:Ex→St→Prop} {all os:List Oper} {o:Oper} {α:Type} {f:α→V} {l:List α} {es fn nn:Nat} {args args':List V} (hw:wants all s.K o.guard=some true) (hc:callee s.K o.op=some (.fn fn args)) (hca:Zt s.H true args args') (hX:zHf C.P fn args' (fun z=>ovlz z 0 l) (fun z=>oblz z es f l)) (hf:∀ x,flat nn (f x)=true)
  (h:∀ z,GS C N (.ops all os :: k) (St.put { s with H:=s.H++[oblz z es f l] } o.dst (ovlz z s.H.length l)) Q):GS C N (.ops all (o :: os) :: k) s Q:=by
 intro hC E I m a w hE hs
 obtain ⟨h1,us,h2,h3⟩:=yK hs.slots hc
 refine zAN (Zb hs.slots hw) h1 ((h3 w).trans (hX.2 _ w)) ((zPn hC hs hca h2 hX hf).mono ?_)
 rintro e w' ⟨u,rfl,z,I',hr,hs'⟩
 exact ⟨u,rfl,h z hC E I' m _ w' hE (hs'.put hr)⟩
theorem zHp {m m':Mem} {I:Ij} (hm:m.Le m'):∀ {l:List V} {us:List Value},(∀ v∈l,shut 9 v=true)→RepL m l I us→RepL m' l Ij.none us
 | [],us,_,h=>by unfold RepL at *; exact h
 | v :: r,us,hs,h=>by
  unfold RepL at *
  obtain ⟨u,us',h1,h2,h3⟩:=h
  exact ⟨u,us',h1,Rep.mono hm v (Ij.Le.rfl' _) (qB 9 v u (hs v ct) h2),zHp hm (fun x hx=>hs x (cu _ hx)) h3⟩
theorem GS.zI2 {C:Cfg} {k:List It} {K:List (Nat×V)} {H:List Blk} {lo n d id:Nat} {rnd:Option Nat} {Q:Ex→St→Prop} {ks vs:List V} (hd:kget K d=some (.map id)) (hg:hget H id = .map ks vs) (hlo:lo≤id) (hsk:∀ v∈ks,shut 9 v=true) (hsv:∀ v∈vs,shut 9 v=true)
  (h:GS C 0 k ⟨(d,.fmap ks vs) :: K,hput H id .dead,lo,rnd,n⟩ Q):GS C 0 k ⟨K,H,lo,rnd,n⟩ Q:=by
 intro hC E I m a w hE hs
 have hb:Am.get H id=some (.map ks vs):=QN hg rfl
 have hid:id<H.length:=zAo hb
 obtain ⟨f,hf,es,cl,q1,es',p1,p2,p3,p4,p5,p6⟩:=hs.sim.blk id _ hb rfl
 have hoff:m f.b=none:=hs.sim.off id f ⟨_,hb,rfl⟩ hf
 have hle:m.Le (yO m w f.b):=by
  intro k o hk
  unfold yO
  split
  ·rename_i e; subst e; rw [hoff] at hk; cases hk
  ·exact hk
 have hself:yO m w f.b f.b=some (.map es.toArray cl):=by unfold yO; rw [ck rfl]; exact q1
 have hother:∀ k,k≠f.b→yO m w f.b k=m k:=fun k hk=>by unfold yO; rw [cj hk]
 have hH0:E.H0=[]:=List.eq_nil_of_length_eq_zero (Nat.le_zero.1 hE.len)
 have hnew:E.w0.heap.size≤f.b:=by
  rcases hs.fx.own id f (by rw [← hs.lo]; exact hlo) ⟨_,hb,rfl⟩ hf with h | ⟨i0,f0,_,⟨B,hB,_⟩,_⟩
  ·exact h
  ·rw [hH0] at hB; simp [Am.get] at hB
 have hlv:∀ j,Live (hput H id .dead) j→j≠id∧Live H j:=fun j hj=>by
  rcases Z8 (cx hid) hj with ⟨_,h⟩ | h
  ·cases h
  ·exact h
 have hsim:Sim I (yO m w f.b) (hput H id .dead) w:=by
  refine (hs.sim.kill hid).world hle (fun k o hk=>?_) (fun j g hj hg' => ⟨rfl,?_⟩)
  ·by_cases e:k=f.b
   ·subst e; rw [hself] at hk; rw [← hk]; exact q1
   ·rw [hother k e] at hk; exact hs.sim.sub k o hk
  ·obtain ⟨hne,hj2⟩:=hlv j hj
   rw [hother]
   ·exact hs.sim.off j g hj2 hg'
   ·intro e
    exact hne (hs.sim.inj j id g f hj2 ⟨_,hb,rfl⟩ hg' hf e)
 have hfx:Fx I H E.lo w I (hput H id .dead) w:=by
  refine ⟨JZ.rfl' w,fun _ _ _=>rfl,Ij.Le.rfl' _,fun j g h1 h2 h3=>.inr ⟨j,g,h1,(hlv j h2).2,h3,rfl⟩,fun j hj=>?_,by rw [Zy _ _ _ (cx hid)]; omega⟩
  rw [jD H id j _ (cx hid),cj (by have:=hs.lo; simp only at this; omega)]
 refine h hC E I (yO m w f.b) a w hE { sim:=hsim,slots := ?_,size:=hs.size,n:=hs.n,lo:=hs.lo,rnd:=hs.rnd,fx:=hs.fx.tr hfx,mem:=fun k o hk=>hle k o (hs.mem k o hk),fresh:=fun k o hk=>?_,lole:=hs.lole,dfr := ?_,rok:=hs.rok }
 ·intro t v hv
  simp only [kget] at hv
  by_cases e:d=t
  ·subst e
   simp only [Nat.beq_refl,cond_true,ce] at hv
   subst hv
   obtain ⟨u,h1,h2⟩:=hs.slots d (.map id) hd
   refine ⟨u,h1,?_⟩
   unfold Rep at h2 ⊢
   obtain ⟨f',g1,g2⟩:=h2
   rw [hf] at g1; cases g1
   exact ⟨f.b,es,es',cl,g2,hself,p1,p2,zHp hle hsk p3,zHp hle hsv p4,p5,p6⟩
  ·rw [zGn e] at hv
   obtain ⟨u,h1,h2⟩:=hs.slots t v hv
   exact ⟨u,h1,Rep.mono hle v (Ij.Le.rfl' _) h2⟩
 ·by_cases e:k=f.b
  ·subst e; exact .inr hnew
  ·rw [hother k e] at hk; exact hs.fresh k o hk
 ·obtain ⟨ds,h1,h2,h3,h4⟩:=hs.dfr
  refine ⟨ds,h1,h2,fun D hD=>?_,h4⟩
  obtain ⟨k1,k2,k3,k4⟩:=h3 D hD
  refine ⟨k1,k2,?_,fun j g hj hg' => k4 j g (hlv j hj).2 hg'⟩
  rw [hother D fun e=>k4 id f ⟨_,hb,rfl⟩ hf e.symm]; exact k3
namespace X
section
variable {C:Cfg} {N:Nat} {k:List It} {K:List (Nat×V)} {H:List Blk} {lo n d i:Nat} {rnd:Option Nat} {Q:Ex→St→Prop} {all os:List Oper} {p:Op} {ty:TypeId} {pos:String} {after:Array Edge} {g:Option (Nat×Bool)}
theorem ownF {α:Type} {f:α→V} {l:List α} {es fn nn:Nat} {args args':List V} (hX:zHf C.P fn args' (fun z=>ovlz z 0 l) (fun z=>oblz z es f l)) (hf:∀ x,flat nn (f x)=true) (hw:wants all K g=some true) (hc:callee K p=some (.fn fn args)) (hd:Nat.blt d n=true) (ha:Zt H true args args') (hi:H.length=i)
  (h:∀ z,GS C N (.ops all os :: k) ⟨(d,ovlz z i l) :: K,H++[oblz z es f l],lo,rnd,n⟩ Q):GS C N (.ops all (⟨some d,p,ty,pos,after,g⟩ :: os) :: k) ⟨K,H,lo,rnd,n⟩ Q:=by
 subst hi
 exact GS.ownF (s:=⟨K,H,lo,rnd,n⟩) hw hc ha hX hf (fun z=>front rfl hd (h z) rfl)
end
section
variable {C:Cfg} {K:List (Nat×V)} {H:List Blk} {lo nid:Nat}
theorem zJs {α β:Type} [DecidableEq α] {f:α→V} {g:β→V} {k:α} {l:List (α×β)} {z:β} {t:Nat} {kd:Kd} {Te:TI} {ok:Bool} {mo ko:Operand} (hq:∀ a b,zBJ (f a) (f b)=some (decide (a=b))) (hm:zGC C t=some (kd,Te)) (hkd:zDe C kd (f k)=true) (h1:kev K mo=some (.fmap (l.map fun p=>f p.1) (l.map fun p=>g p.2))) (h2:kev K ko=some (f k)) (hz:Te.zero=g z) :
  zZ C K H lo nid (.lookup t mo ko ok)=some ⟨_root_.cond ok (.tup [g ((za k l).getD z),.b (za k l).isSome]) (g ((za k l).getD z)),[],[]⟩:=by
 simp only [zZ,Yy,h1,h2,zFQ,hm,hkd,_root_.cond_true]
 exact lookB hq hz
theorem frMap {α β γ:Type} {f:α→V} {g:β→V} {pa:γ→α} {pb:γ→β} {l:List γ} {id:Nat} (nn:Nat) (hl:Nat.ble lo id=true) (hH:hget H id = .map (l.map fun p=>f (pa p)) (l.map fun p=>g (pb p))) (hf:∀ x,frz H lo nn (f x)=some (f x)) (hg:∀ x,frz H lo nn (g x)=some (g x)):FR H lo (.map id) (.fmap (l.map fun p=>f (pa p)) (l.map fun p=>g (pb p))):=by
 have hl' : ¬ id<lo:=by have:=cz hl; omega
 refine ⟨nn+1,?_⟩
 have e1:mapO (frz H lo nn) (l.map fun p=>f (pa p))=some (l.map fun p=>f (pa p)):=qb (f:=fun p=>f (pa p)) (fun p=>hf (pa p)) l
 have e2:mapO (frz H lo nn) (l.map fun p=>g (pb p))=some (l.map fun p=>g (pb p)):=qb (f:=fun p=>g (pb p)) (fun p=>hg (pb p)) l
 simp only [frz,hl',if_false,hH,e1,e2]
theorem zI2 {k:List It} {n:Nat} {rnd:Option Nat} {Q:Ex→St→Prop} {α β γ:Type} {f:α→V} {g:β→V} {pa:γ→α} {pb:γ→β} {l:List γ} {id:Nat} (d:Nat) (hd:kget K d=some (.map id)) (hg:hget H id = .map (l.map fun p=>f (pa p)) (l.map fun p=>g (pb p))) (hlo:Nat.ble lo id=true) (hf:∀ x,shut 9 (f x)=true) (hv:∀ x,shut 9 (g x)=true)
  (h:GS C 0 k ⟨(d,.fmap (l.map fun p=>f (pa p)) (l.map fun p=>g (pb p))) :: K,hput H id .dead,lo,rnd,n⟩ Q):GS C 0 k ⟨K,H,lo,rnd,n⟩ Q :=
 GS.zI2 hd hg (cz hlo) (fun v hv' => by obtain ⟨p,_,rfl⟩:=List.mem_map.1 hv'; exact hf _) (fun v hv' => by obtain ⟨p,_,rfl⟩:=List.mem_map.1 hv'; exact hv _) h
end
end X
end Go.Am
