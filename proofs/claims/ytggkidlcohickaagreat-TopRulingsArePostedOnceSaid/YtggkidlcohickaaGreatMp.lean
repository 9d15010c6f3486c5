/- Own results of calls over own slices; frozen maps. Conditions: none. -/
import Derived.Test.YtggkidlcohickaaGreatQu
set_option linter.unusedVariables false
set_option linter.unusedSimpArgs false
namespace Go.Am
open Go Go.Wk Go.RowKit Go.Mx
section
variable {C:Cfg} {E:Env} {s:St} {I:Ij} {m:Mem} {a:Act} {w:World}
theorem zOz {α:Type} {f:α→V} {l:List α} {es nn:Nat} {I1 I2:Ij} {m':Mem} {w':World} {g:Inf} (hf:∀ x,flat nn (f x)=true) (h:jb I1 m' w' g (.rows es (l.map f))):jb I2 m w' g (.rows es (l.map f)):=by
 obtain ⟨h0,c,ty,h1,h2,h3,h4,h5,h6⟩:=h
 refine ⟨h0,c,ty,h1,h2,h3,h4,h5,fun i v hv=>?_⟩
 obtain ⟨u,q1,q2⟩:=h6 i v hv
 rw [List.getElem?_map] at hv
 cases hl:l[i]? with
 | none=>rw [hl] at hv; cases hv
 | some x =>
  rw [hl] at hv
  simp only [Option.map_some,Option.some.injEq] at hv
  subst hv
  exact ⟨u,Yk nn (f x) u (hf x) q1,q2⟩
theorem zMr {α:Type} {f:α→V} {l:List α} {es nn:Nat} (hC:C.OK) (hss:SS E s I m a w) {fn:Nat} {args args':List V} {us:List Value} (hca:ZB s.H true args args') (hr:RepL m args I us) (hX:zBq C.P fn args' (fun z=>ovlz z 0 l) (fun z=>oblz z es f l)) (hf:∀ x,flat nn (f x)=true) :
  Calls C.P fn us.toArray w (fun e w' => ∃ u,e = .returned u∧∃ z I',Rep m (ovlz z s.H.length l) I' u∧SS E { s with H:=s.H++[oblz z es f l] } I' m a w'):=by
 have hm:=zG9 (fl:=true) hss.sim
 have h1:=J2 hss.sim hca hr
 refine (hX.1 _ w us hm.2 h1).mono ?_
 rintro e w' ⟨z,u,m',I1,rfl,hx,h2,h3,h4,h5,h6⟩
 have hsame:∀ k,k<w.heap.size→w'.heap[k]? = w.heap[k]?:=fun k hk=>hx.block k hk
 have hsub:m.Le (wmem w'):=fun k o hk=>by
  have:=hss.sim.sub k o hk
  show w'.heap[k]? = some o
  rw [hsame k (Array.getElem?_eq_some_iff.1 this).1]; exact this
 have hro:SS E s I m a w':=hss.ro hx.stays hsame (fun _ _ h=>h) hsub (fun _ _ h=>.inl h)
 rcases Ju z 0 es f l with ⟨rfl,rfl⟩ | ⟨e1,e2⟩
 ·exact ⟨u,rfl,true,I,Yk 1 _ u rfl h6,hro.pad⟩
 ·have e3:ovlz z s.H.length l = .osl s.H.length 0 l.length:=by
   rcases Ju z s.H.length es f l with ⟨rfl,rfl⟩ | ⟨e3,_⟩
   ·cases e1
   ·exact e3
  simp only [e1] at h6
  simp only [e2] at h4 h5
  obtain ⟨g,g1,g2⟩:=h4.blk 0 (.rows es (l.map f)) rfl rfl
  have hge:=h5 g g1 rfl
  let I2:Ij:=fun id=>if id=s.H.length then some g else I id
  have hN:I s.H.length=none:=hss.sim.free _ (.inl (ja.2 (Nat.le_refl _)))
  have hle:I.Le I2:=fun id g h=>by
   show (if id=s.H.length then _ else I id)=some g
   rw [if_neg (fun e=>by subst e; rw [hN] at h; cases h)]; exact h
  have hold:∀ id A,get s.H id=some A→A.live=true→∃ g,I2 id=some g∧I id=some g∧jb I2 m w' g A∧g.b<w.heap.size:=by
   intro id A hA hl
   obtain ⟨g,q1,q2⟩:=hss.sim.blk id A hA hl
   have hlt:=q2.lt hl
   exact ⟨g,hle id g q1,q1,q2.mono (fun _ _ h=>h) hle (hx.block g.b hlt),hlt⟩
  have hoffg:m g.b=none:=by
   cases hm':m g.b with
   | none=>rfl
   | some o =>
    have:=(Array.getElem?_eq_some_iff.1 (hss.sim.sub _ _ hm')).1
    omega
  have hsim:Sim I2 m (s.H++[.rows es (l.map f)]) w':=by
   refine ⟨hsub,fun id A hA hl=>?_,fun id hid=>?_,fun id k ⟨A,hA,hl⟩ hg=>?_,fun i j k k' ⟨A,hA,hl⟩ ⟨A',hA',hl'⟩ hg hg' he=>?_⟩
   ·rw [yV] at hA
    by_cases e:id=s.H.length
    ·subst e
     rw [if_pos rfl] at hA
     cases hA
     exact ⟨g,if_pos rfl,zOz hf g2⟩
    ·rw [if_neg e] at hA
     obtain ⟨k,q1,_,q2,_⟩:=hold id A hA hl
     exact ⟨k,q1,q2⟩
   ·rw [yV] at hid
    by_cases e:id=s.H.length
    ·rw [if_pos e] at hid
     rcases hid with h | h <;> cases h
    ·rw [if_neg e] at hid
     show (if id=s.H.length then _ else I id)=none
     rw [if_neg e]; exact hss.sim.free id hid
   ·rw [yV] at hA
    by_cases e:id=s.H.length
    ·subst e
     have:I2 s.H.length=some g:=if_pos rfl
     rw [this] at hg; cases hg; exact hoffg
    ·rw [if_neg e] at hA
     obtain ⟨k',q1,q2,_⟩:=hold id A hA hl
     rw [q1] at hg; cases hg
     exact hss.sim.off id k ⟨A,hA,hl⟩ q2
   ·rw [yV] at hA hA'
    have hs:I2 s.H.length=some g:=if_pos rfl
    by_cases e:i=s.H.length
    ·subst e
     rw [hs] at hg; cases hg
     by_cases e':j=s.H.length
     ·exact e'.symm
     ·rw [if_neg e'] at hA'
      obtain ⟨k2,p1,_,_,p3⟩:=hold j A' hA' hl'
      rw [p1] at hg'; cases hg'
      omega
    ·rw [if_neg e] at hA
     obtain ⟨k1,q1,q2,_,q3⟩:=hold i A hA hl
     rw [q1] at hg; cases hg
     by_cases e':j=s.H.length
     ·subst e'
      rw [hs] at hg'; cases hg'
      omega
     ·rw [if_neg e'] at hA'
      obtain ⟨k2,p1,p2,_⟩:=hold j A' hA' hl'
      rw [p1] at hg'; cases hg'
      exact hss.sim.inj i j _ _ ⟨A,hA,hl⟩ ⟨A',hA',hl'⟩ q2 p2 he
  have hfx:Fx I s.H s.lo w I2 (s.H++[.rows es (l.map f)]) w':=by
   have hlo:s.lo≤s.H.length:=by rw [hss.lo]; exact Nat.le_trans hss.lole hss.fx.len
   refine ⟨hx.stays,fun k hk _=>hx.block k hk,hle,fun id k h1 ⟨A,hA,hl⟩ hg=>?_,fun id hid=>?_,by simp⟩
   ·rw [yV] at hA
    by_cases e:id=s.H.length
    ·subst e
     have:I2 s.H.length=some g:=if_pos rfl
     rw [this] at hg; cases hg
     exact .inl hge
    ·rw [if_neg e] at hA
     have c1:I2 id=I id:=if_neg e
     exact .inr ⟨id,k,h1,⟨A,hA,hl⟩,by rw [← c1]; exact hg,rfl⟩
   ·rw [yV,if_neg (by omega)]
  refine ⟨u,rfl,z,I2,?_,?_⟩
  ·rw [e3]
   unfold Rep at h6 ⊢
   obtain ⟨k,ad,q1,q2⟩:=h6
   rw [g1] at q1; cases q1
   exact ⟨g,ad,if_pos rfl,q2⟩
  ·rw [e2]
   exact hss.step hsim hfx (fun _ _ h=>h) (fun _ _ h=>.inl h)
end
theorem GS.ownF {C:Cfg} {N:Nat} {k:List It} {s:St} {Q:Ex→St→Prop} {all os:List Oper} {o:Oper} {α:Type} {f:α→V} {l:List α} {es fn nn:Nat} {args args':List V} (hw:wants all s.K o.guard=some true) (hc:callee s.K o.op=some (.fn fn args)) (hca:ZB s.H true args args') (hX:zBq C.P fn args' (fun z=>ovlz z 0 l) (fun z=>oblz z es f l)) (hf:∀ x,flat nn (f x)=true)
  (h:∀ z,GS C N (.ops all os :: k) (St.put { s with H:=s.H++[oblz z es f l] } o.dst (ovlz z s.H.length l)) Q):GS C N (.ops all (o :: os) :: k) s Q:=by
 intro hC E I m a w hE hs
 obtain ⟨h1,us,h2,h3⟩:=Z9 hs.slots hc
 refine Jl (zb hs.slots hw) h1 ((h3 w).trans (hX.2 _ w)) ((zMr hC hs hca h2 hX hf).mono ?_)
 rintro e w' ⟨u,rfl,z,I',hr,hs'⟩
 exact ⟨u,rfl,h z hC E I' m _ w' hE (hs'.put hr)⟩
namespace X
section
variable {C:Cfg} {N:Nat} {k:List It} {K:List (Nat×V)} {H:List Blk} {lo n d i:Nat} {rnd:Option Nat} {Q:Ex→St→Prop} {all os:List Oper} {p:Op} {ty:TypeId} {pos:String} {after:Array Edge} {g:Option (Nat×Bool)}
theorem ownF {α:Type} {f:α→V} {l:List α} {es fn nn:Nat} {args args':List V} (hX:zBq C.P fn args' (fun z=>ovlz z 0 l) (fun z=>oblz z es f l)) (hf:∀ x,flat nn (f x)=true) (hw:wants all K g=some true) (hc:callee K p=some (.fn fn args)) (hd:Nat.blt d n=true) (ha:ZB H true args args') (hi:H.length=i)
  (h:∀ z,GS C N (.ops all os :: k) ⟨(d,ovlz z i l) :: K,H++[oblz z es f l],lo,rnd,n⟩ Q):GS C N (.ops all (⟨some d,p,ty,pos,after,g⟩ :: os) :: k) ⟨K,H,lo,rnd,n⟩ Q:=by
 subst hi
 exact GS.ownF (s:=⟨K,H,lo,rnd,n⟩) hw hc ha hX hf (fun z=>front rfl hd (h z) rfl)
end
section
variable {C:Cfg} {K:List (Nat×V)} {H:List Blk} {lo nid:Nat}
theorem zN9 {α β:Type} [DecidableEq α] {f:α→V} {g:β→V} {k:α} {l:List (α×β)} {z:β} {t:Nat} {kd:Kd} {Te:TI} {ok:Bool} {mo ko:Operand} (hq:∀ a b,QC (f a) (f b)=some (decide (a=b))) (hm:zBk C t=some (kd,Te)) (hkd:Q4 C kd (f k)=true) (h1:kev K mo=some (.fmap (l.map fun p=>f p.1) (l.map fun p=>g p.2))) (h2:kev K ko=some (f k)) (hz:Te.zero=g z) :
  zM C K H lo nid (.lookup t mo ko ok)=some ⟨_root_.cond ok (.tup [g ((zO k l).getD z),.b (zO k l).isSome]) (g ((zO k l).getD z)),[],[]⟩:=by
 simp only [zM,yg,h1,h2,zCK,hm,hkd,_root_.cond_true]
 exact lookB hq hz
end
end X
end Go.Am
