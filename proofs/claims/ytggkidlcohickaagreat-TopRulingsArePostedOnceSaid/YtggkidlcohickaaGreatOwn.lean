/- Calls that hand back a slice of the caller's own; the library's sort on a slice of the call's own. Conditions: none. -/
import Derived.Test.YtggkidlcohickaaGreatNl
import Derived.Sort.Grow
import Derived.Shelf.GgSortFunc.InsertionK
set_option linter.unusedVariables false
set_option linter.unusedSimpArgs false
namespace Go.Am
open Go Go.Wk Go.RowKit Go.Mx
def OwnOK (P:Program) (f:Nat) (args:List V) (v:Bool→V) (B:Bool→Blk):Prop :=
  ∀ (m:Mem) (w:World) (us:List Value),m.Le (wmem w)→RepL m args Ij.none us→Calls P f us.toArray w (fun e w' => ∃ (z:Bool) (u:Value) (m':Mem) (I':Ij),e = .returned u∧Xt w w'∧m.Le m'∧(∀ k o,m' k=some o→m k=some o∨w.heap.size≤k)∧Sim I' m' [B z] w'∧(∀ g,I' 0=some g→(B z).live=true→w.heap.size≤g.b)∧Rep m' (v z) I' u)
def zBq (P:Program) (f:Nat) (args:List V) (v:Bool→V) (B:Bool→Blk):Prop:=OwnOK P f args v B∧∀ (args:Array Value) (w:World),(callFunc f args).run P w = .ok (.enter f args) w
theorem zE7 {C:Cfg} (hC:C.OK) {f:Nat} {args:List V} {v:Bool→V} {B:Bool→Blk} {c:Code} {fn:Func} (hb:jM C f args.length=some (c,fn)) (h:GS C 0 [.code c] (St.call fn args [] 0) (fun e s => ∃ z,finA C fn e s=some (v z)∧s.H=[B z])):zBq C.P f args v B:=by
  refine ⟨fun m w us hm hr=>?_,(jE hC hb).2.2.2⟩
  have h2:=YG (H':=[]) (lo':=0) (w:=w) hC hb rfl (GS.start (s:=St.call fn args [] 0) h hC) (fun e s1 ⟨z,h,_⟩=>⟨_,h⟩) (Sim.nil _ w hm) (Nat.zero_le _) hr
  refine h2.mono ?_
  rintro e w' ⟨u,rfl,ex,s1,v1,I1,m1,⟨z,q1,q2⟩,h3,h4,h5,h6,h7,h8,h9⟩
  rw [h3] at q1
  cases q1
  have hnl:∀ id,¬ Live ([]:List Blk) id:=fun id ⟨B,hB,_⟩=>by simp [Am.get] at hB
  rw [q2] at h5 h6
  refine ⟨z,u,m1,I1,rfl,⟨⟨h6.st.os,h6.st.tape,h6.st.output,h6.st.size,fun k hk=>h6.same k hk fun id f h hl=>absurd hl (hnl id)⟩,h6.st.drawn⟩,h7,h8,h5,fun g hg hl=>?_,h4⟩
  rcases h6.own 0 g (Nat.zero_le _) ⟨B z,rfl,hl⟩ hg with h | ⟨i0,f0,_,h,_⟩
  · exact h
  · exact absurd h (hnl i0)
section
variable {C:Cfg} {E:Env} {s:St} {I:Ij} {m:Mem} {a:Act} {w:World}
theorem yV (H:List Blk) (B:Blk) (id:Nat):get (H++[B]) id=if id=H.length then some B else get H id:=by
  rw [zP,zP]
  by_cases h:id=H.length
  · subst h; simp
  · rw [if_neg h]
    by_cases h2:id<H.length
    · rw [List.getElem?_append_left h2]
    · rw [List.getElem?_eq_none (by simp; omega),List.getElem?_eq_none (by omega)]
theorem zNn (hC:C.OK) (hss:SS E s I m a w) {f:Nat} {args args':List V} {us:List Value} {v v':Bool→V} {B:Bool→Blk} (hca:ZB s.H false args args') (hr:RepL m args I us) (hX:zBq C.P f args' v B)
    (hv:∀ z,∃ n,rn 0 (List.replicate s.H.length none++[some 0]) n (v' z)=some (v z)) (hB:∀ z,∃ n,rnB 0 (List.replicate s.H.length none++[some 0]) n (B z)=some (B z)) :
    Calls C.P f us.toArray w (fun e w' => ∃ u,e = .returned u∧∃ z I' m',Rep m' (v' z) I' u∧SS E { s with H:=s.H++[B z] } I' m' a w'):=by
  have hm:=zG9 (fl:=false) hss.sim
  have h1:=J2 hss.sim hca hr
  refine (hX.1 _ w us hm.2 h1).mono ?_
  rintro e w' ⟨z,u,m',I1,rfl,hx,h2,h3,h4,h5,h6⟩
  have h3':∀ k o,m' k=some o→m k=some o∨w.heap.size≤k:=h3
  have h2':m.Le m':=h2
  let I2:Ij:=fun id=>if id=s.H.length then I1 0 else I id
  have hN:I s.H.length=none:=hss.sim.free _ (.inl (ja.2 (Nat.le_refl _)))
  have hle:I.Le I2:=fun id g h=>by
    show (if id=s.H.length then I1 0 else I id)=some g
    rw [if_neg (fun e=>by subst e; rw [hN] at h; cases h)]; exact h
  have hrx:∀ id j,rx 0 (List.replicate s.H.length none++[some 0]) id=some j→I2 id=I1 j:=by
    intro id j h
    have hg:=qR h (Nat.not_lt_zero _)
    rw [Nat.sub_zero,zP] at hg
    by_cases e:id=s.H.length
    · subst e
      rw [List.getElem?_append_right (by simp)] at hg
      simp only [List.length_replicate,Nat.sub_self,List.getElem?_cons_zero,Option.some.injEq] at hg
      subst hg
      exact if_pos rfl
    · by_cases e2 : id < s.H.length
      · rw [List.getElem?_append_left (by simpa using e2),List.getElem?_replicate,if_pos e2] at hg; cases hg
      · rw [List.getElem?_eq_none (by simp; omega)] at hg; cases hg
  have hold:∀ id A,get s.H id=some A→A.live=true→∃ g,I2 id=some g∧jb I2 m' w' g A∧g.b<w.heap.size:=by
    intro id A hA hl
    obtain ⟨g,q1,q2⟩:=hss.sim.blk id A hA hl
    have hlt:=q2.lt hl
    exact ⟨g,hle id g q1,q2.mono h2' hle (hx.block g.b hlt),hlt⟩
  have hnew:(B z).live=true→∃ g,I2 s.H.length=some g∧jb I2 m' w' g (B z)∧w.heap.size≤g.b∧m' g.b=none:=by
    intro hl
    obtain ⟨g,q1,q2⟩:=h4.blk 0 (B z) rfl hl
    obtain ⟨n,hn⟩:=hB z
    exact ⟨g,(if_pos rfl).trans q1,(zOy hrx hn q2).1,h5 g q1 hl,h4.off 0 g ⟨_,rfl,hl⟩ q1⟩
  have hsim:Sim I2 m' (s.H++[B z]) w':=by
    refine ⟨h4.sub,fun id A hA hl=>?_,fun id hid=>?_,fun id g ⟨A,hA,hl⟩ hg=>?_,fun i j g g' ⟨A,hA,hl⟩ ⟨A',hA',hl'⟩ hg hg' he=>?_⟩
    · rw [yV] at hA
      by_cases e:id=s.H.length
      · subst e
        rw [if_pos rfl] at hA
        cases hA
        obtain ⟨g,q1,q2,_⟩:=hnew hl
        exact ⟨g,q1,q2⟩
      · rw [if_neg e] at hA
        obtain ⟨g,q1,q2,_⟩:=hold id A hA hl
        exact ⟨g,q1,q2⟩
    · rw [yV] at hid
      by_cases e:id=s.H.length
      · rw [if_pos e] at hid
        show (if id=s.H.length then I1 0 else I id)=none
        rw [if_pos e]
        rcases hid with h | h
        · cases h
        · simp only [Option.some.injEq] at h
          exact h4.free 0 (.inr (by rw [← h]; rfl))
      · rw [if_neg e] at hid
        show (if id=s.H.length then I1 0 else I id)=none
        rw [if_neg e]; exact hss.sim.free id hid
    · rw [yV] at hA
      by_cases e:id=s.H.length
      · subst e
        rw [if_pos rfl] at hA
        cases hA
        obtain ⟨g',q1,_,_,q4⟩:=hnew hl
        rw [q1] at hg; cases hg; exact q4
      · rw [if_neg e] at hA
        obtain ⟨g',q1,_,q3⟩:=hold id A hA hl
        rw [q1] at hg; cases hg
        have hI:I id=some g:=by
          have:I2 id=I id:=if_neg e
          rw [← this]; exact q1
        have hoff:=hss.sim.off id g ⟨A,hA,hl⟩ hI
        cases hm':m' g.b with
        | none=>rfl
        | some o =>
          rcases h3' _ _ hm' with h | h
          · rw [hoff] at h; cases h
          · omega
    · rw [yV] at hA hA'
      by_cases e:i=s.H.length
      · subst e
        rw [if_pos rfl] at hA
        cases hA
        obtain ⟨k,q1,_,q3,_⟩:=hnew hl
        rw [q1] at hg; cases hg
        by_cases e':j=s.H.length
        · exact e'.symm
        · rw [if_neg e'] at hA'
          obtain ⟨k',p1,_,p3⟩:=hold j A' hA' hl'
          rw [p1] at hg'; cases hg'
          omega
      · rw [if_neg e] at hA
        obtain ⟨k,q1,_,q3⟩:=hold i A hA hl
        rw [q1] at hg; cases hg
        by_cases e':j=s.H.length
        · subst e'
          rw [if_pos rfl] at hA'
          cases hA'
          obtain ⟨k',p1,_,p3,_⟩:=hnew hl'
          rw [p1] at hg'; cases hg'
          omega
        · rw [if_neg e'] at hA'
          obtain ⟨k',p1,_,p3⟩:=hold j A' hA' hl'
          rw [p1] at hg'; cases hg'
          have c1:I2 i=I i:=if_neg e
          have c2:I2 j=I j:=if_neg e'
          exact hss.sim.inj i j _ _ ⟨A,hA,hl⟩ ⟨A',hA',hl'⟩ (by rw [← c1]; exact q1) (by rw [← c2]; exact p1) he
  have hlo:s.lo≤s.H.length:=by rw [hss.lo]; exact Nat.le_trans hss.lole hss.fx.len
  have hfx:Fx I s.H s.lo w I2 (s.H++[B z]) w':=by
    refine ⟨hx.stays,fun k hk _=>hx.block k hk,hle,fun id g h1 ⟨A,hA,hl⟩ hg=>?_,fun id hid=>?_,by simp⟩
    · rw [yV] at hA
      by_cases e:id=s.H.length
      · subst e
        rw [if_pos rfl] at hA
        cases hA
        obtain ⟨g',q1,_,q3,_⟩:=hnew hl
        rw [q1] at hg; cases hg
        exact .inl q3
      · rw [if_neg e] at hA
        have c1:I2 id=I id:=if_neg e
        exact .inr ⟨id,g,h1,⟨A,hA,hl⟩,by rw [← c1]; exact hg,rfl⟩
    · rw [yV,if_neg (by omega)]
  obtain ⟨n,hn⟩:=hv z
  exact ⟨u,rfl,z,I2,m',zAq hrx n _ _ u hn h6,hss.step hsim hfx h2' h3'⟩
end
theorem GS.own {C:Cfg} {N:Nat} {k:List It} {s:St} {Q:Ex→St→Prop} {all os:List Oper} {o:Oper} {f:Nat} {args args':List V} {v v':Bool→V} {B:Bool→Blk} (hw:wants all s.K o.guard=some true) (hc:callee s.K o.op=some (.fn f args)) (hca:ZB s.H false args args') (hX:zBq C.P f args' v B)
    (hv:∀ z,∃ n,rn 0 (List.replicate s.H.length none++[some 0]) n (v' z)=some (v z)) (hB:∀ z,∃ n,rnB 0 (List.replicate s.H.length none++[some 0]) n (B z)=some (B z)) (h:∀ z,GS C N (.ops all os :: k) (St.put { s with H:=s.H++[B z] } o.dst (v' z)) Q):GS C N (.ops all (o :: os) :: k) s Q:=by
  intro hC E I m a w hE hs
  obtain ⟨h1,us,h2,h3⟩:=Z9 hs.slots hc
  refine Jl (zb hs.slots hw) h1 ((h3 w).trans (hX.2 _ w)) ((zNn hC hs hca h2 hX hv hB).mono ?_)
  rintro e w' ⟨u,rfl,z,I',m',hr,hs'⟩
  exact ⟨u,rfl,h z hC E I' m' _ w' hE (hs'.put hr)⟩
namespace X
section
variable {C:Cfg} {N:Nat} {k:List It} {K:List (Nat×V)} {H:List Blk} {lo n d i:Nat} {rnd:Option Nat} {Q:Ex→St→Prop} {all os:List Oper} {p:Op} {ty:TypeId} {pos:String} {after:Array Edge} {g:Option (Nat×Bool)}
theorem own {f:Nat} {args args':List V} {v:Bool→V} {B:Bool→Blk} (hX:zBq C.P f args' v B) (v':Bool→V) (hw:wants all K g=some true) (hc:callee K p=some (.fn f args)) (hd:Nat.blt d n=true) (ha:ZB H false args args') (hi:H.length=i) (hv:∀ z,∃ n,rn 0 (List.replicate i none++[some 0]) n (v' z)=some (v z)) (hB:∀ z,∃ n,rnB 0 (List.replicate i none++[some 0]) n (B z)=some (B z))
    (h:∀ z,GS C N (.ops all os :: k) ⟨(d,v' z) :: K,H++[B z],lo,rnd,n⟩ Q):GS C N (.ops all (⟨some d,p,ty,pos,after,g⟩ :: os) :: k) ⟨K,H,lo,rnd,n⟩ Q:=by
  subst hi
  exact GS.own (s:=⟨K,H,lo,rnd,n⟩) hw hc ha hX hv hB (fun z=>front rfl hd (h z) rfl)
theorem yO {α:Type} {keep:List (Option Nat)} {z:Bool} {id j:Nat} {l:List α} (h:rx 0 keep id=some j):rn 0 keep 1 (ovlz z id l)=some (ovlz z j l):=by
  rcases Ju z id 0 (fun _:α=>jA) l with ⟨rfl,rfl⟩ | ⟨e1,_⟩
  · rfl
  · rw [e1]
    have e2:ovlz z j l = .osl j 0 l.length:=by
      rcases Ju z id 0 (fun _:α=>jA) l with ⟨rfl,rfl⟩ | _
      · simp [ovlz] at e1
      · cases z <;> cases l <;> simp [ovlz] at e1 ⊢
    rw [e2]
    simp only [rn,h,Option.map_some]
theorem zLZ {α:Type} {keep:List (Option Nat)} {z:Bool} {es:Nat} {f:α→V} {l:List α} (n:Nat) (h:∀ x,rn 0 keep n (f x)=some (f x)):rnB 0 keep n (oblz z es f l)=some (oblz z es f l):=by
  have h2:rnB 0 keep n (.rows es (l.map f))=some (.rows es (l.map f)):=by
    simp only [rnB,JV h l,Option.map_some]
  cases z <;> cases l <;> first | exact h2 | rfl
end
end X
def srt (l:List Int):List Int:=l.mergeSort fun x y=>decide (x≤y)
theorem zIL (l:List Int):(srt l).length=l.length:=List.length_mergeSort l
def zO5 (P:Program) (F:Nat):Prop := ∀ (blk off cap:Nat) (zs:List Int) (w:World),Sort.Holds (Value.int .i64) w blk off zs.toArray→blk<w.heap.size→zs.length<4611686018427387904 →
  Calls P F #[.slice (some ⟨blk,off,none⟩) zs.length cap] w fun e w' => e = .returned (.tuple #[])∧∃ n os,w'=Sort.grow (Sort.putRow (Value.int .i64) (Sort.ahead w n) blk off (srt zs).toArray) os
section
variable {I:Ij} {m:Mem} {H:List Blk} {w:World}
theorem zJQ {α:Type} [Inhabited α] {enc:α→Value} {blk off n:Nat} {d:Array α} {os:Array Obj} {c:Array Value} {ty:TypeId} {fz:Nat×Nat} (h:w.heap[blk]? = some (.cells c ty fz)) :
    (Sort.putRow enc (Sort.ahead w n) blk off d).heap[blk]? = some (.cells (Sort.putCells enc off d c) ty fz)∧∀ k,k≠blk→(Sort.putRow enc (Sort.ahead w n) blk off d).heap[k]? = w.heap[k]?:=by
  constructor
  · simp only [Sort.putRow, Sort.mapBlock, Sort.heap_ahead, Array.getElem?_modify, if_true, h, Option.map_some]
    rfl
  · intro k hk
    have hk' : ¬ blk=k:=fun e=>hk e.symm
    simp only [Sort.putRow,Sort.mapBlock,Sort.heap_ahead,Array.getElem?_modify,if_neg hk']
theorem zOR {os:Array Obj}:Xt w (Sort.grow w os):=⟨⟨rfl,rfl,rfl,by simp,fun k hk=>by
  show (w.heap++os)[k]? = _
  rw [Array.getElem?_append_left hk]⟩,Nat.le_refl _⟩
theorem zLX {α:Type} [Inhabited α] {enc:α→Value} {id n es lo off:Nat} {l l':List V} {d:Array α} {os:Array Obj} {f:Inf} (hs:Sim I m H w) (hb:get H id=some (.rows es l)) (hlo:lo≤id) (hf:I id=some f) (hl:l'.length=l.length) {c:Array Value} {ty:TypeId} (hc:w.heap[f.b]? = some (.cells c ty (0,0)))
    (hrow:RowsIn m I (Sort.putCells enc off d c) f.o es l') :
    Sim I m (hput H id (.rows es l')) (Sort.grow (Sort.putRow enc (Sort.ahead w n) f.b off d) os)∧Fx I H lo w I (hput H id (.rows es l')) (Sort.grow (Sort.putRow enc (Sort.ahead w n) f.b off d) os):=by
  obtain ⟨f',hf',h0,c',ty',q1,q2,q3,q4,q5,q6⟩:=hs.blk id _ hb rfl
  rw [hf] at hf'; cases hf'
  rw [hc] at q1; cases q1
  obtain ⟨e1,e2⟩:=zJQ (enc:=enc) (n:=n) (off:=off) (d:=d) (os:=os) hc
  have hB:jb I m (Sort.putRow enc (Sort.ahead w n) f.b off d) f (.rows es l'):=⟨h0,_,_,e1,by simp [Sort.putCells]; exact q2,by omega,q4,q5,hrow⟩
  obtain ⟨s1,s2⟩:=hs.upd (lo:=lo) (w':=Sort.putRow enc (Sort.ahead w n) f.b off d) ⟨_,hb,rfl⟩ hlo hf ⟨⟨rfl,rfl,rfl,by simp⟩,Nat.le_add_right _ _⟩ e2 hB (by intro h; cases h)
  have hx:=zOR (w:=Sort.putRow enc (Sort.ahead w n) f.b off d) (os:=os)
  refine ⟨s1.ext hx,s2.tr ⟨hx.stays,fun k hk _=>hx.block k hk,Ij.Le.rfl' _,fun id g h1 h2 h3=>.inr ⟨id,g,h1,h2,h3,rfl⟩,fun _ _=>rfl,Nat.le_refl _⟩⟩
end
theorem GS.sortInt {C:Cfg} {N:Nat} {k:List It} {s:St} {Q:Ex→St→Prop} {all os:List Oper} {o:Oper} {F id:Nat} {l:List Int} (hS:zO5 C.P F) (hen:∀ (args:Array Value) (w:World),(callFunc F args).run C.P w = .ok (.enter F args) w) (hw:wants all s.K o.guard=some true) (hc:callee s.K o.op=some (.fn F [.osl id 0 l.length])) (hg:hget s.H id = .rows 1 (l.map V.i)) (hlo:s.lo≤id) (hne:l≠[]) (hlen:l.length<4611686018427387904)
    (h:GS C N (.ops all os :: k) (St.put { s with H:=hput s.H id (.rows 1 ((srt l).map V.i)) } o.dst jA) Q):GS C N (.ops all (o :: os) :: k) s Q:=by
  intro hC E I m a w hE hs
  obtain ⟨h1,us,h2,h3⟩:=Z9 hs.slots hc
  have hb:=JN hg rfl
  obtain ⟨f,hf,h0,c,ty,q1,q2,q3,q4,q5,q6⟩:=hs.sim.blk id _ hb rfl
  unfold RepL at h2
  obtain ⟨u,us',rfl,hu,hus⟩:=h2
  unfold RepL at hus
  subst hus
  unfold Rep at hu
  obtain ⟨f',ad,hf',rfl,g1,g2,g3⟩:=hu
  rw [hf] at hf'; cases hf'
  have hpos:0<l.length:=List.length_pos_iff.2 hne
  have had:=g2 (by omega)
  simp only [Nat.zero_mul,Nat.add_zero,Nat.sub_zero] at had
  subst had
  have hcell:∀ j (hj:j<l.length),c[f.o+j]? = some (.int .i64 l[j]):=by
    intro j hj
    obtain ⟨u,r1,r2,r3⟩:=q6 j (.i l[j]) (by simp [hj])
    have:=r1.lit
    subst this
    have:=(r3 0 (.int .i64 l[j]) rfl).2
    simpa using this
  have hH:Sort.Holds (Value.int .i64) w f.b f.o l.toArray:=by
    intro j hj
    have hj':j<l.length:=by simpa using hj
    refine ⟨?_,?_⟩
    · unfold World.cell?
      simp only [q1,Option.isSome_none,Bool.false_eq_true,if_false,hcell j hj']
      simp [hj']
    · unfold World.frozen?
      simp [q1]
  refine Jl (zb hs.slots hw) h1 ((h3 w).trans (hen _ w)) ((hS f.b f.o (f.cap - 0) l w hH (Array.getElem?_eq_some_iff.1 q1).1 hlen).mono ?_)
  rintro e w' ⟨rfl,n,os',rfl⟩
  have hrow:RowsIn m I (Sort.putCells (Value.int .i64) f.o (srt l).toArray c) f.o 1 ((srt l).map V.i):=by
    intro i v hv
    rw [List.getElem?_map,Option.map_eq_some_iff] at hv
    obtain ⟨x,hx,rfl⟩:=hv
    have hi:=(List.getElem?_eq_some_iff.1 hx).1
    have hil:i<l.length:=by rw [← zIL]; exact hi
    refine ⟨.int .i64 x,Rep.int,rfl,fun j y hj=>?_⟩
    have hj0:j=0∧y = .int .i64 x:=by
      cases j with
      | zero=>exact ⟨rfl,by simpa [Value.cells] using hj.symm⟩
      | succ j=>simp [Value.cells] at hj
    obtain ⟨rfl,rfl⟩:=hj0
    refine ⟨rfl,?_⟩
    have hcs:f.o+i<c.size:=(Array.getElem?_eq_some_iff.1 (hcell i hil)).1
    simp only [Sort.putCells,Nat.mul_one,Nat.add_zero,Array.getElem?_mapIdx,Array.getElem?_eq_getElem hcs,Option.map_some]
    rw [if_pos ⟨by omega,by simp; omega⟩,show f.o+i - f.o=i by omega]
    have:=(List.getElem?_eq_some_iff.1 hx).2
    simp [hi,this]
  obtain ⟨s1,s2⟩:=zLX (enc:=Value.int .i64) (n:=n) (os:=os') (lo:=s.lo) hs.sim hb hlo hf (by simp [zIL]) q1 hrow
  exact ⟨.tuple #[],rfl,h hC E I m _ _ hE ((hs.step s1 s2 (fun _ _ h=>h) (fun _ _ h=>.inl h)).put Rep.undef)⟩
def SortK {α:Type} [Inhabited α] (P:Program) (F g k:Nat) (enc:α→List Value) (sf:List α→List α):Prop := ∀ (blk off cap:Nat) (d:List α) (w:World),Sort.HoldsK enc k w blk off d.toArray→blk<w.heap.size→d.length<4611686018427387904 →
  Calls P F #[.slice (some ⟨blk,off,none⟩) d.length cap,fnv g []] w fun e w' => e = .returned (.tuple #[])∧∃ n os,w'=Go.Proofs.sortWorldK enc k w blk off n (sf d).toArray os
theorem GS.sortK {α:Type} [Inhabited α] {C:Cfg} {N:Nat} {k:List It} {s:St} {Q:Ex→St→Prop} {all os:List Oper} {o:Oper} {F g id ks:Nat} {enc:α→List Value} {fe:α→V} {sf:List α→List α} {l:List α} (hS:SortK C.P F g ks enc sf) (hen:∀ (args:Array Value) (w:World),(callFunc F args).run C.P w = .ok (.enter F args) w) (hperm:(sf l).Perm l) (hk:∀ x,(enc x).length=ks) (hks:0<ks) (h1c:∀ x,∀ v∈enc x,v.oneCell'=true) (hfe:∀ x,fe x = .agg ((enc x).map .lit))
    (hna:∀ x,∀ v∈enc x,∀ c,v≠.agg c)
    (hw:wants all s.K o.guard=some true) (hc:callee s.K o.op=some (.fn F [.osl id 0 l.length,.fn g []])) (hg:hget s.H id = .rows ks (l.map fe)) (hlo:s.lo≤id) (hne:l≠[]) (hlen:l.length<4611686018427387904)
    (h:GS C N (.ops all os :: k) (St.put { s with H:=hput s.H id (.rows ks ((sf l).map fe)) } o.dst jA) Q):GS C N (.ops all (o :: os) :: k) s Q:=by
  intro hC E I m a w hE hs
  obtain ⟨h1,us,h2,h3⟩:=Z9 hs.slots hc
  have hb:=JN hg rfl
  obtain ⟨f,hf,h0,c,ty,q1,q2,q3,q4,q5,q6⟩:=hs.sim.blk id _ hb rfl
  unfold RepL at h2
  obtain ⟨u,us',rfl,hu,hus⟩:=h2
  unfold RepL at hus
  obtain ⟨u2,us2,rfl,hu2,hus⟩:=hus
  unfold RepL at hus
  subst hus
  unfold Rep at hu hu2
  obtain ⟨f',ad,hf',rfl,g1,g2,g3⟩:=hu
  obtain ⟨us3,rfl,hus3⟩:=hu2
  unfold RepL at hus3
  subst hus3
  rw [hf] at hf'; cases hf'
  have hpos:0<l.length:=List.length_pos_iff.2 hne
  have had:=g2 (by omega)
  simp only [Nat.zero_mul,Nat.add_zero,Nat.sub_zero] at had
  subst had
  have rep:∀ x u,Rep m (fe x) I u→u = .agg (enc x).toArray:=by
    intro x u hr
    rw [hfe] at hr
    unfold Rep at hr
    obtain ⟨vs,rfl,_,hr⟩:=hr
    congr 2
    have:∀ (l:List Value) (vs:List Value),RepL m (l.map .lit) I vs→vs=l:=by
      intro l
      induction l with
      | nil=>intro vs h; unfold RepL at h; exact h
      | cons y r ih =>
        intro vs h
        rw [List.map_cons] at h
        unfold RepL at h
        obtain ⟨u,us',rfl,h1,h2⟩:=h
        rw [ih _ h2,h1.lit]
    exact this _ _ hr
  have mk:∀ x,Rep m (fe x) I (.agg (enc x).toArray):=by
    intro x
    rw [hfe]
    unfold Rep
    refine ⟨enc x,rfl,h1c x,?_⟩
    have:∀ (l:List Value),(∀ v∈l,∀ c,v≠.agg c)→RepL m (l.map .lit) I l:=by
      intro l
      induction l with
      | nil=>intro _; unfold RepL; rfl
      | cons y r ih =>
        intro h
        rw [List.map_cons]
        unfold RepL
        refine ⟨y,r,rfl,?_,ih fun v hv=>h v (List.mem_cons_of_mem _ hv)⟩
        unfold Rep
        exact ⟨rfl,h y List.mem_cons_self⟩
    exact this _ (hna x)
  have hcell:∀ j (hj:j<l.length) i v,(enc l[j])[i]? = some v→c[f.o+j*ks+i]? = some v:=by
    intro j hj i v hv
    obtain ⟨u,r1,r2,r3⟩:=q6 j (fe l[j]) (by simp [hj])
    have:=rep _ _ r1
    subst this
    exact (r3 i v (by simpa [Value.cells] using hv)).2
  have hflat:∀ (d:List α) t,t<d.length*ks→t / ks<d.length∧t % ks<ks∧∃ x,d[t / ks]? = some x∧(Sort.flatK enc ks d.toArray)[t]! = (enc x)[t % ks]!:=by
    intro d t ht
    have hdiv:t / ks<d.length:=Nat.div_lt_of_lt_mul (by rwa [Nat.mul_comm] at ht)
    refine ⟨hdiv,Nat.mod_lt _ hks,d[t / ks],List.getElem?_eq_getElem hdiv,?_⟩
    rw [Sort.get_flatK _ _ _ t (by simpa using ht)]
    simp [hdiv]
  have hsz:∀ d:List α,(Sort.flatK enc ks d.toArray).size=d.length*ks:=fun d=>by rw [Sort.size_flatK]; simp
  have hH:Sort.HoldsK enc ks w f.b f.o l.toArray:=by
    intro t ht
    rw [hsz] at ht
    obtain ⟨t1,t2,x,t3,t4⟩:=hflat l t ht
    refine ⟨?_,?_⟩
    · unfold World.cell?
      simp only [q1,Option.isSome_none,Bool.false_eq_true,if_false]
      have hx:=(List.getElem?_eq_some_iff.1 t3).2
      have hm:t % ks<(enc x).length:=by rw [hk]; exact t2
      have:=hcell (t / ks) t1 (t % ks) ((enc x)[t % ks]) (by rw [hx]; exact List.getElem?_eq_getElem hm)
      rw [show f.o+t / ks*ks+t % ks=f.o+t by have:=Nat.div_add_mod t ks; rw [Nat.mul_comm] at this; omega] at this
      rw [this,t4]
      simp [hm]
    · unfold World.frozen?
      simp [q1]
  refine Jl (zb hs.slots hw) h1 ((h3 w).trans (hen _ w)) ((hS f.b f.o (f.cap - 0) l w hH (Array.getElem?_eq_some_iff.1 q1).1 hlen).mono ?_)
  rintro e w' ⟨rfl,n,os',rfl⟩
  have hlp:(sf l).length=l.length:=hperm.length_eq
  have hrow:RowsIn m I (Sort.putCells _root_.id f.o (Sort.flatK enc ks (sf l).toArray) c) f.o ks ((sf l).map fe):=by
    intro i v hv
    rw [List.getElem?_map,Option.map_eq_some_iff] at hv
    obtain ⟨x,hx,rfl⟩:=hv
    have hi:=(List.getElem?_eq_some_iff.1 hx).1
    have hil:i<l.length:=by rw [← hlp]; exact hi
    refine ⟨_,mk x,by simp [Value.cells,hk],fun j y hj=>?_⟩
    have hj':(enc x)[j]? = some y:=by simpa [Value.cells] using hj
    have hjl:j<ks:=by rw [← hk x]; exact (List.getElem?_eq_some_iff.1 hj').1
    refine ⟨h1c x y (List.mem_of_getElem? hj'),?_⟩
    have hle:i*ks+j<l.length*ks:=by
      have:(i+1)*ks≤l.length*ks:=Nat.mul_le_mul_right _ hil
      rw [Nat.add_mul] at this; omega
    have hcs:f.o+i*ks+j<c.size:=by
      have hcap:l.length*ks≤f.cap*ks:=Nat.mul_le_mul_right _ (by simpa using q3)
      omega
    simp only [Sort.putCells,Array.getElem?_mapIdx,Array.getElem?_eq_getElem hcs,Option.map_some,id_eq]
    rw [if_pos ⟨by omega,by rw [hsz,hlp]; omega⟩,show f.o+i*ks+j - f.o=i*ks+j by omega]
    obtain ⟨_,_,x',t3,t4⟩:=hflat (sf l) (i*ks+j) (by rw [hlp]; exact hle)
    have hd:(i*ks+j) / ks=i:=by rw [Nat.mul_comm,Nat.mul_add_div hks,Nat.div_eq_of_lt hjl]; rfl
    have hm:(i*ks+j) % ks=j:=by rw [Nat.mul_comm,Nat.mul_add_mod,Nat.mod_eq_of_lt hjl]
    rw [hd,hx] at t3
    cases t3
    rw [t4,hm]
    have:=(List.getElem?_eq_some_iff.1 hj')
    obtain ⟨p1,p2⟩:=this
    simp [p1,p2]
  obtain ⟨s1,s2⟩:=zLX (enc:=_root_.id) (n:=n) (os:=os') (off:=f.o) (d:=Sort.flatK enc ks (sf l).toArray) (lo:=s.lo) hs.sim hb hlo hf (by simp [hlp]) q1 hrow
  exact ⟨.tuple #[],rfl,h hC E I m _ _ hE ((hs.step s1 s2 (fun _ _ h=>h) (fun _ _ h=>.inl h)).put Rep.undef)⟩
theorem qL {H:List Blk} {id:Nat} {B:Blk} (h:hget H id=B) (hid:Nat.blt id H.length=true):hput H id B=H:=by
  have hlt:id<H.length:=by simpa [Nat.blt_eq] using hid
  refine list_ext' fun j=>?_
  rw [zh _ _ _ _ (Nat.le_of_lt hlt)]
  by_cases e:id=j
  · subst e
    rw [if_pos rfl]
    unfold hget at h
    cases hg:get H id with
    | none=>rw [ja] at hg; omega
    | some B' => rw [hg] at h; exact congrArg some h.symm
  · rw [if_neg e]
namespace X
def zF5 (P:Program) (F:Nat) (caps:List V):Prop:=Ct P F (.sl [] :: caps) jA
theorem zGC {P:Program} {F:Nat} {caps:List V} (h:∀ (p:Option Addr) (cap:Nat) (us:List Value) (m:Mem) (w:World),RepL m caps Ij.none us→Calls P F (Value.slice p 0 cap :: us).toArray w fun e w' => e = .returned (.tuple #[])∧w'=w) (hen:∀ (args:Array Value) (w:World),(callFunc F args).run P w = .ok (.enter F args) w):zF5 P F caps:=by
  refine ⟨fun m w us hm hr=>?_,hen⟩
  unfold RepL at hr
  obtain ⟨u,us',rfl,hu,hus⟩:=hr
  unfold Rep at hu
  obtain ⟨ad,cap,es,rfl,_,_⟩:=hu
  refine (h ad cap us' m w hus).mono ?_
  rintro e w' ⟨rfl,rfl⟩
  exact ⟨_,m,rfl,Xt.rfl' _,fun _ _ h=>h,hm,fun k o h=>.inl h,Rep.undef⟩
theorem Y7 {α β:Type} {z:Bool} {id:Nat} {l:List α} {r:List β} (h:l.length=r.length):ovlz z id l=ovlz z id r:=by
  cases z <;> cases l <;> cases r <;> simp [ovlz] at h ⊢ <;> omega
section
variable {C:Cfg} {N:Nat} {k:List It} {K K':List (Nat×V)} {H H':List Blk} {lo n d i:Nat} {rnd:Option Nat} {Q:Ex→St→Prop} {all os:List Oper} {p:Op} {ty:TypeId} {pos:String} {after:Array Edge} {g:Option (Nat×Bool)}
theorem sortInt {z:Bool} {F id:Nat} {l r:List Int} (hm:srtO l=some r) (hS:zO5 C.P F) (hN:zF5 C.P F []) (hX:∀ f a v,Ct C.P f a v→C.X f a v) (hw:wants all K g=some true) (hc:callee K p=some (.fn F [ovlz z id l])) (hg:hget H id=oblz z 1 V.i l) (hid:Nat.blt id H.length=true) (hlo:Nat.ble lo id=true) (hd:Nat.blt d n=true) (hK:K=K') (hH:hput H id (oblz z 1 V.i r)=H')
    (h:GS C N (.ops all os :: k) ⟨(d,jA) :: K',H',lo,rnd,n⟩ Q):GS C N (.ops all (⟨some d,p,ty,pos,after,g⟩ :: os) :: k) ⟨K,H,lo,rnd,n⟩ Q:=by
  subst hK hH
  obtain ⟨hlen,rfl⟩:=zFv hm
  by_cases hne:l=[]
  · subst hne
    have e:hput H id (oblz z 1 V.i (srtI []))=H:=qL (by rw [hg,show srtI []=[] by simp [srtI]]) hid
    rw [e] at h
    have ha:ZB H true [ovlz z id ([]:List Int)] [.sl []]:=by
      cases z with
      | true=>exact .cons (.nil (n:=2) rfl) .nil
      | false =>
        refine .cons (.frz (n:=2) ?_) .nil
        show frz H 0 2 (.osl id 0 0)=_
        simp only [frz,Nat.not_lt_zero,if_false,hg,oblz,JI,mapO,Option.map_some,List.map_nil]
    exact .ext (fl:=true) hw hc ha (hX _ _ _ hN) (fun _=>⟨1,rfl⟩) (front rfl hd h rfl)
  · rw [zAg hne] at hc
    rw [Yi hne] at hg
    have hne':srtI l≠[]:=by intro e; have:=zIL l; unfold srt at this; unfold srtI at e; rw [e] at this; exact hne (List.length_eq_zero_iff.1 this.symm)
    rw [Yi hne'] at h
    have hle:=Nat.le_of_ble_eq_true hlo
    exact GS.sortInt (s:=⟨K,H,lo,rnd,n⟩) hS hN.2 hw hc hg hle hne (by omega) (front rfl hd h rfl)
structure zHE {α:Type} [Inhabited α] (P:Program) (F g ks:Nat) (fe:α→V) (lt:α→α→Bool):Prop where
  ex:∃ enc:α→List Value,SortK P F g ks enc (srtF lt)∧(∀ x,(enc x).length=ks)∧(∀ x,∀ v∈enc x,v.oneCell'=true)∧(∀ x,fe x = .agg ((enc x).map .lit))∧∀ x,∀ v∈enc x,∀ c,v≠.agg c
  pos:0<ks
  swo:Go.Sort.SWO lt
  nil:zF5 P F [.fn g []]
theorem zNS {α:Type} [Inhabited α] {z:Bool} {F gf id ks:Nat} {fe:α→V} {lt:α→α→Bool} {l r:List α} (hm:zDB lt l=some r) (hS:zHE C.P F gf ks fe lt) (hX:∀ f a v,Ct C.P f a v→C.X f a v) (hw:wants all K g=some true) (hc:callee K p=some (.fn F [ovlz z id l,.fn gf []])) (hg:hget H id=oblz z ks fe l) (hid:Nat.blt id H.length=true) (hlo:Nat.ble lo id=true) (hd:Nat.blt d n=true) (hK:K=K') (hH:hput H id (oblz z ks fe r)=H')
    (h:GS C N (.ops all os :: k) ⟨(d,jA) :: K',H',lo,rnd,n⟩ Q):GS C N (.ops all (⟨some d,p,ty,pos,after,g⟩ :: os) :: k) ⟨K,H,lo,rnd,n⟩ Q:=by
  subst hK hH
  obtain ⟨hlen,rfl⟩:=zJF hm
  have hperm:=(qG hS.swo l).1
  by_cases hne:l=[]
  · subst hne
    have e0:srtF lt ([]:List α)=[]:=List.perm_nil.1 hperm
    have e:hput H id (oblz z ks fe (srtF lt []))=H:=qL (by rw [hg,e0]) hid
    rw [e] at h
    have ha:ZB H true [ovlz z id ([]:List α),.fn gf []] [.sl [],.fn gf []]:=by
      refine .cons ?_ (.cons (.shut (n:=2) rfl) .nil)
      cases z with
      | true=>exact .nil (n:=2) rfl
      | false =>
        refine .frz (n:=2) ?_
        show frz H 0 2 (.osl id 0 0)=_
        simp only [frz,Nat.not_lt_zero,if_false,hg,oblz,JI,mapO,Option.map_some,List.map_nil]
    exact .ext (fl:=true) hw hc ha (hX _ _ _ hS.nil) (fun _=>⟨1,rfl⟩) (front rfl hd h rfl)
  · rw [zAg hne] at hc
    rw [Yi hne] at hg
    have hne':srtF lt l≠[]:=fun e=>hne (List.nil_perm.1 (e▸hperm))
    rw [Yi hne'] at h
    have hle:=Nat.le_of_ble_eq_true hlo
    obtain ⟨enc,q1,q2,q3,q4,q5⟩:=hS.ex
    exact GS.sortK (s:=⟨K,H,lo,rnd,n⟩) q1 hS.nil.2 hperm q2 hS.pos q3 q4 q5 hw hc hg hle hne (by omega) (front rfl hd h rfl)
theorem Ji {α:Type} [Inhabited α] {lt:α→α→Bool} {l r:List α} (hs:Go.Sort.SWO lt) (h:zDB lt l=some r):l.length=r.length:=by rw [(zJF h).2]; exact (qG hs l).1.length_eq.symm
end
end X
def ovs {α:Type} (z:Bool) (id:Nat) (l r:List α) (a:Int):V:=match z,l with
  | true,[]=>.nil
  | _,_=>.osl id a.toNat r.length
def ors {α:Type} (z:Bool) (id:Nat) (l:List α):List Nat:=match z,l with
  | true,[]=>[]
  | _,_=>[id]
theorem zCp {α:Type} (z:Bool) (id:Nat) (l r:List α) (a:Int):(z=true∧l=[])∨((∀ j,ovs z j l r a = .osl j a.toNat r.length)∧ors z id l=[id]∧(∀ j,ovlz z j l = .osl j 0 l.length)∧∀ es (f:α→V),oblz z es f l = .rows es (l.map f)):=by
  cases z <;> cases l <;> simp [ovs,ors,ovlz,oblz]
namespace X
section
variable {C:Cfg} {K:List (Nat×V)} {H:List Blk} {lo nid:Nat}
theorem zIK {α:Type} {l r:List α} {a b:Int} (h:sub l a b=some r):r.length=b.toNat - a.toNat:=by
  obtain ⟨h0,h1,h3,rfl⟩:=zE2 h
  rw [List.length_drop,List.length_take]; omega
theorem zAV {d:Int}:jY K none d=some d:=rfl
theorem zNT {α:Type} {z:Bool} {f:α→V} {l r:List α} {t id:Nat} {T Te:TI} {e es:Nat} {a b:Int} {xo:Operand} {lo1 hi1:Option Operand} (hm:sub l a b=some r) (hT:C.ty t=some T) (hk:T.kd = .slice e es) (hTe:C.ty e=some Te) (hes:Te.size=es) (hx:kev K xo=some (ovlz z id l)) (hH:hget H id=oblz z es f l) (h1:jY K lo1 0=some a) (h2:jY K hi1 (l.length:Nat)=some b):zM C K H lo nid (.slice t xo lo1 hi1 none)=some ⟨ovs z id l r a,[],ors z id l⟩:=by
  obtain ⟨q0,q1,q2,_⟩:=zE2 hm
  have hl:=zIK hm
  simp only [zM,YE,Z5,hT,hk,hTe,hx]
  rw [hes]
  rcases zCp z id l r a with ⟨rfl,rfl⟩ | ⟨e1,e2,e3,e4⟩
  · simp only [List.length_nil] at q2
    have ea:a=0:=by omega
    have eb:b=0:=by omega
    subst ea; subst eb
    simp only [List.length_nil,Int.natCast_zero] at h2
    unfold YS
    simp only [ovlz,Am.lenS,h1,zAV,ovs,ors,Option.isSome_none,Bool.false_and,Bool.false_eq_true,if_false,Int.natCast_zero,h2]
    rfl
  · rw [e1, e2, e3]
    rw [e4] at hH
    unfold YS
    simp only [Am.lenS,h1,h2,zAV,Option.isSome_none,Bool.false_and,Bool.false_eq_true,if_false,zAY,hH]
    rw [if_pos ⟨q0,q1,by rw [List.length_map]; omega,by simp⟩]
    simp only [Nat.zero_add,hl]
theorem lenS {α:Type} {z:Bool} {l r:List α} {a b:Int} {xo:Operand} {t id:Nat} {T:TI} {e es:Nat} (hm:sub l a b=some r) (hT:C.ty t=some T) (hk:T.kd = .slice e es) (hx:kev K xo=some (ovs z id l r a)):zM C K H lo nid (.call ⟨.builtin .len,#[xo],#[t]⟩)=some ⟨.i (r.length:Nat),[],[]⟩:=by
  rcases zCp z id l r a with ⟨rfl,rfl⟩ | ⟨e1,_⟩
  · obtain ⟨q0, q1, q2, rfl⟩ := zE2 hm
    simp [zM,Zd,kevs,hx,Z0,zAC,hT,hk,Am.lenS,ovs,V.nil]
  · simp [zM,Zd,kevs,hx,e1,Z0,zAC,hT,hk,Am.lenS]
end
end X
open Classical in
noncomputable def zCI (m:Mem) (w:World) (b:Nat):Mem:=fun k=>if k=b then w.heap[k]? else m k
theorem GS.freeze {C:Cfg} {k:List It} {K:List (Nat×V)} {H:List Blk} {lo n d id es len:Nat} {rnd:Option Nat} {Q:Ex→St→Prop} {l:List V} (hg:hget H id = .rows es l) (hlo:lo≤id) (hlen:len≤l.length) (hsh:∀ v∈l.take len,shut 9 v=true)
    (h:GS C 0 k ⟨(d,.sl (l.take len)) :: K,hput H id .dead,lo,rnd,n⟩ Q):GS C 0 k ⟨(d,.osl id 0 len) :: K,H,lo,rnd,n⟩ Q:=by
  intro hC E I m a w hE hs
  have hb:=YO hg
  have hid:id<H.length:=jm hb
  obtain ⟨f,hf,hes,c,ty,q1,q2,q3,q4,q5,q6⟩:=hs.sim.blk id _ hb rfl
  have hoff:m f.b=none:=hs.sim.off id f ⟨_,hb,rfl⟩ hf
  have hle:m.Le (zCI m w f.b):=by
    intro k o hk
    unfold zCI
    split
    · rename_i e; subst e; rw [hoff] at hk; cases hk
    · exact hk
  have hself:zCI m w f.b f.b=some (.cells c ty (0,0)):=by unfold zCI; rw [if_pos rfl]; exact q1
  have hother:∀ k,k≠f.b→zCI m w f.b k=m k:=fun k hk=>by unfold zCI; rw [if_neg hk]
  have hH0:E.H0=[]:=List.eq_nil_of_length_eq_zero (Nat.le_zero.1 hE.len)
  have hnew:E.w0.heap.size≤f.b:=by
    rcases hs.fx.own id f (by rw [← hs.lo]; exact hlo) ⟨_,hb,rfl⟩ hf with h | ⟨i0,f0,_,⟨B,hB,_⟩,_⟩
    · exact h
    · rw [hH0] at hB; simp [Am.get] at hB
  have hlv:∀ j,Live (hput H id .dead) j→j≠id∧Live H j:=fun j hj=>by
    rcases Zu (Nat.le_of_lt hid) hj with ⟨_,h⟩ | h
    · cases h
    · exact h
  have hsim:Sim I (zCI m w f.b) (hput H id .dead) w:=by
    refine (hs.sim.kill hid).world hle (fun k o hk=>?_) (fun j g hj hg' => ⟨rfl,?_⟩)
    · by_cases e : k = f.b
      · subst e; rw [hself] at hk; rw [← hk]; exact q1
      · rw [hother k e] at hk; exact hs.sim.sub k o hk
    · obtain ⟨hne, hj2⟩ := hlv j hj
      rw [hother]
      · exact hs.sim.off j g hj2 hg'
      · intro e
        exact hne (hs.sim.inj j id g f hj2 ⟨_,hb,rfl⟩ hg' hf e)
  have hfx:Fx I H E.lo w I (hput H id .dead) w:=by
    refine ⟨jg.rfl' w,fun _ _ _=>rfl,Ij.Le.rfl' _,fun j g h1 h2 h3=>.inr ⟨j,g,h1,(hlv j h2).2,h3,rfl⟩,fun j hj=>?_,by rw [zq _ _ _ (Nat.le_of_lt hid)]; omega⟩
    rw [zh H id j _ (Nat.le_of_lt hid),if_neg (by have:=hs.lo; simp only at this; omega)]
  refine h hC E I (zCI m w f.b) a w hE { sim:=hsim,slots := ?_,size:=hs.size,n:=hs.n,lo:=hs.lo,rnd:=hs.rnd,fx:=hs.fx.tr hfx,mem:=fun k o hk=>hle k o (hs.mem k o hk),fresh:=fun k o hk=>?_,lole:=hs.lole,dfr := ?_,rok:=hs.rok }
  · intro t v hv
    simp only [kget] at hv
    by_cases e:d=t
    · subst e
      simp only [Nat.beq_refl,cond_true,Option.some.injEq] at hv
      subst hv
      obtain ⟨u,h1,h2⟩:=hs.slots d (.osl id 0 len) (by simp [kget])
      refine ⟨u,h1,?_⟩
      unfold Rep at h2 ⊢
      obtain ⟨f',ad,g1,g2,g3,g4,g5⟩:=h2
      rw [hf] at g1; cases g1
      have hl2:(l.take len).length=len:=by simp; omega
      refine ⟨ad,_,es,by rw [hl2]; exact g2,by rw [hl2]; omega,fun hne=>?_⟩
      have hpos:0<len:=by
        rcases Nat.eq_zero_or_pos len with h | h
        · subst h; exact absurd (by simp) hne
        · exact h
      refine ⟨f.b,f.o,by rw [g4 (by omega)]; simp,Zq.mk fun i v hv=>?_⟩
      have hm:=List.mem_of_getElem? hv
      rw [List.getElem?_take] at hv
      split at hv
      · obtain ⟨u', r1, r2, r3⟩ := q6 i v hv
        refine ⟨u',Rep.mono hle v (Ij.Le.rfl' _) (QS 9 v u' (hsh v hm) r1),r2,fun j x hx=>⟨(r3 j x hx).1,?_⟩⟩
        unfold Mem.cell
        rw [hself]
        exact (r3 j x hx).2
      · cases hv
    · have hv' : kget ((d, V.osl id 0 len) :: K) t = some v := by
        simp only [kget]
        rw [zAk e] at hv ⊢
        exact hv
      obtain ⟨u,h1,h2⟩:=hs.slots t v hv'
      exact ⟨u,h1,Rep.mono hle v (Ij.Le.rfl' _) h2⟩
  · by_cases e : k = f.b
    · subst e; exact .inr hnew
    · rw [hother k e] at hk; exact hs.fresh k o hk
  · obtain ⟨ds, h1, h2, h3, h4⟩ := hs.dfr
    refine ⟨ds,h1,h2,fun D hD=>?_,h4⟩
    obtain ⟨k1,k2,k3,k4⟩:=h3 D hD
    refine ⟨k1,k2,?_,fun j g hj hg' => k4 j g (hlv j hj).2 hg'⟩
    rw [hother D fun e=>k4 id f ⟨_,hb,rfl⟩ hf e.symm]; exact k3
theorem GS.zMf {C:Cfg} {N:Nat} {k:List It} {K:List (Nat×V)} {H:List Blk} {lo n d id es t e len X Y Z:Nat} {rnd:Option Nat} {Q:Ex→St→Prop} {all os:List Oper} {ty:TypeId} {pos:String} {after:Array Edge} {g:Option (Nat×Bool)} {T Te:TI} {xo x1 x2 x3:Operand} {k1 k2 k3:IntKind} (hw:wants all K g=some true) (hT:C.ty t=some T) (hk:T.kd = .slice e es) (hTe:C.ty e=some Te) (hx:kev K xo=some (.osl id 0 len)) (h1:kev K x1=some (.lit (.int k1 (X:Int)))) (h2:kev K x2=some (.lit (.int k2 (Y:Int)))) (h3:kev K x3=some (.lit (.int k3 (Z:Int)))) (q1:X≤Y) (q2:Y≤Z) (q3:Z≤len) (hfree:kget K d=none)
    (h:GS C N (.ops all os :: k) ⟨K,H,lo,rnd,n⟩ Q):GS C N (.ops all (⟨some d,.slice t xo (some x1) (some x2) (some x3),ty,pos,after,g⟩ :: os) :: k) ⟨K,H,lo,rnd,n⟩ Q:=by
  intro hC E I m a w hE hs
  have hu:=(hC.ty _ _ hT).kd
  rw [hk] at hu
  have hsz:=(hC.ty _ _ hTe).size
  have hxr:=ZA hs.slots hx
  have e1:=(ZA hs.slots h1).lit
  have e2:=(ZA hs.slots h2).lit
  have e3:=(ZA hs.slots h3).lit
  unfold Rep at hxr
  obtain ⟨f,ad,g1,g2,g3,g4,g5⟩:=hxr
  rw [Nat.sub_zero] at g2
  have hr:=zAH (w:=w) (P:=C.P) hu.1 hsz (ad:=ad) (len:=len) (cap:=f.cap) (x:=X) (y:=Y) (z:=Z) (l:=some (.int k1 (X:Int))) (h:=some (.int k2 (Y:Int))) (mx:=some (.int k3 (Z:Int))) (.inr ⟨_,rfl⟩) (.inr ⟨_,rfl⟩) (.inr ⟨_,rfl⟩) (by simp) q1 q2 (by omega)
  refine zBO (zb hs.slots hw) rfl (u:=.slice (if Z=X then ad else ad.map (·.add (X*Te.size))) (Y - X) (Z - X)) (w':=w) (by simp [execOp,g2,e1,e2,e3,hr]) (.inl rfl) ?_
  refine h hC E I m _ w hE { sim:=hs.sim,slots:=fun t v hv=>?_,size := ?_,n:=hs.n,lo:=hs.lo,rnd:=hs.rnd,fx:=hs.fx,mem:=hs.mem,fresh:=hs.fresh,lole:=hs.lole,dfr := ?_,rok:=hs.rok }
  · have hne : d ≠ t := fun e => by subst e; rw [hfree] at hv; cases hv
    obtain ⟨u,z1,z2⟩:=hs.slots t v hv
    refine ⟨u,?_,z2⟩
    rw [← z1]
    simp only [Act.put,Array.getElem?_setIfInBounds]
    rw [if_neg hne]
  · simpa [Act.put] using hs.size
  · exact hs.dfr
namespace X
section
variable {C:Cfg} {K:List (Nat×V)} {H:List Blk} {lo nid:Nat} {id es e t:Nat} {T Te:TI} {R:List V} {xo yo:Operand}
theorem slO {n:Nat} {a b:Nat} {lo1 hi1:Option Operand} (hT:C.ty t=some T) (hk:T.kd = .slice e es) (hTe:C.ty e=some Te) (hes:Te.size=es) (hx:kev K xo=some (.osl id 0 n)) (hH:hget H id = .rows es R) (h1:jY K lo1 0=some (a:Int)) (h2:jY K hi1 (n:Nat)=some (b:Int)) (q1:a≤b) (q2:b≤R.length):zM C K H lo nid (.slice t xo lo1 hi1 none)=some ⟨.osl id a (b - a),[],[id]⟩:=by
  simp only [zM,YE,Z5,hT,hk,hTe,hx]
  rw [hes]
  unfold YS
  simp only [Am.lenS,h1,h2,zAV,Option.isSome_none,Bool.false_and,Bool.false_eq_true,if_false,zAY,hH]
  rw [if_pos ⟨by omega,by omega,by omega,by simp⟩]
  simp
theorem clrO {a n:Nat} (hT:C.ty t=some T) (hk:T.kd = .slice e es) (hTe:C.ty e=some Te) (hes:Te.size=es) (hx:kev K xo=some (.osl id a (n - a))) (hH:hget H id = .rows es R) (hn:R.length=n) (hlo:Nat.ble lo id=true) (q:a≤n):zM C K H lo nid (.call ⟨.builtin .clear,#[xo],#[t]⟩)=some ⟨jA,[(id,.rows es (R.take a++List.replicate (n - a) Te.zero))],[id]⟩:=by
  have hlo' : ¬ id<lo:=by have:=Nat.le_of_ble_eq_true hlo; omega
  have e3:setAt R a (List.replicate (n - a) Te.zero)=some (R.take a++List.replicate (n - a) Te.zero):=by
    rw [zBw _ _ _ (by rw [List.length_replicate]; omega),List.length_replicate,List.drop_eq_nil_of_le (by omega),List.append_nil]
  simp only [zM,Zd,kevs,hx,Z0,zC8,Z5,hT,hk,hTe,zBc,hH,hlo',if_false,hes,Nat.beq_refl,cond_true,e3]
end
end X
namespace X
section
variable {C:Cfg} {N:Nat} {k:List It} {K:List (Nat×V)} {H:List Blk} {lo n d:Nat} {rnd:Option Nat} {Q:Ex→St→Prop} {all os:List Oper} {p:Op} {ty:TypeId} {pos:String} {after:Array Edge} {g:Option (Nat×Bool)}
theorem inl {f:Nat} {args:List V} {c:Code} {fn:Func} (hw:wants all K g=some true) (hc:callee K p=some (.fn f args)) (hb:jM C f args.length=some (c,fn)) (hd:Nat.blt d n=true)
    (h:GS C H.length [.code c] (St.call fn args H lo) (fun e s1 => ∃ v,finA C fn e s1=some v∧GS C N (.ops all os :: k) ⟨(d,v) :: K,s1.H,lo,rnd,n⟩ Q)):GS C N (.ops all (⟨some d,p,ty,pos,after,g⟩ :: os) :: k) ⟨K,H,lo,rnd,n⟩ Q :=
  GS.im (s:=⟨K,H,lo,rnd,n⟩) (fun v H1=>GS C N (.ops all os :: k) ⟨(d,v) :: K,H1,lo,rnd,n⟩ Q) hw hc hb h (fun v H1 hT=>front rfl hd hT rfl)
end
end X
theorem zJs {α β:Type} (F:α→β):∀ (l:List α) (n:Nat) (x:α),Am.ins (l.map F) n (F x)=(insL l n x).map F
  | l,0,x=>by cases l <;> rfl
  | [],n+1,x=>rfl
  | y :: r,n+1,x=>by simp only [List.map_cons,Am.ins,insL,zJs F r n x]
namespace X
theorem zBY {α β:Type} [DecidableEq α] {f:α→V} (hq:∀ a b,QC (f a) (f b)=some (decide (a=b))) (k:α):∀ (l:List (α×β)) (i:Nat),zFm (f k) (l.map fun p=>f p.1) i=some ((JB k l).map (i + ·))
  | [],i=>rfl
  | p :: r,i=>by
    simp only [List.map_cons,zFm,hq,JB]
    by_cases h:k=p.1
    · simp only [h,decide_true,if_true,Option.map_some,Nat.add_zero]
    · simp only [h, decide_false, if_false, zBY hq k r (i + 1), Option.map_map]
      congr 2
      funext x
      simp only [Function.comp]
      omega
theorem jK (a b:Int):QC (.i a) (.i b)=some (decide (a=b)):=rfl
theorem Jk (k:Int):∀ l:List Int,Ya (.i k) (l.map V.i)=posI k l
  | []=>rfl
  | b :: r=>by
    simp only [List.map_cons,Ya,posI,Jk k r]
    by_cases h:b<k <;> simp [h]
theorem zFK (xs:List V):∀ l:List V,Ya (.agg xs) l=l.length
  | []=>rfl
  | y :: r=>by
    have hb:∀ l:List V,Ya (.b true) l=l.length:=by
      intro l
      induction l with
      | nil=>rfl
      | cons y r ih=>simp only [Ya,ih,List.length_cons]
    simp only [Ya,hb,List.length_cons]
section
variable {C:Cfg} {K:List (Nat×V)} {H:List Blk} {lo nid:Nat}
theorem lookB {α β:Type} [DecidableEq α] {f:α→V} {g:β→V} {k:α} {l:List (α×β)} {z:β} {Te:TI} {ok:Bool} {rd:List Nat} (hq:∀ a b,QC (f a) (f b)=some (decide (a=b))) (hz:Te.zero=g z):qi Te ok (f k) (l.map fun p=>f p.1) (l.map fun p=>g p.2) rd=some ⟨_root_.cond ok (.tup [g ((zO k l).getD z),.b (zO k l).isSome]) (g ((zO k l).getD z)),[],rd⟩:=by
  unfold qi
  rw [zBY hq]
  have hs:=JF (k:=k) (l:=l)
  cases hf:JB k l with
  | none =>
    rw [hf] at hs
    simp only [Option.map_none,hs.1,Option.getD_none,Option.isSome_none,hz]
  | some i =>
    rw [hf] at hs
    obtain ⟨v,h1,h2⟩:=hs
    have hg:get (l.map fun p=>g p.2) (0+i)=some (g v):=by rw [zP,Nat.zero_add,List.getElem?_map,h1]; rfl
    simp only [Option.map_some,hg,h2,Option.getD_some,Option.isSome_some]
theorem lookW {α β:Type} [DecidableEq α] {f:α→V} {g:β→V} {k:α} {l:List (α×β)} {z:β} {t id:Nat} {kd:Kd} {Te:TI} {ok:Bool} {mo ko:Operand} (hq:∀ a b,QC (f a) (f b)=some (decide (a=b))) (hm:zBk C t=some (kd,Te)) (hkd:Q4 C kd (f k)=true) (h1:kev K mo=some (.map id)) (h2:kev K ko=some (f k)) (hH:hget H id = .map (l.map fun p=>f p.1) (l.map fun p=>g p.2)) (hz:Te.zero=g z):zM C K H lo nid (.lookup t mo ko ok)=some ⟨_root_.cond ok (.tup [g ((zO k l).getD z),.b (zO k l).isSome]) (g ((zO k l).getD z)),[],[id]⟩:=by
  simp only [zM,yg,h1,h2,zCK,hm,hkd,_root_.cond_true,hH]
  exact lookB hq hz
theorem putW {α β:Type} [DecidableEq α] {f:α→V} {g:β→V} {pos:α→List α→Nat} {k:α} {v:β} {l:List (α×β)} {t id:Nat} {kd:Kd} {Te:TI} {mo ko vo:Operand} (hq:∀ a b,QC (f a) (f b)=some (decide (a=b))) (hp:∀ l:List α,Ya (f k) (l.map f)=pos k l) (hm:zBk C t=some (kd,Te)) (hkd:Q4 C kd (f k)=true) (h1:kev K mo=some (.map id)) (h2:kev K ko=some (f k)) (h3:kev K vo=some (g v)) (hH:hget H id = .map (l.map fun p=>f p.1) (l.map fun p=>g p.2)) (hlo:Nat.ble lo id=true):zM C K H lo nid (.mapUpdate t mo ko vo)=some ⟨jA,[(id,.map ((putM pos l k v).map fun p=>f p.1) ((putM pos l k v).map fun p=>g p.2))],[id]⟩:=by
  have hlo' : ¬ id<lo:=by have:=Nat.le_of_ble_eq_true hlo; omega
  simp only [zM,yF,h1,h2,h3,Qy,hm,hkd,_root_.cond_true,hlo',if_false,hH]
  rw [zBY hq]
  have hs:=JF (k:=k) (l:=l)
  unfold putM
  cases hf:JB k l with
  | none =>
    simp only [Option.map_none]
    have e:(l.map fun p=>f p.1)=(l.map (·.1)).map f:=by rw [List.map_map]; rfl
    have e1:Ya (f k) (l.map fun p=>f p.1)=pos k (l.map (·.1)):=by rw [e]; exact hp _
    rw [e1,← zJs (fun p:α×β=>f p.1) l _ (k,v),← zJs (fun p:α×β=>g p.2) l _ (k,v)]
  | some i =>
    rw [hf] at hs
    obtain ⟨v0,q1,_⟩:=hs
    simp only [Option.map_some,Nat.zero_add]
    have e1:((l.set i (k,v)).map fun p=>f p.1)=l.map fun p=>f p.1:=by
      rw [List.map_set]
      refine List.ext_getElem? fun j=>?_
      rw [List.getElem?_set]
      split
      · rename_i h; subst h
        split
        · rw [List.getElem?_map,q1]; rfl
        · rename_i h2; rw [List.getElem?_eq_none (by omega)]
      · rfl
    rw [e1,List.map_set,Zy]
theorem putV {α β:Type} [DecidableEq α] {f:α→V} {g:β→V} {pos:α→List α→Nat} {k:α} {v:β} {l:List (α×β)} {t id:Nat} {kd:Kd} {Te:TI} {mo ko vo:Operand} (hq:∀ a b,QC (f a) (f b)=some (decide (a=b))) (hp:∀ l:List α,Ya (f k) (l.map f)=pos k l) (hm:zBk C t=some (kd,Te)) (hkd:Q4 C kd (f k)=true) (h1:kev K mo=some (.map id)) (h2:kev K ko=some (f k)) (h3:kev K vo=some (g v)) (hH:hget H id = .map (l.map fun p=>f p.1) (l.map fun p=>g p.2)) (hlo:Nat.ble lo id=true):zM C K H lo nid (.insert t mo ko vo)=some ⟨jA,[(id,.map ((putM pos l k v).map fun p=>f p.1) ((putM pos l k v).map fun p=>g p.2))],[id]⟩:=by
  have hlo' : ¬ id<lo:=by have:=Nat.le_of_ble_eq_true hlo; omega
  simp only [zM,yF,h1,h2,h3,Qy,hm,hkd,_root_.cond_true,hlo',if_false,hH]
  rw [zBY hq]
  have hs:=JF (k:=k) (l:=l)
  unfold putM
  cases hf:JB k l with
  | none =>
    simp only [Option.map_none]
    have e:(l.map fun p=>f p.1)=(l.map (·.1)).map f:=by rw [List.map_map]; rfl
    have e1:Ya (f k) (l.map fun p=>f p.1)=pos k (l.map (·.1)):=by rw [e]; exact hp _
    rw [e1,← zJs (fun p:α×β=>f p.1) l _ (k,v),← zJs (fun p:α×β=>g p.2) l _ (k,v)]
  | some i =>
    rw [hf] at hs
    obtain ⟨v0,q1,_⟩:=hs
    simp only [Option.map_some,Nat.zero_add]
    have e1:((l.set i (k,v)).map fun p=>f p.1)=l.map fun p=>f p.1:=by
      rw [List.map_set]
      refine List.ext_getElem? fun j=>?_
      rw [List.getElem?_set]
      split
      · rename_i h; subst h
        split
        · rw [List.getElem?_map,q1]; rfl
        · rename_i h2; rw [List.getElem?_eq_none (by omega)]
      · rfl
    rw [e1,List.map_set,Zy]
theorem zC3 {α β:Type} {N i j:Nat} {keep:List (Option Nat)} {H1:List Blk} {r:List Blk} {f:α→V} {g:β→V} {l:List (α×β)} (n:Nat) (hj:rx N keep i=some j) (h1:hget H1 j = .map (l.map fun p=>f p.1) (l.map fun p=>g p.2)) (hf:∀ a,rn N keep n (f a)=some (f a)) (hg:∀ a,rn N keep n (g a)=some (g a)) (h:GB N keep H1 (i+1) r):GB N keep H1 i (.map (l.map fun p=>f p.1) (l.map fun p=>g p.2) :: r) :=
  zEU hj h1 (by intro h; cases h) (fun _=>⟨n,by simp only [rnB]; rw [JV (g:=rn N keep n) (f:=fun p:α×β=>f p.1) (fun p=>hf p.1),JV (g:=rn N keep n) (f:=fun p:α×β=>g p.2) (fun p=>hg p.2)]⟩) h
end
end X
end Go.Am
namespace Go.Am
open Go Go.Wk Go.RowKit Go.Mx
section
variable {C:Cfg} {E:Env} {all:List Oper} {b t:Nat}
structure RestC (all:List Oper) (b:Nat) (R:List Ent) (listed:Array Bool):Prop where
  size:listed.size=all.length
  left:∀ i,i<b→(listed[i]? = some false↔∃ x,x∈R∧x.i=i)
  tail:∀ i,b≤i→i<all.length→listed[i]? = some false
  op:∀ x,x∈R→all[x.i]? = some x.o
  closed:∀ (j:Nat),listed[j]? = some true→∀ (o:Oper),all[j]? = some o→∀ k,Binds o k→listed[k]? = some true
  low:∀ x,x∈R→∀ k,Binds x.o k→k<x.i
  pair:R.Pairwise (Ok2 all)
  inb:∀ x,x∈R→x.i<b
def zG7 (all:List Oper) (b:Nat):Bool:=(List.range all.length).all fun i=>Nat.blt i b||(List.range i).all fun j=>JH all all.length i j
theorem zLO (h:zG7 all b=true):∀ i,b≤i→i<all.length→∀ j,j<i→JH all all.length i j=true:=by
  intro i h1 h2 j h3
  unfold zG7 at h
  rw [List.all_eq_true] at h
  have:=h i (List.mem_range.2 h2)
  rw [Bool.or_eq_true] at this
  rcases this with h4 | h4
  · have : i < b := by simpa [Nat.blt_eq] using h4
    omega
  · rw [List.all_eq_true] at h4
    exact h4 j (List.mem_range.2 h3)
theorem zMK (hC:C.OK) {sn:St} {Q:Exit→Act→World→Prop} (hbt:all.length=b+t) (hcut:∀ i,b≤i→i<all.length→∀ j,j<i→JH all all.length i j=true)
    (hk:∀ (listed:Array Bool) (I:Ij) (m:Mem) (a:Act) (w:World),listed.size=all.length→(∀ i,i<b→listed[i]? = some true)→(∀ i,b≤i→i<all.length→listed[i]? = some false)→SS E sn I m a w→wpAnyIn (Wd E.ρ) 0 C.P .any all.toArray Q t listed a w):∀ (n:Nat) (R:List Ent) (listed:Array Bool) (s:St) (I:Ij) (m:Mem) (a:Act) (w:World),R.length=n→Seq C all R s sn→RestC all b R listed→(∀ x,x∈R→s.lo≤x.nid∧∀ d,x.d=some d→zFa C x.e d)→SS E s I m a w→wpAnyIn (Wd E.ρ) 0 C.P .any all.toArray Q (n+t) listed a w
  | 0,[],listed,s,I,m,a,w,_,.nil he,hl,_,hss=>by
    rw [Nat.zero_add]
    refine hk listed I m a w hl.size (fun i hi=>?_) hl.tail { hss with slots:=fun t v hv=>hss.slots t v (by rw [← he.K]; exact hv),sim:=by rw [he.H]; exact hss.sim,n:=he.n.trans hss.n,lo:=he.lo.trans hss.lo,rnd:=he.rnd.trans hss.rnd,fx:=by rw [he.H]; exact hss.fx,dfr:=by rw [he.H]; exact hss.dfr }
    cases hli:listed[i]? with
    | none=>rw [Array.getElem?_eq_none_iff,hl.size] at hli; omega
    | some c =>
      cases c with
      | true=>rfl
      | false =>
        obtain ⟨x,hx,_⟩:=(hl.left i hi).1 hli
        cases hx
  | 0,_ :: _,_,_,_,_,_,_,h,_,_,_,_=>by cases h
  | n+1,[],_,_,_,_,_,_,h,_,_,_,_=>by cases h
  | n+1,x0 :: R0,listed,s,I,m,a,w,hn,hseq,hl,hx,hss=>by
    have h0:x0.i∈Region.ready .any all.toArray listed:=by
      have hlt:x0.i<all.length:=(List.getElem?_eq_some_iff.1 (hl.op x0 List.mem_cons_self)).1
      have hb0:=hl.inb x0 List.mem_cons_self
      refine mem_ready.2 ⟨hlt,YD.2 ((hl.left _ hb0).2 ⟨x0,List.mem_cons_self,rfl⟩),x0.o,hl.op x0 List.mem_cons_self,fun k hb=>YP.2 ?_⟩
      have hkl:=hl.low x0 List.mem_cons_self k hb
      have hkb:k<b:=by omega
      cases hlk:listed[k]? with
      | none=>rw [Array.getElem?_eq_none_iff,hl.size] at hlk; omega
      | some c =>
        cases c with
        | true=>rfl
        | false =>
          obtain ⟨y,hy,hyi⟩:=(hl.left k hkb).1 hlk
          rcases List.mem_cons.1 hy with rfl | hy
          · omega
          · have := (List.rel_of_pairwise_cons hl.pair hy).1
            omega
    rw [show n+1+t=(n+t)+1 by omega]
    refine ⟨fun h=>(by rw [h] at h0; cases h0),fun i hi=>?_⟩
    obtain ⟨h1,h2,o,h3,h4⟩:=mem_ready.1 hi
    have hib:i<b:=by
      rcases Nat.lt_or_ge i b with h | h
      · exact h
      · have hb0 := hl.inb x0 List.mem_cons_self
        have:=Yx (all:=all) (L:=fun j=>listed[j]? = some true) hl.closed _ _ _ (hcut i h h1 x0.i (by omega)) (fun o' ho' k hb=>by
          have:o'=o:=by rw [h3] at ho'; exact (Option.some.inj ho').symm
          rw [this] at hb
          exact YP.1 (h4 k hb))
        have h5:=(hl.left x0.i hb0).2 ⟨x0,List.mem_cons_self,rfl⟩
        rw [this] at h5; cases h5
    obtain ⟨y,hy,hyi⟩:=(hl.left i hib).1 (YD.1 h2)
    have hyo:y.o=o:=by have:=hl.op y hy; rw [hyi,h3] at this; exact (Option.some.inj this).symm
    obtain ⟨pre,post,hR⟩:=List.append_of_mem hy
    rw [hR] at hseq hn hl hx
    have hpw:=List.pairwise_append.1 hl.pair
    have hap:∀ x,x∈pre→Apart all x y:=fun x hxp=>by
      rcases (hpw.2.2 x hxp y List.mem_cons_self).2 with hwt | h
      · have := Yx (all := all) (L := fun j => listed[j]? = some true) hl.closed _ _ _ hwt (fun o' ho' k hb => by
          have:o'=o:=by rw [hyi,h3] at ho'; exact (Option.some.inj ho').symm
          rw [this] at hb
          exact YP.1 (h4 k hb))
        have h5:=(hl.left x.i (hl.inb x (by simp [hxp]))).2 ⟨x,by simp [hxp],rfl⟩
        rw [this] at h5; cases h5
      · exact h
    obtain ⟨g1,g2⟩:=pull hseq hap
    have hyy:=hx y (by simp)
    have hio:all[i]? = some y.o:=by rw [hyo]; exact h3
    refine zFo (o:=y.o) hC hss hio g1 hyy.1 hyy.2 fun I' m' a' w' hs' => ?_
    have hinc:∀ z,z∈pre++post→z∈pre++y :: post:=fun z hz=>by
      rcases List.mem_append.1 hz with h | h <;> simp [h]
    have hpair':(pre++post).Pairwise (Ok2 all):=by
      rw [List.pairwise_append]
      exact ⟨hpw.1,(List.pairwise_cons.1 hpw.2.1).2,fun u hu v hv=>hpw.2.2 u hu v (List.mem_cons_of_mem _ hv)⟩
    have hne:∀ z,z∈pre++post→z.i≠i:=fun z hz=>by
      rcases List.mem_append.1 hz with h | h
      · have:=(hpw.2.2 z h y List.mem_cons_self).1; omega
      · have:=(List.rel_of_pairwise_cons hpw.2.1 h).1; omega
    have hlen:(pre++post).length=n:=by
      simp only [List.length_append,List.length_cons] at hn ⊢; omega
    have hisz:i<listed.size:=by rw [hl.size]; exact h1
    refine zMK hC hbt hcut hk n (pre++post) _ _ I' m' a' w' hlen g2 ⟨by simpa using hl.size,fun j hj=>?_,fun j hj hj2=>?_,fun z hz=>hl.op z (hinc z hz),fun j hj o' ho' k hb=>?_,fun z hz=>hl.low z (hinc z hz),hpair',fun z hz=>hl.inb z (hinc z hz)⟩ (fun z hz=>⟨by rw [qy]; exact (hx z (hinc z hz)).1,(hx z (hinc z hz)).2⟩) hs'
    · by_cases hji : j = i
      · subst hji
        simp only [hisz,Array.getElem?_setIfInBounds_self_of_lt,Option.some.injEq,Bool.true_eq_false,false_iff]
        rintro ⟨z,hz,hzi⟩
        exact hne z hz hzi
      · rw [Array.getElem?_setIfInBounds_ne (fun e => hji e.symm), hl.left j hj]
        constructor
        · rintro ⟨z, hz, hzj⟩
          refine ⟨z,?_,hzj⟩
          rcases List.mem_append.1 hz with h | h
          · exact List.mem_append_left _ h
          · rcases List.mem_cons.1 h with rfl | h
            · exact absurd (hzj.symm.trans hyi) hji
            · exact List.mem_append_right _ h
        · rintro ⟨z, hz, hzj⟩
          exact ⟨z,hinc z hz,hzj⟩
    · rw [Array.getElem?_setIfInBounds_ne (by omega)]; exact hl.tail j hj hj2
    · have key : listed[k]? = some true := by
        by_cases hji:j=i
        · subst hji
          have:o'=o:=by rw [h3] at ho'; exact (Option.some.inj ho').symm
          rw [this] at hb
          exact YP.1 (h4 k hb)
        · rw [Array.getElem?_setIfInBounds_ne (fun e => hji e.symm)] at hj
          exact hl.closed j hj o' ho' k hb
      by_cases hki:i=k
      · subst hki
        simp [hisz]
      · rw [Array.getElem?_setIfInBounds_ne hki]; exact key
theorem zID {F:Fence} {n:Nat} {P:Program} {Q:Exit→Act→World→Prop} (hreg:zDW all all 0=true) (hcut:∀ i,b≤i→i<all.length→∀ j,j<i→JH all all.length i j=true):∀ (t i:Nat) (listed:Array Bool) (a:Act) (w:World),i+t=all.length→b≤i→listed.size=all.length→(∀ j,j<i→listed[j]? = some true)→(∀ j,i≤j→j<all.length→listed[j]? = some false)→wpOpsIn F n P all.toArray Q (List.range' i t) a w→wpAnyIn F n P .any all.toArray Q t listed a w
  | 0,i,listed,a,w,hi,hb,hsz,h1,h2,h=>by
    refine ⟨?_,by simpa [wpOpsIn] using h⟩
    rw [List.eq_nil_iff_forall_not_mem]
    intro j hj
    obtain ⟨q1,q2,_⟩:=mem_ready.1 hj
    have:=h1 j (by omega)
    rw [YD.1 q2] at this
    cases this
  | t+1,i,listed,a,w,hi,hb,hsz,h1,h2,h=>by
    have hlt:i<all.length:=by omega
    have hlow:∀ j o,all[j]? = some o→∀ k,Binds o k→k<j:=fun j o ho k hk=>by
      have:=(Yn hreg j o ho).1 k hk; omega
    have hme:i∈Region.ready .any all.toArray listed:=mem_ready.2 ⟨hlt,YD.2 (h2 i (Nat.le_refl _) hlt),all[i],List.getElem?_eq_getElem hlt,fun k hk=>YP.2 (h1 k (hlow i _ (List.getElem?_eq_getElem hlt) k hk))⟩
    refine ⟨fun e=>(by rw [e] at hme; cases hme),fun j hj=>?_⟩
    obtain ⟨q1,q2,o,q3,q4⟩:=mem_ready.1 hj
    have hij:j=i:=by
      rcases Nat.lt_trichotomy j i with hlt2 | he | hgt
      · have:=h1 j hlt2; rw [YD.1 q2] at this; cases this
      · exact he
      · have := Yx (all := all) (L := fun j => listed[j]? = some true) (fun j' hj' o' ho' k hk => by
            have hj2:j'<i:=by
              rcases Nat.lt_or_ge j' i with h | h
              · exact h
              · have hl : j' < all.length := (List.getElem?_eq_some_iff.1 ho').1
                have:=h2 j' h hl; rw [hj'] at this; cases this
            exact h1 k (by have:=hlow j' o' ho' k hk; omega)) _ _ _ (hcut j (by omega) q1 i hgt) (fun o' ho' k hk=>by
            have:o'=o:=by rw [q3] at ho'; exact (Option.some.inj ho').symm
            rw [this] at hk
            exact YP.1 (q4 k hk))
        have h5:=h2 i (Nat.le_refl _) hlt
        rw [this] at h5; cases h5
    subst hij
    rw [List.range'_succ,wpOpsIn_cons] at h
    refine wpOpIn_mono (fun a w h=>zID hreg hcut t (j+1) _ a w (by omega) (by omega) (by simpa using hsz) (fun k hk=>?_) (fun k hk hk2=>?_) h) h
    · by_cases e : j = k
      · subst e
        rw [Array.getElem?_setIfInBounds_self_of_lt (by rw [hsz]; exact q1)]
      · rw [Array.getElem?_setIfInBounds_ne e]; exact h1 k (by omega)
    · rw [Array.getElem?_setIfInBounds_ne (by omega)]; exact h2 k (by omega) hk2
theorem zGP : ∀ (t i:Nat),i+t=all.length→zGQ all (List.range' i t)=all.drop i
  | 0,i,h=>by rw [List.drop_eq_nil_of_le (by omega)]; rfl
  | t+1,i,h=>by
    have hlt:i<all.length:=by omega
    rw [List.range'_succ]
    simp only [zGQ,zP,List.getElem?_eq_getElem hlt]
    rw [zGP t (i+1) (by omega),List.drop_eq_getElem_cons hlt]
theorem zOm {l2:List Oper} (hreg:zDW all all 0=true) {os:List Oper} {i nid:Nat} {s s':St} {log:List (Nat×List Nat×List Nat)} {es:List (Eff×Option Yv)} (h:DRun C all os i nid s log es s'):∀ (p:List Oper),all=p++os++l2→p.length=i→∀ lo,lo≤nid →
    ∃ R:List Ent,Seq C all R s s'∧(∀ x,x∈R→i≤x.i∧x.i<i+os.length∧all[x.i]? = some x.o∧lo≤x.nid∧∃ j:Nat,es[j]? = some (x.e,x.d))∧(∀ k,i≤k→k<i+os.length→∃ x,x∈R∧x.i=k)∧R.Pairwise (Ok2 all) ∧
      (∀ x,x∈R→∀ q,q∈log→JH all all.length x.i q.1=true∨((∀ id,id∈q.2.2→id∉x.rd)∧(∀ id,id∈q.2.2→id∉x.wr)∧∀ id,id∈x.wr→id∉q.2.1)):=by
  induction h with
  | nil =>
    intro p hp hi lo _
    refine ⟨[],.nil (Eqv.rfl' _),(fun x hx=>by cases hx),fun k h1 h2=>?_,List.Pairwise.nil,fun x hx=>by cases hx⟩
    simp at h2
    omega
  | @cons o os i nid s s' log e d es hd hlog hrest IH =>
    intro p hp hi lo hlo
    obtain ⟨R,h1,h2,h3,h4,h5⟩:=IH (p++[o]) (by rw [hp]; simp) (by simp [hi]) lo (by cases allocs o.op <;> simp <;> omega)
    have hoi:all[i]? = some o:=by rw [hp,List.append_assoc,List.getElem?_append_right (by omega),hi]; simp
    let x0:Ent:=⟨i,nid,o,e,d⟩
    refine ⟨x0 :: R,.cons hd h1,fun x hx=>?_,fun k hk1 hk2=>?_,List.pairwise_cons.2 ⟨fun x hx=>?_,h4⟩,fun x hx q hq=>?_⟩
    · rcases List.mem_cons.1 hx with rfl | hx
      · exact ⟨Nat.le_refl _,by simp [x0],hoi,hlo,0,rfl⟩
      · obtain ⟨g1, g0, g2, g3, j, g4⟩ := h2 x hx
        exact ⟨by omega,by simp only [List.length_cons]; omega,g2,g3,j+1,by simpa using g4⟩
    · rcases Nat.eq_or_lt_of_le hk1 with rfl | hlt
      · exact ⟨x0,List.mem_cons_self,rfl⟩
      · obtain ⟨x, hx, hxk⟩ := h3 k hlt (by simp only [List.length_cons] at hk2; omega)
        exact ⟨x,List.mem_cons_of_mem _ hx,hxk⟩
    · obtain ⟨g1, g0, g2, g3, _⟩ := h2 x hx
      refine ⟨show i<x.i by omega,?_⟩
      have h6:=h5 x hx (i,rdOf o nid e,Za e.wr) List.mem_cons_self
      have h7:=(Yn hreg x.i x.o g2).2
      rw [Nat.zero_add] at h7
      have h8:=zCE h7 i o hoi (by omega)
      rw [Nat.zero_add] at h8
      rcases h6 with h6 | ⟨h6,h6',h6''⟩
      · exact .inl h6
      · rcases h8 with h8 | ⟨h8, h8', h8''⟩
        · exact .inl h8
        · exact .inr ⟨h6,h6',h6'',h8,h8',h8''⟩
    · rcases List.mem_cons.1 hx with rfl | hx
      · exact zDe hlog q hq
      · exact h5 x hx q (List.mem_cons_of_mem _ hq)
end
theorem GS.zEe {C:Cfg} {N:Nat} {k:List It} {s sn:St} {Q:Ex→St→Prop} {id:Nat} {l1 l2:List Oper} (es:List (Eff×Option Yv)) (hreg:zAI (l1++l2)=true) (hcut:zG7 (l1++l2) l1.length=true) (hrun:DRun C (l1++l2) l1 0 s.H.length { s with H:=s.H++zl (YV l1) } [] es sn)
    (hcalls:∀ (i:Nat) e d,es[i]? = some (e,some d)→GS C d.H.length [.code d.c] (St.call d.fn d.args d.H d.H.length) (fun x s1 => ∃ v,finA C d.fn x s1=some v∧Q5 s1 v e.v)) (h:GS C N (.ops (l1++l2) l2 :: k) sn Q):GS C N (.code (.region id (l1++l2).toArray true) :: k) s Q:=by
  intro hC E I m a w hE hss
  unfold zAI at hreg
  rw [Bool.and_eq_true] at hreg
  have hcut':=zLO hcut
  have hlo:s.lo≤s.H.length:=by rw [hss.lo]; exact Nat.le_trans hss.lole hss.fx.len
  obtain ⟨R,h1,h2,h3,h4,_⟩:=zOm (l2:=l2) hreg.2 hrun [] rfl rfl s.lo hlo
  refine wpIn_region_any hC.mixed ?_
  have hlen:R.length=l1.length:=by
    have hmap:(R.map (·.i)).Pairwise (· < ·):=by
      rw [List.pairwise_map]
      exact h4.imp fun h=>h.1
    have hperm:(R.map (·.i)).Perm (List.range l1.length):=by
      refine (List.perm_ext_iff_of_nodup (hmap.imp fun h=>Nat.ne_of_lt h) List.nodup_range).2 fun x=>?_
      rw [List.mem_map,List.mem_range]
      constructor
      · rintro ⟨y, hy, rfl⟩
        have:=(h2 y hy).2.1; omega
      · intro hx
        obtain ⟨y,hy,h⟩:=h3 x (Nat.zero_le _) (by omega)
        exact ⟨y,hy,h⟩
    have:=hperm.length_eq
    simpa using this
  have hsz:(l1++l2).toArray.size=l1.length+l2.length:=by simp
  have:=zMK (all:=l1++l2) (b:=l1.length) (t:=l2.length) (E:=E) (Q:=SA C.P E.ρ (QA E Q) k) hC (by simp) hcut' (fun listed I m a w q1 q2 q3 hs=>zID hreg.2 hcut' l2.length l1.length listed a w (by simp) (Nat.le_refl _) q1 q2 q3 (by
    rw [zF6,zGP _ _ (by simp),List.drop_left]
    exact h hC E I m a w hE hs)) l1.length R (Array.replicate (l1++l2).toArray.size false) _ I m a _ hlen h1 ⟨by simp,fun i hi=>?_,fun i hi hi2=>?_,fun x hx=>(h2 x hx).2.2.1,fun j hj=>?_,fun x hx i hb=>?_,h4,fun x hx=>by have:=(h2 x hx).2.1; omega⟩ (fun x hx=>⟨(h2 x hx).2.2.2.1,fun d hd=>?_⟩) (hss.room (YV l1))
  · rw [hsz] at this ⊢
    exact this
  · have hi' : i < l1.length + l2.length := by omega
    simp only [hsz,Array.getElem?_replicate,hi',if_true,true_iff]
    exact h3 i (Nat.zero_le _) (by omega)
  · have hi' : i < l1.length + l2.length := by simpa using hi2
    simp only [hsz,Array.getElem?_replicate,hi',if_true]
  · rw [Array.getElem?_replicate] at hj
    split at hj <;> cases hj
  · have := (Yn hreg.2 x.i x.o (h2 x hx).2.2.1).1 i hb
    omega
  · obtain ⟨j, hj⟩ := (h2 x hx).2.2.2.2
    rw [hd] at hj
    exact fun E I m a w hs=>GS.start (s:=St.call d.fn d.args d.H d.H.length) (hcalls j x.e d hj) hC E I m a w hs
namespace X
theorem zEe {C:Cfg} {N:Nat} {k:List It} {s:St} {Q:Ex→St→Prop} {id:Nat} {l:List Oper} (b:Nat) (hb:(l.take b).length=b) (hreg:zAI l=true) (hcut:zG7 l b=true) (h:DW C N (.ops l (l.drop b) :: k) Q l (l.take b) 0 s.H.length { s with H:=s.H++zl (YV (l.take b)) } []):GS C N (.code (.region id l.toArray true) :: k) s Q:=by
  have hl:l.take b++l.drop b=l:=List.take_append_drop b l
  obtain ⟨es,sn,h1,h2,h3⟩:=h
  have h:=GS.zEe (l1:=l.take b) (l2:=l.drop b) (id:=id) (N:=N) (k:=k) (Q:=Q) (s:=s) es (by rw [hl]; exact hreg) (by rw [hl,hb]; exact hcut) (by rw [hl]; exact h1) (fun i e d hd=>h2 e d (List.mem_of_getElem? hd)) (by rw [hl]; exact h3)
  rw [hl] at h
  exact h
end X
end Go.Am
namespace Go.Am
open Go Go.Wk Go.RowKit Go.Mx
namespace X
theorem zCS {C:Cfg} {k:List It} {K:List (Nat×V)} {H:List Blk} {lo n id es:Nat} {rnd:Option Nat} {Q:Ex→St→Prop} {α:Type} {z:Bool} {f:α→V} {l:List α} (d:Nat) (hd:kget K d=some (ovlz z id l)) (hg:hget H id=oblz z es f l) (hid:Nat.blt id H.length=true) (hlo:Nat.ble lo id=true) (hsh:∀ x,shut 9 (f x)=true)
    (h:GS C 0 k ⟨(d,.sl (l.map f)) :: K,hput H id .dead,lo,rnd,n⟩ Q):GS C 0 k ⟨K,H,lo,rnd,n⟩ Q:=by
  rcases Ju z id es f l with ⟨rfl,rfl⟩ | ⟨e1,e2⟩
  · have e : hput H id .dead = H := qL (by rw [hg]; rfl) hid
    rw [e] at h
    intro hC E I m a w hE hs
    refine h hC E I m a w hE { hs with slots:=fun t v hv=>?_,sim:=hs.sim,n:=hs.n,lo:=hs.lo,rnd:=hs.rnd,fx:=hs.fx,dfr:=hs.dfr }
    simp only [kget] at hv
    by_cases ed:d=t
    · subst ed
      simp only [Nat.beq_refl,cond_true,Option.some.injEq] at hv
      subst hv
      obtain ⟨u,h1,h2⟩:=hs.slots d _ hd
      refine ⟨u,h1,?_⟩
      have h3:u=Value.slice none 0 0:=h2.lit
      subst h3
      unfold Rep
      exact ⟨none,0,0,rfl,Nat.le_refl _,fun h=>absurd rfl h⟩
    · rw [zAk ed] at hv
      exact hs.slots t v hv
  · rw [e1] at hd
    rw [e2] at hg
    have hl:l.length=(l.map f).length:=(List.length_map ..).symm
    have ht:(l.map f).take l.length=l.map f:=by rw [hl,List.take_length]
    have h2:=GS.freeze (C:=C) (k:=k) (K:=K) (d:=d) (len:=l.length) (rnd:=rnd) (n:=n) (Q:=Q) hg (Nat.le_of_ble_eq_true hlo) (by rw [← hl]; exact Nat.le_refl _) (by rw [ht]; intro v hv; obtain ⟨x,_,rfl⟩:=List.mem_map.1 hv; exact hsh x) (by rw [ht]; exact h)
    refine GS.drop ((d,.osl id 0 l.length) :: K) (fun t v hv=>?_) h2
    simp only [kget] at hv
    by_cases ed:d=t
    · subst ed
      simp only [Nat.beq_refl,cond_true,Option.some.injEq] at hv
      subst hv
      exact hd
    · rw [zAk ed] at hv
      exact hv
end X
end Go.Am
namespace Go.Am.X
open Go Go.Am
theorem joinO {C:Cfg} {N:Nat} {k:List It} {s:St} {Q:Ex→St→Prop} {all os:List Oper} {o:Oper} {τ:Type} (R:τ→Prop) (S:τ→St) (h1:∀ v,R v→GS C N (.ops all os :: k) (S v) Q) (h2:(∀ v,R v→GS C N (.ops all os :: k) (S v) Q)→GS C N (.ops all (o :: os) :: k) s Q):GS C N (.ops all (o :: os) :: k) s Q:=h2 h1
end Go.Am.X
namespace Go.Am
open Go Go.Wk Go.RowKit Go.Mx
theorem GS.bldF {C:Cfg} {N:Nat} {k:List It} {K:List (Nat×V)} {H:List Blk} {lo n d t nn es len:Nat} {rnd:Option Nat} {Q:Ex→St→Prop} {all os:List Oper} {ty:TypeId} {pos:String} {after:Array Edge} {g:Option (Nat×Bool)} {ps:Array (Nat×Operand)} {l:List V} {rd:List Nat} (hw:wants all K g=some true) (he:zM C K H lo H.length (.buildSlice t nn ps)=some ⟨.osl H.length 0 len,[(H.length,.rows es l)],rd⟩) (hsh:l.all (shut 9)=true) (hd:Nat.blt d n=true)
    (h:GS C N (.ops all os :: k) ⟨(d,.sl l) :: K,H,lo,rnd,n⟩ Q):GS C N (.ops all (⟨some d,.buildSlice t nn ps,ty,pos,after,g⟩ :: os) :: k) ⟨K,H,lo,rnd,n⟩ Q:=by
  intro hC E I m a w hE hs
  obtain ⟨u,w',m',h1,h2,h3⟩:=zKO (dst:=some d) (ty:=ty) (pos:=pos) (after:=after) (g:=g) hC hs he hsh
  refine zBO (zb hs.slots hw) (zBP (C:=C) (K:=K) (H:=H) (lo:=lo) (nid:=H.length) he) h1 (.inl rfl) ?_
  have h4:GS C N (.ops all os :: k) (St.put ⟨K,H,lo,rnd,n⟩ (some d) (.sl l)) Q:=X.front rfl hd h rfl
  exact h4 hC E I m' _ w' hE (h2.put h3)
namespace X
theorem dbld {C:Cfg} {N:Nat} {k:List It} {K:List (Nat×V)} {H:List Blk} {lo n d t nn es i nid:Nat} {rnd:Option Nat} {Q:Ex→St→Prop} {all os:List Oper} {ty:TypeId} {pos:String} {after:Array Edge} {g:Option (Nat×Bool)} {ps:Array (Nat×Operand)} {l:List V} {len:Nat} {log:List (Nat×List Nat×List Nat)} (hw:wants all K g=some true) (he:zM C K H lo nid (.buildSlice t nn ps)=some ⟨.osl nid 0 len,[(nid,.rows es l)],[nid]⟩) (hlen:len=l.length) (ha:zFJ (get H nid)=true) (hsh:l.all (shut 9)=true) (hl:yA all i [nid,nid] [] log=true) (hd:Nat.blt d n=true)
    (h:DW C N k Q all os (i+1) (nid+1) ⟨(d,.sl l) :: K,H,lo,rnd,n⟩ ((i,[nid,nid],[]) :: log)):DW C N k Q all (⟨some d,.buildSlice t nn ps,ty,pos,after,g⟩ :: os) i nid ⟨K,H,lo,rnd,n⟩ log:=by
  subst hlen
  have hfree:get H nid=some .free:=zL1 (p:=.buildSlice t nn ps) (by simpa [allocs] using ha) rfl
  exact dstep (d:=⟨.sl l,[],[nid]⟩) (.bld hw rfl he hfree hsh) hl (DW.eqv (JA hd rfl) h)
end X
end Go.Am
