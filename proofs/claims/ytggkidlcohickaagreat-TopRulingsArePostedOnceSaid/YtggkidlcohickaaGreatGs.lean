/- The judgement as a meaning: blocks may be renumbered or forgotten anywhere; rules for it. Conditions: none. -/
import Derived.Test.YtggkidlcohickaaGreatRun
set_option linter.unusedVariables false
set_option linter.unusedSimpArgs false
namespace Go.Am
open Go Go.Wk Go.RowKit
structure EOK (E:Env) (N:Nat):Prop where
 len:E.H0.length≤N
 dom:∀ id f,E.I0 id=some f→id<N
def GS (C:Cfg) (N:Nat) (k:List It) (s:St) (Q:Ex→St→Prop):Prop :=
 C.OK→∀ (E:Env) (I:Ij) (m:Mem) (a:Act) (w:World),EOK E N→SS E s I m a w→SA C.P E.ρ (QA E Q) k .normal a w
theorem zH6 {E:Env} {s:St} {I:Ij} {m:Mem} {a:Act} {w:World} (hs:SS E s I m a w):EOK E s.H.length :=
 ⟨hs.fx.len,fun id f h=>by
  have h2:=hs.fx.ij id f h
  rcases Nat.lt_or_ge id s.H.length with h3 | h3
  ·exact h3
  ·rw [hs.sim.free id (.inl (ja.2 h3))] at h2; cases h2⟩
theorem GS.start {C:Cfg} {k:List It} {s:St} {Q:Ex→St→Prop} (h:GS C s.H.length k s Q) (hC:C.OK):∀ (E:Env) (I:Ij) (m:Mem) (a:Act) (w:World),SS E s I m a w→SA C.P E.ρ (QA E Q) k .normal a w :=
 fun E I m a w hs=>h hC E I m a w (zH6 hs) hs
theorem GS.of {C:Cfg} {N:Nat} {k:List It} {s:St} {Q:Ex→St→Prop} (h:Gm C k s Q):GS C N k s Q:=fun hC E I m a w _ hs=>zOS hC h E I m a w hs
theorem zV {C:Cfg} (hC:C.OK) {f:Nat} {args:List V} {v:V} {c:Code} {fn:Func} (hb:jM C f args.length=some (c,fn)) (h:GS C 0 [.code c] (St.call fn args [] 0) (Told C fn v)):Ct C.P f args v:=by
 refine ⟨fun m w us hm hr=>?_,(jE hC hb).2.2.2⟩
 have h2:=YG (H':=[]) (lo':=0) (w:=w) hC hb rfl (GS.start (s:=St.call fn args [] 0) h hC) (fun e s1 ⟨v,h,_⟩=>⟨v,h⟩) (Sim.nil _ w hm) (Nat.zero_le _) hr
 refine h2.mono ?_
 rintro e w' ⟨u,rfl,ex,s1,v1,I1,m1,⟨v2,q1,q2⟩,h3,h4,h5,h6,h7,h8,h9⟩
 rw [h3] at q1
 cases q1
 have hnl:∀ id,0≤id→¬ Live ([]:List Blk) id:=fun id _ ⟨B,hB,_⟩=>by simp [Am.get] at hB
 obtain ⟨m',z1,z2,z3,z4⟩:=zLF (H0:=[]) h9 hnl h6 h5 h8 q2 h4
 refine ⟨u,m',rfl,⟨⟨h6.st.os,h6.st.tape,h6.st.output,h6.st.size,fun k hk=>h6.same k hk fun id f h hl=>absurd hl (hnl id h)⟩,h6.st.drawn⟩,fun k o hk=>z1 k o (h7 k o hk),z2,z3,z4⟩
def rx (N:Nat) (keep:List (Option Nat)) (id:Nat):Option Nat:=cond (Nat.blt id N) (some id) (match get keep (id - N) with
 | some (some j)=>some j
 | _=>none)
def rn (N:Nat) (keep:List (Option Nat)):Nat→V→Option V
 | 0,_=>none
 | n+1,v=>match v with
  | .lit w=>some (.lit w)
  | .agg l=>(mapO (rn N keep n) l).map .agg
  | .tup l=>(mapO (rn N keep n) l).map .tup
  | .fn f l=>(mapO (rn N keep n) l).map (.fn f)
  | .ptr id i off=>(rx N keep id).map fun j=>.ptr j i off
  | .osl id off len=>(rx N keep id).map fun j=>.osl j off len
  | .map id=>(rx N keep id).map .map
  | .yld id=>(rx N keep id).map .yld
  | .omap _ _ _=>none
  | v=>some v
def rnB (N:Nat) (keep:List (Option Nat)) (n:Nat):Blk→Option Blk
 | .dead=>some .dead
 | .rows es l=>(mapO (rn N keep n) l).map (.rows es)
 | .map ks vs=>match mapO (rn N keep n) ks,mapO (rn N keep n) vs with
  | some a,some b=>some (.map a b)
  | _,_=>none
 | .iter ks vs left last=>some (.iter ks vs left last)
 | _=>none
def RB (N:Nat) (keep:List (Option Nat)) (B B1:Blk):Prop:=(∃ n,rnB N keep n B=some B1)∨∃ r,B = .loop r∧B1 = .loop r∧∀ t v,kget r.K t=some v→∃ n,rn N keep n v=some v
structure GcOK (N:Nat) (s1:St) (keep:List (Option Nat)) (K:List (Nat×V)) (H:List Blk):Prop where
 new:∀ i j,get keep i=some (some j)→N≤j∧j<s1.H.length
 inj:∀ i i' j,get keep i=some (some j)→get keep i'=some (some j)→i=i'
 len:H.length=N+keep.length
 slots:∀ t v,kget K t=some v→∃ n v1 v0,rn N keep n v=some v1∧kget s1.K t=some v0∧(v0=v1∨∃ n',frz [] 0 n' v0=some v1)
 blocks:∀ id B,get H id=some B→B.live=true→∃ j,rx N keep id=some j∧RB N keep B (hget s1.H j)
 low:∀ id,id<s1.lo→get H id=get s1.H id
 nofree:∀ id,get H id≠some .free
section
variable {m:Mem} {I I2:Ij} {N:Nat} {keep:List (Option Nat)}
theorem zAq (hI:∀ id j,rx N keep id=some j→I2 id=I j):∀ (n:Nat) (v v1:V) (u:Value),rn N keep n v=some v1→Rep m v1 I u→Rep m v I2 u:=by
 intro n
 induction n with
 | zero=>intro v v1 u h _; cases h
 | succ n ih =>
  intro v v1 u h hr
  cases v with
  | lit w=>simp only [rn,Option.some.injEq] at h; subst h; unfold Rep at hr ⊢; exact hr
  | agg l =>
   simp only [rn,Option.map_eq_some_iff] at h
   obtain ⟨l1,h1,rfl⟩:=h
   unfold Rep at hr ⊢
   obtain ⟨us,h2,h3,h4⟩:=hr
   exact ⟨us,h2,h3,RepL.back ih h1 h4⟩
  | tup l =>
   simp only [rn,Option.map_eq_some_iff] at h
   obtain ⟨l1,h1,rfl⟩:=h
   unfold Rep at hr ⊢
   obtain ⟨us,h2,h4⟩:=hr
   exact ⟨us,h2,RepL.back ih h1 h4⟩
  | fn f l =>
   simp only [rn,Option.map_eq_some_iff] at h
   obtain ⟨l1,h1,rfl⟩:=h
   unfold Rep at hr ⊢
   obtain ⟨us,h2,h4⟩:=hr
   exact ⟨us,h2,RepL.back ih h1 h4⟩
  | ptr id i off =>
   simp only [rn,Option.map_eq_some_iff] at h
   obtain ⟨j,h1,rfl⟩:=h
   unfold Rep at hr ⊢
   rw [hI id j h1]; exact hr
  | osl id off len =>
   simp only [rn,Option.map_eq_some_iff] at h
   obtain ⟨j,h1,rfl⟩:=h
   unfold Rep at hr ⊢
   rw [hI id j h1]; exact hr
  | map id =>
   simp only [rn,Option.map_eq_some_iff] at h
   obtain ⟨j,h1,rfl⟩:=h
   unfold Rep at hr ⊢
   rw [hI id j h1]; exact hr
  | yld id =>
   simp only [rn,Option.map_eq_some_iff] at h
   obtain ⟨j,h1,rfl⟩:=h
   unfold Rep at hr ⊢
   rw [hI id j h1]; exact hr
  | fptr a b c=>simp only [rn,Option.some.injEq] at h; subst h; unfold Rep at hr ⊢; exact hr
  | sl a=>simp only [rn,Option.some.injEq] at h; subst h; unfold Rep at hr ⊢; exact hr
  | uns=>simp only [rn,Option.some.injEq] at h; subst h; unfold Rep at hr ⊢; exact hr
  | fmap a b=>simp only [rn,Option.some.injEq] at h; subst h; unfold Rep at hr ⊢; exact hr
  | omap a b c=>simp [rn] at h
def gcI (I:Ij) (N:Nat) (keep:List (Option Nat)):Ij:=fun id=>match rx N keep id with
 | some j=>I j
 | none=>none
theorem zAZ {id:Nat} (h:id<N):rx N keep id=some id:=by unfold rx; rw [show Nat.blt id N=true from by simpa [Nat.blt_eq] using h]; rfl
theorem qR {id j:Nat} (h:rx N keep id=some j) (hn : ¬ id<N):get keep (id - N)=some (some j):=by
 unfold rx at h
 rw [show Nat.blt id N=false from Bool.eq_false_iff.2 fun hb=>hn (by simpa [Nat.blt_eq] using hb)] at h
 simp only [cond_false] at h
 split at h
 ·rename_i j' hg; simp only [Option.some.injEq] at h; subst h; exact hg
 ·cases h
theorem zOy {w:World} {f:Inf} {n:Nat} {B B1:Blk} (hI:∀ id j,rx N keep id=some j→I2 id=I j) (h:rnB N keep n B=some B1) (hb:jb I m w f B1):jb I2 m w f B∧B1.live=B.live:=by
 cases B with
 | dead=>exact ⟨trivial,by simp only [rnB,Option.some.injEq] at h; subst h; rfl⟩
 | free=>cases h
 | loop r=>cases h
 | iter ks vs left last=>simp only [rnB,Option.some.injEq] at h; subst h; exact ⟨hb,rfl⟩
 | oiter ks vs left last=>cases h
 | rows es l =>
  simp only [rnB,Option.map_eq_some_iff] at h
  obtain ⟨l1,h1,rfl⟩:=h
  obtain ⟨h0,c,ty,q1,q2,q3,q4,q5,q6⟩:=hb
  obtain ⟨g1,g2⟩:=zGe h1
  refine ⟨⟨h0,c,ty,q1,q2,by omega,q4,q5,fun i v hv=>?_⟩,rfl⟩
  obtain ⟨v1,g3,g4⟩:=g2 i v hv
  obtain ⟨u,g5,g6⟩:=q6 i v1 g4
  exact ⟨u,zAq hI _ _ _ _ g3 g5,g6⟩
 | map ks vs =>
  simp only [rnB] at h
  split at h
  ·rename_i a b ha hb'
   simp only [Option.some.injEq] at h
   subst h
   obtain ⟨es,cl,q1,es',q2,q3,q4,q5,q6⟩:=hb
   exact ⟨⟨es,cl,q1,es',q2,q3,RepL.back (zAq hI _) ha q4,RepL.back (zAq hI _) hb' q5,q6⟩,rfl⟩
  ·cases h
theorem blk_rb {w:World} {f:Inf} {B B1:Blk} (hI:∀ id j,rx N keep id=some j→I2 id=I j) (h:RB N keep B B1) (hb:jb I m w f B1):jb I2 m w f B∧B1.live=B.live:=by
 rcases h with ⟨n,h⟩ | ⟨r,rfl,rfl,h⟩
 ·exact zOy hI h hb
 ·obtain ⟨L,q1,q2,q3,q4,q5⟩:=hb
  refine ⟨⟨L,q1,q2,q3,fun t v hv=>?_,q5⟩,rfl⟩
  obtain ⟨u,g1,g2⟩:=q4 t v hv
  obtain ⟨n,hn⟩:=h t v hv
  exact ⟨u,g1,zAq hI n v v u hn g2⟩
theorem rb_live {B B1:Blk} (h:RB N keep B B1) (hl:B.live=true):B1.live=true:=by
 rcases h with ⟨n,g2⟩ | ⟨r,rfl,rfl,_⟩
 ·cases hq:B1 <;> rw [hq] at g2 <;> first | rfl | (cases B <;> simp [rnB] at g2 <;> first | (cases hl; done) | skip)
  all_goals (first | (split at g2 <;> cases g2) | skip)
 ·rfl
theorem frz_nil {H:List Blk} {w:World} (hs:Sim I m H w) {n:Nat} {v v':V} {u:Value} (h:frz [] 0 n v=some v') (hr:Rep m v I u):Rep m v' I u:=by
 have h1:ZB H false [v] [v']:=.cons (.nil h) .nil
 have h2:=J2 hs h1 (us:=[u]) (by unfold RepL; exact ⟨u,[],rfl,hr,by unfold RepL; rfl⟩)
 unfold RepL at h2
 obtain ⟨u',us',e,h3,h4⟩:=h2
 simp only [List.cons.injEq] at e
 obtain ⟨rfl,_⟩:=e
 exact Rep.mono (fun _ _ h=>h) _ (Ij.Qg I) (by simpa using h3)
theorem gc_ss {E:Env} {s1:St} {I1:Ij} {m1:Mem} {a1:Act} {w1:World} {K:List (Nat×V)} {H:List Blk} (hE:EOK E N) (h1:SS E s1 I1 m1 a1 w1) (hc:GcOK N s1 keep K H):SS E ⟨K,H,s1.lo,s1.rnd,s1.n⟩ (gcI I1 N keep) m1 a1 w1:=by
 have hI:∀ id j,rx N keep id=some j→gcI I1 N keep id=I1 j:=fun id j h=>by unfold gcI; rw [h]
 have hN:E.H0.length≤N:=hE.len
 have hlo:s1.lo≤N:=by rw [h1.lo]; exact Nat.le_trans h1.lole hN
 have hold:∀ id B,Am.get H id=some B→B.live=true→∃ j f,rx N keep id=some j∧Live s1.H j∧I1 j=some f∧jb (gcI I1 N keep) m1 w1 f B:=by
  intro id B hB hl
  obtain ⟨j,g1,g2⟩:=hc.blocks id B hB hl
  have hlive:(hget s1.H j).live=true:=rb_live g2 hl
  have hg:=JN (B:=hget s1.H j) rfl hlive
  obtain ⟨f,q1,q2⟩:=h1.sim.blk j _ hg hlive
  exact ⟨j,f,g1,⟨_,hg,hlive⟩,q1,(blk_rb hI g2 q2).1⟩
 have hlow:∀ id,id<N→gcI I1 N keep id=I1 id:=fun id h=>hI id id (zAZ h)
 have hsim:Sim (gcI I1 N keep) m1 H w1:=⟨h1.sim.sub,fun id B hB hl=>by
   obtain ⟨j,f,g1,_,g3,g4⟩:=hold id B hB hl
   exact ⟨f,(hI id j g1).trans g3,g4⟩,fun id hid=>by
   rcases hid with hid | hid
   ·have:=ja.1 hid
    rw [hc.len] at this
    unfold gcI
    cases hr:rx N keep id with
    | none=>rfl
    | some j =>
     have hg:=qR hr (by omega)
     have:=jm hg
     omega
   ·exact absurd hid (hc.nofree id),fun id f ⟨B,hB,hl⟩ hf=>by
   obtain ⟨j,f',g1,g2,g3,_⟩:=hold id B hB hl
   rw [hI id j g1] at hf
   exact h1.sim.off j f g2 hf,fun i j f g ⟨B,hB,hl⟩ ⟨B',hB',hl'⟩ hf hg he=>by
   obtain ⟨i',_,g1,g2,_,_⟩:=hold i B hB hl
   obtain ⟨j',_,k1,k2,_,_⟩:=hold j B' hB' hl'
   rw [hI i i' g1] at hf
   rw [hI j j' k1] at hg
   have hij:=h1.sim.inj i' j' f g g2 k2 hf hg he
   subst hij
   by_cases c1:i<N
   ·rw [zAZ c1] at g1
    cases g1
    by_cases c2:j<N
    ·rw [zAZ c2] at k1; cases k1; rfl
    ·have:=(hc.new _ _ (qR k1 c2)).1; omega
   ·by_cases c2:j<N
    ·rw [zAZ c2] at k1
     cases k1
     have:=(hc.new _ _ (qR g1 c1)).1; omega
    ·have e1:=qR g1 c1
     have e2:=qR k1 c2
     have:=hc.inj _ _ _ e1 e2
     omega⟩
 have hI0:∀ id f,E.I0 id=some f→id<N:=hE.dom
 refine { sim:=hsim,slots:=fun t v hv=>?_,size:=h1.size,n:=h1.n,lo:=h1.lo,rnd:=h1.rnd,fx := ?_,mem:=h1.mem,fresh:=h1.fresh,lole:=h1.lole,dfr := ?_,rok:=h1.rok }
 ·obtain ⟨n,v1,v0,g1,g2,g5⟩:=hc.slots t v hv
  obtain ⟨u,g3,g4⟩:=h1.slots t v0 g2
  refine ⟨u,g3,zAq hI n v v1 u g1 ?_⟩
  rcases g5 with rfl | ⟨n',g6⟩
  ·exact g4
  ·exact frz_nil h1.sim g6 g4
 ·refine ⟨h1.fx.st,h1.fx.same,fun id f h=>?_,fun id f h2 ⟨B,hB,hl⟩ h4=>?_,fun id hid=>?_,by rw [hc.len]; omega⟩
  ·rw [hlow id (hI0 id f h)]; exact h1.fx.ij id f h
  ·obtain ⟨j,f',g1,g2,g3,_⟩:=hold id B hB hl
   rw [hI id j g1] at h4
   refine h1.fx.own j f ?_ g2 h4
   by_cases c1:id<N
   ·rw [zAZ c1] at g1; cases g1; exact h2
   ·have:=(hc.new _ _ (qR g1 c1)).1
    rw [← h1.lo]; omega
  ·rw [hc.low id (by rw [h1.lo]; exact hid)]; exact h1.fx.low id hid
 ·obtain ⟨ds,g1,g2,g3,g4⟩:=h1.dfr
  refine ⟨ds,g1,g2,fun D hD=>?_,g4⟩
  obtain ⟨k1,k2,k3,k4⟩:=g3 D hD
  refine ⟨k1,k2,k3,fun id f ⟨B,hB,hl⟩ hf=>?_⟩
  obtain ⟨j,f',q1,q2,q3,_⟩:=hold id B hB hl
  rw [hI id j q1] at hf
  exact k4 j f q2 hf
theorem GS.gc {C:Cfg} {k:List It} {s:St} {Q:Ex→St→Prop} {K:List (Nat×V)} {H:List Blk} (hc:GcOK N s keep K H) (h:GS C N k ⟨K,H,s.lo,s.rnd,s.n⟩ Q):GS C N k s Q :=
 fun hC E I m a w hE hs=>h hC E _ m a w hE (gc_ss hE hs hc)
end
section
variable {F:Fence} {nn:Nat} {P:Program} {Q:Exit→Act→World→Prop} {a:Act} {w:World}
end
namespace GS
section
variable {C:Cfg} {N:Nat} {k:List It} {s:St} {Q:Ex→St→Prop} {all os:List Oper} {o:Oper}
theorem nil (h:Q .normal s):GS C N [] s Q:=fun hC E I m a w _ hs=>⟨_,I,m,h,hs⟩
theorem drop (K:List (Nat×V)) (hK:∀ t v,kget K t=some v→kget s.K t=some v) (h:GS C N k { s with K:=K } Q):GS C N k s Q :=
 fun hC E I m a w hE hs=>h hC E I m a w hE { hs with slots:=fun t v hv=>hs.slots t v (hK t v hv),sim:=hs.sim,n:=hs.n,lo:=hs.lo,rnd:=hs.rnd,fx:=hs.fx,dfr:=hs.dfr }
theorem skip (h:GS C N k s Q):GS C N (.code .skip :: k) s Q:=fun hC E I m a w hE hs=>wpIn_skip (h hC E I m a w hE hs)
theorem label {l:Nat} (h:GS C N k s Q):GS C N (.code (.label l) :: k) s Q:=fun hC E I m a w hE hs=>wpIn_label (h hC E I m a w hE hs)
theorem seq {x y:Code} (h:GS C N (.code x :: .code y :: k) s Q):GS C N (.code (.seq x y) :: k) s Q:=fun hC E I m a w hE hs=>wpIn_seq (h hC E I m a w hE hs)
theorem zCZ {c:Operand} {x y:Code} (hc:kev s.K c=some (.b true)) (h:GS C N (.code x :: k) s Q):GS C N (.code (.cond c x y) :: k) s Q:=fun hC E I m a w hE hs=>wpIn_cond_true (ZA hs.slots hc).lit (h hC E I m a w hE hs)
theorem zCa {c:Operand} {x y:Code} (hc:kev s.K c=some (.b false)) (h:GS C N (.code y :: k) s Q):GS C N (.code (.cond c x y) :: k) s Q:=fun hC E I m a w hE hs=>wpIn_cond_false (ZA hs.slots hc).lit (h hC E I m a w hE hs)
theorem block {id:Nat} {c:Code} (h:GS C N (.code c :: .endB id :: k) s Q):GS C N (.code (.block id c) :: k) s Q:=fun hC E I m a w hE hs=>wpIn_block (h hC E I m a w hE hs)
theorem endB {id:Nat} (h:GS C N k s Q):GS C N (.endB id :: k) s Q:=fun hC E I m a w hE hs=>h hC E I m a w hE hs
theorem loop {c:Code} (h:GS C N (.code c :: .inLoop c :: k) s Q):GS C N (.code (.loop c) :: k) s Q:=fun hC E I m a w hE hs=>zDu (h hC E I m a w hE hs)
theorem inLoop {c:Code} (h:GS C N (.code c :: .inLoop c :: k) s Q):GS C N (.inLoop c :: k) s Q:=fun hC E I m a w hE hs=>zGl (h hC E I m a w hE hs)
theorem exit {id:Nat} {k':List It} (hp:YU id k=some k') (h:GS C N k' s Q):GS C N (.code (.exit id) :: k) s Q:=fun hC E I m a w hE hs=>wpIn_exit (by rw [Qj,hp]; exact h hC E I m a w hE hs)
theorem zF3 {id:Nat} (hp:YU id k=none) (h:Q (.exit id) s):GS C N (.code (.exit id) :: k) s Q:=fun hC E I m a w hE hs=>wpIn_exit (by rw [Qj,hp]; exact ⟨_,I,m,h,hs⟩)
theorem ret (h:Q .ret s):GS C N (.code .ret :: k) s Q:=fun hC E I m a w hE hs=>wpIn_ret (by rw [zCc]; exact ⟨_,I,m,h,hs⟩)
theorem region' {id:Nat} {ops:Array Oper} (h:GS C N (.ops ops.toList ops.toList :: k) s Q):GS C N (.code (.region id ops false) :: k) s Q:=fun hC E I m a w hE hs=>wpIn_region_list (by have:=h hC E I m a w hE hs; simpa only [SA,Exit.then] using this)
theorem region {id:Nat} {l:List Oper} (h:GS C N (.ops l l :: k) s Q):GS C N (.code (.region id l.toArray false) :: k) s Q:=region' (by simpa using h)
theorem za (h:GS C N k s Q):GS C N (.ops all [] :: k) s Q:=fun hC E I m a w hE hs=>h hC E I m a w hE hs
theorem zGT (hw:wants all s.K o.guard=some false) (h:GS C N (.ops all os :: k) (s.put o.dst jA) Q):GS C N (.ops all (o :: os) :: k) s Q:=fun hC E I m a w hE hs=>zJV (zb hs.slots hw) (h hC E I m _ w hE (hs.put Rep.undef))
theorem op {e:Eff} (hw:wants all s.K o.guard=some true) (he:zM C s.K s.H s.lo s.H.length o.op=some e) (h:GS C N (.ops all os :: k) (s.eff o.dst e) Q):GS C N (.ops all (o :: os) :: k) s Q :=
 fun hC E I m a w hE hs=>zLg hC hs hw he fun I' a' w' hs' => h hC E I' m a' w' hE hs'
theorem ext {f:Nat} {args args':List V} {v:V} {fl:Bool} (hw:wants all s.K o.guard=some true) (hc:callee s.K o.op=some (.fn f args)) (hca:ZB s.H fl args args') (hX:C.X f args' v) (hfl:fl=true→∃ n,flat n v=true) (h:GS C N (.ops all os :: k) (s.put o.dst v) Q):GS C N (.ops all (o :: os) :: k) s Q:=by
 intro hC E I m a w hE hs
 obtain ⟨h1,us,h2,h3⟩:=Z9 hs.slots hc
 refine Jl (zb hs.slots hw) h1 ((h3 w).trans ((hC.X _ _ _ hX).2 _ w)) ((zEX hC hs hca h2 hX hfl).mono ?_)
 rintro e w' ⟨u,rfl,m',hv,hs'⟩
 exact ⟨u,rfl,h hC E I m' _ w' hE (hs'.put hv)⟩
theorem extO {f:Nat} {args args':List V} {v:V} (hw:wants all s.K o.guard=some true) (hc:callee s.K o.op=some (.fn f args)) (hca:ZB s.H true args args') (hX:FrC C.P f args' v) (h:GS C N (.ops all os :: k) (s.put o.dst v) Q):GS C N (.ops all (o :: os) :: k) s Q:=by
 intro hC E I m a w hE hs
 obtain ⟨h1,us,h2,h3⟩:=Z9 hs.slots hc
 refine Jl (zb hs.slots hw) h1 ((h3 w).trans (hX.2 _ w)) ((zL2 hs hca h2 hX).mono ?_)
 rintro e w' ⟨u,rfl,m',hv,hs'⟩
 exact ⟨u,rfl,h hC E I m' _ w' hE (hs'.put hv)⟩
theorem im {f:Nat} {args:List V} {c:Code} {fn:Func} (T:V→List Blk→Prop) (hw:wants all s.K o.guard=some true) (hc:callee s.K o.op=some (.fn f args)) (hb:jM C f args.length=some (c,fn))
  (h1:GS C s.H.length [.code c] (St.call fn args s.H s.lo) (fun e s1 => ∃ v,finA C fn e s1=some v∧T v s1.H)) (h2:∀ v H,T v H→GS C N (.ops all os :: k) (St.put { s with H:=H } o.dst v) Q):GS C N (.ops all (o :: os) :: k) s Q:=by
 intro hC E I m a w hE hs
 obtain ⟨q1,us,q2,q3⟩:=Z9 hs.slots hc
 refine Jl (zb hs.slots hw) q1 ((q3 w).trans ((jE hC hb).2.2.2 _ w)) ((zLu hC hs hb rfl q2 (GS.start (s:=St.call fn args s.H s.lo) h1 hC)).mono ?_)
 rintro e w' ⟨u,rfl,v,H',I',m',hT,hv,hs'⟩
 exact ⟨u,rfl,h2 v H' hT hC E I' m' _ w' hE (hs'.put hv)⟩
theorem clo {f:Nat} {args args':List V} {fl:Bool} {c:Code} {fn:Func} (T:V→Prop) (hw:wants all s.K o.guard=some true) (hc:callee s.K o.op=some (.fn f args)) (hb:jM C f args.length=some (c,fn)) (hca:ZB s.H fl args args')
  (h1:GS C 0 [.code c] (St.call fn args' [] 0) (fun e s1 => ∃ v v',finA C fn e s1=some v∧Q5 s1 v v'∧(fl=true→∃ n,flat n v'=true)∧T v')) (h2:∀ v',T v'→GS C N (.ops all os :: k) (s.put o.dst v') Q):GS C N (.ops all (o :: os) :: k) s Q:=by
 intro hC E I m a w hE hs
 obtain ⟨q1,us,q2,q3⟩:=Z9 hs.slots hc
 refine Jl (zb hs.slots hw) q1 ((q3 w).trans ((jE hC hb).2.2.2 _ w)) ((zG8 hC hs hb rfl hca q2 (GS.start (s:=St.call fn args' [] 0) h1 hC)).mono ?_)
 rintro e w' ⟨u,rfl,v',m',hT,hv,hs'⟩
 exact ⟨u,rfl,h2 v' hT hC E I m' _ w' hE (hs'.put hv)⟩
theorem next {x:Operand} {id:Nat} {ks vs:List V} {left:List Nat} {last:Option Nat} (hop:o.op = .next x false) (hw:wants all s.K o.guard=some true) (hx:kev s.K x=some (.ptr id 0 0)) (hg:hget s.H id = .iter ks vs left last) (hlo:s.lo≤id)
  (h1:left=[]→GS C N (.ops all os :: k) (s.put o.dst (.tup [.b false])) Q) (h2:∀ j kv vv,j∈left→get ks j=some kv→get vs j=some vv→GS C N (.ops all os :: k) (St.put { s with H:=hput s.H id (.iter ks vs (left.filter (·≠j)) (some j)) } o.dst (.tup [.b true,kv,vv])) Q):GS C N (.ops all (o :: os) :: k) s Q :=
 fun hC E I m a w hE hs=>zHr hC hs hop hw hx hg hlo (fun h I m a w hs=>h1 h hC E I m a w hE hs) (fun j kv vv q1 q2 q3 I m a w hs=>h2 j kv vv q1 q2 q3 hC E I m a w hE hs)
theorem entry {x:Operand} {id:Nat} {ks vs:List V} {left:List Nat} {j:Nat} {kv vv:V} (hop:o.op = .entry x) (hw:wants all s.K o.guard=some true) (hx:kev s.K x=some (.ptr id 0 0)) (hg:hget s.H id = .iter ks vs left (some j)) (hk:get ks j=some kv) (hv:get vs j=some vv)
  (h:GS C N (.ops all os :: k) (s.put o.dst (.tup [kv,vv])) Q):GS C N (.ops all (o :: os) :: k) s Q :=
 fun hC E I m a w hE hs=>zLL hC hs hop hw hx hg hk hv (fun I m a w hs=>h hC E I m a w hE hs)
theorem zN2 {x:Operand} {id:Nat} {ks vs:List V} {left:List Nat} {last:Option Nat} (hop:o.op = .next x false) (hw:wants all s.K o.guard=some true) (hx:kev s.K x=some (.ptr id 0 0)) (hg:hget s.H id = .oiter ks vs left last) (hlo:s.lo≤id)
  (h1:left=[]→GS C N (.ops all os :: k) (s.put o.dst (.tup [.b false])) Q) (h2:∀ j kv vv,j∈left→get ks j=some kv→get vs j=some vv→GS C N (.ops all os :: k) (St.put { s with H:=hput s.H id (.oiter ks vs (left.filter (·≠j)) (some j)) } o.dst (.tup [.b true,kv,vv])) Q):GS C N (.ops all (o :: os) :: k) s Q :=
 fun hC E I m a w hE hs=>zGV true hC hs hop hw hx hg hlo (fun h I m a w hs=>h1 h hC E I m a w hE hs) (fun j kv vv q1 q2 q3 I m a w hs=>h2 j kv vv q1 q2 q3 hC E I m a w hE hs)
theorem zLM {x:Operand} {id:Nat} {ks vs:List V} {left:List Nat} {j:Nat} {kv vv:V} (hop:o.op = .entry x) (hw:wants all s.K o.guard=some true) (hx:kev s.K x=some (.ptr id 0 0)) (hg:hget s.H id = .oiter ks vs left (some j)) (hk:get ks j=some kv) (hv:get vs j=some vv)
  (h:GS C N (.ops all os :: k) (s.put o.dst (.tup [kv,vv])) Q):GS C N (.ops all (o :: os) :: k) s Q :=
 fun hC E I m a w hE hs=>zFn true hC hs hop hw hx hg hk hv (fun I m a w hs=>h hC E I m a w hE hs)
theorem yld {id:Nat} {args:List V} {r:zCe} {K':List (Nat×V)} (T1 T2:St→Prop) (hw:wants all s.K o.guard=some true) (hc:callee s.K o.op=some (.yld id args)) (hg:hget s.H id = .loop r) (hK:kputs r.K r.ps args=some K') (hps:r.ps.all (fun p=>Nat.blt p r.n)=true) (hlo:s.lo≤id)
  (h1:GS C s.H.length [.code r.assign] ⟨K',s.H,s.lo,some id,r.n⟩ (fun e s1 => ∃ s1',zDn id e s1=some s1'∧T1 s1')) (h2:∀ s1',T1 s1'→GS C s1'.H.length [.code r.body] s1' (fun e s2 => ∃ s3,endRound id e s2 s o.dst=some s3∧T2 s3))
  (h3:∀ s3,T2 s3→GS C N (.ops all os :: k) s3 Q):GS C N (.ops all (o :: os) :: k) s Q:=by
 intro hC E I m a w hE hs
 obtain ⟨q1,f,us,q2,q3,q4⟩:=zHB hs.slots hc
 obtain ⟨fn,tmps,h5,h6⟩:=zI8 hC hs q2 q3 hg hK hps hlo (GS.start (s:=⟨K',s.H,s.lo,some id,r.n⟩) h1 hC) (fun s1 hT=>GS.start (h2 s1 hT) hC)
 refine zHm (zb hs.slots hw) q1 ((q4 w).trans h5) (h6.mono ?_)
 rintro e w' ⟨u,rfl,s3,I',m',hT,hs3⟩
 exact ⟨u,rfl,h3 s3 hT hC E I' m' _ w' hE hs3⟩
theorem range {g:Operand} {ps:Array Tmp} {assign body:Code} {f:Nat} {caps:List V} {c:Code} {fn:Func} (T:List It×St→Prop) (hg:kev s.K g=some (.fn f caps)) (hb:jM C f (caps.length+1)=some (c,fn)) (hro:zHc s=true)
  (h1:GS C (s.H.length+1) [.code c] (St.call fn (.yld s.H.length :: caps) (s.H++[.loop ⟨s.n,s.K,ps.toList,assign,body,.ready,none⟩]) s.lo) (fun e s' => ∃ v p,finA C fn e s'=some v∧Qq s.H.length e s' s k=some p∧T p))
  (h2:∀ p,T p→GS C N p.1 p.2 Q):GS C N (.code (.rangeFunc g ps assign body) :: k) s Q :=
 fun hC E I m a w hE hs=>zGM hC hs hg hb hro (fun E I m a w hs=>h1 hC E I m a w (by have:=zH6 hs; simpa [St.call] using this) hs) (fun p hp I m a w hs=>h2 p hp hC E I m a w hE hs)
theorem draw {id:Nat} {ops:Array Oper} {sn:St} (es:List (Eff×Option Yv)) (hreg:zAI ops.toList=true) (hrun:DRun C ops.toList ops.toList 0 s.H.length { s with H:=s.H++zl (YV ops.toList) } [] es sn)
  (hcalls:∀ (i:Nat) e d,es[i]? = some (e,some d)→GS C d.H.length [.code d.c] (St.call d.fn d.args d.H d.H.length) (fun x s1 => ∃ v,finA C d.fn x s1=some v∧Q5 s1 v e.v)) (h:GS C N k sn Q):GS C N (.code (.region id ops true) :: k) s Q :=
 fun hC E I m a w hE hs=>zH7 hC hs hreg hrun (fun i e d hd=>GS.start (s:=St.call d.fn d.args d.H d.H.length) (hcalls i e d hd) hC) (fun I m a w hs' => h hC E I m a w hE hs')
end
end GS
end Go.Am
