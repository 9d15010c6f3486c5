/- A call that sees some blocks only, and a map as one that nobody writes; behind it the others are as they were. Conditions: none. -/
import Derived.Test.YtggkidlcohickaaGreatAw
set_option linter.unusedVariables false
set_option linter.unusedSimpArgs false
namespace Go.Am
open Go Go.Wk Go.RowKit Go.Mx
def nm : Nat→V→Bool
  | 0,_=>false
  | n+1,v=>match v with
    | .lit _=>true
    | .agg l=>l.all (nm n)
    | .tup l=>l.all (nm n)
    | .fn _ l=>l.all (nm n)
    | .ptr .. => true
    | .osl .. => true
    | .map _=>true
    | .yld _=>true
    | .uns=>true
    | .sl []=>true
    | _=>false
def nmB : Blk→Prop
  | .dead=>True
  | .free=>True
  | .rows _ l => ∀ v∈l,nm 9 v=true
  | _=>False
section
variable {m m':Mem} {I J:Ij} {w w':World}
theorem zA1 : ∀ (n:Nat) (v:V) (u:Value),nm n v=true→Rep m v I u→Rep m' v I u
  | 0,v,u,h,_=>by cases h
  | n+1,v,u,h,hr=>by
    cases v with
    | lit w=>unfold Rep at hr ⊢; exact hr
    | agg l=>unfold Rep at hr ⊢; obtain ⟨us,rfl,h2,h3⟩:=hr; exact ⟨us,rfl,h2,RepL.same (fun v u hv=>zA1 n v u (List.all_eq_true.1 h v hv)) h3⟩
    | tup l=>unfold Rep at hr ⊢; obtain ⟨us,rfl,h3⟩:=hr; exact ⟨us,rfl,RepL.same (fun v u hv=>zA1 n v u (List.all_eq_true.1 h v hv)) h3⟩
    | fn f l=>unfold Rep at hr ⊢; obtain ⟨us,rfl,h3⟩:=hr; exact ⟨us,rfl,RepL.same (fun v u hv=>zA1 n v u (List.all_eq_true.1 h v hv)) h3⟩
    | ptr a b c=>unfold Rep at hr ⊢; exact hr
    | osl a b c=>unfold Rep at hr ⊢; exact hr
    | map a=>unfold Rep at hr ⊢; exact hr
    | yld a=>unfold Rep at hr ⊢; exact hr
    | uns=>unfold Rep at hr ⊢; exact hr
    | sl l =>
      cases l with
      | nil=>unfold Rep at hr ⊢; obtain ⟨ad,cap,es,h1,h2,_⟩:=hr; exact ⟨ad,cap,es,h1,h2,fun hne=>absurd rfl hne⟩
      | cons x r=>cases h
    | fptr a b c=>cases h
    | fmap a b=>cases h
    | omap a b c=>cases h
theorem zMz {f:Inf} {B:Blk} (h:nmB B) (hb:jb I m w f B):jb I m' w f B:=by
  cases B with
  | dead=>trivial
  | free=>trivial
  | rows es l =>
    obtain ⟨h0,c,ty,h1,h2,h3,h4,h5,h6⟩:=hb
    exact ⟨h0,c,ty,h1,h2,h3,h4,h5,fun i v hv=>let ⟨u,q1,q2⟩:=h6 i v hv; ⟨u,zA1 9 v u (h v (List.mem_of_getElem? hv)) q1,q2⟩⟩
  | map ks vs=>cases h
  | loop r=>cases h
  | iter a b c d=>cases h
  | oiter a b c d=>cases h
theorem RepL.mid {x y:V} {b:List V} (hx:∀ u,Rep m x I u→Rep m' y J u) (hb:∀ v∈b,∀ u,Rep m v I u→Rep m' v J u):∀ {a:List V} {us:List Value},(∀ v∈a,∀ u,Rep m v I u→Rep m' v J u)→RepL m (a++x :: b) I us→RepL m' (a++y :: b) J us
  | [],us,_,h=>by
    simp only [List.nil_append] at h ⊢
    unfold RepL at h ⊢
    obtain ⟨u,us',rfl,h1,h2⟩:=h
    exact ⟨u,us',rfl,hx u h1,RepL.same (fun v u hv=>hb v hv u) h2⟩
  | v :: r,us,ha,h=>by
    simp only [List.cons_append] at h ⊢
    unfold RepL at h ⊢
    obtain ⟨u,us',rfl,h1,h2⟩:=h
    exact ⟨u,us',rfl,ha v List.mem_cons_self u h1,RepL.mid hx hb (fun v hv=>ha v (List.mem_cons_of_mem _ hv)) h2⟩
theorem zMG {f:Inf} {es:Nat} {x y:V} {a b:List V} (hx:∀ u,Rep m x I u→Rep m' y J u) (ha:∀ v∈a,∀ u,Rep m v I u→Rep m' v J u) (hb:∀ v∈b,∀ u,Rep m v I u→Rep m' v J u) (h:jb I m w f (.rows es [.agg (a++x :: b)])):jb J m' w f (.rows es [.agg (a++y :: b)]):=by
  obtain ⟨h0,c,ty,h1,h2,h3,h4,h5,h6⟩:=h
  refine ⟨h0,c,ty,h1,h2,h3,h4,h5,fun i v hv=>?_⟩
  cases i with
  | succ i=>simp at hv
  | zero =>
    simp only [List.getElem?_cons_zero,Option.some.injEq] at hv
    subst hv
    obtain ⟨u,q1,q2⟩:=h6 0 _ rfl
    refine ⟨u,?_,q2⟩
    unfold Rep at q1 ⊢
    obtain ⟨us,g1,g2,g3⟩:=q1
    exact ⟨us,g1,g2,RepL.mid hx hb ha g3⟩
end
def isF : Blk→Bool
  | .free=>true
  | _=>false
theorem zOJ {B:Blk} (h:isF B=true):B = .free:=by cases B <;> first | rfl | cases h
def hidB (H:List Blk) (iw:Nat) (row:Blk) (vis:List Nat):List Blk:=(List.range H.length).map fun j=>if j=iw then row else if vis.contains j then hget H j else if isF (hget H j) then .free else .dead
def mrgB (H H':List Blk) (vis:List Nat):List Blk:=(List.range H'.length).map fun j=>if j<H.length then (if vis.contains j then hget H' j else hget H j) else .dead
theorem zIo {α:Type} {f:Nat→α} {n j:Nat} {B:α} (h:get ((List.range n).map f) j=some B):j<n∧f j=B:=by
  rw [zP,List.getElem?_map,Option.map_eq_some_iff] at h
  obtain ⟨i,h1,rfl⟩:=h
  have hj:j<n:=by have:=(List.getElem?_eq_some_iff.1 h1).1; simpa using this
  rw [List.getElem?_range hj] at h1
  cases h1
  exact ⟨hj,rfl⟩
theorem get_rm' {α:Type} {f:Nat→α} {n j:Nat} (h:j<n):get ((List.range n).map f) j=some (f j):=by rw [zP,List.getElem?_map,List.getElem?_range h]; rfl
theorem zBX {H:List Blk} {j:Nat} (h:j<H.length):get H j=some (hget H j):=by unfold hget; rw [zP,List.getElem?_eq_getElem h]
section
variable {C:Cfg} {E:Env} {s:St} {I:Ij} {m:Mem} {a0:Act} {w:World}
theorem zON (hC:C.OK) (hss:SS E s I m a0 w) {f N im iw es:Nat} {args:List V} {c:Code} {fn:Func} {us:List Value} {ks vs a b:List V} {vis:List Nat} (hb:jM C f N=some (c,fn)) (hN:args.length=N) (hr:RepL m args I us) (hlo:s.lo=0)
    (hgm:hget s.H im = .map ks vs) (hgw:hget s.H iw = .rows es [.agg (a ++ .map im :: b)]) (ha:a.all (nm 9)=true) (hb':b.all (nm 9)=true) (hvm : ¬ im∈vis) (hvw : ¬ iw∈vis) {T:V→List Blk→Prop}
    (hT:∀ v H',T v H'→nm 9 v=true∧hget H' iw = .rows es [.agg (a ++ .omap im ks vs :: b)]∧(∀ j∈vis,nmB (hget H' j))∧∀ j,j≠iw→¬ j∈vis→get s.H j=some .free→get H' j=some .free)
    (IH:∀ (E:Env) (I:Ij) (m:Mem) (a0:Act) (w:World),SS E (St.call fn args (hidB s.H iw (.rows es [.agg (a ++ .omap im ks vs :: b)]) vis) 0) I m a0 w→SA C.P E.ρ (QA E (fun e s1 => ∃ v,finA C fn e s1=some v∧T v s1.H)) [.code c] .normal a0 w) :
    Calls C.P f us.toArray w (fun e w' => ∃ u,e = .returned u∧∃ v H' I' m',T v H'∧s.H.length≤H'.length∧Rep m' v I' u∧SS E { s with H:=mrgB s.H H' vis } I' m' a0 w'):=by
  have hbm:=JN hgm rfl
  have hbw:=JN hgw rfl
  have hLm:Live s.H im:=⟨_,hbm,rfl⟩
  have hLw:Live s.H iw:=⟨_,hbw,rfl⟩
  have hne:iw≠im:=fun e=>by rw [e,hbm] at hbw; cases hbw
  obtain ⟨fm,hfm,es0,cl,hw0,hmap⟩:=hss.sim.blk im _ hbm rfl
  obtain ⟨fw,hfw,hokw⟩:=hss.sim.blk iw _ hbw rfl
  have hoffm:=hss.sim.off im fm hLm hfm
  obtain ⟨m1,hm1⟩:∃ m1:Mem,m1=fun k=>if k=fm.b then some (.map es0.toArray cl) else m k:=⟨_,rfl⟩
  have hm1b:m1 fm.b=some (.map es0.toArray cl):=by rw [hm1]; exact if_pos rfl
  have hm1o:∀ k,k≠fm.b→m1 k=m k:=fun k hk=>by rw [hm1]; exact if_neg hk
  clear hm1
  have hle1:m.Le m1:=fun k o hk=>by
    rw [hm1o k (fun e=>by rw [e,hoffm] at hk; cases hk)]; exact hk
  have hsub1:m1.Le (wmem w):=fun k o hk=>by
    by_cases e:k=fm.b
    · subst e; rw [hm1b] at hk; cases hk; exact hw0
    · rw [hm1o k e] at hk; exact hss.sim.sub k o hk
  have hom:∀ u,Rep m (.map im) I u→Rep m1 (.omap im ks vs) I u:=fun u hu=>by
    unfold Rep at hu ⊢
    obtain ⟨f',h1,h2⟩:=hu
    rw [hfm] at h1; cases h1
    obtain ⟨es',q1,q2,q3,q4,q5⟩:=hmap
    exact ⟨fm,es0,es',cl,hfm,h2,hm1b,q1,q2,RepL.mono hle1 ks (Ij.Le.rfl' _) q3,RepL.mono hle1 vs (Ij.Le.rfl' _) q4,q5⟩
  have hall:∀ {l:List V},l.all (nm 9)=true→∀ {m m':Mem} {I:Ij},∀ v∈l,∀ u,Rep m v I u→Rep m' v I u:=fun h _ _ _ v hv u=>zA1 9 v u (List.all_eq_true.1 h v hv)
  obtain ⟨H1,hH1⟩:∃ H1,H1=hidB s.H iw (.rows es [.agg (a ++ .omap im ks vs :: b)]) vis:=⟨_,rfl⟩
  have hlen1:H1.length=s.H.length:=by rw [hH1]; simp [hidB]
  -- a block that the call sees is there
  have hold:∀ id B,get H1 id=some B→B.live=true→(id=iw∧B = .rows es [.agg (a ++ .omap im ks vs :: b)])∨(id≠iw∧id≠im∧id∈vis∧get s.H id=some B):=fun id B hB hl=>by
    rw [hH1] at hB
    obtain ⟨h1,h2⟩:=zIo hB
    by_cases e:id=iw
    · rw [if_pos e] at h2; exact .inl ⟨e,h2.symm⟩
    · rw [if_neg e] at h2
      by_cases e2:vis.contains id=true
      · rw [if_pos e2] at h2
        have hv:id∈vis:=List.contains_iff_mem.1 e2
        refine .inr ⟨e,fun e3=>hvm (e3▸hv),hv,?_⟩
        rw [zBX h1,h2]
      · rw [if_neg e2] at h2
        split at h2 <;> (subst h2; cases hl)
  have hlive:∀ id,Live H1 id→Live s.H id∧id≠im:=fun id ⟨B,hB,hl⟩=>by
    rcases hold id B hB hl with ⟨rfl,_⟩ | ⟨h1,h2,h3,h4⟩
    · exact ⟨hLw,hne⟩
    · exact ⟨⟨B,h4,hl⟩,h2⟩
  have hs1:Sim I m1 H1 w:=by
    refine ⟨hsub1,fun id B hB hl=>?_,fun id hid=>?_,fun id f hL hf=>?_,fun i j f g hL hL' hf hg he=>?_⟩
    · rcases hold id B hB hl with ⟨rfl, rfl⟩ | ⟨h1, h2, h3, h4⟩
      · exact ⟨fw,hfw,zMG hom (hall ha) (hall hb') hokw⟩
      · obtain ⟨g, g1, g2⟩ := hss.sim.blk id B h4 hl
        exact ⟨g,g1,g2.mono hle1 (Ij.Le.rfl' _) rfl⟩
    · rcases hid with h1 | h1
      · exact hss.sim.free id (.inl (ja.2 (by rw [← hlen1]; exact ja.1 h1)))
      · rw [hH1] at h1
        obtain ⟨h2,h3⟩:=zIo h1
        split at h3
        · cases h3
        · split at h3
          · exact hss.sim.free id (.inr (by rw [zBX h2,h3]))
          · split at h3
            · rename_i q; exact hss.sim.free id (.inr (by rw [zBX h2,zOJ q]))
            · cases h3
    · obtain ⟨h1, h2⟩ := hlive id hL
      rw [hm1o _ (fun e=>h2 (hss.sim.inj id im f fm h1 hLm hf hfm e))]
      exact hss.sim.off id f h1 hf
    · exact hss.sim.inj i j f g (hlive i hL).1 (hlive j hL').1 hf hg he
  have hr1:RepL m1 args I us:=RepL.mono hle1 args (Ij.Le.rfl' _) hr
  rw [← hH1] at IH
  refine (YG (H':=H1) (lo':=0) hC hb hN IH (fun e s1 ⟨v,h,_⟩=>⟨v,h⟩) hs1 (Nat.zero_le _) hr1).mono ?_
  rintro e w' ⟨u,rfl,ex,s1,v,I1,m2,⟨v2,q1,q2⟩,h3,h4,h5,h6,h7,h8,h9⟩
  rw [h3] at q1
  cases q1
  obtain ⟨t1,t2,t3,t4⟩:=hT v s1.H q2
  have hsame:∀ id f,Live s.H id→I id=some f→¬ Live H1 id→w'.heap[f.b]? = w.heap[f.b]?:=fun id f hL hf hn=>by
    have hlt:f.b<w.heap.size:=by
      obtain ⟨B,hB,hl⟩:=hL
      obtain ⟨g,g1,g2⟩:=hss.sim.blk id B hB hl
      rw [hf] at g1; cases g1
      exact g2.lt hl
    refine h6.same f.b hlt fun i g _ hLi hg he=>hn ?_
    rw [← hss.sim.inj i id g f (hlive i hLi).1 hL hg hf he]
    exact hLi
  obtain ⟨H2,hH2⟩:∃ H2,H2=mrgB s.H s1.H vis:=⟨_,rfl⟩
  have hlen2:H2.length=s1.H.length:=by rw [hH2]; simp [mrgB]
  have hlen12:s.H.length≤s1.H.length:=by rw [← hlen1]; exact h6.len
  have hw1:get s1.H iw=some (.rows es [.agg (a ++ .omap im ks vs :: b)]):=JN t2 rfl
  have hLw1:Live s1.H iw:=⟨_,hw1,rfl⟩
  have hI1w:I1 iw=some fw:=h6.ij _ _ hfw
  -- what is there behind it
  have hnew:∀ id B,get H2 id=some B→B.live=true→(id=iw∧B = .rows es [.agg (a ++ .map im :: b)])∨(id∈vis∧get s1.H id=some B∧nmB B)∨(id≠iw∧¬ id∈vis∧get s.H id=some B):=fun id B hB hl=>by
    rw [hH2] at hB
    obtain ⟨g1,g2⟩:=zIo hB
    split at g2
    · rename_i g3
      split at g2
      · rename_i g4
        have hv:id∈vis:=List.contains_iff_mem.1 g4
        refine .inr (.inl ⟨hv,?_,?_⟩)
        · rw [zBX g1,g2]
        · rw [← g2]; exact t3 id hv
      · rename_i g4
        by_cases e:id=iw
        · refine .inl ⟨e, ?_⟩
          rw [← g2,e,hgw]
        · refine .inr (.inr ⟨e, fun hv => g4 (List.contains_iff_mem.2 hv), ?_⟩)
          rw [zBX g3,g2]
    · subst g2; cases hl
  have hnot:∀ id,id≠iw→¬ id∈vis→¬ Live H1 id:=fun id h1 h2 ⟨B,hB,hl⟩=>by
    rcases hold id B hB hl with ⟨e,_⟩ | ⟨_,_,e,_⟩
    · exact h1 e
    · exact h2 e
  -- each block that is there: one that the call saw, or one that it did not see
  have hcls:∀ id f,Live H2 id→I1 id=some f→(Live s1.H id∧(id=iw∨id∈vis))∨(Live s.H id∧I id=some f∧¬ Live H1 id):=fun id f ⟨B,hB,hl⟩ hf=>by
    rcases hnew id B hB hl with ⟨rfl,_⟩ | ⟨h1,h2,_⟩ | ⟨h1,h2,h3⟩
    · exact .inl ⟨hLw1,.inl rfl⟩
    · exact .inl ⟨⟨B,h2,hl⟩,.inr h1⟩
    · obtain ⟨g, g1, g2⟩ := hss.sim.blk id B h3 hl
      have:=h6.ij _ _ g1
      rw [hf] at this; cases this
      exact .inr ⟨⟨B,h3,hl⟩,g1,hnot id h1 h2⟩
  have hmix:∀ i j f g,Live s1.H i→I1 i=some f→Live s.H j→I j=some g→¬ Live H1 j→f.b≠g.b:=fun i j f g hLi hf hLj hg hn he=>by
    rcases h6.own i f (Nat.zero_le _) hLi hf with q | ⟨i0,f0,_,k2,k3,k4⟩
    · have hlt : g.b < w.heap.size := by
        obtain ⟨B,hB,hl⟩:=hLj
        obtain ⟨g',g1,g2⟩:=hss.sim.blk j B hB hl
        rw [hg] at g1; cases g1
        exact g2.lt hl
      omega
    · exact hn (by rw [← hss.sim.inj i0 j f0 g (hlive i0 k2).1 hLj k3 hg (k4.trans he)]; exact k2)
  have hsubm:m.Le (wmem w'):=fun k o hk=>by
    have hlt:=(Array.getElem?_eq_some_iff.1 (hss.sim.sub k o hk)).1
    show w'.heap[k]? = some o
    rw [h6.same k hlt fun i g _ hLi hg he=>by
      have:=hs1.off i g hLi hg
      rw [he,hle1 k o hk] at this; cases this]
    exact hss.sim.sub k o hk
  have hm2:∀ k,m2 k=none→m k=none:=fun k hk=>by
    cases e:m k with
    | none=>rfl
    | some o=>rw [h7 k o (hle1 k o e)] at hk; cases hk
  have hs2:Sim I1 m H2 w':=by
    refine ⟨hsubm,fun id B hB hl=>?_,fun id hid=>?_,fun id f hL hf=>?_,fun i j f g hL hL' hf hg he=>?_⟩
    · rcases hnew id B hB hl with ⟨rfl, rfl⟩ | ⟨h1, h2, h3'⟩ | ⟨h1, h2, h3'⟩
      · obtain ⟨g, g1, g2⟩ := h5.blk _ _ hw1 rfl
        refine ⟨g,g1,zMG (fun u hu=>?_) (hall ha) (hall hb') g2⟩
        unfold Rep at hu ⊢
        obtain ⟨f',es',es'',c',k1,k2,_⟩:=hu
        exact ⟨f',k1,k2⟩
      · obtain ⟨g, g1, g2⟩ := h5.blk id B h2 hl
        exact ⟨g,g1,zMz h3' g2⟩
      · obtain ⟨g, g1, g2⟩ := hss.sim.blk id B h3' hl
        exact ⟨g,h6.ij _ _ g1,g2.mono (fun _ _ h=>h) h6.ij (hsame id g ⟨B,h3',hl⟩ g1 (hnot id h1 h2))⟩
    · rcases hid with h1 | h1
      · exact h5.free id (.inl (ja.2 (by rw [← hlen2]; exact ja.1 h1)))
      · rw [hH2] at h1
        obtain ⟨h2,h3'⟩:=zIo h1
        split at h3'
        · rename_i g3
          split at h3'
          · exact h5.free id (.inr (by rw [zBX h2,h3']))
          · rename_i g4
            have hf:get s.H id=some .free:=by rw [zBX g3,h3']
            refine h5.free id (.inr (t4 id (fun e=>?_) (fun hv=>g4 (List.contains_iff_mem.2 hv)) hf))
            rw [e,hbw] at hf; cases hf
        · cases h3'
    · rcases hcls id f hL hf with ⟨h1, _⟩ | ⟨h1, h2, _⟩
      · exact hm2 _ (h5.off id f h1 hf)
      · exact hss.sim.off id f h1 h2
    · rcases hcls i f hL hf with ⟨h1, _⟩ | ⟨h1, h2, h3'⟩
      · rcases hcls j g hL' hg with ⟨k1, _⟩ | ⟨k1, k2, k3⟩
        · exact h5.inj i j f g h1 k1 hf hg he
        · exact absurd he (hmix i j f g h1 hf k1 k2 k3)
      · rcases hcls j g hL' hg with ⟨k1, _⟩ | ⟨k1, k2, k3⟩
        · exact absurd he.symm (hmix j i g f k1 hg h1 h2 h3')
        · exact hss.sim.inj i j f g h1 k1 h2 k2 he
  have hfx:Fx I s.H s.lo w I1 H2 w':=by
    rw [hlo]
    refine ⟨h6.st,fun k hk hn=>h6.same k hk fun i g _ hLi hg=>hn i g (Nat.zero_le _) (hlive i hLi).1 hg,h6.ij,fun id f _ hL hf=>?_,fun id hid=>absurd hid (Nat.not_lt_zero _),by rw [hlen2]; exact hlen12⟩
    rcases hcls id f hL hf with ⟨h1,_⟩ | ⟨h1,h2,_⟩
    · rcases h6.own id f (Nat.zero_le _) h1 hf with q | ⟨i0, f0, k1, k2, k3, k4⟩
      · exact .inl q
      · exact .inr ⟨i0,f0,k1,(hlive i0 k2).1,k3,k4⟩
    · exact .inr ⟨id,f,Nat.zero_le _,h1,h2,rfl⟩
  refine ⟨u,rfl,v,s1.H,I1,m,q2,hlen12,zA1 9 v u t1 h4,?_⟩
  rw [← hH2]
  exact hss.step hs2 hfx (fun _ _ h=>h) fun _ _ h=>.inl h
theorem GS.hid {N:Nat} {k:List It} {Q:Ex→St→Prop} {all os:List Oper} {o:Oper} {f im iw es:Nat} {args:List V} {c:Code} {fn:Func} {ks vs a b:List V} {vis:List Nat} (T:V→List Blk→Prop) (hw:wants all s.K o.guard=some true) (hc:callee s.K o.op=some (.fn f args)) (hb:jM C f args.length=some (c,fn)) (hlo:s.lo=0)
    (hgm:hget s.H im = .map ks vs) (hgw:hget s.H iw = .rows es [.agg (a ++ .map im :: b)]) (ha:a.all (nm 9)=true) (hb':b.all (nm 9)=true) (hvm : ¬ im∈vis) (hvw : ¬ iw∈vis)
    (hT:∀ v H',T v H'→nm 9 v=true∧hget H' iw = .rows es [.agg (a ++ .omap im ks vs :: b)]∧(∀ j∈vis,nmB (hget H' j))∧∀ j,j≠iw→¬ j∈vis→get s.H j=some .free→get H' j=some .free)
    (h1:GS C (hidB s.H iw (.rows es [.agg (a ++ .omap im ks vs :: b)]) vis).length [.code c] (St.call fn args (hidB s.H iw (.rows es [.agg (a ++ .omap im ks vs :: b)]) vis) 0) (fun e s1 => ∃ v,finA C fn e s1=some v∧T v s1.H)) (h2:∀ v H',T v H'→s.H.length≤H'.length→GS C N (.ops all os :: k) (St.put { s with H:=mrgB s.H H' vis } o.dst v) Q):GS C N (.ops all (o :: os) :: k) s Q:=by
  intro hC E I m a w hE hs
  obtain ⟨q1,us,q2,q3⟩:=Z9 hs.slots hc
  refine Jl (zb hs.slots hw) q1 ((q3 w).trans ((jE hC hb).2.2.2 _ w)) ((zON hC hs hb rfl q2 hlo hgm hgw ha hb' hvm hvw hT (GS.start (s:=St.call fn args (hidB s.H iw (.rows es [.agg (_ ++ .omap im ks vs :: b)]) vis) 0) h1 hC)).mono ?_)
  rintro e w' ⟨u,rfl,v,H',I',m',hT',hl',hv,hs'⟩
  exact ⟨u,rfl,h2 v H' hT' hl' hC E I' m' _ w' hE (hs'.put hv)⟩
end
theorem zLy {C:Cfg} {N:Nat} {c:Code} {s:St} {Q Q':Ex→St→Prop} (h:GS C N [.code c] s Q) (hq:∀ e s,Q e s→Q' e s):GS C N [.code c] s Q':=fun hC E I m a w hE hs=>zEo hq (h hC E I m a w hE hs)
theorem zA7 {C:Cfg} (hC:C.OK) {α:Type} {fe:α→V} {l:List α} {es nn f:Nat} {args:List V} {c:Code} {fn:Func} (hb:jM C f args.length=some (c,fn)) (hf:∀ x,flat nn (fe x)=true) (h:GS C 0 [.code c] (St.call fn args [] 0) (fun e s => ∃ z id,finA C fn e s=some (ovlz z id l)∧hget s.H id=oblz z es fe l)):FrC C.P f args (.sl (l.map fe)):=by
  refine ⟨fun m w us hm hr=>?_,(jE hC hb).2.2.2⟩
  refine (YG (H':=[]) (lo':=0) (w:=w) hC hb rfl (GS.start (s:=St.call fn args [] 0) h hC) (fun e s1 ⟨z,id,h,_⟩=>⟨_,h⟩) (Sim.nil _ w hm) (Nat.zero_le _) hr).mono ?_
  rintro e w' ⟨u,rfl,ex,s1,v,I1,m1,⟨z,id,q1,q2⟩,h3,h4,h5,h6,h7,h8,h9⟩
  rw [h3] at q1
  cases q1
  have hnl:∀ id,0≤id→¬ Live ([]:List Blk) id:=fun id _ ⟨B,hB,_⟩=>by simp [Am.get] at hB
  have hx:Xt w w':=⟨⟨h6.st.os,h6.st.tape,h6.st.output,h6.st.size,fun k hk=>h6.same k hk fun id f h hl=>absurd hl (hnl id h)⟩,h6.st.drawn⟩
  rcases Ju z id es fe l with ⟨rfl,rfl⟩ | ⟨e1,e2⟩
  · obtain ⟨m0, hz⟩ : ∃ m0 : Mem, ∀ (k : Nat) (o : Obj), m0 k = some o → False := ⟨fun _ => none, fun k o h => by simp at h⟩
    refine ⟨u,m0,rfl,hx,fun k o h=>(hz k o h).elim,fun k o h=>(hz k o h).elim,?_⟩
    have h7:Rep m1 (.lit (.slice none 0 0)) I1 u:=h4
    unfold Rep at h7 ⊢
    exact ⟨none,0,0,h7.1,Nat.le_refl _,fun h=>absurd rfl h⟩
  · rw [e1] at h4
    rw [e2] at q2
    have hB:=JN q2 rfl
    obtain ⟨g,g1,g2⟩:=h5.blk id _ hB rfl
    have hge:w.heap.size≤g.b:=by
      rcases h6.own id g (Nat.zero_le _) ⟨_,hB,rfl⟩ g1 with h | ⟨i0,f0,k1,k2,_⟩
      · exact h
      · exact absurd k2 (hnl i0 k1)
    obtain ⟨ges,c,ty,k1,k2,k3,k4,k5,k6⟩:=g2
    unfold Rep at h4
    obtain ⟨g',ad,j1,j2,j3,j4,j5⟩:=h4
    rw [g1] at j1; cases j1
    obtain ⟨m0,z1,z2⟩:∃ m0:Mem,m0 g.b=some (.cells c ty (0,0))∧∀ k,k≠g.b→m0 k=none:=⟨fun k=>if k=g.b then some (.cells c ty (0,0)) else none,if_pos rfl,fun k h=>if_neg h⟩
    refine ⟨u,m0,rfl,hx,fun k o h=>?_,fun k o h=>?_,?_⟩
    · by_cases e : k = g.b
      · subst e; rw [z1] at h; cases h; exact k1
      · rw [z2 k e] at h; cases h
    · by_cases e : k = g.b
      · omega
      · rw [z2 k e] at h; cases h
    · unfold Rep
      refine ⟨ad,g.cap,es,by simpa using j2,by simpa using k3,fun hne=>?_⟩
      have hpos:0<g.cap:=by
        cases l with
        | nil=>exact absurd rfl hne
        | cons a r=>simp at k3; omega
      refine ⟨g.b,g.o,by have:=j4 hpos; simpa using this,Zq.mk fun i v hv=>?_⟩
      obtain ⟨u',r1,r2,r3⟩:=k6 i v hv
      have hfl:flat nn v=true:=by
        have:=List.mem_of_getElem? hv
        obtain ⟨x,_,rfl⟩:=List.mem_map.1 this
        exact hf x
      refine ⟨u',Yk nn v u' hfl r1,r2,fun j x hx=>⟨(r3 j x hx).1,?_⟩⟩
      unfold Mem.cell
      rw [z1]
      exact (r3 j x hx).2
namespace X
section
variable {C:Cfg} {N:Nat} {k:List It} {K:List (Nat×V)} {H:List Blk} {lo n d i nid:Nat} {rnd:Option Nat} {Q:Ex→St→Prop} {all os:List Oper} {p:Op} {ty:TypeId} {pos:String} {after:Array Edge} {g:Option (Nat×Bool)} {v:V}
theorem zDM {f:Nat} {args args':List V} (hX:FrC C.P f args' v) (hw:wants all K g=some true) (hc:callee K p=some (.fn f args)) (hd:Nat.blt d n=true) (ha:ZB H true args args') (h:GS C N (.ops all os :: k) ⟨(d,v) :: K,H,lo,rnd,n⟩ Q):GS C N (.ops all (⟨some d,p,ty,pos,after,g⟩ :: os) :: k) ⟨K,H,lo,rnd,n⟩ Q :=
  .extO hw hc ha hX (front rfl hd h rfl)
theorem ccallO {f:Nat} {args args':List V} (hX:FrC C.P f args' v) (hw:wants all K g=some true) (hc:callee K p=some (.fn f args)) (ha:allocs p=false) (hd:Nat.blt d n=true) (hca:ZB H true args args') (h:DC C N k Q all os (i+1) nid ⟨(d,v) :: K,H,lo,rnd,n⟩):DC C N k Q all (⟨some d,p,ty,pos,after,g⟩ :: os) i nid ⟨K,H,lo,rnd,n⟩ :=
  cstep (d:=⟨v,[],ym H 0⟩) (.extO hw hc ⟨rfl,fun id B hB _=>hB⟩ hca hX) ha rfl (DC.eqv (JA hd rfl) h)
end
end X
namespace S
open X
section
variable {C:Cfg} {N:Nat} {k:List It} {K:List (Nat×V)} {H:List Blk} {R:Hp} {n d:Nat} {rnd:Option Nat} {Q:Ex→St→Prop} {all os:List Oper} {p:Op} {ty:TypeId} {pos:String} {after:Array Edge} {g:Option (Nat×Bool)}
theorem hid {f im iw es:Nat} {args ks vs a b:List V} {Vc:Hp} {T:V→Hp→Prop} (hX:ImCt C f args ((iw,isB (.rows es [.agg (a ++ .omap im ks vs :: b)])) :: Vc) (fun v L' => ∃ V',L'=(iw,isB (.rows es [.agg (a ++ .omap im ks vs :: b)])) :: V'∧nm 9 v=true∧V'.map (·.1)=Vc.map (·.1)∧(∀ q∈V',∀ B,q.2 B→nmB B)∧T v V')) (hH:Has H ((iw,isB (.rows es [.agg (a ++ .map im :: b)])) :: (im,isB (.map ks vs)) :: (Vc++R))) (ha:a.all (nm 9)=true) (hb':b.all (nm 9)=true) (hw:wants all K g=some true) (hc:callee K p=some (.fn f args)) (hd:Nat.blt d n=true)
    (h:∀ v V' H',T v V'→Has H' ((iw,isB (.rows es [.agg (a ++ .map im :: b)])) :: (im,isB (.map ks vs)) :: (V'++R))→GS C N (.ops all os :: k) ⟨(d,v) :: K,H',0,rnd,n⟩ Q):GS C N (.ops all (⟨some d,p,ty,pos,after,g⟩ :: os) :: k) ⟨K,H,0,rnd,n⟩ Q:=by
  obtain ⟨c,fn,hb,hx⟩:=hX
  have hnd:=hH.nd
  simp only [List.map_cons,List.map_append,List.nodup_cons,List.mem_cons,List.mem_append,not_or,List.nodup_append] at hnd
  obtain ⟨⟨n1,n2,n3⟩,⟨n4,n5⟩,n6,n7,n8⟩:=hnd
  obtain ⟨vis,hvis⟩:∃ vis,vis=Vc.map (·.1):=⟨_,rfl⟩
  rw [← hvis] at n2 n4 n6 n8
  obtain ⟨row,hrow⟩:∃ row:Blk,row = .rows es [.agg (a ++ .omap im ks vs :: b)]:=⟨_,rfl⟩
  have hgw:=hH.is (k:=0) rfl
  have hgm:=hH.is (k:=1) rfl
  have hlw:=hH.lt (k:=0) rfl
  obtain ⟨F,hF⟩:∃ F:Hp,F=((List.range H.length).filter fun j=>isF (hget H j) && !(decide (j=iw)) && !(vis.contains j)).map fun j=>(j,isB .free):=⟨_,rfl⟩
  have hmemF:∀ j q,(j,q)∈F↔q=isB .free∧j<H.length∧hget H j = .free∧j≠iw∧¬ j∈vis:=fun j q=>by
    rw [hF]
    simp only [List.mem_map,List.mem_filter,List.mem_range,Bool.and_eq_true,Bool.not_eq_true',decide_eq_false_iff_not,Prod.mk.injEq]
    constructor
    · rintro ⟨i, ⟨h1, ⟨h2, h3⟩, h4⟩, rfl, rfl⟩
      exact ⟨rfl,h1,zOJ h2,h3,fun hv=>by rw [List.contains_iff_mem.2 hv] at h4; cases h4⟩
    · rintro ⟨rfl, h1, h2, h3, h4⟩
      refine ⟨j,⟨h1,⟨by rw [h2]; rfl,h3⟩,?_⟩,rfl,rfl⟩
      cases e:vis.contains j with
      | false=>rfl
      | true=>exact absurd (List.contains_iff_mem.1 e) h4
  have hlen:(hidB H iw row vis).length=H.length:=by simp [hidB]
  have hnd1:((((iw,isB row) :: Vc)++F).map (·.1)).Nodup:=by
    simp only [List.map_append,List.map_cons,List.cons_append,List.nodup_cons,List.mem_append,not_or,List.nodup_append]
    rw [← hvis]
    have hF1:∀ j,j∈F.map (·.1)→j≠iw∧¬ j∈vis:=fun j hj=>by
      obtain ⟨⟨j',q⟩,h1,rfl⟩:=List.mem_map.1 hj
      have:=(hmemF j' q).1 h1
      exact ⟨this.2.2.2.1,this.2.2.2.2⟩
    refine ⟨⟨n2,fun h=>(hF1 _ h).1 rfl⟩,n6,?_,fun x hx y hy e=>(hF1 y hy).2 (e▸hx)⟩
    rw [hF,List.map_map]
    exact List.Pairwise.map _ (fun x y h=>h) (List.nodup_range.filter _)
  have hHas1:Has (hidB H iw row vis) (((iw,isB row) :: Vc)++F):=by
    refine ⟨hnd1,fun q hq=>?_⟩
    simp only [List.cons_append,List.mem_cons,List.mem_append] at hq
    rcases hq with rfl | hq | hq
    · exact ⟨row,by unfold hidB; rw [get_rm' hlw,if_pos rfl],rfl⟩
    · obtain ⟨B, h1, h2⟩ := hH.bl q (by simp [hq])
      have hv:q.1∈vis:=by rw [hvis]; exact List.mem_map.2 ⟨q,hq,rfl⟩
      have hne:q.1≠iw:=fun e=>n2 (e▸hv)
      refine ⟨B,?_,h2⟩
      unfold hidB
      rw [get_rm' (jm h1),if_neg hne,if_pos (List.contains_iff_mem.2 hv)]
      unfold hget; rw [h1]
    · obtain ⟨h0, h1, h2, h3, h4⟩ := (hmemF q.1 q.2).1 hq
      refine ⟨.free,?_,by rw [h0]; rfl⟩
      unfold hidB
      rw [get_rm' h1,if_neg h3,if_neg (fun e=>h4 (List.contains_iff_mem.1 e)),if_pos (by rw [h2]; rfl)]
  rw [← hrow] at hx
  refine GS.hid (s:=⟨K,H,0,rnd,n⟩) (vis:=vis) (es:=es) (a:=a) (b:=b) (fun v H' => ∃ V',nm 9 v=true∧V'.map (·.1)=vis∧(∀ q∈V',∀ B,q.2 B→nmB B)∧T v V'∧Has H' (((iw,isB row) :: V')++F)) hw hc hb rfl hgm hgw ha hb' (fun e=>n4 e) n2 ?_ ?_ ?_
  · rintro v H' ⟨V', g1, g2, g3, g4, g5⟩
    refine ⟨g1,?_,fun j hj=>?_,fun j h1 h2 h3=>?_⟩
    · have := g5.is (k := 0) (L := ((iw, isB row) :: V') ++ F) rfl
      rw [← hrow]; exact this
    · rw [← g2] at hj
      obtain ⟨q,hq,rfl⟩:=List.mem_map.1 hj
      obtain ⟨B,k1,k2⟩:=g5.bl q (by simp [hq])
      unfold hget; rw [k1]; exact g3 q hq B k2
    · have hjl := jm h3
      obtain ⟨B,k1,k2⟩:=g5.bl (j,isB .free) (List.mem_append_right _ ((hmemF j _).2 ⟨rfl,hjl,by unfold hget; simp only at h3; rw [h3],h1,h2⟩))
      rw [k1,show B = .free from k2]
  · rw [← hrow]
    refine zLy (hx F _ hHas1) ?_
    rintro e s1 ⟨v,h1,L',⟨V',rfl,g1,g2,g3,g4⟩,g5⟩
    exact ⟨v,h1,V',g1,g2.trans hvis.symm,g3,g4,g5⟩
  · rintro v H' ⟨V', g1, g2, g3, g4, g5⟩ hlen'
    simp only at hlen'
    refine front rfl hd (h v V' _ g4 ?_) rfl
    refine ⟨?_,fun q hq=>?_⟩
    · simp only [List.map_cons, List.map_append, List.nodup_cons, List.mem_cons, List.mem_append, not_or, List.nodup_append]
      rw [g2]
      exact ⟨⟨n1,n2,n3⟩,⟨n4,n5⟩,n6,n7,n8⟩
    · have hid : ∀ j B, ¬ j ∈ vis → get H j = some B → get (mrgB H H' vis) j = some B := fun j B h1 h2 => by
        have:=jm h2
        unfold mrgB
        rw [get_rm' (by omega),if_pos this,if_neg (fun e=>h1 (List.contains_iff_mem.1 e))]
        unfold hget; rw [h2]
      simp only [List.mem_cons,List.mem_append] at hq
      rcases hq with rfl | rfl | hq | hq
      · obtain ⟨B, h1, h2⟩ := hH.gt (k := 0) rfl
        exact ⟨B,hid _ _ n2 h1,h2⟩
      · obtain ⟨B, h1, h2⟩ := hH.gt (k := 1) rfl
        exact ⟨B,hid _ _ n4 h1,h2⟩
      · have hv : q.1 ∈ vis := by rw [← g2]; exact List.mem_map.2 ⟨q, hq, rfl⟩
        obtain ⟨B,h1,h2⟩:=g5.bl q (by simp [hq])
        have hlt:q.1<H.length:=by
          rw [hvis] at hv
          obtain ⟨q',hq',e⟩:=List.mem_map.1 hv
          obtain ⟨B',h3,_⟩:=hH.bl q' (by simp [hq'])
          rw [← e]; exact jm h3
        refine ⟨B,?_,h2⟩
        unfold mrgB
        rw [get_rm' (jm h1),if_pos hlt,if_pos (List.contains_iff_mem.2 hv)]
        unfold hget; rw [h1]
      · obtain ⟨B, h1, h2⟩ := hH.bl q (by simp [hq])
        refine ⟨B,hid _ _ (fun hv=>?_) h1,h2⟩
        exact n8 q.1 hv q.1 (List.mem_map.2 ⟨q,hq,rfl⟩) rfl
end
end S
end Go.Am
