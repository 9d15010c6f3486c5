/- Steps that are found by trying, as many as there are, over blocks that are known by Has. Conditions: none. -/
import Derived.Test.YtggkidlcohickaaGreatAu
import Derived.Test.YtggkidlcohickaaGreatSp
set_option linter.unusedVariables false
set_option linter.unusedSimpArgs false
namespace Go.Am
open Go Go.Wk Go.RowKit Go.Mx
theorem aus {A B:Prop} (h:A) (hs:∃ n,Au n A B:=by
  apply Exists.intro
  repeat first
    | with_reducible apply Au.an
    | with_reducible apply Au.aS
    | with_reducible apply Au.as
    | with_reducible apply Au.ar
    | with_reducible apply Au.ak
    | with_reducible apply Au.bl
    | with_reducible apply Au.eb
    | with_reducible apply Au.cn
    | with_reducible apply Au.dn
    | ((with_reducible apply Au.ex); · rfl)
    | ((with_reducible apply Au.len); · first | ((with_reducible apply X.lenF) <;> rfl) | ((with_reducible apply X.lenN) <;> rfl) | ((with_reducible apply X.minE) <;> rfl) | ((with_reducible apply X.maxE) <;> rfl) | rfl
       · rfl)
    | ((with_reducible apply Au.bin); · first | ((with_reducible apply X.addE) <;> rfl) | ((with_reducible apply X.subE) <;> rfl) | ((with_reducible apply X.mulE) <;> rfl) | rfl
       · rfl)
    | ((with_reducible apply Au.una); · first | ((with_reducible apply X.negE) <;> rfl) | rfl
       · rfl)
    | ((with_reducible apply Au.idx); · first | rfl | exact X.zBV (by assumption) (by intro _; rfl) rfl rfl rfl rfl
       · rfl)
    | ((with_reducible apply Au.lod); · first | rfl | exact X.zEK (by assumption) rfl rfl rfl
       · rfl)
    | ((with_reducible apply Au.aq); · rfl)
    | ((with_reducible apply Au.pt); · rfl
       · with_reducible assumption
       · rfl
       · rfl)
    | ((with_reducible apply Au.pf); · rfl
       · with_reducible assumption
       · rfl
       · rfl)
    | ((with_reducible apply Au.ag); · exact Au.on
       · exact Au.ef
       · rfl)
    | ((with_reducible apply Au.ao); · first | ((with_reducible apply X.zLj); rfl; rfl; rfl; with_reducible assumption) | ((with_reducible apply X.zLk); rfl; rfl; rfl; with_reducible assumption) | rfl
       · rfl)
    | ((with_reducible apply Au.ac); · exact Au.ef
       · rfl
       · rfl)
    | ((with_reducible apply Au.cg); · exact Au.on
       · exact Au.ef
       · rfl
       · rfl)
    | ((with_reducible apply Au.co); · first | ((with_reducible apply X.zLj); rfl; rfl; rfl; with_reducible assumption) | ((with_reducible apply X.zLk); rfl; rfl; rfl; with_reducible assumption) | rfl
       · rfl
       · rfl)
  exact Au.az):B:=hs.elim fun _ q=>q.go h
namespace S
open X
section
variable {C:Cfg} {N:Nat} {k:List It} {K:List (Nat×V)} {H:List Blk} {L R:Hp} {lo n d:Nat} {rnd:Option Nat} {Q:Ex→St→Prop} {all os:List Oper} {p:Op} {ty:TypeId} {pos:String} {after:Array Edge} {g:Option (Nat×Bool)} {v:V} {rd:List Nat}
theorem has_set {kk:Nat} {id:Nat} {p q:Blk→Prop} (h:Has H (Am.set L kk (id,p))) (hpq:∀ B,p B→q B):Has H (Am.set L kk (id,q)):=by
  have e:(Am.set L kk (id,q)).map (·.1)=(Am.set L kk (id,p)).map (·.1):=by
    rw [Zy,Zy,List.map_set,List.map_set]
  refine ⟨by rw [e]; exact h.nd,fun a ha=>?_⟩
  obtain ⟨j,hj⟩:=List.mem_iff_getElem?.1 ha
  rw [Zy,List.getElem?_set] at hj
  by_cases c:kk=j
  · rw [if_pos c] at hj
    split at hj
    · cases hj
      obtain ⟨B,h1,h2⟩:=h.bl (id,p) (by rw [Zy]; exact List.mem_of_getElem? (i:=kk) (by rw [List.getElem?_set,if_pos rfl,if_pos (by omega)]))
      exact ⟨B,h1,hpq B h2⟩
    · cases hj
  · rw [if_neg c] at hj
    exact h.bl a (by rw [Zy]; exact List.mem_of_getElem? (i:=j) (by rw [List.getElem?_set,if_neg c]; exact hj))
def hide (L:Hp) (H:List Blk):List Blk:=(List.range H.length).map fun j=>if (L.map (·.1)).contains j then hget H j else .dead
theorem zJx {j:Nat} {B:Blk} (h:Am.get (hide L H) j=some B):j<H.length∧(j∈L.map (·.1)∧Am.get H j=some B∨B = .dead):=by
  unfold hide at h
  rw [zP,List.getElem?_map,Option.map_eq_some_iff] at h
  obtain ⟨i,h1,rfl⟩:=h
  have hj:j<H.length:=by
    have:=(List.getElem?_eq_some_iff.1 h1).1
    simpa using this
  rw [List.getElem?_range hj] at h1
  cases h1
  refine ⟨hj,?_⟩
  by_cases c:(L.map (·.1)).contains j=true
  · rw [if_pos c]
    refine .inl ⟨by simpa using c,?_⟩
    rw [zP,List.getElem?_eq_getElem hj,hget,zP,List.getElem?_eq_getElem hj]
  · rw [if_neg c]
    exact .inr rfl
theorem zOM (h:Has H L):Has (hide L H) L:=by
  refine ⟨h.nd,fun p hp=>?_⟩
  obtain ⟨B,h1,h2⟩:=h.bl p hp
  refine ⟨B,?_,h2⟩
  have hlt:=jm h1
  unfold hide
  rw [zP,List.getElem?_map,List.getElem?_range hlt,Option.map_some,if_pos (List.contains_iff_mem.2 (List.mem_map.2 ⟨p,hp,rfl⟩))]
  unfold hget
  rw [h1]
theorem crd {f i nid:Nat} {args:List V} {Lc:Hp} (hX:RdCt C f args Lc (fun v' => v'=v)) (hH:Has H Lc) (hF:∀ p∈Lc,¬ p.2 .free) (hw:wants all K g=some true) (hc:callee K p=some (.fn f args)) (ha:allocs p=false) (hd:Nat.blt d n=true) (h:DC C N k Q all os (i+1) nid ⟨(d,v) :: K,H,lo,rnd,n⟩):DC C N k Q all (⟨some d,p,ty,pos,after,g⟩ :: os) i nid ⟨K,H,lo,rnd,n⟩:=by
  obtain ⟨c,fn,hb,hx⟩:=hX
  intro log hl
  refine dstepC (e:=⟨v,[],ym (hide Lc H) 0⟩) (d:=⟨c,fn,args,hide Lc H⟩) (.sub hw hc hb ⟨by simp [hide],fun id B h1 h2=>?_,fun id h1=>?_⟩) ?_ (Qo hl) ?_
  · rcases (zJx h1).2 with q | rfl
    · exact q.2
    · cases h2
  · rcases (zJx h1).2 with q | q
    · obtain ⟨a, ha, e⟩ := List.mem_map.1 q.1
      obtain ⟨B,h3,h4⟩:=hH.bl a ha
      rw [e,q.2] at h3
      cases h3
      exact hF a ha h4
    · cases q
  · refine fun hC E I m a w hE hs => zEo (fun e s h => ?_) (hx (hide Lc H) (zOM hH) hC E I m a w hE hs)
    obtain ⟨v1,v2,q1,q2,rfl⟩:=h
    exact ⟨v1,q1,q2⟩
  · simp only [rdOf, ha, _root_.cond_false]
    exact DW.eqv (JA hd rfl) (h _ fun p hp=>by
      rcases List.mem_cons.1 hp with rfl | hp
      · rfl
      · exact hl p hp)
theorem appG (kk:Nat) {α:Type} {z:Bool} {f:α→V} {l:List α} {a:α} {xs r:List α} {t e es id:Nat} {T Te:TI} {xo yo:Operand} {yv:V} (hH:Has H L) (hL:Am.get L kk=some (id,isB (oblz z es f l))) (hm:Mx.app l (a :: xs)=some r) (hs:∀ a,Jr Te (f a)=true) (hw:wants all K g=some true) (hT:C.ty t=some T) (hk:T.kd = .slice e es) (hTe:C.ty e=some Te) (hes:Te.size=es) (hby:Nat.ble Te.bytes 4096=true) (hx:kev K xo=some (ovlz z id l)) (hlo:Nat.ble lo id=true) (hy:kev K yo=some yv) (hr:rowsOf H yv=some ((a :: xs).map f,rd)) (hd:Nat.blt d n=true)
    (h:∀ H',H.length≤H'.length→Has H' (Am.set L kk (H.length,isB (oblz z es f r)))→GS C N (.ops all os :: k) ⟨(d,ovlz z H.length r) :: K,H',lo,rnd,n⟩ Q):GS C N (.ops all (⟨some d,.call ⟨.builtin .append,#[xo,yo],#[t,t]⟩,ty,pos,after,g⟩ :: os) :: k) ⟨K,H,lo,rnd,n⟩ Q:=by
  have hne:r≠[]:=by
    obtain ⟨_,rfl⟩:=yS hm
    simp
  have hid:=hH.lt hL
  have hl1:(hput H id .dead).length=H.length:=by rw [zq _ _ _ (Nat.le_of_lt hid)]; omega
  refine appN hm hs hw hT hk hTe hes hby hx (hH.is hL) (hH.blt hL) hlo hy hr hd rfl ?_
  rw [← zAg (z:=z) (id:=H.length) hne]
  refine h _ ?_ (hH.to hL (.inr (Nat.le_refl _)) (B:=oblz z es f r) ?_ rfl fun j hj hlt=>?_)
  · simp only [puts]
    rw [zq _ _ _ (by omega)]; omega
  · simp only [puts]
    rw [zh _ _ _ _ (by omega),if_pos rfl,Yi hne]
  · simp only [puts]
    rw [zh _ _ _ _ (by omega),if_neg (by omega),zh _ _ _ _ (Nat.le_of_lt hid),if_neg fun e=>hj e.symm]
theorem padG (hH:Has H L) (h:∀ H',H.length≤H'.length→Has H' ((H.length,isB .dead) :: L)→GS C N k ⟨K,H',lo,rnd,n⟩ Q):GS C N k ⟨K,H,lo,rnd,n⟩ Q:=fun hC E I m a w hE hs=>h _ (by simp) (hH.new rfl) hC E I m a w hE hs.pad
theorem qo : ∀ m,(zl m).length=m
  | 0=>rfl
  | m+1=>by simp [zl,qo m]
theorem zA6 {H:List Blk}:∀ {m j:Nat},j<m→Am.get (H++zl m) (H.length+j)=some .free:=by
  have key:∀ (m j:Nat),j<m→Am.get (zl m) j=some .free:=by
    intro m
    induction m with
    | zero=>intro j h; omega
    | succ m ih =>
      intro j h
      cases j with
      | zero=>rfl
      | succ j=>have:=ih j (by omega); rw [zP] at this ⊢; simpa [zl] using this
  intro m j h
  have:=key m j h
  rw [zP] at this ⊢
  rw [List.getElem?_append_right (by omega)]
  simpa using this
theorem Jo (h:Has H L) (m:Nat):Has (H++zl m) L:=⟨h.nd,fun p hp=>by
  obtain ⟨B,h1,h2⟩:=h.bl p hp
  have hlt:=jm h1
  exact ⟨B,by rw [zP] at h1 ⊢; rw [List.getElem?_append_left hlt]; exact h1,h2⟩⟩
theorem cutW {id:Nat} {l:List Oper} (b m:Nat) (hb:(l.take b).length=b) (hreg:zAI l=true) (hcut:zG7 l b=true) (hm:YV (l.take b)=m) (h:DW C N (.ops l (l.drop b) :: k) Q l (l.take b) 0 H.length ⟨K,H++zl m,lo,rnd,n⟩ []):GS C N (.code (.region id l.toArray true) :: k) ⟨K,H,lo,rnd,n⟩ Q:=by
  refine zEe b hb hreg hcut ?_
  rw [hm]
  exact h
theorem wq {i nid:Nat} {log:List (Nat×List Nat×List Nat)} (hw:wants all K g=some true) (he:zM C K H lo nid p=some ⟨v,[],rd⟩) (ha:allocs p=false) (hd:Nat.blt d n=true) (hcl:(log.all fun e=>e.2.2.isEmpty)=true) (h:DW C N k Q all os (i+1) nid ⟨(d,v) :: K,H,lo,rnd,n⟩ ((i,rd,[]) :: log)):DW C N k Q all (⟨some d,p,ty,pos,after,g⟩ :: os) i nid ⟨K,H,lo,rnd,n⟩ log:=by
  refine dstep (d:=⟨v,[],rd⟩) (.op hw he (fun hal=>by rw [ha] at hal; cases hal) (fun id hid=>by cases hid)) (Qo fun p hp=>?_) ?_
  · have := List.all_eq_true.1 hcl p hp
    simpa using this
  · simp only [rdOf, ha, _root_.cond_false]
    exact DW.eqv (JA hd rfl) h
theorem wbld {t nn es i m q len:Nat} {log:List (Nat×List Nat×List Nat)} {ps:Array (Nat×Operand)} {l:List V} (hw:wants all K g=some true) (he:zM C K (H++zl m) lo (H.length+q) (.buildSlice t nn ps)=some ⟨.osl (H.length+q) 0 len,[(H.length+q,.rows es l)],[H.length+q]⟩) (hlen:len=l.length) (hq:Nat.blt q m=true) (hsh:l.all (shut 9)=true) (hd:Nat.blt d n=true) (hcl:(log.all fun e=>e.2.2.isEmpty)=true)
    (h:DW C N k Q all os (i+1) (H.length+(q+1)) ⟨(d,.sl l) :: K,H++zl m,lo,rnd,n⟩ ((i,[H.length+q,H.length+q],[]) :: log)):DW C N k Q all (⟨some d,.buildSlice t nn ps,ty,pos,after,g⟩ :: os) i (H.length+q) ⟨K,H++zl m,lo,rnd,n⟩ log:=by
  have hq':q<m:=by simpa [Nat.blt_eq] using hq
  exact dbld hw he hlen (by rw [zA6 hq']; rfl) hsh (Qo fun p hp=>by have:=List.all_eq_true.1 hcl p hp; simpa using this) hd h
def jsB {α:Type} (z:Bool) (es:Nat) (f:α→V) (l j:List α):Blk:=bif z&&l.isEmpty then .dead else .rows es ((l++j).map f)
theorem zA3 {α:Type} (z:Bool) (id es:Nat) (f:α→V) (l j:List α):(z=true∧l=[])∨(ovlz z id l = .osl id 0 l.length∧jsB z es f l j = .rows es ((l++j).map f)):=by
  cases z <;> cases l <;> simp [ovlz,jsB]
theorem zEM {α:Type} (z:Bool) (id es:Nat) (f:α→V) (l j:List α) (a:α):ovlz z id (l++[a]) = .osl id 0 (l++[a]).length∧jsB z es f (l++[a]) j = .rows es (((l++[a])++j).map f):=by
  rcases zA3 z id es f (l++[a]) j with ⟨_,h⟩ | h
  · simp at h
  · exact h
theorem zDc {x:Nat}:∀ {l:List Nat},(∀ y∈l,y≠x)→memN x l=false
  | [],_=>rfl
  | y :: r,h=>by
    have h1:=h y List.mem_cons_self
    have h2:=zDc (x:=x) fun z hz=>h z (List.mem_cons_of_mem _ hz)
    unfold memN
    rw [h2]
    have h3:Nat.beq y x=false:=by
      cases e:Nat.beq y x with
      | false=>rfl
      | true=>exact absurd (Nat.eq_of_beq_eq_true e) h1
    simp [h3]
theorem Jw : ∀ {wr l:List Nat},(∀ x∈wr,∀ y∈l,y≠x)→meet wr l=false
  | [],_,_=>rfl
  | x :: r,l,h=>by
    unfold meet
    rw [zDc (h x List.mem_cons_self),Jw fun z hz=>h z (List.mem_cons_of_mem _ hz)]; rfl
theorem zFE {ops:List Oper} {j:Nat} {rd wr:List Nat}:∀ {log:List (Nat×List Nat×List Nat)},(∀ e∈log,JH ops ops.length j e.1=true∨(e.2.2=[]∧∀ x∈wr,∀ y∈e.2.1,y≠x))→yA ops j rd wr log=true
  | [],_=>rfl
  | (i,rd',wr') :: r,h=>by
    unfold yA
    rw [zFE fun e he=>h e (List.mem_cons_of_mem _ he)]
    rcases h _ List.mem_cons_self with q | ⟨q1,q2⟩
    · simp only at q; rw [q]; simp
    · simp only at q1 q2
      subst q1
      have:=Jw q2
      simp [meet,this]
theorem wt {log:List (Nat×List Nat×List Nat)} {i id m:Nat} (h:(log.all fun e=>JH all all.length i e.1||(e.2.1.isEmpty&&e.2.2.isEmpty))=true):∀ e∈log,JH all all.length i e.1=true∨(e.2.2=[]∧∀ y∈e.2.1,y≠id∧y<m):=fun e he=>by
  have:=List.all_eq_true.1 h e he
  rw [Bool.or_eq_true,Bool.and_eq_true,List.isEmpty_iff,List.isEmpty_iff] at this
  rcases this with q | ⟨q1,q2⟩
  · exact .inl q
  · exact .inr ⟨q2,fun y hy=>by rw [q1] at hy; cases hy⟩
theorem wend {i nid:Nat} {log:List (Nat×List Nat×List Nat)} {wr:List (Nat×Blk)} (hw:wants all K g=some true) (he:zM C K H lo nid p=some ⟨v,wr,rd⟩) (hf:Am.get H nid=some .free) (hwr:∀ id,id∈Za wr→id<H.length) (hd:Nat.blt d n=true) (hlog:∀ e∈log,JH all all.length i e.1=true∨(e.2.2=[]∧∀ x∈Za wr,∀ y∈e.2.1,y≠x)) (h:GS C N k ⟨(d,v) :: K,puts H wr,lo,rnd,n⟩ Q):DW C N k Q all [⟨some d,p,ty,pos,after,g⟩] i nid ⟨K,H,lo,rnd,n⟩ log :=
  dstep (d:=⟨v,wr,rd⟩) (.op hw he (fun _=>hf) hwr) (zFE hlog) (DW.eqv (JA hd rfl) (dnil h))
theorem zF8 (kk:Nat) {α:Type} {z:Bool} {f:α→V} {l j r:List α} {a:α} {t e es id i m q:Nat} {T Te:TI} {xo yo:Operand} {yv:V} {log:List (Nat×List Nat×List Nat)} (hH:Has H L) (hL:Am.get L kk=some (id,isB (jsB z es f l j))) (hj:z=true→l=[]→j=[]) (hm:Mx.app l [a]=some r) (hs:∀ a,Jr Te (f a)=true) (hw:wants all K g=some true) (hT:C.ty t=some T) (hk:T.kd = .slice e es) (hTe:C.ty e=some Te) (hes:Te.size=es) (hby:Nat.ble Te.bytes 4096=true) (hx:kev K xo=some (ovlz z id l)) (hy:kev K yo=some yv) (hr:rowsOf (H++zl m) yv=some ([f a],rd)) (hd:Nat.blt d n=true) (hq:Nat.blt q m=true) (hlog:∀ e∈log,JH all all.length i e.1=true∨(e.2.2=[]∧∀ y∈e.2.1,y≠id∧y<H.length))
    (h:∀ i' H',Has H' (Am.set L kk (i',isB (jsB z es f r (j.drop 1))))→GS C N k ⟨(d,ovlz z i' r) :: K,H',0,rnd,n⟩ Q):DW C N k Q all [⟨some d,.call ⟨.builtin .append,#[xo,yo],#[t,t]⟩,ty,pos,after,g⟩] i (H.length+q) ⟨K,H++zl m,0,rnd,n⟩ log:=by
  have hq':q<m:=by simpa [Nat.blt_eq] using hq
  have hfr:=zA6 (H:=H) hq'
  have hF:=Jo hH m
  have hid:=hH.lt hL
  have hg:=hF.is hL
  have hlen:(H++zl m).length=H.length+m:=by rw [List.length_append,qo]
  have hidF:id<(H++zl m).length:=by omega
  have hnid:H.length+q<(H++zl m).length:=by omega
  obtain ⟨hmax,hr'⟩:=yS hm
  subst hr'
  have hgetF:∀ k,k<H.length→Am.get (H++zl m) k=Am.get H k:=fun k hk=>by rw [zP,zP,List.getElem?_append_left hk]
  -- a new block
  have new:∀ (H':List Blk) (B:Blk),(∀ k,k≠id→k<H.length→Am.get H' k=Am.get (H++zl m) k)→Am.get H' (H.length+q)=some B→B = .rows es (((l++[a])++j.drop 1).map f)→GS C N k ⟨(d,.osl (H.length+q) 0 (l++[a]).length) :: K,H',0,rnd,n⟩ Q:=fun H' B q1 q2 q3=>by
    rw [← (zEM z (H.length+q) es f l [] a).1]
    refine h _ H' (hH.to hL (.inr (by omega)) q2 ?_ fun k hk1 hk2=>by rw [q1 k hk1 hk2,hgetF k hk2])
    rw [(zEM z (H.length+q) es f l (j.drop 1) a).2]
    exact q3
  have hsep:∀ (wr:List (Nat×Blk)),(∀ x∈Za wr,x=id∨x=H.length+q)→∀ e∈log,JH all all.length i e.1=true∨(e.2.2=[]∧∀ x∈Za wr,∀ y∈e.2.1,y≠x):=fun wr hwr e he=>by
    rcases hlog e he with q1 | ⟨q1,q2⟩
    · exact .inl q1
    · refine .inr ⟨q1, fun x hx y hy => ?_⟩
      have:=q2 y hy
      rcases hwr x hx with rfl | rfl <;> omega
  rcases zA3 z id es f l j with ⟨e1,e2⟩ | ⟨e1,e2⟩
  · subst e1; subst e2
    have hj':=hj rfl rfl
    subst hj'
    have he:=zO1 (C:=C) (K:=K) (H:=H++zl m) (lo:=0) (nid:=H.length+q) (a:=a) (xs:=[]) hm hs hT hk hTe hes hby hx hy hr
    refine wend hw he hfr (fun k hk=>by simp only [Za,List.mem_singleton] at hk; omega) hd (hsep _ fun x hx=>by simp only [Za,List.mem_cons,List.not_mem_nil,or_false] at hx; omega) (new _ _ (fun k hk1 hk2=>?_) ?_ rfl)
    · simp only [puts]
      rw [zh _ _ _ _ (by omega),if_neg (by omega)]
    · simp only [puts]
      rw [zh _ _ _ _ (by omega),if_pos rfl]
      simp
  · rw [e1] at hx
    rw [e2] at hg
    cases j with
    | nil =>
      rw [List.append_nil] at hg
      have he:=appO (C:=C) (K:=K) (H:=H++zl m) (lo:=0) (nid:=H.length+q) (l:=l) (xs:=[a]) hm hs hT hk hTe hes hby hx hg (Nat.ble_eq_true_of_le (Nat.zero_le _)) hy hr
      have hl1:(hput (H++zl m) id .dead).length=(H++zl m).length:=by rw [zq _ _ _ (by omega)]; omega
      refine wend hw he hfr (fun k hk=>by simp only [Za,List.mem_cons,List.not_mem_nil,or_false] at hk; omega) hd (hsep _ fun x hx=>by simp only [Za,List.mem_cons,List.not_mem_nil,or_false] at hx; omega) (new _ _ (fun k hk1 hk2=>?_) ?_ rfl)
      · simp only [puts]
        rw [zh _ _ _ _ (by omega),if_neg (by omega),zh _ _ _ _ (by omega),if_neg fun e=>hk1 e.symm]
      · simp only [puts]
        rw [zh _ _ _ _ (by omega),if_pos rfl]
        simp
    | cons b j =>
      subst hes
      have ht:Nat.beq t t=true:=Nat.beq_refl t
      have he0:Nat.beq Te.size Te.size=true:=Nat.beq_refl _
      have hll:((l++b :: j).map f).length=l.length+(j.length+1):=by simp
      have hset:setAt ((l++b :: j).map f) (0+l.length) [f a]=some (((l++[a])++j).map f):=by
        rw [zBw _ _ _ (by rw [hll]; simp),Nat.zero_add]
        simp only [List.map_append,List.map_cons,List.map_nil,List.length_singleton]
        rw [List.take_left' (by simp),show l.map f++f b :: j.map f=(l.map f++[f b])++j.map f by simp,List.drop_left' (by simp)]
      have hn:zEF Te [f a]=true:=zFC hs [a]
      have he:zM C K (H++zl m) 0 (H.length+q) (.call ⟨.builtin .append,#[xo,yo],#[t,t]⟩)=some ⟨.osl id 0 (l++[a]).length,[(id,.rows Te.size (((l++[a])++j).map f))],id :: rd⟩:=by
        simp only [zM,Zd,kevs,hx,hy,Z0,Yb,ht,_root_.cond_true,Z5,hT,hk,hTe,yt,hr,hn,Nat.not_lt_zero,if_false,hg,he0,zAD,hll,Nat.zero_add]
        rw [if_neg (by omega),if_pos (by simp),show l.length=0+l.length by omega,hset]
        simp
      refine wend hw he hfr (fun k hk=>by simp only [Za,List.mem_singleton] at hk; omega) hd (hsep _ fun x hx=>by simp only [Za,List.mem_cons,List.not_mem_nil,or_false] at hx; omega) ?_
      rw [← (zEM z id Te.size f l [] a).1]
      refine h id _ (hF.put hL ?_)
      rw [(zEM z id Te.size f l _ a).2]
      rfl
theorem sel {L':Hp} (is:List Nat) (hH:Has H L) (hp:mapO (Am.get L) is=some L') (hn:is.Nodup):Has H L':=by
  have:=Has.pick (R:=[]) (A:=L) is hp hn (by rwa [List.append_nil])
  rwa [List.append_nil] at this
theorem zCT {α:Type} {z:Bool} {i es:Nat} {f:α→V} {l j:List α} (n:Nat) (hH:hget H i=jsB z es f l j) (hf:∀ x,frz H 0 n (f x)=some (f x)):FR H 0 (ovlz z i l) (.sl (l.map f)):=by
  have key:hget H i = .rows es ((l++j).map f)→FR H 0 (.osl i 0 l.length) (.sl (l.map f)):=fun h=>by
    have h2:JI ((l++j).map f) 0 l.length=some (l.map f):=by
      rw [zCj _ _ _ (by simp)]
      simp
    generalize (l++j).map f=R at h h2
    exact ⟨n+1,by simp [frz,h,h2,JV hf]⟩
  cases z with
  | false=>exact key hH
  | true=>cases l with
    | nil=>exact ⟨1,rfl⟩
    | cons x r=>exact key hH
theorem zFF {ops:List Oper} {j x:Nat} {rd:List Nat}:∀ {log:List (Nat×List Nat×List Nat)},(log.all fun e=>e.2.2.isEmpty)=true→(∀ e∈log,∀ y∈e.2.1,y≠x)→yA ops j rd [x] log=true
  | [],_,_=>rfl
  | (i,rd',wr') :: r,h,g=>by
    rw [List.all_cons,Bool.and_eq_true] at h
    unfold yA
    rw [zFF h.2 fun e he=>g e (List.mem_cons_of_mem _ he)]
    have h1:=h.1
    simp only [List.isEmpty_iff] at h1
    subst h1
    have h2:=zDc (x:=x) (l:=rd') (g _ List.mem_cons_self)
    simp [meet,h2]
theorem wbox {i m q:Nat} {B:Blk} {log:List (Nat×List Nat×List Nat)} (hH:Has H L) (hw:wants all K g=some true) (he:zM C K (H++zl m) lo (H.length+q) p=some ⟨.ptr (H.length+q) 0 0,[(H.length+q,B)],rd⟩) (hd:Nat.blt d n=true) (hq:Nat.blt q m=true) (hcl:(log.all fun e=>e.2.2.isEmpty)=true) (hlog:∀ e∈log,∀ y∈e.2.1,y<H.length) (h:∀ i' H',Has H' ((i',isB B) :: L)→GS C N k ⟨(d,.ptr i' 0 0) :: K,H',lo,rnd,n⟩ Q):DW C N k Q all [⟨some d,p,ty,pos,after,g⟩] i (H.length+q) ⟨K,H++zl m,lo,rnd,n⟩ log:=by
  have hq':q<m:=by simpa [Nat.blt_eq] using hq
  have hlen:(H++zl m).length=H.length+m:=by rw [List.length_append,qo]
  refine dstep (d:=⟨.ptr (H.length+q) 0 0,[(H.length+q,B)],rd⟩) (.op hw he (fun _=>zA6 hq') (fun k hk=>by simp only [Za,List.mem_singleton] at hk; show k<(H++zl m).length; omega)) (zFF hcl fun e he y hy=>by have:=hlog e he y hy; omega) (DW.eqv (JA hd rfl) (dnil (h _ _ (hH.add (Nat.le_add_right _ _) ?_ rfl fun k hk=>?_))))
  · simp only [puts]
    rw [zh _ _ _ _ (by omega),if_pos rfl]
  · simp only [puts]
    rw [zh _ _ _ _ (by omega),if_neg (by omega),zP,zP,List.getElem?_append_left hk]
theorem zN8 {α β:Type} [DecidableEq α] {k:α} {v:β}:∀ {l:List (α×β)},zO k l=none→putM posE l k v=l++[(k,v)]∧zO k (l++[(k,v)])=some v:=by
  intro l h
  constructor
  · have hf := JF (k := k) (l := l)
    unfold putM
    cases e:JB k l with
    | some i =>
      rw [e] at hf
      obtain ⟨v',_,h2⟩:=hf
      rw [h] at h2; cases h2
    | none =>
      have key:∀ (l:List (α×β)) (x:α×β),insL l l.length x=l++[x]:=by
        intro l x
        induction l with
        | nil=>rfl
        | cons y r ih=>simp only [List.length_cons,insL,ih,List.cons_append]
      simp only [posE,List.length_map]
      exact key l (k,v)
  · induction l with
    | nil=>simp [zO]
    | cons p r ih =>
      simp only [zO,List.cons_append] at h ⊢
      by_cases e:k=p.1
      · rw [if_pos e] at h; cases h
      · rw [if_neg e] at h ⊢
        exact ih h
theorem zCv {ops:List Oper} {j:Nat}:∀ {log:List (Nat×List Nat×List Nat)},yA ops j [] [] log=true
  | []=>rfl
  | (i,rd',wr') :: r=>by
    unfold yA
    rw [zCv]
    simp [meet,zCJ]
theorem wpu {i nid:Nat} {log:List (Nat×List Nat×List Nat)} (hw:wants all K g=some true) (he:zM C K H lo nid p=some ⟨v,[],[]⟩) (ha:allocs p=false) (hd:Nat.blt d n=true) (h:DW C N k Q all os (i+1) nid ⟨(d,v) :: K,H,lo,rnd,n⟩ ((i,[],[]) :: log)):DW C N k Q all (⟨some d,p,ty,pos,after,g⟩ :: os) i nid ⟨K,H,lo,rnd,n⟩ log:=by
  refine dstep (d:=⟨v,[],[]⟩) (.op hw he (fun hal=>by rw [ha] at hal; cases hal) (fun id hid=>by cases hid)) ?_ ?_
  · simp only [rdOf,ha,_root_.cond_false]; exact zCv
  · simp only [rdOf, ha, _root_.cond_false]
    exact DW.eqv (JA hd rfl) h
theorem wst (kk:Nat) {i nid id:Nat} {pp:Blk→Prop} {B:Blk} {log:List (Nat×List Nat×List Nat)} (hH:Has H L) (hL:Am.get L kk=some (id,pp)) (hw:wants all K g=some true) (he:zM C K H lo nid p=some ⟨v,[(id,B)],[id]⟩) (ha:allocs p=false) (hlog:∀ e∈log,JH all all.length i e.1=true∨(e.2.2=[]∧∀ y∈e.2.1,y≠id)) (h:∀ H',Has H' (Am.set L kk (id,isB B))→DW C N k Q all os (i+1) nid ⟨K,H',lo,rnd,n⟩ ((i,[id],[id]) :: log)):DW C N k Q all (⟨none,p,ty,pos,after,g⟩ :: os) i nid ⟨K,H,lo,rnd,n⟩ log:=by
  have hid:=hH.lt hL
  refine dstep (d:=⟨v,[(id,B)],[id]⟩) (.op hw he (fun hal=>by rw [ha] at hal; cases hal) (fun j hj=>by simp only [Za,List.mem_singleton] at hj; subst hj; exact hid)) (zFE fun e he=>?_) ?_
  · rcases hlog e he with q | ⟨q1, q2⟩
    · exact .inl q
    · exact .inr ⟨q1,fun x hx y hy=>by simp only [Za,List.mem_singleton] at hx; subst hx; exact q2 y hy⟩
  · simp only [rdOf, ha, _root_.cond_false]
    exact DW.eqv (zLG rfl) (h _ (hH.put hL rfl))
theorem appK {nid e es t id i j m:Nat} {T Te:TI} {xo yo:Operand} {Rw:List V} (hT:C.ty t=some T) (hk:T.kd = .slice e es) (hTe:C.ty e=some Te) (hes:Te.size=es) (hx:kev K xo=some (.osl id 0 i)) (hy:kev K yo=some (.osl id j m)) (hG:hget H id = .rows es Rw) (hz:∀ r∈Rw,Jr Te r=true) (hlo:Nat.ble lo id=true) (q1:i<j) (q2:j+m≤Rw.length):zM C K H lo nid (.call ⟨.builtin .append,#[xo,yo],#[t,t]⟩)=some ⟨.osl id 0 (i+m),[(id,.rows es (Rw.take i++(Rw.drop j).take m++Rw.drop (i+m)))],[id,id]⟩:=by
  have hlo' : ¬ id<lo:=by have:=Nat.le_of_ble_eq_true hlo; omega
  have e1:JI Rw j m=some ((Rw.drop j).take m):=zCj Rw m j q2
  have hl:((Rw.drop j).take m).length=m:=by rw [List.length_take,List.length_drop]; omega
  have e2:zEF Te ((Rw.drop j).take m)=true:=by
    cases h:(Rw.drop j).take m with
    | nil=>rfl
    | cons x r=>exact hz x (List.mem_of_mem_drop (i:=j) (List.mem_of_mem_take (i:=m) (by rw [h]; simp)))
  have e3:setAt Rw (0+i) ((Rw.drop j).take m)=some (Rw.take i++(Rw.drop j).take m++Rw.drop (i+m)):=by
    rw [zBw _ _ _ (by rw [hl]; omega),hl,Nat.zero_add]
  have ht:Nat.beq t t=true:=Nat.beq_refl t
  have he:Nat.beq es Te.size=true:=by rw [hes]; exact Nat.beq_refl _
  simp only [zM,Zd,kevs,hx,hy,Z0,Yb,ht,Z5,hT,hk,hTe,yt,rowsOf,hG,e1,Option.map_some,e2,_root_.cond_true,he,hlo',if_false,zAD,hl]
  rw [if_neg (by omega),if_pos (by omega),e3]
theorem clrK {nid e es t id a m:Nat} {T Te:TI} {xo:Operand} {Rw:List V} (hT:C.ty t=some T) (hk:T.kd = .slice e es) (hTe:C.ty e=some Te) (hes:Te.size=es) (hx:kev K xo=some (.osl id a m)) (hG:hget H id = .rows es Rw) (hlo:Nat.ble lo id=true) (q:a+m≤Rw.length):zM C K H lo nid (.call ⟨.builtin .clear,#[xo],#[t]⟩)=some ⟨jA,[(id,.rows es (Rw.take a++List.replicate m Te.zero++Rw.drop (a+m)))],[id]⟩:=by
  have hlo' : ¬ id<lo:=by have:=Nat.le_of_ble_eq_true hlo; omega
  have e3:setAt Rw a (List.replicate m Te.zero)=some (Rw.take a++List.replicate m Te.zero++Rw.drop (a+m)):=by
    rw [zBw _ _ _ (by rw [List.length_replicate]; omega),List.length_replicate]
  have he:Nat.beq es Te.size=true:=by rw [hes]; exact Nat.beq_refl _
  simp only [zM,Zd,kevs,hx,Z0,zC8,Z5,hT,hk,hTe,zBc,hG,hlo',if_false,he,hes,Nat.beq_refl,_root_.cond_true,e3]
theorem wput (kk:Nat) {i nid id:Nat} {pp:Blk→Prop} {B:Blk} {log:List (Nat×List Nat×List Nat)} (hH:Has H L) (hL:Am.get L kk=some (id,pp)) (hw:wants all K g=some true) (he:zM C K H lo nid p=some ⟨v,[(id,B)],rd⟩) (hf:Am.get H nid=some .free) (hd:Nat.blt d n=true) (hlog:(log.all fun e=>JH all all.length i e.1)=true) (h:∀ H',Has H' (Am.set L kk (id,isB B))→GS C N k ⟨(d,v) :: K,H',lo,rnd,n⟩ Q):DW C N k Q all [⟨some d,p,ty,pos,after,g⟩] i nid ⟨K,H,lo,rnd,n⟩ log :=
  wend hw he hf (fun k hk=>by simp only [Za,List.mem_singleton] at hk; subst hk; exact hH.lt hL) hd (fun e he=>.inl (List.all_eq_true.1 hlog e he)) (h _ (hH.put hL rfl))
theorem ixJ {α:Type} {z:Bool} {f:α→V} {l j:List α} {a:α} {t id nid:Nat} {xo io:Operand} {T:TI} {e es:Nat} {m:Int} {ik:IntKind} (hm:ix l m=some a) (hT:C.ty t=some T) (hk:T.kd = .slice e es) (hx:kev K xo=some (ovlz z id l)) (hi:kev K io=some (.lit (.int ik m))) (hG:hget H id=jsB z es f l j):zM C K H lo nid (.indexAddr t xo io)=some ⟨.ptr id m.toNat 0,[],[id]⟩:=by
  obtain ⟨h0,h1,h2⟩:=zBn hm
  rcases zA3 z id es f l j with ⟨_,e2⟩ | ⟨e1,e2⟩
  · subst e2; simp at h2
  · rw [e1] at hx
    rw [e2] at hG
    simp [zM,jV,hT,hx,hi,zBW,hk,h0,h1,hG]
theorem ldJ {α:Type} {z:Bool} {f:α→V} {l j:List α} {a:α} {t id nid:Nat} {xo:Operand} {T:TI} {m:Int} {off es:Nat} (hm:ix l m=some a) (hT:C.ty t=some T) (hx:kev K xo=some (.ptr id m.toNat off)) (hG:hget H id=jsB z es f l j) (hp:Jd T off (f a).cells=some v):zM C K H lo nid (.load t xo)=some ⟨v,[],[id]⟩:=by
  obtain ⟨h0,h1,h2⟩:=zBn hm
  rcases zA3 z id es f l j with ⟨_,e2⟩ | ⟨_,e2⟩
  · subst e2; simp at h2
  · rw [e2] at hG
    have hg:Am.get ((l++j).map f) m.toNat=some (f a):=by
      have hlt:m.toNat<l.length:=by omega
      rw [zP,List.getElem?_map,List.getElem?_append_left hlt,h2]; rfl
    simp only [zM,QH,hT,hx,zAO,hG,hg,hp,Option.map_some]
theorem finC2 {fn:Func} {e:Ex} {a b t id es:Nat} {T:TI} {r w:V} (he:zJd e=true) (hr:fn.results.toList=[.cell a t,.tmp b]) (hT:C.ty t=some T) (hk:kget K a=some (.ptr id 0 0)) (hg:hget H id = .rows es [r]) (hp:Jd T 0 r.cells=some v) (hb:kget K b=some w):finA C fn e ⟨K,H,lo,rnd,n⟩=some (.tup [v,w]):=by
  simp only [finA,he,_root_.cond_true,zB0,hr,mapO,resA,hT,hk,zAO,hg,Am.get,hp,Option.map_some,hb]
theorem mkm {B:Blk} (hH:Has H L) (hw:wants all K g=some true) (he:zM C K H lo H.length p=some ⟨.map H.length,[(H.length,B)],rd⟩) (hd:Nat.blt d n=true) (h:∀ id H',Has H' ((id,isB B) :: L)→GS C N (.ops all os :: k) ⟨(d,.map id) :: K,H',lo,rnd,n⟩ Q):GS C N (.ops all (⟨some d,p,ty,pos,after,g⟩ :: os) :: k) ⟨K,H,lo,rnd,n⟩ Q :=
  opW hw he zAu hd (h _ _ (hH.new rfl))
end
end S
end Go.Am
