/- Part of the proof of TopRulingsArePostedOnce: walks: methods of the program, step by step, compute the plain ones. Conditions: none. -/
import Derived.Test.YtggkidlcohickaaGreatW5
import Derived.Test.YtggkidlcohickaaGreatHi
import Derived.Test.YtggkidlcohickaaGreatSrt
import Derived.Test.YtggkidlcohickaaGreatWm
set_option linter.unusedVariables false
set_option linter.unusedSimpArgs false
set_option maxRecDepth 4000
namespace Go.Proofs.YtggkidlcohickaaGreat
open Go Go.Am Go.Proofs Go.Mx
structure SI where
  id:Nat
  ih:Nat
structure BX where
  closed:Int
  posts:List jr
  taken:List zF
  bills:List (Int×Zi×SI)
  ip:Nat
  it:Nat
  im:Nat
  ipd:Nat
  ibd:Nat
def BX.b (Z:BX):jX:=⟨Z.closed,Z.posts,Z.taken,Z.bills.map fun p=>(p.1,p.2.1)⟩
abbrev Qb (x:jr):V:=.agg [V.i x.Item,V.i x.Day,V.i x.Account,V.i x.Amount]
abbrev zBA (x:yL):V:=.agg [V.i x.Account,V.i x.Amount]
abbrev qz (x:zHC):V:=.agg [V.i x.Known,V.i x.Amount]
abbrev brow (Z:BX):V:=.agg [V.i Z.closed,ovlz true Z.ip Z.posts,ovlz true Z.it Z.taken,V.nil,.map Z.im,.map Z.ipd,.map Z.ibd]
abbrev kW (ib:Nat) (Z:BX):Nat×(Blk→Prop):=(ib,isB (.rows 7 [brow Z]))
abbrev kP (Z:BX):Nat×(Blk→Prop):=(Z.ip,isB (S.jsB true 4 Qb Z.posts []))
abbrev kT (Z:BX):Nat×(Blk→Prop):=(Z.it,isB (S.jsB true 7 zI Z.taken []))
structure Posted (Z Z':BX):Prop where
  c:Z'.closed=Z.closed
  t:Z'.taken=Z.taken
  b:Z'.bills=Z.bills
  it:Z'.it=Z.it
  im:Z'.im=Z.im
  ipd:Z'.ipd=Z.ipd
  ibd:Z'.ibd=Z.ibd
theorem Posted.refl (Z:BX):Posted Z Z:=⟨rfl,rfl,rfl,rfl,rfl,rfl,rfl⟩
theorem zLv (ib:Nat) (Z:BX) (x:zF) (on:Int) (l:List yL) (hl:l.length≤1000000) {b':jX} (hM:zAh Z.b x on l=some b'):ImCt CC 100 [.ptr ib 0 0,zI x,V.i on,V.sl (l.map zBA)] [kW ib Z,kP Z] (fun v L' => v=V.b true∧∃ Z',Posted Z Z'∧Z'.b=b'∧L'=[kW ib Z',kP Z']):=by
  unfold zAh at hM
  split at hM
  · cases hM
  rename_i hday
  obtain ⟨p,h1,hM⟩:=zK hM
  cases hM
  refine ⟨_,_,rfl,fun R H0 hH=>?_⟩
  refine aus ?_
  refine S.box hH rfl rfl rfl fun i5 H hH=>?_
  refine aus ?_
  refine X.opR rfl (S.ld 1 hH rfl rfl rfl rfl rfl) rfl ?_
  refine aus ?_
  refine X.cond rfl (fun h2=>?_) (fun _=>?_)
  · exact absurd (of_decide_eq_true h2) hday
  refine aus ?_
  have h1:zCx x.ID (max on (w64 (Z.closed+1))) l Z.posts=some p:=h1
  refine X.norm [(0,.ptr ib 0 0),(2,V.i (max on (w64 (Z.closed+1)))),(5,.ptr i5 0 0),(20,V.sl (l.map zBA)),(21,V.i (l.length:Nat)),(22,V.i ((0:Nat):Int))] ?_ rfl (sr rfl)
  refine X.YY (α:=List Blk×Nat×BX) (fun a=>⟨[(0,.ptr ib 0 0),(2,V.i (max on (w64 (Z.closed+1)))),(5,.ptr i5 0 0),(20,V.sl (l.map zBA)),(21,V.i (l.length:Nat)),(22,V.i ((a.2.1:Nat):Int))],a.1,0,none,44⟩)
    (fun a=>a.2.1≤l.length∧zCx x.ID (max on (w64 (Z.closed+1))) (l.drop a.2.1) a.2.2.posts=some p∧Posted Z a.2.2∧Has a.1 ([(i5,isB (.rows 7 [zI x])),kW ib a.2.2,kP a.2.2]++R)) (fun a=>l.length - a.2.1) ?_ (H,0,Z) ⟨Nat.zero_le _,h1,Posted.refl Z,hH⟩
  clear hH h1 H
  rintro ⟨H,j,Y⟩ ⟨hj,hM,hk,hH⟩ hc
  simp only at hj hM hk hH hc ⊢
  refine aus ?_
  refine X.cond rfl (fun h4=>?_) (fun h4=>?_)
  · have h5 : j < l.length := by have := of_decide_eq_true h4; omega
    rw [List.drop_eq_getElem_cons h5] at hM
    have hx:ix l (j:Int)=some l[j]:=S.ixn h5
    generalize l[j]=q at *
    unfold zCx at hM
    obtain ⟨s,h7,hM⟩:=zK hM
    refine aus ?_
    refine S.box hH rfl rfl rfl fun i10 H hH=>?_
    refine S.w0 0 hH rfl rfl (S.st 0 hH rfl rfl rfl rfl rfl rfl rfl) fun H hH=>?_
    replace hH:Has H ([(i10,isB (.rows 2 [zBA q])),(i5,isB (.rows 7 [zI x])),kW ib Y,kP Y]++R):=hH
    refine aus ?_
    refine S.cutW 15 2 rfl rfl rfl rfl ?_
    have hF:=S.Jo hH 2
    refine S.wq rfl rfl rfl rfl rfl (S.wq rfl rfl rfl rfl rfl (S.wq rfl rfl rfl rfl rfl (S.wq rfl rfl rfl rfl rfl ?_)))
    refine S.wq rfl (S.ld 2 hF rfl rfl rfl rfl rfl) rfl rfl rfl ?_
    refine S.wq rfl rfl rfl rfl rfl ?_
    refine S.wq rfl (S.ld 1 hF rfl rfl rfl rfl rfl) rfl rfl rfl ?_
    refine S.wq rfl rfl rfl rfl rfl (S.wq rfl rfl rfl rfl rfl ?_)
    refine S.wq rfl (S.ld 0 hF rfl rfl rfl rfl rfl) rfl rfl rfl ?_
    refine S.wq rfl rfl rfl rfl rfl ?_
    refine S.wq rfl (S.ld 0 hF rfl rfl rfl rfl rfl) rfl rfl rfl ?_
    refine S.wq rfl rfl rfl rfl rfl ?_
    refine S.wbld (q:=0) (m:=2) rfl rfl rfl rfl rfl rfl rfl ?_
    refine S.zF8 (q:=1) (m:=2) 3 hH rfl (fun _ _=>rfl) h7 (fun _=>rfl) rfl rfl rfl rfl rfl rfl rfl rfl rfl rfl rfl (S.wt rfl) fun i1 H hH=>(X.q rfl (X.q rfl ?_))
    refine S.w0 2 hH rfl rfl (S.stO (z:=true) (ids:=i1) (ls:=s) 2 hH rfl rfl rfl rfl rfl rfl rfl) fun H hH=>?_
    refine aus ?_
    rw [S.w64n h5 (by omega)]
    exact X.norm [(0,.ptr ib 0 0),(2,V.i (max on (w64 (Z.closed+1)))),(5,.ptr i5 0 0),(20,V.sl (l.map zBA)),(21,V.i (l.length:Nat)),(22,V.i ((j+1:Nat):Int))] (hc (H,j+1,{ Y with posts:=s,ip:=i1 }) ⟨h5,hM,⟨hk.c,hk.t,hk.b,hk.it,hk.im,hk.ipd,hk.ibd⟩,hH.tail⟩ (by simp only; omega)) rfl (sr rfl)
  · have h5 : j = l.length := by have := of_decide_eq_false h4; omega
    subst h5
    rw [List.drop_length] at hM
    cases hM
    refine aus ?_
    exact GS.ret ⟨_,rfl,_,⟨rfl,Y,hk,by unfold BX.b; rw [hk.c,hk.t,hk.b],rfl⟩,hH.tail⟩
abbrev srow (s:Zi) (i:SI):V:=.agg [V.i s.item.ID,V.i s.item.Known,V.i s.item.Kind,V.i s.item.Day,V.i s.item.Bill,V.i s.item.Account,V.i s.item.Amount,V.i s.amount,.osl i.ih 0 s.hist.length]
abbrev kS (s:Zi) (i:SI):Nat×(Blk→Prop):=(i.id,isB (.rows 9 [srow s i]))
abbrev kH (s:Zi) (i:SI):Nat×(Blk→Prop):=(i.ih,isB (S.jsB false 2 qz s.hist []))
def BX.bm (Z:BX):List (Int×Option Nat):=Z.bills.map fun p=>(p.1,some p.2.2.id)
abbrev kMl (im:Nat) (l:List (Int×Option Nat)):Nat×(Blk→Prop):=(im,isB (.map (l.map fun p=>V.i p.1) (l.map fun p=>QI p.2)))
abbrev kM (Z:BX):Nat×(Blk→Prop):=kMl Z.im Z.bm
theorem zMF {k:Int}:∀ {l:List (Int×Zi×SI)},zO k (l.map fun p=>(p.1,p.2.1))=none→zO k (l.map fun p=>(p.1,some p.2.2.id))=none
  | [],_=>rfl
  | p :: r,h=>by
    simp only [List.map_cons,zO] at h ⊢
    split at h
    · cases h
    · rename_i e
      rw [if_neg e]
      exact zMF h
theorem zH3 {β γ:Type} (g:β→γ) (k:Int):∀ l:List (Int×β),JB k (l.map fun p=>(p.1,g p.2))=JB k l
  | []=>rfl
  | p :: r=>by simp only [List.map_cons,JB]; rw [zH3 g k r]
theorem zJt {β γ:Type} (f:β→γ):∀ (l:List β) (n:Nat) (x:β),(insL l n x).map f=insL (l.map f) n (f x)
  | l,0,x=>by cases l <;> rfl
  | [],n+1,x=>rfl
  | y :: r,n+1,x=>by simp only [insL,List.map_cons]; rw [zJt f r n x]
theorem zGO {β γ:Type} (g:β→γ) (l:List (Int×β)) (k:Int) (v:β):(putM posI l k v).map (fun p=>(p.1,g p.2))=putM posI (l.map fun p=>(p.1,g p.2)) k (g v):=by
  unfold putM
  rw [zH3]
  cases JB k l with
  | some i=>simp only [List.map_set]
  | none =>
    simp only [zJt,List.map_map]
    rfl
theorem im_bill (ib:Nat) (Z:BX) (x:zF) {b':jX} (hM:zGj Z.b x=some b'):ImCt CC 73 [.ptr ib 0 0,zI x] [kW ib Z,kP Z,kM Z] (fun v L' => v=V.b true∧∃ (Z':BX) (i:SI),Z'.b=b'∧Z'.closed=Z.closed∧Z'.taken=Z.taken∧Z'.bills=putM posI Z.bills x.Bill (⟨x,x.Amount,[⟨x.Known,x.Amount⟩]⟩,i)∧Z'.it=Z.it∧Z'.im=Z.im∧Z'.ipd=Z.ipd∧Z'.ibd=Z.ibd∧L'=[kS ⟨x,x.Amount,[⟨x.Known,x.Amount⟩]⟩ i,kH ⟨x,x.Amount,[⟨x.Known,x.Amount⟩]⟩ i,kW ib Z',kP Z',kM Z']):=by
  unfold zGj at hM
  split at hM
  · cases hM
  rename_i hno
  obtain ⟨b1,h1,hM⟩:=zK hM
  have hnone:zO x.Bill Z.b.bills=none:=by
    cases q:zO x.Bill Z.b.bills with
    | none=>rfl
    | some s=>rw [q] at hno; exact absurd rfl hno
  have hbm:zO x.Bill Z.bm=none:=zMF hnone
  refine ⟨_,_,rfl,fun R H0 hH=>?_⟩
  refine aus ?_
  refine S.box hH rfl rfl rfl fun i3 H hH=>?_
  refine aus ?_
  refine S.cut 18 rfl rfl rfl rfl ?_
  iterate 3 refine X.cop rfl rfl rfl rfl ?_
  refine X.cop rfl (S.ld 1 hH rfl rfl rfl rfl rfl) rfl rfl ?_
  iterate 1 refine X.cop rfl rfl rfl rfl ?_
  refine X.cop rfl (S.ld 0 hH rfl rfl rfl rfl rfl) rfl rfl ?_
  refine X.cop rfl (X.lookW (f:=V.i) (g:=QI) (k:=x.Bill) (l:=Z.bm) (z:=none) X.jK rfl rfl rfl rfl (hH.is (k:=3) rfl) rfl) rfl rfl ?_
  rw [hbm]
  iterate 2 refine X.cop rfl rfl rfl rfl ?_
  have t1:false=false:=rfl
  refine X.cop (X.on_f rfl rfl rfl t1) rfl rfl rfl ?_
  refine X.cop (X.on_f rfl rfl rfl t1) (S.ld 0 hH rfl rfl rfl rfl rfl) rfl rfl ?_
  refine X.cop (X.on_f rfl rfl rfl t1) rfl rfl rfl ?_
  refine X.cop (X.on_f rfl rfl rfl t1) (S.ld 0 hH rfl rfl rfl rfl rfl) rfl rfl ?_
  refine X.cop (X.on_f rfl rfl rfl t1) rfl rfl rfl ?_
  refine X.cop (X.on_f rfl rfl rfl t1) (S.ld 0 hH rfl rfl rfl rfl rfl) rfl rfl ?_
  refine X.cop (X.on_f rfl rfl rfl t1) rfl rfl rfl ?_
  refine X.cop (X.on_f rfl rfl rfl t1) (S.ld 0 hH rfl rfl rfl rfl rfl) rfl rfl ?_
  refine X.ccall (zAM x.Account 2 x.Amount) (X.on_f rfl rfl rfl t1) rfl rfl rfl (.cons (.shut (n:=9) rfl) (.cons (.shut (n:=9) rfl) (.cons (.shut (n:=9) rfl) .nil))) ?_
  refine X.cnil ?_
  have hC:Has H ([kW ib Z,kP Z]++([(i3,isB (.rows 7 [zI x]))]++(kM Z :: R))):=(show Has H ([(i3,isB (.rows 7 [zI x]))]++([kW ib Z,kP Z]++(kM Z :: R))) from hH).perm (List.perm_append_comm_assoc _ _ _)
  refine S.im (zLv ib Z x x.Day (ZX x.Account 2 x.Amount) (by simp [ZX]) h1) hC (X.on_f rfl rfl rfl t1) rfl rfl fun v L' H hT hH=>?_
  obtain ⟨rfl,Z1,hk,hb1,rfl⟩:=hT
  replace hH:=hH.perm (List.perm_append_comm_assoc _ _ _)
  replace hH:Has H ([(i3,isB (.rows 7 [zI x])),kW ib Z1,kP Z1,kM Z]++R):=hH
  have hkM:kM Z=kM Z1:=by
    show kMl Z.im Z.bm=kMl Z1.im Z1.bm
    unfold BX.bm
    rw [hk.im,hk.b]
  rw [hkM] at hH
  refine aus ?_
  refine X.opR (X.on_f rfl rfl rfl t1) rfl rfl ?_
  refine aus ?_
  refine X.cond rfl (fun q=>?_) (fun _=>?_)
  · cases q
  refine aus ?_
  refine S.cutW 17 2 rfl rfl rfl rfl ?_
  have hF:=S.Jo hH 2
  iterate 3 refine S.wq rfl rfl rfl rfl rfl ?_
  refine S.wq rfl (S.ld 1 hF rfl rfl rfl rfl rfl) rfl rfl rfl ?_
  refine S.wq rfl rfl rfl rfl rfl ?_
  refine S.wq rfl (S.ld 0 hF rfl rfl rfl rfl rfl) rfl rfl rfl ?_
  refine S.wq rfl (S.ld 0 hF rfl rfl rfl rfl rfl) rfl rfl rfl ?_
  refine S.wq rfl rfl rfl rfl rfl ?_
  refine S.wq rfl (S.ld 0 hF rfl rfl rfl rfl rfl) rfl rfl rfl ?_
  refine S.wq rfl rfl rfl rfl rfl ?_
  refine S.wq rfl (S.ld 0 hF rfl rfl rfl rfl rfl) rfl rfl rfl ?_
  refine S.wq rfl rfl rfl rfl rfl ?_
  refine S.wq rfl (S.ld 0 hF rfl rfl rfl rfl rfl) rfl rfl rfl ?_
  refine S.wq rfl rfl rfl rfl rfl ?_
  have hp0:=hH.lt (k:=0) rfl
  have hp1:=hH.lt (k:=1) rfl
  refine S.wmk rfl rfl rfl (S.zA6 (H:=H) (m:=2) (j:=0) (by decide)) (by rw [List.length_append,S.qo]; omega) rfl rfl ?_ ?_
  · intro e he y hy
    have:y<H.length:=by
      revert e
      simp [hp0,hp1]
      exact ⟨fun q=>by omega,fun q=>by omega⟩
    omega
  refine S.wpu rfl rfl rfl rfl ?_
  refine S.wbox2 hH rfl rfl rfl ?_ fun i0 i1 H2 e0 e1 hH2=>?_
  · intro e he
    rcases List.mem_cons.1 he with rfl | he
    · exact .inr ⟨rfl,fun y hy=>by cases hy⟩
    rcases List.mem_cons.1 he with rfl | he
    · exact .inl rfl
    refine .inr ?_
    revert e
    simp [hp0,hp1]
  rw [← e1,← e0]
  rw [← e0] at hH2
  refine S.w0 5 hH2 rfl rfl (X.putW (f:=V.i) (g:=QI) (pos:=posI) (k:=x.Bill) (v:=some i1) (l:=Z1.bm) X.jK (X.Jk _) rfl rfl rfl rfl rfl (hH2.is (k:=5) rfl) S.b0) fun H3 hH3=>?_
  refine aus ?_
  obtain ⟨S0,hS0⟩:∃ S0:Zi,S0=⟨x,x.Amount,[⟨x.Known,x.Amount⟩]⟩:=⟨_,rfl⟩
  obtain ⟨Z2,hZ2⟩:∃ Z2:BX,Z2 = { Z1 with bills:=putM posI Z1.bills x.Bill (S0,⟨i1,i0⟩) }:=⟨_,rfl⟩
  have hbm2:putM posI Z1.bm x.Bill (some i1)=Z2.bm:=by rw [hZ2]; exact (zGO (fun p:Zi×SI=>some p.2.id) Z1.bills x.Bill (S0,⟨i1,i0⟩)).symm
  have hH4:Has H3 ([kS S0 ⟨i1,i0⟩,kH S0 ⟨i1,i0⟩,(i3,isB (.rows 7 [zI x])),kW ib Z2,kP Z2,kMl Z2.im (putM posI Z1.bm x.Bill (some i1))]++R):=by rw [hS0,hZ2]; exact hH3
  rw [hbm2] at hH4
  have hH5:=Has.pick (A:=[kS S0 ⟨i1,i0⟩,kH S0 ⟨i1,i0⟩,(i3,isB (.rows 7 [zI x])),kW ib Z2,kP Z2,kM Z2]) (R:=R) [0,1,3,4,5] rfl (by decide) hH4
  have hb2:Z2.b=b':=by
    cases hM
    rw [hZ2,← hb1,← hS0]
    unfold BX.b
    simp only
    rw [zGO (fun p:Zi×SI=>p.1)]
  rw [← hS0]
  exact GS.ret ⟨_,rfl,_,⟨rfl,Z2,⟨i1,i0⟩,hb2,by rw [hZ2]; exact hk.c,by rw [hZ2]; exact hk.t,by rw [hZ2,← hk.b],by rw [hZ2]; exact hk.it,by rw [hZ2]; exact hk.im,by rw [hZ2]; exact hk.ipd,by rw [hZ2]; exact hk.ibd,rfl⟩,hH5⟩
theorem qJ {β γ:Type} (g:β→γ) (k:Int):∀ l:List (Int×β),zO k (l.map fun p=>(p.1,g p.2))=(zO k l).map g
  | []=>rfl
  | p :: r=>by
    simp only [List.map_cons,zO]
    split
    · rfl
    · exact qJ g k r
theorem zDd {β:Type} {k:Int} {v:β}:∀ {l:List (Int×β)},zO k l=some v→∃ A B,l=A++(k,v) :: B∧∀ v',putM posI l k v'=A++(k,v') :: B
  | [],h=>by cases h
  | p :: r,h=>by
    simp only [zO] at h
    by_cases e:k=p.1
    · rw [if_pos e] at h
      cases h
      refine ⟨[],r,by rw [e]; rfl,fun v' => ?_⟩
      unfold putM JB
      rw [if_pos e]; rfl
    · rw [if_neg e] at h
      obtain ⟨A,B,h1,h2⟩:=zDd h
      refine ⟨p :: A,B,by rw [h1]; rfl,fun v' => ?_⟩
      have h3:=h2 v'
      unfold putM at h3 ⊢
      unfold JB
      rw [if_neg e]
      cases q:JB k r with
      | none =>
        have:=JF (k:=k) (l:=r)
        rw [q] at this
        rw [h] at this
        cases this.1
      | some i =>
        rw [q] at h3
        simp only [Option.map_some,List.set_cons_succ,List.cons_append]
        rw [← h3]
theorem im_mend (ib:Nat) (Z:BX) (x:zF) (s:Zi) (i:SI) (hs:zO x.Bill Z.bills=some (s,i)) {b':jX} (hM:zGi Z.b x=some b'):ImCt CC 74 [.ptr ib 0 0,zI x] [kW ib Z,kP Z,kM Z,kS s i,kH s i] (fun v L' => v=V.b true∧∃ (Z':BX) (s':Zi) (i':SI),Z'.b=b'∧Z'.closed=Z.closed∧Z'.taken=Z.taken∧Z'.bills=putM posI Z.bills x.Bill (s',i')∧Z'.it=Z.it∧Z'.im=Z.im∧Z'.ipd=Z.ipd∧Z'.ibd=Z.ibd∧L'=[kW ib Z',kP Z',kM Z',kS s' i',kH s' i']):=by
  have hsb:zO x.Bill Z.b.bills=some s:=by
    show zO x.Bill (Z.bills.map fun p=>(p.1,p.2.1))=some s
    rw [qJ (fun p:Zi×SI=>p.1),hs]; rfl
  have hbm:zO x.Bill Z.bm=some (some i.id):=by
    show zO x.Bill (Z.bills.map fun p=>(p.1,some p.2.2.id))=some (some i.id)
    rw [qJ (fun p:Zi×SI=>some p.2.id),hs]; rfl
  unfold zGi at hM
  rw [hsb] at hM
  simp only at hM
  obtain ⟨b1,h1,hM⟩:=zK hM
  obtain ⟨h,h2,hM⟩:=zK hM
  refine ⟨_,_,rfl,fun R H0 hH=>?_⟩
  refine aus ?_
  refine S.box hH rfl rfl rfl fun i3 H hH=>?_
  replace hH:Has H ([(i3,isB (.rows 7 [zI x])),kW ib Z,kP Z,kM Z,kS s i,kH s i]++R):=hH
  refine aus ?_
  refine X.drawc (by kernel_rfl) rfl ?_
  iterate 3 refine X.cop rfl rfl rfl rfl ?_
  refine X.cop rfl (S.ld 1 hH rfl rfl rfl rfl rfl) rfl rfl ?_
  iterate 1 refine X.cop rfl rfl rfl rfl ?_
  refine X.cop rfl (S.ld 0 hH rfl rfl rfl rfl rfl) rfl rfl ?_
  refine X.cop rfl (X.lookW (f:=V.i) (g:=QI) (k:=x.Bill) (l:=Z.bm) (z:=none) X.jK rfl rfl rfl rfl (hH.is (k:=3) rfl) rfl) rfl rfl ?_
  rw [hbm]
  refine X.cop rfl rfl rfl rfl ?_
  refine X.cnil ?_
  refine aus ?_
  refine S.cut 23 rfl rfl rfl rfl ?_
  iterate 3 refine X.cop rfl rfl rfl rfl ?_
  have t1:false=false:=rfl
  refine X.cop (X.on_f rfl rfl rfl t1) rfl rfl rfl ?_
  refine X.cop (X.on_f rfl rfl rfl t1) (S.ld 0 hH rfl rfl rfl rfl rfl) rfl rfl ?_
  iterate 4 refine X.cop (X.on_f rfl rfl rfl t1) rfl rfl rfl ?_
  refine X.cop (X.on_f rfl rfl rfl t1) (S.ld 4 hH rfl rfl rfl rfl rfl) rfl rfl ?_
  iterate 4 refine X.cop (X.on_f rfl rfl rfl t1) rfl rfl rfl ?_
  refine X.cop (X.on_f rfl rfl rfl t1) (S.ld 4 hH rfl rfl rfl rfl rfl) rfl rfl ?_
  refine X.cop (X.on_f rfl rfl rfl t1) rfl rfl rfl ?_
  refine X.cop (X.on_f rfl rfl rfl t1) (S.ld 0 hH rfl rfl rfl rfl rfl) rfl rfl ?_
  iterate 3 refine X.cop (X.on_f rfl rfl rfl t1) rfl rfl rfl ?_
  refine X.cop (X.on_f rfl rfl rfl t1) (S.ld 4 hH rfl rfl rfl rfl rfl) rfl rfl ?_
  refine X.cop (X.on_f rfl rfl rfl t1) (X.subE rfl rfl) rfl rfl ?_
  refine X.ccall (zAM s.item.Account 2 (w64 (x.Amount - s.amount))) (X.on_f rfl rfl rfl t1) rfl rfl rfl (.cons (.shut (n:=9) rfl) (.cons (.shut (n:=9) rfl) (.cons (.shut (n:=9) rfl) .nil))) ?_
  refine X.cnil ?_
  have hC:Has H ([kW ib Z,kP Z]++([(i3,isB (.rows 7 [zI x]))]++(kM Z :: kS s i :: kH s i :: R))):=(show Has H ([(i3,isB (.rows 7 [zI x]))]++([kW ib Z,kP Z]++(kM Z :: kS s i :: kH s i :: R))) from hH).perm (List.perm_append_comm_assoc _ _ _)
  refine S.im (zLv ib Z x s.item.Day (ZX s.item.Account 2 (w64 (x.Amount - s.amount))) (by simp [ZX]) h1) hC (X.on_f rfl rfl rfl t1) rfl rfl fun v L' H hT hH=>?_
  obtain ⟨rfl,Z1,hk,hb1,rfl⟩:=hT
  replace hH:=hH.perm (List.perm_append_comm_assoc _ _ _)
  replace hH:Has H ([(i3,isB (.rows 7 [zI x])),kW ib Z1,kP Z1,kM Z,kS s i,kH s i]++R):=hH
  refine aus ?_
  refine X.cond rfl (fun q=>?_) (fun _=>?_)
  · cases q
  refine aus ?_
  refine X.opR rfl (S.ld 0 hH rfl rfl rfl rfl rfl) rfl ?_
  refine aus ?_
  refine S.w0 4 hH rfl rfl (S.st 4 hH rfl rfl rfl rfl rfl rfl rfl) fun H hH=>?_
  replace hH:Has H ([(i3,isB (.rows 7 [zI x])),kW ib Z1,kP Z1,kM Z,kS { s with amount:=x.Amount } i,kH s i]++R):=hH
  refine aus ?_
  refine S.cutW 12 2 rfl rfl rfl rfl ?_
  have hF:=S.Jo hH 2
  refine S.wq rfl rfl rfl rfl rfl (S.wq rfl rfl rfl rfl rfl (S.wq rfl rfl rfl rfl rfl (S.wq rfl rfl rfl rfl rfl ?_)))
  refine S.wq rfl (S.ld 4 hF rfl rfl rfl rfl rfl) rfl rfl rfl ?_
  refine S.wq rfl rfl rfl rfl rfl ?_
  refine S.wq rfl (S.ld 0 hF rfl rfl rfl rfl rfl) rfl rfl rfl ?_
  refine S.wq rfl rfl rfl rfl rfl ?_
  refine S.wq rfl (S.ld 0 hF rfl rfl rfl rfl rfl) rfl rfl rfl ?_
  refine S.wq rfl rfl rfl rfl rfl ?_
  refine S.wbld (q:=0) (m:=2) rfl rfl rfl rfl rfl rfl rfl ?_
  refine S.zF8 (z:=false) (q:=1) (m:=2) 5 hH rfl (fun q _=>by cases q) h2 (fun _=>rfl) rfl rfl rfl rfl rfl rfl rfl rfl rfl rfl rfl (S.wt rfl) fun i1 H hH=>(X.q rfl (X.q rfl ?_))
  refine S.w0 4 hH rfl rfl (S.stO (z:=false) (ids:=i1) (ls:=h) 4 hH rfl rfl rfl rfl rfl rfl rfl) fun H hH=>?_
  refine aus ?_
  obtain ⟨S0,hS0⟩:∃ S0:Zi,S0 = { s with amount:=x.Amount,hist:=h }:=⟨_,rfl⟩
  obtain ⟨Z2,hZ2⟩:∃ Z2:BX,Z2 = { Z1 with bills:=putM posI Z1.bills x.Bill (S0,⟨i.id,i1⟩) }:=⟨_,rfl⟩
  have hbm2:kM Z=kM Z2:=by
    rw [hZ2]
    show kMl Z.im Z.bm=kMl Z1.im ((putM posI Z1.bills x.Bill (S0,⟨i.id,i1⟩)).map fun p=>(p.1,some p.2.2.id))
    obtain ⟨A,B,e1,e2⟩:=zDd hs
    unfold BX.bm
    rw [hk.im,hk.b,e2,e1]
    simp only [List.map_append,List.map_cons]
  have hH4:Has H ([(i3,isB (.rows 7 [zI x])),kW ib Z2,kP Z2,kM Z,kS S0 ⟨i.id,i1⟩,kH S0 ⟨i.id,i1⟩]++R):=by rw [hS0,hZ2]; exact hH
  rw [hbm2] at hH4
  have hb2:Z2.b=b':=by
    cases hM
    rw [hZ2,← hb1,← hS0]
    unfold BX.b
    simp only
    rw [zGO (fun p:Zi×SI=>p.1)]
  exact GS.ret ⟨_,rfl,_,⟨rfl,Z2,S0,⟨i.id,i1⟩,hb2,by rw [hZ2]; exact hk.c,by rw [hZ2]; exact hk.t,by rw [hZ2,← hk.b],by rw [hZ2]; exact hk.it,by rw [hZ2]; exact hk.im,by rw [hZ2]; exact hk.ipd,by rw [hZ2]; exact hk.ibd,rfl⟩,hH4.tail⟩
end Go.Proofs.YtggkidlcohickaaGreat
