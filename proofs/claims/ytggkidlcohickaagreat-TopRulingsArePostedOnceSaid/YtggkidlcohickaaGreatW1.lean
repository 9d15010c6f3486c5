/- Part of the proof of TopRulingsArePostedOnce: walks: methods of the program, step by step, compute the plain ones. Conditions: none. -/
import Derived.Test.YtggkidlcohickaaGreatP
import Derived.Test.YtggkidlcohickaaGreatHi
import Derived.Test.YtggkidlcohickaaGreatSrt
import Derived.Test.YtggkidlcohickaaGreatWm
set_option linter.unusedVariables false
set_option linter.unusedSimpArgs false
set_option maxRecDepth 4000
namespace Go.Proofs.YtggkidlcohickaaGreat
open Go Go.Am Go.Proofs Go.Mx
abbrev zL (x:ZO):V:=.agg [V.i x.Kind,V.i x.A,V.i x.Case,V.i x.Finding,V.i x.N]
structure DI where
  id:Nat
  iv:Nat
  ic:Nat
  ip:Nat
structure WX where
  court:zD
  last:Int
  letters:List zA
  nl:Bool
  jk:List zA
  ok:nl=true→letters=[]→jk=[]
  sent:List zA
  desks:List ((Int×Int)×zT×DI)
  cases:List Int
  il:Nat
  is:Nat
  im:Nat
  ic:Nat
def WX.w (Z:WX):zN:=⟨Z.court,Z.last,Z.letters,Z.sent,Z.desks.map fun p=>(p.1,p.2.1),Z.cases⟩
abbrev jZ (p:Int×Int):V:=.agg [V.i p.1,V.i p.2]
abbrev QI : Option Nat→V
  | some i=>.ptr i 0 0
  | none=>.lit (.pointer none)
abbrev wrow (Z:WX):V:=.agg [V.i Z.court.Arbiters,V.i Z.last,ovlz Z.nl Z.il Z.letters,ovlz true Z.is Z.sent,.map Z.im,ovlz true Z.ic Z.cases]
abbrev cW (iw:Nat) (Z:WX):Nat×(Blk→Prop):=(iw,isB (.rows 6 [wrow Z]))
abbrev cL (Z:WX):Nat×(Blk→Prop):=(Z.il,isB (S.jsB Z.nl 8 zC Z.letters Z.jk))
abbrev cS (Z:WX):Nat×(Blk→Prop):=(Z.is,isB (S.jsB true 8 zC Z.sent []))
abbrev cC (Z:WX):Nat×(Blk→Prop):=(Z.ic,isB (oblz true 1 V.i Z.cases))
abbrev cMl (im:Nat) (l:List ((Int×Int)×Option Nat)):Nat×(Blk→Prop):=(im,isB (.map (l.map fun p=>jZ p.1) (l.map fun p=>QI p.2)))
def WX.dm (Z:WX):List ((Int×Int)×Option Nat):=Z.desks.map fun p=>(p.1,some p.2.2.id)
abbrev cM (Z:WX):Nat×(Blk→Prop):=cMl Z.im Z.dm
theorem zCy (a b:Int×Int):QC (jZ a) (jZ b)=some (decide (a=b)):=by
  have h:QC (jZ a) (jZ b)=some (decide ([(IntKind.i64,a.1),(IntKind.i64,a.2)]=[(IntKind.i64,b.1),(IntKind.i64,b.2)])):=rfl
  rw [h]
  congr 1
  cases a
  cases b
  simp
theorem zLa (iw:Nat) (Z:WX):RdCt CC 52 [.ptr iw 0 0] [cW iw Z] (fun v=>v=V.b (zBs Z.w)):=by
  refine ⟨_,_,rfl,fun H hH=>?_⟩
  refine aus ?_
  refine X.opR rfl (S.ld 0 hH rfl rfl rfl rfl rfl) rfl ?_
  refine aus ?_
  exact GS.ret ⟨_,_,rfl,⟨9,rfl⟩,rfl⟩
theorem zLb (iw:Nat) (Z:WX) (id:Int) {r:Bool} (hM:zDR Z.w id=some r):RdCt CC 39 [.ptr iw 0 0,V.i id] [cW iw Z,cC Z] (fun v=>v=V.b r):=by
  unfold zDR at hM
  obtain ⟨y,h1,hM⟩:=zK hM
  replace hM:=Option.some.inj hM
  refine ⟨_,_,rfl,fun H hH=>?_⟩
  refine aus ?_
  refine X.opR rfl (S.ld 0 hH rfl rfl rfl rfl rfl) rfl ?_
  refine aus ?_
  refine X.zAU (m:=9) (Y8 h1) rfl rfl rfl rfl (.cons (FR.arg (FR.ovl (z:=true) (l:=Z.cases) 9 S.b0 (hH.is (k:=1) rfl) fun _=>rfl)) (.cons (.shut (n:=9) rfl) .nil)) ?_
  subst hM
  cases y with
  | false =>
    have ht:(!false)=true:=rfl
    refine aus ?_
    refine X.opR (X.on_t rfl rfl rfl ht) (S.ld 0 hH rfl rfl rfl rfl rfl) rfl ?_
    refine aus ?_
    exact GS.ret ⟨_,_,rfl,⟨9,rfl⟩,rfl⟩
  | true =>
    have ht:(!true)=false:=rfl
    refine aus ?_
    exact GS.ret ⟨_,_,rfl,⟨9,rfl⟩,rfl⟩
theorem zLc (iw:Nat) (Z:WX) (id:Int) {r:Int} (hM:zEy Z.w id=some r):RdCt CC 51 [.ptr iw 0 0,V.i id] [cW iw Z,cL Z] (fun v=>v=V.i r):=by
  unfold zEy at hM
  refine ⟨_,_,rfl,fun H hH=>?_⟩
  refine aus ?_
  refine S.box hH rfl rfl rfl fun ib H hH=>?_
  refine aus ?_
  refine X.opR rfl (S.ld 1 hH rfl rfl rfl rfl rfl) rfl ?_
  refine aus ?_
  refine X.zAU (m:=9) (JK hM) rfl rfl rfl rfl (.cons (FR.arg (S.zCT (l:=Z.letters) 9 (hH.is (k:=2) rfl) fun _=>rfl)) (.cons (FR.arg (FR.fn (.cons (FR.ptr S.b0 (hH.is (k:=0) rfl) ⟨1,rfl⟩) .nil))) .nil)) ?_
  refine aus ?_
  exact GS.ret ⟨_,_,rfl,⟨9,rfl⟩,rfl⟩
def upto (n:Nat):List Int:=(List.range n).map fun (k:Nat)=>(k:Int)
theorem upto_s (n:Nat):upto (n+1)=upto n++[(n:Int)]:=by simp [upto,List.range_succ]
theorem upto_l (n:Nat):(upto n).length=n:=by simp [upto]
theorem zKo (iw:Nat) (Z:WX) (hn:Z.court.Arbiters≤1000000):RdCt CC 45 [.ptr iw 0 0] [cW iw Z] (fun v=>v=V.sl ((yz Z.w).map V.i)):=by
  refine ⟨_,_,rfl,fun H0 hH=>?_⟩
  refine aus ?_
  refine X.opR rfl (S.ld 0 hH rfl rfl rfl rfl rfl) rfl ?_
  refine aus ?_
  refine S.padG hH fun H1 hl hH=>?_
  refine X.norm [(3,ovlz true H0.length ([]:List Int)),(9,V.i Z.court.Arbiters),(10,V.i ((0:Nat):Int))] ?_ rfl (sr rfl)
  refine X.YY (α:=List Blk×Nat×Nat) (fun a=>⟨[(3,ovlz true a.2.1 (upto a.2.2)),(9,V.i Z.court.Arbiters),(10,V.i ((a.2.2:Nat):Int))],a.1,H0.length,none,19⟩)
    (fun a=>a.2.2≤Z.court.Arbiters.toNat∧H0.length≤a.2.1∧H0.length≤a.1.length∧Has a.1 [(a.2.1,isB (oblz true 1 V.i (upto a.2.2))),cW iw Z])
    (fun a=>Z.court.Arbiters.toNat - a.2.2) ?_ (H1,H0.length,0) ⟨Nat.zero_le _,Nat.le_refl _,hl,hH⟩
  rintro ⟨H,i,j⟩ ⟨h1,h2,h3,hH⟩ hc
  simp only at h1 h2 h3 hH hc ⊢
  refine aus ?_
  refine X.cond rfl (fun h4=>?_) (fun h4=>?_)
  · have h5 : j < Z.court.Arbiters.toNat := by have := of_decide_eq_true h4; omega
    refine aus ?_
    refine GS.bldF rfl rfl rfl rfl ?_
    have h6:Mx.app (upto j) [(j:Int)]=some (upto (j+1)):=by unfold Mx.app; rw [if_pos (by rw [upto_l]; simp; omega),upto_s]
    refine S.appG 0 hH rfl h6 (fun _=>rfl) rfl rfl rfl rfl rfl rfl rfl (Nat.ble_eq_true_of_le h2) rfl rfl rfl fun H' hl hH=>?_
    refine aus ?_
    rw [S.w64n h5 (by omega)]
    exact X.norm [(3,ovlz true H.length (upto (j+1))),(9,V.i Z.court.Arbiters),(10,V.i ((j+1:Nat):Int))] (hc (H',H.length,j+1) ⟨h5,h3,Nat.le_trans h3 hl,hH⟩ (by simp only; omega)) rfl (sr rfl)
  · have h5 : j = Z.court.Arbiters.toNat := by have := of_decide_eq_false h4; omega
    subst h5
    refine aus ?_
    exact GS.ret ⟨_,_,rfl,FR.ovl 9 (Nat.ble_eq_true_of_le h2) (hH.is (k:=0) rfl) (fun _=>rfl),rfl⟩
structure Kept (Z Z':WX):Prop where
  c:Z'.court=Z.court
  d:Z'.desks=Z.desks
  k:Z'.cases=Z.cases
  m:Z'.im=Z.im
  i:Z'.ic=Z.ic
theorem Kept.refl (Z:WX):Kept Z Z:=⟨rfl,rfl,rfl,rfl,rfl⟩
theorem Kept.trans {Z Z1 Z2:WX} (h:Kept Z Z1) (g:Kept Z1 Z2):Kept Z Z2:=⟨g.c.trans h.c,g.d.trans h.d,g.k.trans h.k,g.m.trans h.m,g.i.trans h.i⟩
theorem zET (iw:Nat) (Z:WX) (l:zA) (to:List Int) (hto:to.length≤1000000) {w':zN} (hM:yx l to Z.w=some w'):ImCt CC 44 [.ptr iw 0 0,zC l,V.sl (to.map V.i)] [cW iw Z,cL Z,cS Z] (fun _ L' => ∃ Z',Kept Z Z'∧Z'.w=w'∧L'=[cW iw Z',cL Z',cS Z']):=by
  refine ⟨_,_,rfl,fun R H0 hH=>?_⟩
  refine aus ?_
  refine S.box hH rfl rfl rfl fun ib H1 hH=>?_
  refine aus ?_
  refine X.norm [(0,.ptr iw 0 0),(4,.ptr ib 0 0),(6,V.sl (to.map V.i)),(7,V.i (to.length:Int)),(8,V.i ((0:Nat):Int))] ?_ rfl (sr rfl)
  refine X.YY (α:=List Blk×Nat×Int×Int×WX) (fun a=>⟨[(0,.ptr iw 0 0),(4,.ptr ib 0 0),(6,V.sl (to.map V.i)),(7,V.i (to.length:Int)),(8,V.i ((a.2.1:Nat):Int))],a.1,0,none,48⟩)
    (fun a=>a.2.1≤to.length∧yx l (to.drop a.2.1) a.2.2.2.2.w=some w'∧Kept Z a.2.2.2.2∧Has a.1 ([(ib,isB (.rows 8 [zC { l with ID:=a.2.2.1,To:=a.2.2.2.1 }])),cW iw a.2.2.2.2,cL a.2.2.2.2,cS a.2.2.2.2]++R))
    (fun a=>to.length - a.2.1) ?_ (H1,0,l.ID,l.To,Z) ⟨Nat.zero_le _,hM,Kept.refl Z,hH⟩
  clear hM hH
  rintro ⟨H,j,x,y,Y⟩ ⟨h1,hM,hk,hH⟩ hc
  simp only at h1 hM hk hH hc ⊢
  refine aus ?_
  refine X.cond rfl (fun h4=>?_) (fun h4=>?_)
  · have h5 : j < to.length := by have := of_decide_eq_true h4; omega
    rw [List.drop_eq_getElem_cons h5] at hM
    simp only [yx] at hM
    obtain ⟨w1,h6,hM⟩:=zK hM
    unfold zDv at h6
    obtain ⟨s,h7,h6⟩:=zK h6
    have hx:ix to (j:Int)=some to[j]:=S.ixn h5
    generalize to[j]=t at *
    refine aus ?_
    refine S.w0 0 hH rfl rfl (S.st 0 hH rfl rfl rfl rfl rfl rfl rfl) fun H hH=>?_
    refine aus ?_
    refine X.opR rfl (S.ld 1 hH rfl rfl rfl rfl rfl) rfl ?_
    refine aus ?_
    refine S.w0 1 hH rfl rfl (S.st 1 hH rfl rfl rfl rfl rfl rfl rfl) fun H hH=>?_
    refine aus ?_
    refine X.opR rfl (S.ld 1 hH rfl rfl rfl rfl rfl) rfl ?_
    refine aus ?_
    refine S.w0 0 hH rfl rfl (S.st 0 hH rfl rfl rfl rfl rfl rfl rfl) fun H hH=>?_
    replace hH:Has H ([(ib,isB (.rows 8 [zC { l with ID:=w64 (Y.last+1),To:=t }])),cW iw { Y with last:=w64 (Y.last+1) },cL Y,cS Y]++R):=hH
    refine aus ?_
    refine S.cutW 8 2 rfl rfl rfl rfl ?_
    have hF:=S.Jo hH 2
    refine S.wq rfl rfl rfl rfl rfl (S.wq rfl rfl rfl rfl rfl (S.wq rfl rfl rfl rfl rfl (S.wq rfl rfl rfl rfl rfl ?_)))
    refine S.wq rfl (S.ld 1 hF rfl rfl rfl rfl rfl) rfl rfl rfl ?_
    refine S.wq rfl (S.ld 0 hF rfl rfl rfl rfl rfl) rfl rfl rfl ?_
    refine S.wbld (q:=0) (m:=2) rfl rfl rfl rfl rfl rfl rfl ?_
    refine S.zF8 (q:=1) (m:=2) 3 hH rfl (fun _ _=>rfl) h7 (fun _=>rfl) rfl rfl rfl rfl rfl rfl rfl rfl rfl rfl rfl (S.wt rfl) fun i1 H hH=>(X.q rfl (X.q rfl ?_))
    refine S.w0 1 hH rfl rfl (S.stO (z:=true) (ids:=i1) (ls:=s) 1 hH rfl rfl rfl rfl rfl rfl rfl) fun H hH=>?_
    replace hH:Has H ([(ib,isB (.rows 8 [zC { l with ID:=w64 (Y.last+1),To:=t }])),cW iw { Y with last:=w64 (Y.last+1),sent:=s,is:=i1 },cL Y,cS { Y with last:=w64 (Y.last+1),sent:=s,is:=i1 }]++R):=hH
    refine aus ?_
    refine S.rdC (zLa iw { Y with last:=w64 (Y.last+1),sent:=s,is:=i1 }) (S.sel [1] hH rfl (by decide)) rfl rfl rfl fun v hv=>?_
    subst hv
    refine aus ?_
    have hok:(Y.nl=true→Y.letters=[]→Y.jk=[]):=Y.ok
    refine X.cond rfl (fun h8=>?_) (fun h8=>?_)
    · have h8' : zBs Y.w = true := h8
      rw [if_pos h8'] at h6
      obtain ⟨u,h9,h6⟩:=zK h6
      cases h6
      refine S.cutW 8 2 rfl rfl rfl rfl ?_
      have hF:=S.Jo hH 2
      refine S.wq rfl rfl rfl rfl rfl (S.wq rfl rfl rfl rfl rfl (S.wq rfl rfl rfl rfl rfl (S.wq rfl rfl rfl rfl rfl ?_)))
      refine S.wq rfl (S.ld 1 hF rfl rfl rfl rfl rfl) rfl rfl rfl ?_
      refine S.wq rfl (S.ld 0 hF rfl rfl rfl rfl rfl) rfl rfl rfl ?_
      refine S.wbld (q:=0) (m:=2) rfl rfl rfl rfl rfl rfl rfl ?_
      refine S.zF8 (q:=1) (m:=2) 2 hH rfl hok h9 (fun _=>rfl) rfl rfl rfl rfl rfl rfl rfl rfl rfl rfl rfl (S.wt rfl) fun i2 H hH=>(X.q rfl (X.q rfl ?_))
      refine S.w0 1 hH rfl rfl (S.stO (z:=Y.nl) (ids:=i2) (ls:=u) 1 hH rfl rfl rfl rfl rfl rfl rfl) fun H hH=>?_
      have hne:u≠[]:=by rw [(yS h9).2]; simp
      refine aus ?_
      rw [S.w64n h5 (by omega)]
      exact X.norm [(0,.ptr iw 0 0),(4,.ptr ib 0 0),(6,V.sl (to.map V.i)),(7,V.i (to.length:Int)),(8,V.i ((j+1:Nat):Int))] (hc (H,j+1,w64 (Y.last+1),t,{ Y with last:=w64 (Y.last+1),sent:=s,is:=i1,letters:=u,il:=i2,jk:=Y.jk.drop 1,ok:=fun _ q=>absurd q hne }) ⟨h5,hM,hk.trans ⟨rfl,rfl,rfl,rfl,rfl⟩,hH⟩ (by simp only; omega)) rfl (sr rfl)
    · have h8' : ¬ zBs Y.w = true := fun q => by have : zBs Y.w = false := h8; rw [this] at q; cases q
      rw [if_neg h8'] at h6
      cases h6
      refine aus ?_
      rw [S.w64n h5 (by omega)]
      exact X.norm [(0,.ptr iw 0 0),(4,.ptr ib 0 0),(6,V.sl (to.map V.i)),(7,V.i (to.length:Int)),(8,V.i ((j+1:Nat):Int))] (hc (H,j+1,w64 (Y.last+1),t,{ Y with last:=w64 (Y.last+1),sent:=s,is:=i1 }) ⟨h5,hM,hk.trans ⟨rfl,rfl,rfl,rfl,rfl⟩,hH⟩ (by simp only; omega)) rfl (sr rfl)
  · have h5 : j = to.length := by have := of_decide_eq_false h4; omega
    subst h5
    rw [List.drop_length] at hM
    cases hM
    refine aus ?_
    exact GS.nil ⟨_,rfl,_,⟨Y,hk,rfl,rfl⟩,hH.tail⟩
abbrev drow (d:zT) (i:DI):V:=.agg [V.i d.note.Promised,V.i d.note.Voted,V.i d.note.Finding,V.i d.note.Opened,V.i d.wish,V.b d.has,QI (d.chair.map fun _=>i.ic),ovlz true i.iv d.votes]
theorem dm_some {Z:WX} {k:Int×Int} {o:Option Nat}:zO k Z.dm=some o→∃ i,o=some i:=by
  unfold WX.dm
  generalize Z.desks=l
  induction l with
  | nil=>intro h; cases h
  | cons p r ih =>
    intro h
    simp only [List.map_cons,zO] at h
    split at h
    · cases h; exact ⟨_,rfl⟩
    · exact ih h
theorem im_at (iw:Nat) (Z:WX) (a c:Int):ImCt CC 40 [.ptr iw 0 0,V.i a,V.i c] [cW iw Z,cM Z] (fun v L' =>
    (∃ i,zO (a,c) Z.dm=some (some i)∧v = .ptr i 0 0∧L'=[cW iw Z,cM Z]) ∨
    (zO (a,c) Z.dm=none∧∃ i,v = .ptr i 0 0∧L'=[(i,isB (.rows 8 [drow yN ⟨i,i,i,i⟩])),cW iw Z,cMl Z.im (Z.dm++[((a,c),some i)])])):=by
  refine ⟨_,_,rfl,fun R H hH=>?_⟩
  refine aus ?_
  refine S.box hH rfl rfl rfl fun ip H hH=>?_
  refine aus ?_
  refine S.w0 0 hH rfl rfl (S.st 0 hH rfl rfl rfl rfl rfl rfl rfl) fun H hH=>?_
  replace hH:Has H ([(ip,isB (.rows 2 [jZ (a,c)])),cW iw Z,cM Z]++R):=hH
  refine aus ?_
  refine X.drawc (by kernel_rfl) rfl ?_
  refine aus ?_
  refine X.cop rfl (S.ld 1 hH rfl rfl rfl rfl rfl) rfl rfl ?_
  refine X.cop rfl (S.ld 0 hH rfl rfl rfl rfl rfl) rfl rfl ?_
  refine X.cop rfl (X.lookW (f:=jZ) (g:=QI) (k:=(a,c)) (l:=Z.dm) (z:=none) zCy rfl rfl rfl rfl (hH.is (k:=2) rfl) rfl) rfl rfl ?_
  cases hl:zO (a,c) Z.dm with
  | some o =>
    obtain ⟨i,rfl⟩:=dm_some hl
    simp only [Option.getD_some]
    refine aus ?_
    refine X.cond rfl (fun h=>?_) (fun _=>?_)
    · cases h
    · refine aus ?_
      refine X.drawc (by kernel_rfl) rfl ?_
      refine aus ?_
      refine X.cop rfl (S.ld 1 hH rfl rfl rfl rfl rfl) rfl rfl ?_
      refine X.cop rfl (S.ld 0 hH rfl rfl rfl rfl rfl) rfl rfl ?_
      refine X.cop rfl (X.lookW (f:=jZ) (g:=QI) (k:=(a,c)) (l:=Z.dm) (z:=none) zCy rfl rfl rfl rfl (hH.is (k:=2) rfl) rfl) rfl rfl ?_
      rw [hl]
      refine aus ?_
      exact GS.ret ⟨_,rfl,_,.inl ⟨i,rfl,rfl,rfl⟩,hH.tail⟩
  | none =>
    simp only [Option.getD_none]
    refine aus ?_
    refine X.cond rfl (fun _=>?_) (fun h=>?_)
    · refine aus ?_
      refine S.cutW 7 1 rfl rfl rfl rfl ?_
      have hF:=S.Jo hH 1
      refine S.wq rfl rfl rfl rfl rfl (S.wq rfl rfl rfl rfl rfl (S.wq rfl rfl rfl rfl rfl ?_))
      refine S.wq rfl (S.ld 1 hF rfl rfl rfl rfl rfl) rfl rfl rfl ?_
      refine S.wq rfl (S.ld 0 hF rfl rfl rfl rfl rfl) rfl rfl rfl ?_
      refine S.wq rfl rfl rfl rfl rfl ?_
      have hp0:=hH.lt (k:=0) rfl
      have hp1:=hH.lt (k:=1) rfl
      refine S.wbox (q:=0) (m:=1) hH rfl rfl rfl rfl rfl (by simp [hp0,hp1]) fun i H hH=>?_
      refine S.w0 3 hH rfl rfl (X.putW (f:=jZ) (g:=QI) (pos:=posE) (k:=(a,c)) (v:=some i) (l:=Z.dm) zCy (fun l=>(X.zFK _ _).trans (List.length_map ..)) rfl rfl rfl rfl rfl (hH.is (k:=3) rfl) S.b0) fun H hH=>?_
      obtain ⟨e1,e2⟩:=S.zN8 (v:=some i) hl
      rw [e1] at hH
      replace hH:Has H ([(i,isB (.rows 8 [drow yN ⟨i,i,i,i⟩])),(ip,isB (.rows 2 [jZ (a,c)])),cW iw Z,cMl Z.im (Z.dm++[((a,c),some i)])]++R):=hH
      refine aus ?_
      refine X.drawc (by kernel_rfl) rfl ?_
      refine aus ?_
      refine X.cop rfl (S.ld 2 hH rfl rfl rfl rfl rfl) rfl rfl ?_
      refine X.cop rfl (S.ld 1 hH rfl rfl rfl rfl rfl) rfl rfl ?_
      refine X.cop rfl (X.lookW (f:=jZ) (g:=QI) (k:=(a,c)) (l:=Z.dm++[((a,c),some i)]) (z:=none) zCy rfl rfl rfl rfl (hH.is (k:=3) rfl) rfl) rfl rfl ?_
      rw [e2]
      refine aus ?_
      refine GS.ret ⟨_,rfl,_,.inr ⟨trivial,i,rfl,rfl⟩,Has.pick (A:=[_,_,_,_]) [0,2,3] rfl (by decide) hH⟩
    · cases h
theorem zLw (iw:Nat) (Z:WX) (id:Int) {w':zN} (hM:zBI Z.w id=some w'):ImCt CC 41 [.ptr iw 0 0,V.i id] [cW iw Z,cC Z] (fun _ L' => ∃ cs ic,w' = { Z.w with cases:=cs }∧L'=[cW iw { Z with cases:=cs,ic:=ic },cC { Z with cases:=cs,ic:=ic }]):=by
  unfold zBI at hM
  obtain ⟨y,h1,hM⟩:=zK hM
  refine ⟨_,_,rfl,fun R H hH=>?_⟩
  refine aus ?_
  refine X.opR rfl (S.ld 0 hH rfl rfl rfl rfl rfl) rfl ?_
  refine aus ?_
  refine X.zAU (m:=9) (Y8 h1) rfl rfl rfl rfl (.cons (FR.arg (FR.ovl (z:=true) (l:=Z.cases) 9 S.b0 (hH.is (k:=1) rfl) fun _=>rfl)) (.cons (.shut (n:=9) rfl) .nil)) ?_
  refine aus ?_
  refine X.cond rfl (fun h=>?_) (fun h=>?_)
  · have hy : ¬ y = true := by cases y with | false => decide | true => cases h
    rw [if_neg hy] at hM
    obtain ⟨l,h2,hM⟩:=zK hM
    obtain ⟨s,h3,hM⟩:=zK hM
    cases hM
    refine aus ?_
    refine X.opR rfl (S.ld 0 hH rfl rfl rfl rfl rfl) rfl ?_
    refine aus ?_
    refine GS.bldF rfl rfl rfl rfl ?_
    refine S.app 1 (z:=true) (f:=V.i) (l:=Z.cases) hH rfl h2 (fun _=>rfl) rfl rfl rfl rfl rfl rfl rfl S.b0 rfl rfl rfl fun i1 H hH=>?_
    refine aus ?_
    refine S.w0 0 hH rfl rfl (S.stO (z:=true) (ids:=i1) (ls:=l) 0 hH rfl rfl rfl rfl rfl rfl rfl) fun H hH=>?_
    refine aus ?_
    refine X.opR rfl (S.ld 0 hH rfl rfl rfl rfl rfl) rfl ?_
    refine X.sortInt (z:=true) (id:=i1) (l:=l) h3 zNR zDw (fun _ _ _ h=>h) rfl rfl (hH.is (k:=1) rfl) (hH.blt (k:=1) rfl) S.b0 rfl rfl rfl ?_
    replace hH:=hH.put (k:=1) (B:=oblz true 1 V.i s) (q:=isB (oblz true 1 V.i s)) rfl rfl
    have e:ovlz true i1 l=ovlz true i1 s:=by
      obtain ⟨_,e⟩:=zFv h3
      have hl:=(zAo l).1.length_eq
      rw [← e] at hl
      clear hH h3 e h2
      cases l <;> cases s <;> simp_all [ovlz]
    rw [e] at hH
    replace hH:Has _ ([cW iw { Z with cases:=s,ic:=i1 },cC { Z with cases:=s,ic:=i1 }]++R):=hH
    refine aus ?_
    exact GS.nil ⟨_,rfl,_,⟨s,i1,rfl,rfl⟩,hH⟩
  · have hy : y = true := by cases y with | false => cases h | true => rfl
    rw [if_pos hy] at hM
    cases hM
    refine aus ?_
    exact GS.nil ⟨_,rfl,_,⟨Z.cases,Z.ic,rfl,rfl⟩,hH⟩
abbrev crow (c:qO) (ip:Nat):V:=.agg [V.i c.round,ovlz true ip c.promises,V.b c.proposed]
def chB (d:zT) (ip:Nat):Blk→Prop:=match d.chair with
  | none=>fun _=>True
  | some c=>isB (.rows 3 [crow c ip])
def prB (d:zT):Blk→Prop:=match d.chair with
  | none=>fun _=>True
  | some c=>isB (S.jsB true 8 zC c.promises [])
abbrev dcells (d:zT) (i:DI):Hp:=[(i.id,isB (.rows 8 [drow d i])),(i.iv,isB (S.jsB true 8 zC d.votes [])),(i.ic,chB d i.ip),(i.ip,prB d)]
def allD (l:List ((Int×Int)×zT×DI)):Hp:=l.flatMap fun p=>dcells p.2.1 p.2.2
abbrev core (iw:Nat) (Z:WX):Hp:=[cW iw Z,cL Z,cS Z,cC Z,cM Z]
def cAll (iw:Nat) (Z:WX):Hp:=core iw Z++allD Z.desks
abbrev opn (iw:Nat) (Z:WX) (pre:List ((Int×Int)×zT×DI)) (d:zT) (i:DI) (post:List ((Int×Int)×zT×DI)):Hp:=core iw Z++dcells d i++(allD pre++allD post)
structure Opened (Z:WX) (pre:List ((Int×Int)×zT×DI)) (k:Int×Int) (d:zT) (i:DI) (post:List ((Int×Int)×zT×DI)):Prop where
  e:Z.desks=pre++(k,d,i) :: post
  n:∀ p∈pre,p.1≠k
theorem zO4 (a b:List ((Int×Int)×zT×DI)):allD (a++b)=allD a++allD b:=by simp [allD]
theorem zIE (p:(Int×Int)×zT×DI) (b:List ((Int×Int)×zT×DI)):allD (p :: b)=dcells p.2.1 p.2.2++allD b:=by simp [allD]
theorem jN {iw:Nat} {Z:WX} {pre post:List ((Int×Int)×zT×DI)} {k:Int×Int} {d:zT} {i:DI} (h:Opened Z pre k d i post) (R:Hp):(cAll iw Z++R).Perm (opn iw Z pre d i post++R):=by
  refine List.Perm.append_right _ ?_
  unfold cAll
  rw [h.e,zO4,zIE]
  unfold opn
  rw [List.append_assoc (core iw Z)]
  refine List.Perm.append_left _ ?_
  rw [← List.append_assoc,← List.append_assoc]
  exact List.Perm.append_right _ List.perm_append_comm
theorem open_of {Z:WX} {k:Int×Int} {i:Nat} (h:zO k Z.dm=some (some i)):∃ pre d di post,Opened Z pre k d di post∧di.id=i:=by
  have key:∀ l:List ((Int×Int)×zT×DI),zO k (l.map fun p=>(p.1,some p.2.2.id))=some (some i)→∃ pre d di post,l=pre++(k,d,di) :: post∧(∀ p∈pre,p.1≠k)∧di.id=i:=by
    intro l
    induction l with
    | nil=>intro h; cases h
    | cons p r ih =>
      intro h
      simp only [List.map_cons,zO] at h
      split at h
      · rename_i e
        cases h
        obtain ⟨p1,d,di⟩:=p
        simp only at e
        subst e
        exact ⟨[],d,di,r,rfl,by simp,rfl⟩
      · rename_i e
        obtain ⟨pre,d,di,post,h1,h2,h3⟩:=ih h
        refine ⟨p :: pre,d,di,post,by rw [h1]; rfl,fun q hq=>?_,h3⟩
        rcases List.mem_cons.1 hq with rfl | hq
        · exact fun e' => e e'.symm
        · exact h2 q hq
  obtain ⟨pre,d,di,post,h1,h2,h3⟩:=key Z.desks h
  exact ⟨pre,d,di,post,⟨h1,h2⟩,h3⟩
theorem zNF {Z:WX} {k:Int×Int} (h:zO k Z.dm=none):(∀ p∈Z.desks,p.1≠k)∧Z7 Z.w k.1 k.2=none:=by
  have key:∀ l:List ((Int×Int)×zT×DI),zO k (l.map fun p=>(p.1,some p.2.2.id))=none→(∀ p∈l,p.1≠k)∧zO k (l.map fun p=>(p.1,p.2.1))=none:=by
    intro l
    induction l with
    | nil=>intro _; exact ⟨by simp,rfl⟩
    | cons p r ih =>
      intro h
      simp only [List.map_cons,zO] at h ⊢
      split at h
      · cases h
      · rename_i e
        obtain ⟨h1,h2⟩:=ih h
        refine ⟨fun q hq=>?_,by rw [if_neg e]; exact h2⟩
        rcases List.mem_cons.1 hq with rfl | hq
        · exact fun e' => e e'.symm
        · exact h1 q hq
  exact key Z.desks h
theorem zFU {Z:WX} {pre post:List ((Int×Int)×zT×DI)} {k:Int×Int} {d:zT} {i:DI} (h:Opened Z pre k d i post):Z7 Z.w k.1 k.2=some d:=by
  have key:∀ pre:List ((Int×Int)×zT×DI),(∀ p∈pre,p.1≠k)→zO k ((pre++(k,d,i) :: post).map fun p=>(p.1,p.2.1))=some d:=by
    intro pre
    induction pre with
    | nil=>intro _; simp [zO]
    | cons p r ih =>
      intro hn
      simp only [List.cons_append,List.map_cons,zO]
      rw [if_neg fun e=>hn p List.mem_cons_self e.symm]
      exact ih fun q hq=>hn q (List.mem_cons_of_mem _ hq)
  unfold Z7 WX.w
  simp only
  rw [h.e]
  exact key pre h.n
theorem S_at {iw:Nat} {Z:WX} {a c:Int} {N:Nat} {k:List It} {K:List (Nat×V)} {H:List Blk} {R:Hp} {n dst:Nat} {rnd:Option Nat} {Q:Ex→St→Prop} {all os:List Oper} {p:Op} {ty:TypeId} {pos:String} {after:Array Edge} {g:Option (Nat×Bool)} (hH:Has H (cAll iw Z++R)) (hw:wants all K g=some true) (hc:callee K p=some (.fn 40 [.ptr iw 0 0,V.i a,V.i c])) (hd:Nat.blt dst n=true)
    (h:∀ H Z1 pre d di post,Z1.w=w_at Z.w a c→Opened Z1 pre (a,c) d di post→Has H (opn iw Z1 pre d di post++R)→GS CC N (.ops all os :: k) ⟨(dst,.ptr di.id 0 0) :: K,H,0,rnd,n⟩ Q) :
    GS CC N (.ops all (⟨some dst,p,ty,pos,after,g⟩ :: os) :: k) ⟨K,H,0,rnd,n⟩ Q:=by
  have hP:Has H ([cW iw Z,cM Z]++([cL Z,cS Z,cC Z]++(allD Z.desks++R))):=by
    have hH':Has H ([cW iw Z,cL Z,cS Z,cC Z,cM Z]++(allD Z.desks++R)):=by
      unfold cAll core at hH
      rwa [List.append_assoc] at hH
    exact show Has H ([cW iw Z,cM Z,cL Z,cS Z,cC Z]++(allD Z.desks++R)) from Has.pick (A:=[cW iw Z,cL Z,cS Z,cC Z,cM Z]) [0,4,1,2,3] rfl (by decide) hH'
  refine S.im (im_at iw Z a c) hP hw hc hd fun v L' H1 hT hH1=>?_
  rcases hT with ⟨i,h1,rfl,rfl⟩ | ⟨h1,i,rfl,rfl⟩
  · obtain ⟨pre, d, di, post, h2, rfl⟩ := open_of h1
    have e:w_at Z.w a c=Z.w:=by unfold w_at; rw [if_pos (by rw [zFU h2]; rfl)]
    refine h H1 Z pre d di post e.symm h2 ?_
    have h3:Has H1 (cAll iw Z++R):=by
      unfold cAll core
      rw [List.append_assoc]
      exact Has.pick (A:=[cW iw Z,cM Z,cL Z,cS Z,cC Z]) (R:=allD Z.desks++R) [0,2,3,4,1] rfl (by decide) hH1
    exact h3.perm (jN h2 R)
  · obtain ⟨h2, h3⟩ := zNF h1
    refine S.pad hH1 fun iv H2 hH2=>S.pad hH2 fun ic H3 hH3=>S.pad hH3 fun ip H4 hH4=>?_
    have hw0:∀ (j:Nat) (q:Blk→Prop) (L:Hp) (H:List Blk),Has H ((j,isB .dead) :: L)→Has H ((j,fun _=>True) :: L):=fun j q L H h=>S.has_set (kk:=0) (L:=(j,isB .dead) :: L) (p:=isB .dead) h fun _ _=>trivial
    have hA:Has H4 ([(ip,prB yN),(ic,isB .dead),(iv,isB (S.jsB true 8 zC [] [])),(i,isB (.rows 8 [drow yN ⟨i,i,i,i⟩])),cW iw Z,cMl Z.im (Z.dm++[((a,c),some i)]),cL Z,cS Z,cC Z]++(allD Z.desks++R)):=hw0 ip (fun _=>True) _ _ hH4
    have hB:=Has.pick (A:=[(ip,prB yN),(ic,isB .dead),(iv,isB (S.jsB true 8 zC [] [])),(i,isB (.rows 8 [drow yN ⟨i,i,i,i⟩])),cW iw Z,cMl Z.im (Z.dm++[((a,c),some i)]),cL Z,cS Z,cC Z]) (R:=allD Z.desks++R) [1,4,6,7,8,5,3,2,0] rfl (by decide) hA
    have hC:=Has.pick (A:=[(ic,chB yN ip),cW iw Z,cL Z,cS Z,cC Z,cMl Z.im (Z.dm++[((a,c),some i)]),(i,isB (.rows 8 [drow yN ⟨i,i,i,i⟩])),(iv,isB (S.jsB true 8 zC [] [])),(ip,prB yN)]) (R:=allD Z.desks++R) [1,2,3,4,5,6,7,0,8] rfl (by decide) (hw0 ic (fun _=>True) _ _ hB)
    have e:(Z.desks++[((a,c),yN,(⟨i,iv,ic,ip⟩:DI))]).map (fun p=>(p.1,some p.2.2.id))=Z.dm++[((a,c),some i)]:=by simp [WX.dm]
    refine h H4 { Z with desks:=Z.desks++[((a,c),yN,⟨i,iv,ic,ip⟩)] } Z.desks yN ⟨i,iv,ic,ip⟩ [] ?_ ⟨rfl,h2⟩ ?_
    · unfold w_at
      rw [if_neg (by rw [h3]; simp)]
      simp [WX.w]
    · unfold opn
      rw [show allD ([]:List ((Int×Int)×zT×DI))=[] from rfl,List.append_nil,List.append_assoc]
      have e2:cM { Z with desks:=Z.desks++[((a,c),yN,(⟨i,iv,ic,ip⟩:DI))] }=cMl Z.im (Z.dm++[((a,c),some i)]):=by
        show cMl Z.im _=_
        rw [← e]; rfl
      unfold core
      rw [e2]
      exact hC
theorem zNf {Z:WX} {pre post:List ((Int×Int)×zT×DI)} {k:Int×Int} {d:zT} {i:DI} (h:Opened Z pre k d i post) (d':zT) (i':DI):({ Z with desks:=pre++(k,d',i') :: post }:WX).w=j6 Z.w k.1 k.2 d':=by
  have key:∀ pre:List ((Int×Int)×zT×DI),(∀ p∈pre,p.1≠k)→(pre++(k,d',i') :: post).map (fun p=>(p.1,p.2.1))=putD k d' ((pre++(k,d,i) :: post).map fun p=>(p.1,p.2.1)):=by
    intro pre
    induction pre with
    | nil=>intro _; simp [putD]
    | cons p r ih =>
      intro hn
      simp only [List.cons_append,List.map_cons,putD]
      rw [if_neg (hn p List.mem_cons_self),ih fun q hq=>hn q (List.mem_cons_of_mem _ hq)]
  unfold j6 WX.w
  simp only
  rw [h.e,key pre h.n]
theorem zLN {Z:WX} {pre post:List ((Int×Int)×zT×DI)} {k:Int×Int} {d:zT} {i:DI} (h:Opened Z pre k d i post) (d':zT) (i':DI) (hi:i'.id=i.id):cM ({ Z with desks:=pre++(k,d',i') :: post }:WX)=cM Z:=by
  unfold cM WX.dm
  simp only
  rw [h.e]
  simp [hi]
theorem zGq {Z:WX} {pre post:List ((Int×Int)×zT×DI)} {a c:Int} {d:zT} {i:DI} (h:Opened Z pre (a,c) d i post):ZP Z.w a c=d:=by
  have:=zFU h
  unfold ZP
  rw [this]; rfl
theorem Kept.cM {Z Z':WX} (h:Kept Z Z'):cM Z'=cM Z:=by unfold Proofs.YtggkidlcohickaaGreat.cM WX.dm; rw [h.m,h.d]
theorem Kept.cC {Z Z':WX} (h:Kept Z Z'):cC Z'=cC Z:=by unfold Proofs.YtggkidlcohickaaGreat.cC; rw [h.i,h.k]
theorem zLB (iw:Nat) (Z:WX) (l:zA) {w':zN} (hM:qF Z.w l=some w'):ImCt CC 47 [.ptr iw 0 0,zC l] (cAll iw Z) (fun _ L' => ∃ Z',Z'.w=w'∧L'=cAll iw Z'):=by
  refine ⟨_,_,rfl,fun R H hH=>?_⟩
  refine aus ?_
  refine S.box hH rfl rfl rfl fun ib H hH=>?_
  refine aus ?_
  refine X.opR rfl (S.ld 0 hH rfl rfl rfl rfl rfl) rfl ?_
  refine aus ?_
  refine X.opR rfl (S.ld 0 hH rfl rfl rfl rfl rfl) rfl ?_
  refine S_at (hH.perm List.perm_middle.symm) rfl rfl rfl fun H Z1 pre d di post e1 ho hH=>?_
  replace hH:Has H ((ib,isB (.rows 8 [zC l])) :: (opn iw Z1 pre d di post++R)):=hH.perm List.perm_middle
  unfold qF at hM
  simp only at hM
  rw [← e1,zGq ho] at hM
  refine aus ?_
  refine X.drawc (by kernel_rfl) rfl ?_
  refine aus ?_
  refine X.cop rfl (S.ld 0 hH rfl rfl rfl rfl rfl) rfl rfl ?_
  refine aus ?_
  refine X.cop rfl (S.ld 6 hH rfl rfl rfl rfl rfl) rfl rfl ?_
  rcases Bool.eq_false_or_eq_true (decide (l.Round<d.note.Promised)) with h1 | h1
  · rw [if_pos (.inl (of_decide_eq_true h1))] at hM
    cases hM
    refine aus ?_
    refine X.cond rfl (fun _=>?_) (fun h=>?_)
    · exact GS.ret ⟨_,rfl,_,⟨Z1,rfl,rfl⟩,(hH.tail).perm (jN ho R).symm⟩
    · cases h
  · refine aus ?_
    refine X.cop (X.on_f rfl rfl rfl h1) (S.ld 0 hH rfl rfl rfl rfl rfl) rfl rfl ?_
    refine aus ?_
    refine X.cop (X.on_f rfl rfl rfl h1) (S.ld 6 hH rfl rfl rfl rfl rfl) rfl rfl ?_
    refine aus ?_
    refine X.cond rfl (fun h2=>?_) (fun h2=>?_)
    · rw [if_pos (.inr (of_decide_eq_true h2))] at hM
      cases hM
      exact GS.ret ⟨_,rfl,_,⟨Z1,rfl,rfl⟩,(hH.tail).perm (jN ho R).symm⟩
    · rw [if_neg (by rintro (q | q); exact of_decide_eq_false h1 q; exact of_decide_eq_false h2 q)] at hM
      refine aus ?_
      refine X.opR rfl (S.ld 0 hH rfl rfl rfl rfl rfl) rfl ?_
      refine aus ?_
      refine S.w0 6 hH rfl rfl (S.st 6 hH rfl rfl rfl rfl rfl rfl rfl) fun H hH=>?_
      obtain ⟨Z2,hZ2⟩:∃ Z2:WX,Z2 = { Z1 with desks:=pre++((l.To,l.Case),{ d with note:={ d.note with Promised:=l.Round } },di) :: post }:=⟨_,rfl⟩
      have hw2:Z2.w=j6 Z1.w l.To l.Case { d with note:={ d.note with Promised:=l.Round } }:=by rw [hZ2]; exact zNf ho _ _
      have hc2:cM Z2=cM Z1:=by rw [hZ2]; exact zLN ho _ _ rfl
      have ho2:Opened Z2 pre (l.To,l.Case) { d with note:={ d.note with Promised:=l.Round } } di post:=⟨by rw [hZ2],ho.n⟩
      replace hH:Has H ((ib,isB (.rows 8 [zC l])) :: (opn iw Z2 pre { d with note:={ d.note with Promised:=l.Round } } di post++R)):=by
        unfold opn core
        rw [hc2,hZ2]
        exact hH
      rw [← hw2] at hM
      clear hZ2
      refine aus ?_
      refine S.cutW 21 1 rfl rfl rfl rfl ?_
      have hF:=S.Jo hH 1
      iterate 2 refine S.wq rfl rfl rfl rfl rfl ?_
      refine S.wq rfl (S.ld 0 hF rfl rfl rfl rfl rfl) rfl rfl rfl ?_
      iterate 1 refine S.wq rfl rfl rfl rfl rfl ?_
      refine S.wq rfl (S.ld 0 hF rfl rfl rfl rfl rfl) rfl rfl rfl ?_
      iterate 1 refine S.wq rfl rfl rfl rfl rfl ?_
      refine S.wq rfl (S.ld 0 hF rfl rfl rfl rfl rfl) rfl rfl rfl ?_
      iterate 4 refine S.wq rfl rfl rfl rfl rfl ?_
      refine S.wq rfl (S.ld 6 hF rfl rfl rfl rfl rfl) rfl rfl rfl ?_
      iterate 4 refine S.wq rfl rfl rfl rfl rfl ?_
      refine S.wq rfl (S.ld 6 hF rfl rfl rfl rfl rfl) rfl rfl rfl ?_
      iterate 2 refine S.wq rfl rfl rfl rfl rfl ?_
      refine S.wq rfl (S.ld 0 hF rfl rfl rfl rfl rfl) rfl rfl rfl ?_
      refine S.wbld (q:=0) (m:=1) rfl rfl rfl rfl rfl rfl rfl ?_
      refine X.dnil ?_
      have hG:Has (H++zl 1) ([cW iw Z2,cL Z2,cS Z2]++([(ib,isB (.rows 8 [zC l])),cC Z2,cM Z2]++dcells { d with note:={ d.note with Promised:=l.Round } } di++((allD pre++allD post)++R))):=by
        have:=hF
        unfold opn at this
        rw [List.append_assoc] at this
        exact show Has _ ([cW iw Z2,cL Z2,cS Z2,(ib,isB (.rows 8 [zC l])),cC Z2,cM Z2]++dcells { d with note:={ d.note with Promised:=l.Round } } di++((allD pre++allD post)++R)) from Has.pick (A:=[(ib,isB (.rows 8 [zC l])),cW iw Z2,cL Z2,cS Z2,cC Z2,cM Z2]++dcells { d with note:={ d.note with Promised:=l.Round } } di) (R:=(allD pre++allD post)++R) [1,2,3,0,4,5,6,7,8,9] rfl (by decide) this
      refine S.im (zET iw Z2 _ [l.From] (by simp) hM) hG rfl rfl rfl fun v L' H hT hH=>?_
      obtain ⟨Z3,hk,e3,rfl⟩:=hT
      refine aus ?_
      refine GS.nil ⟨_,rfl,_,⟨Z3,e3,rfl⟩,?_⟩
      have ho3:Opened Z3 pre (l.To,l.Case) { d with note:={ d.note with Promised:=l.Round } } di post:=⟨by rw [hk.d]; exact ho2.e,ho.n⟩
      refine Has.perm ?_ (jN ho3 R).symm
      rw [← hk.cC,← hk.cM] at hH
      unfold opn
      rw [List.append_assoc]
      exact (show Has _ ([(ib,isB (.rows 8 [zC l])),cW iw Z3,cL Z3,cS Z3,cC Z3,cM Z3]++dcells { d with note:={ d.note with Promised:=l.Round } } di++((allD pre++allD post)++R)) from Has.pick (A:=[cW iw Z3,cL Z3,cS Z3,(ib,isB (.rows 8 [zC l])),cC Z3,cM Z3]++dcells { d with note:={ d.note with Promised:=l.Round } } di) (R:=(allD pre++allD post)++R) [3,0,1,2,4,5,6,7,8,9] rfl (by decide) hH).tail
end Go.Proofs.YtggkidlcohickaaGreat
