/- Part of the proof of TopRulingsArePostedOnce: walks: methods of the program, step by step, compute the plain ones. Conditions: none. -/
import Derived.Test.YtggkidlcohickaaGreatW6
import Derived.Test.YtggkidlcohickaaGreatHi
import Derived.Test.YtggkidlcohickaaGreatSrt
import Derived.Test.YtggkidlcohickaaGreatWm
set_option linter.unusedVariables false
set_option linter.unusedSimpArgs false
set_option maxRecDepth 4000
namespace Go.Proofs.YtggkidlcohickaaGreat
open Go Go.Am Go.Proofs Go.Mx
def bcells (l:List (Int×Zi×SI)):Hp:=l.flatMap fun p=>[kS p.2.1 p.2.2,kH p.2.1 p.2.2]
abbrev cB (ib:Nat) (Z:BX):Hp:=[kW ib Z,kP Z,kT Z,kM Z,(Z.ipd,isB (.map [] [])),(Z.ibd,isB (.map [] []))]
theorem zJv {C:Cfg} {f:Nat} {args:List V} {L R0 L2:Hp} {T T2:V→Hp→Prop} (h:ImCt C f args L T) (hp:L2.Perm (L++R0)) (hT:∀ v L',T v L'→∃ L2',T2 v L2'∧(L'++R0).Perm L2'):ImCt C f args L2 T2:=by
  obtain ⟨c,fn,hb,hx⟩:=h
  refine ⟨c,fn,hb,fun R H hH=>zLy (hx (R0++R) H (hH.perm (by rw [← List.append_assoc]; exact hp.append_right R))) ?_⟩
  rintro e s1 ⟨v,h1,L',h2,h3⟩
  obtain ⟨L2',h4,h5⟩:=hT v L' h2
  exact ⟨v,h1,L2',h4,h3.perm (by rw [← List.append_assoc]; exact h5.append_right R)⟩
theorem zAw {α:Type} {l1 l2:List α} (h:∀ f:α→Nat,(l1.map f).sum=(l2.map f).sum):l1.Perm l2:=by
  classical
  refine List.perm_iff_count.2 fun a=>?_
  have key:∀ l:List α,l.count a=(l.map fun x=>if x==a then 1 else 0).sum:=by
    intro l
    induction l with
    | nil=>rfl
    | cons x r ih=>rw [List.count_cons,ih,List.map_cons,List.sum_cons]; omega
  rw [key,key,h]
theorem zLS {l:List (Int×Zi×SI)} {k:Int} {v:Zi×SI} (h:zO k l=none):(bcells (putM posI l k v)).Perm ([kS v.1 v.2,kH v.1 v.2]++bcells l):=by
  have hs:=JF (k:=k) (l:=l)
  unfold putM
  cases q:JB k l with
  | some i =>
    rw [q] at hs
    obtain ⟨w,_,h2⟩:=hs
    rw [h] at h2; cases h2
  | none =>
    simp only
    have key:∀ (l:List (Int×Zi×SI)) (n:Nat) (x:Int×Zi×SI),(insL l n x).Perm (x :: l):=by
      intro l
      induction l with
      | nil=>intro n x; cases n <;> exact List.Perm.refl _
      | cons y r ih =>
        intro n x
        cases n with
        | zero=>exact List.Perm.refl _
        | succ n=>exact ((ih n x).cons y).trans (List.Perm.swap x y r)
    exact (key l _ _).flatMap_right _
theorem im_bk (ib:Nat) (Y:BX) (x:zF) {b1:jX} (f:Nat) (hf:(x.Kind=1∧f=73)∨(x.Kind=2∧f=74)) (hM:zCL Y.b x=some b1):ImCt CC f [.ptr ib 0 0,zI x] (cB ib Y++bcells Y.bills) (fun v L' => v=V.b true∧∃ Z',Z'.b=b1∧L'=cB ib Z'++bcells Z'.bills):=by
  unfold zCL at hM
  rcases hf with ⟨hk,rfl⟩ | ⟨hk,rfl⟩
  · rw [if_pos hk] at hM
    have hno:zO x.Bill Y.bills=none:=by
      unfold zGj at hM
      split at hM
      · cases hM
      · rename_i q
        have e:zO x.Bill Y.b.bills=(zO x.Bill Y.bills).map (fun p:Zi×SI=>p.1):=qJ (fun p:Zi×SI=>p.1) x.Bill Y.bills
        cases q2:zO x.Bill Y.bills with
        | none=>rfl
        | some w=>rw [e,q2] at q; exact absurd rfl q
    refine zJv (im_bill ib Y x hM) (R0:=[kT Y,(Y.ipd,isB (.map [] [])),(Y.ibd,isB (.map [] []))]++bcells Y.bills) (zAw fun f=>by simp only [List.map_append,List.sum_append,List.map_cons,List.map_nil,List.sum_cons,List.sum_nil]; omega) ?_
    rintro v L' ⟨rfl,Z',i,h1,h2,h3,h4,h5,h6,h7,h8,rfl⟩
    have e1:kT Y=kT Z':=by show (Y.it,isB (S.jsB true 7 zI Y.taken []))=(Z'.it,isB (S.jsB true 7 zI Z'.taken [])); rw [h3,h5]
    refine ⟨_,⟨rfl,Z',h1,rfl⟩,?_⟩
    have e2:=zLS (v:=((⟨x,x.Amount,[⟨x.Known,x.Amount⟩]⟩:Zi),i)) hno
    rw [← h4] at e2
    refine List.Perm.trans ?_ (List.Perm.append_left _ e2.symm)
    rw [e1,← h7,← h8]
    exact zAw fun f=>by simp only [List.map_append,List.sum_append,List.map_cons,List.map_nil,List.sum_cons,List.sum_nil]; omega
  · rw [if_neg (by omega), if_pos hk] at hM
    obtain ⟨s,i,hs⟩:∃ s i,zO x.Bill Y.bills=some (s,i):=by
      unfold zGi at hM
      have e:zO x.Bill Y.b.bills=(zO x.Bill Y.bills).map (fun p:Zi×SI=>p.1):=qJ (fun p:Zi×SI=>p.1) x.Bill Y.bills
      cases q:zO x.Bill Y.bills with
      | none=>rw [e,q] at hM; cases hM
      | some w=>exact ⟨w.1,w.2,rfl⟩
    obtain ⟨A,B,q1,q2⟩:=zDd hs
    have hb:∀ v:Zi×SI,bcells (A++(x.Bill,v) :: B)=bcells A++([kS v.1 v.2,kH v.1 v.2]++bcells B):=fun v=>by unfold bcells; rw [List.flatMap_append,List.flatMap_cons]
    refine zJv (im_mend ib Y x s i hs hM) (R0:=[kT Y,(Y.ipd,isB (.map [] [])),(Y.ibd,isB (.map [] []))]++(bcells A++bcells B)) ?_ ?_
    · have e : bcells Y.bills = bcells A ++ ([kS s i, kH s i] ++ bcells B) := by rw [q1]; exact hb (s, i)
      rw [e]
      exact zAw fun f=>by simp only [List.map_append,List.sum_append,List.map_cons,List.map_nil,List.sum_cons,List.sum_nil]; omega
    · rintro v L' ⟨rfl, Z', s', i', h1, h2, h3, h4, h5, h6, h7, h8, rfl⟩
      have e1:kT Y=kT Z':=by show (Y.it,isB (S.jsB true 7 zI Y.taken []))=(Z'.it,isB (S.jsB true 7 zI Z'.taken [])); rw [h3,h5]
      refine ⟨_,⟨rfl,Z',h1,rfl⟩,?_⟩
      have e:bcells Z'.bills=bcells A++([kS s' i',kH s' i']++bcells B):=by rw [h4,q2]; exact hb (s',i')
      rw [e,e1,← h7,← h8]
      exact zAw fun f=>by simp only [List.map_append,List.sum_append,List.map_cons,List.map_nil,List.sum_cons,List.sum_nil]; omega
def fStd (s:Zi):V:=.fptr [.agg [V.i s.item.ID,V.i s.item.Known,V.i s.item.Kind,V.i s.item.Day,V.i s.item.Bill,V.i s.item.Account,V.i s.item.Amount,V.i s.amount,.sl (s.hist.map qz)]] 0 0
def fStO : Option Zi→V
  | none=>.lit (.pointer none)
  | some s=>fStd s
def fbm (b:jX):List (Int×Option Zi):=b.bills.map fun p=>(p.1,some p.2)
def fBk (b:jX):V:=.fptr [.agg [V.i b.closed,.sl (b.posts.map Qb),.sl (b.taken.map zI),.sl [],.fmap ((fbm b).map fun p=>V.i p.1) ((fbm b).map fun p=>fStO p.2),.fmap [] [],.fmap [] []]] 0 0
theorem zOW {H:List Blk} {s:Zi} {i:SI} (h:Has H [kS s i,kH s i]):FR H 0 (.ptr i.id 0 0) (fStd s) :=
  FR.ptr S.b0 (h.is (k:=0) rfl) (FR.agg (.cons ⟨1,rfl⟩ (.cons ⟨1,rfl⟩ (.cons ⟨1,rfl⟩ (.cons ⟨1,rfl⟩ (.cons ⟨1,rfl⟩ (.cons ⟨1,rfl⟩ (.cons ⟨1,rfl⟩ (.cons ⟨1,rfl⟩ (.cons (S.zCT (z:=false) (l:=s.hist) (j:=[]) 9 (h.is (k:=1) rfl) fun _=>rfl) .nil))))))))))
theorem zH0 {H:List Blk}:∀ {l:List (Int×Zi×SI)},Has H (bcells l)→FRL H 0 (l.map fun p=>.ptr p.2.2.id 0 0) (l.map fun p=>fStd p.2.1)
  | [],_=>.nil
  | p :: r,h=>by
    have h':Has H ([kS p.2.1 p.2.2,kH p.2.1 p.2.2]++bcells r):=h
    exact .cons (zOW (zA5 h')) (zH0 (qM h'))
theorem zL4 {H:List Blk}:∀ (l:List (Int×Zi×SI)),FRL H 0 (l.map fun p=>V.i p.1) (l.map fun p=>V.i p.1)
  | []=>.nil
  | p :: r=>.cons ⟨9,rfl⟩ (zL4 r)
theorem zL5 {ib:Nat} {Z:BX} {H:List Blk} {R:Hp} (hH:Has H (cB ib Z++(bcells Z.bills++R))):FR H 0 (.ptr ib 0 0) (fBk Z.b):=by
  have hC:=zA5 hH
  have hD:=zH0 (zA5 (qM hH))
  have hM:FR H 0 (.map Z.im) (.fmap ((fbm Z.b).map fun p=>V.i p.1) ((fbm Z.b).map fun p=>fStO p.2)):=by
    have e1:((fbm Z.b).map fun p=>V.i p.1)=Z.bills.map fun p=>V.i p.1:=by simp [fbm,BX.b]
    have e2:((fbm Z.b).map fun p=>fStO p.2)=Z.bills.map fun p=>fStd p.2.1:=by simp [fbm,BX.b,fStO]
    rw [e1,e2]
    have e3:hget H Z.im = .map (Z.bills.map fun p=>V.i p.1) (Z.bills.map fun p=>.ptr p.2.2.id 0 0):=by
      rw [hC.is (k:=3) rfl]
      simp [BX.bm]
    obtain ⟨n1,h1⟩:=(zL4 (H:=H) Z.bills).mapO
    obtain ⟨n2,h2⟩:=hD.mapO
    exact ⟨max n1 n2+1,X.zFN e3 (h1 _ (Nat.le_max_left _ _)) (h2 _ (Nat.le_max_right _ _))⟩
  exact FR.ptr S.b0 (hC.is (k:=0) rfl) (FR.agg (.cons ⟨1,rfl⟩ (.cons (S.zCT (z:=true) (l:=Z.posts) (j:=[]) 9 (hC.is (k:=1) rfl) fun _=>rfl) (.cons (S.zCT (z:=true) (l:=Z.taken) (j:=[]) 9 (hC.is (k:=2) rfl) fun _=>rfl) (.cons ⟨1,rfl⟩ (.cons hM (.cons ⟨2,X.zFN (hC.is (k:=4) rfl) rfl rfl⟩ (.cons ⟨2,X.zFN (hC.is (k:=5) rfl) rfl rfl⟩ .nil))))))))
def gbk (ib:Nat):Option Nat→V
  | none=>.lit .nilFunc
  | some f=>.fn (f+1000000) [.ptr ib 0 0]
abbrev rdT : List (Int×Option Nat):=[(1,some 73),(2,some 74),(3,some 75),(4,some 76),(5,some 77),(6,some 78),(7,some 79)]
theorem ok_read {l s:List zF} {known:Int} {b:jX} (h1:JU l=some s) (h2:zBm known s ⟨-1,[],[],[]⟩=some b) (hs:s.length≤1000000):Ct Tryz.prog 33 [ZK l,V.i known] (fBk b):=by
  refine zV ZR rfl ?_
  refine aus ?_
  refine S.mkm (show Has [] [] from Has.nil) rfl rfl rfl fun im H hH=>?_
  refine S.mkm hH rfl rfl rfl fun ipd H hH=>?_
  refine S.mkm hH rfl rfl rfl fun ibd H hH=>?_
  refine aus ?_
  refine S.pad hH fun ip H hH=>S.pad hH fun it H hH=>?_
  refine S.box hH rfl rfl rfl fun ib H hH=>?_
  refine aus ?_
  refine S.mkm hH rfl rfl rfl fun itk H hH=>?_
  refine aus ?_
  refine S.w0 0 hH rfl rfl (X.putV (f:=V.i) (g:=gbk ib) (pos:=posI) (k:=1) (v:=some 73) (l:=[]) X.jK (X.Jk _) rfl rfl rfl rfl rfl (hH.is (k:=0) rfl) S.b0) fun H hH=>?_
  refine aus ?_
  refine S.w0 0 hH rfl rfl (X.putV (f:=V.i) (g:=gbk ib) (pos:=posI) (k:=2) (v:=some 74) (l:=rdT.take 1) X.jK (X.Jk _) rfl rfl rfl rfl rfl (hH.is (k:=0) rfl) S.b0) fun H hH=>?_
  refine aus ?_
  refine S.w0 0 hH rfl rfl (X.putV (f:=V.i) (g:=gbk ib) (pos:=posI) (k:=3) (v:=some 75) (l:=rdT.take 2) X.jK (X.Jk _) rfl rfl rfl rfl rfl (hH.is (k:=0) rfl) S.b0) fun H hH=>?_
  refine aus ?_
  refine S.w0 0 hH rfl rfl (X.putV (f:=V.i) (g:=gbk ib) (pos:=posI) (k:=4) (v:=some 76) (l:=rdT.take 3) X.jK (X.Jk _) rfl rfl rfl rfl rfl (hH.is (k:=0) rfl) S.b0) fun H hH=>?_
  refine aus ?_
  refine S.w0 0 hH rfl rfl (X.putV (f:=V.i) (g:=gbk ib) (pos:=posI) (k:=5) (v:=some 77) (l:=rdT.take 4) X.jK (X.Jk _) rfl rfl rfl rfl rfl (hH.is (k:=0) rfl) S.b0) fun H hH=>?_
  refine aus ?_
  refine S.w0 0 hH rfl rfl (X.putV (f:=V.i) (g:=gbk ib) (pos:=posI) (k:=6) (v:=some 78) (l:=rdT.take 5) X.jK (X.Jk _) rfl rfl rfl rfl rfl (hH.is (k:=0) rfl) S.b0) fun H hH=>?_
  refine aus ?_
  refine S.w0 0 hH rfl rfl (X.putV (f:=V.i) (g:=gbk ib) (pos:=posI) (k:=7) (v:=some 79) (l:=rdT.take 6) X.jK (X.Jk _) rfl rfl rfl rfl rfl (hH.is (k:=0) rfl) S.b0) fun H hH=>?_
  refine aus ?_
  refine X.call (zAx h1) rfl rfl rfl (.cons (.shut (n:=9) rfl) .nil) ?_
  refine aus ?_
  obtain ⟨Z,hZ⟩:∃ Z:BX,Z=⟨-1,[],[],[],ip,it,im,ipd,ibd⟩:=⟨_,rfl⟩
  replace hH:Has H (cB ib Z++(bcells Z.bills++[(itk,isB (.map (rdT.map fun p=>V.i p.1) (rdT.map fun p=>gbk ib p.2)))])):=by
    rw [hZ]
    exact S.sel [1,3,2,6,5,4,0] hH rfl (by decide)
  replace h2:zBm known s Z.b=some b:=by rw [hZ]; exact h2
  clear hZ
  refine X.norm [(1,V.i known),(5,.ptr ib 0 0),(6,.map itk),(31,ZK s),(32,V.i (s.length:Nat)),(33,V.i ((0:Nat):Int))] ?_ rfl (sr rfl)
  refine X.YY (α:=List Blk×Nat×BX) (fun a=>⟨[(1,V.i known),(5,.ptr ib 0 0),(6,.map itk),(31,ZK s),(32,V.i (s.length:Nat)),(33,V.i ((a.2.1:Nat):Int))],a.1,0,none,75⟩)
    (fun a=>a.2.1≤s.length∧zBm known (s.drop a.2.1) a.2.2.b=some b∧Has a.1 (cB ib a.2.2++(bcells a.2.2.bills++[(itk,isB (.map (rdT.map fun p=>V.i p.1) (rdT.map fun p=>gbk ib p.2)))]))) (fun a=>s.length - a.2.1) ?_ (H,0,Z) ⟨Nat.zero_le _,h2,hH⟩
  clear hH h2 H Z h1
  rintro ⟨H,j,Y⟩ ⟨hj,hM,hH⟩ hc
  simp only at hj hM hH hc ⊢
  refine aus ?_
  refine X.cond rfl (fun h4=>?_) (fun h4=>?_)
  · have h5 : j < s.length := by have := of_decide_eq_true h4; omega
    rw [List.drop_eq_getElem_cons h5] at hM
    have hx:ix s (j:Int)=some s[j]:=S.ixn h5
    generalize s[j]=x at hM hx
    unfold zBm at hM
    refine aus ?_
    refine S.box hH rfl rfl rfl fun i8 H hH=>?_
    refine S.w0 0 hH rfl rfl (S.st 0 hH rfl rfl rfl rfl rfl rfl rfl) fun H hH=>?_
    replace hH:Has H ((i8,isB (.rows 7 [zI x])) :: (cB ib Y++(bcells Y.bills++[(itk,isB (.map (rdT.map fun p=>V.i p.1) (rdT.map fun p=>gbk ib p.2)))]))):=hH
    refine aus ?_
    refine X.opR rfl (S.ld 0 hH rfl rfl rfl rfl rfl) rfl ?_
    refine aus ?_
    refine X.cond rfl (fun h6=>?_) (fun h6=>?_)
    · rw [if_pos (of_decide_eq_true h6)] at hM
      cases hM
      refine aus ?_
      refine X.opR rfl (S.ld 1 hH rfl rfl rfl rfl rfl) rfl ?_
      refine X.zAU (m:=9) zDw rfl rfl rfl rfl (.cons (.nil (n:=2) rfl) .nil) ?_
      refine aus ?_
      exact GS.ret ⟨_,rfl,zL5 hH.tail⟩
    · rw [if_neg (of_decide_eq_false h6)] at hM
      obtain ⟨b1,h7,hM⟩:=zK hM
      obtain ⟨t,h8,hM⟩:=zK hM
      obtain ⟨f,hf,hq⟩:∃ f,((x.Kind=1∧f=73)∨(x.Kind=2∧f=74))∧(zO x.Kind rdT).getD none=some f:=by
        unfold zCL at h7
        split at h7
        · rename_i q; exact ⟨73,.inl ⟨q,rfl⟩,by rw [q]; rfl⟩
        · split at h7
          · rename_i q; exact ⟨74,.inr ⟨q,rfl⟩,by rw [q]; rfl⟩
          · cases h7
      refine aus ?_
      refine X.opR rfl (S.ld 0 hH rfl rfl rfl rfl rfl) rfl ?_
      obtain ⟨tk,htk⟩:∃ tk:Nat×(Blk→Prop),tk=(itk,isB (.map (rdT.map fun p=>V.i p.1) (rdT.map fun p=>gbk ib p.2))):=⟨_,rfl⟩
      have hT1:hget H itk = .map (rdT.map fun p=>V.i p.1) (rdT.map fun p=>gbk ib p.2):=(qM (A:=bcells Y.bills) (qM hH.tail)).is (k:=0) rfl
      refine X.opR rfl (X.lookW (f:=V.i) (g:=gbk ib) (k:=x.Kind) (l:=rdT) (z:=none) X.jK rfl rfl rfl rfl hT1 rfl) rfl ?_
      refine X.opR rfl (S.ld 0 hH rfl rfl rfl rfl rfl) rfl ?_
      rw [hq]
      have hC:Has H ((cB ib Y++bcells Y.bills)++[(i8,isB (.rows 7 [zI x])),(itk,isB (.map (rdT.map fun p=>V.i p.1) (rdT.map fun p=>gbk ib p.2)))]):=hH.perm (zAw fun f=>by simp only [List.map_append,List.sum_append,List.map_cons,List.map_nil,List.sum_cons,List.sum_nil]; omega)
      refine S.im (im_bk ib Y x f hf h7) hC rfl ?_ rfl fun v L' H hT hH=>?_
      · rcases hf with ⟨_,rfl⟩ | ⟨_,rfl⟩ <;> rfl
      obtain ⟨rfl,Z,rfl,rfl⟩:=hT
      replace hH:Has H ((i8,isB (.rows 7 [zI x])) :: (cB ib Z++(bcells Z.bills++[(itk,isB (.map (rdT.map fun p=>V.i p.1) (rdT.map fun p=>gbk ib p.2)))]))):=hH.perm (zAw fun f=>by simp only [List.map_append,List.sum_append,List.map_cons,List.map_nil,List.sum_cons,List.sum_nil]; omega)
      refine aus ?_
      refine X.cond rfl (fun _=>?_) (fun q=>?_)
      · refine aus ?_
        refine S.cutW 8 2 rfl rfl rfl rfl ?_
        have hF:=S.Jo hH 2
        refine S.wq rfl rfl rfl rfl rfl (S.wq rfl rfl rfl rfl rfl (S.wq rfl rfl rfl rfl rfl (S.wq rfl rfl rfl rfl rfl ?_)))
        refine S.wq rfl (S.ld 1 hF rfl rfl rfl rfl rfl) rfl rfl rfl ?_
        refine S.wq rfl (S.ld 0 hF rfl rfl rfl rfl rfl) rfl rfl rfl ?_
        refine S.wbld (q:=0) (m:=2) rfl rfl rfl rfl rfl rfl rfl ?_
        refine S.zF8 (z:=true) (q:=1) (m:=2) 3 hH rfl (fun _ _=>rfl) h8 (fun _=>rfl) rfl rfl rfl rfl rfl rfl rfl rfl rfl rfl rfl (S.wt rfl) fun i1 H hH=>(X.q rfl (X.q rfl ?_))
        refine S.w0 1 hH rfl rfl (S.stO (z:=true) (ids:=i1) (ls:=t) 1 hH rfl rfl rfl rfl rfl rfl rfl) fun H hH=>?_
        refine aus ?_
        rw [S.w64n h5 (by omega)]
        exact X.norm [(1,V.i known),(5,.ptr ib 0 0),(6,.map itk),(31,ZK s),(32,V.i (s.length:Nat)),(33,V.i ((j+1:Nat):Int))] (hc (H,j+1,{ Z with taken:=t,it:=i1 }) ⟨h5,hM,hH.tail⟩ (by simp only; omega)) rfl (sr rfl)
      · cases q
  · have h5 : j = s.length := by have := of_decide_eq_false h4; omega
    subst h5
    rw [List.drop_length] at hM
    cases hM
    refine aus ?_
    refine X.opR rfl (S.ld 0 hH rfl rfl rfl rfl rfl) rfl ?_
    refine X.zAU (m:=9) zDw rfl rfl rfl rfl (.cons (.nil (n:=2) rfl) .nil) ?_
    refine aus ?_
    exact GS.ret ⟨_,rfl,zL5 hH⟩
theorem zG2 (b:jX) (k:Int):zO k (fbm b)=(zO k b.bills).map some:=qJ some k b.bills
theorem zJa {l:List zF} {known:Int} {b:jX} (h:RdIs l known b):Ct Tryz.prog 33 [ZK l,V.i known] (fBk b):=by
  obtain ⟨s,h1,h2,h3⟩:=h
  exact ok_read h1 h3 h2
theorem zHp {l:List zF} {n known:Int} {b:jX} {s:Zi} (h1:jT l [known]=some 0) (h2:jP n=true) (h3:RdIs l known b) (h4:zO n b.bills=some s):Ct Tryz.prog 14 [ZK l,V.i n,V.i known] (.tup [V.i s.amount,V.i 0]):=by
  refine zV ZR rfl ?_
  refine aus ?_
  refine GS.bldF rfl rfl rfl rfl ?_
  refine X.call (Qw h1) rfl rfl rfl (.cons (.shut (n:=9) rfl) (.cons (.shut (n:=9) rfl) .nil)) ?_
  refine aus ?_
  refine X.cond rfl (fun q=>?_) (fun _=>?_)
  · cases q
  refine aus ?_
  refine X.call (J8 n) rfl rfl rfl (.cons (.shut (n:=9) rfl) .nil) ?_
  refine aus ?_
  refine X.cond rfl (fun q=>?_) (fun _=>?_)
  · rw [h2] at q; cases q
  refine aus ?_
  refine X.call (zJa h3) rfl rfl rfl (.cons (.shut (n:=9) rfl) (.cons (.shut (n:=9) rfl) .nil)) ?_
  unfold fBk
  refine aus ?_
  refine X.opR rfl (X.zN9 (f:=V.i) (g:=fStO) (k:=n) (l:=fbm b) (z:=none) X.jK rfl rfl rfl rfl rfl) rfl ?_
  rw [zG2,h4]
  simp only [Option.map_some,Option.getD_some,fStO]
  unfold fStd
  refine aus ?_
  refine X.cond rfl (fun q=>?_) (fun _=>?_)
  · cases q
  refine aus ?_
  exact X.rt
theorem zKy {l:List zF} {n:Int} {b:jX} {s:Zi} (h1:JM l=some 0) (h2:jP n=true) (h3:RdIs l 728 b) (h4:zO n b.bills=some s):Ct Tryz.prog 28 [ZK l,V.i n] (.tup [.sl (s.hist.map qz),V.i 0]):=by
  refine zV ZR rfl ?_
  refine aus ?_
  refine X.call (Qx h1) rfl rfl rfl (.cons (.shut (n:=9) rfl) .nil) ?_
  refine aus ?_
  refine X.cond rfl (fun q=>?_) (fun _=>?_)
  · cases q
  refine aus ?_
  refine X.call (J8 n) rfl rfl rfl (.cons (.shut (n:=9) rfl) .nil) ?_
  refine aus ?_
  refine X.cond rfl (fun q=>?_) (fun _=>?_)
  · rw [h2] at q; cases q
  refine aus ?_
  refine X.call (zJa h3) rfl rfl rfl (.cons (.shut (n:=9) rfl) (.cons (.shut (n:=9) rfl) .nil)) ?_
  unfold fBk
  refine aus ?_
  refine X.opR rfl (X.zN9 (f:=V.i) (g:=fStO) (k:=n) (l:=fbm b) (z:=none) X.jK rfl rfl rfl rfl rfl) rfl ?_
  rw [zG2,h4]
  simp only [Option.map_some,Option.getD_some,fStO]
  unfold fStd
  refine aus ?_
  refine X.cond rfl (fun q=>?_) (fun _=>?_)
  · cases q
  refine aus ?_
  exact X.rt
theorem zJb {l:List zF} {known:Int} {b:jX} (h1:jT l [known]=some 0) (h3:RdIs l known b):Ct Tryz.prog 13 [ZK l,V.i known] (.tup [.sl (b.posts.map Qb),V.i 0]):=by
  refine zV ZR rfl ?_
  refine aus ?_
  refine GS.bldF rfl rfl rfl rfl ?_
  refine X.call (Qw h1) rfl rfl rfl (.cons (.shut (n:=9) rfl) (.cons (.shut (n:=9) rfl) .nil)) ?_
  refine aus ?_
  refine X.cond rfl (fun q=>?_) (fun _=>?_)
  · cases q
  refine aus ?_
  refine X.call (zJa h3) rfl rfl rfl (.cons (.shut (n:=9) rfl) (.cons (.shut (n:=9) rfl) .nil)) ?_
  unfold fBk
  refine aus ?_
  exact X.rt
theorem zNx {l:List zF} {fr to:Int} {b now:jX} {m:List Int} (h1:jT l [fr,to]=some 0) (h2 : ¬ to<fr) (h3:RdIs l to now) (h4:RdIs l fr b) (hall:∀ p∈b.bills,∃ s,zO p.1 now.bills=some s) (hn:b.bills.length≤1000000) (hM:∀ v,v.Perm (yn b now)→srtO v=some m):Ct Tryz.prog 29 [ZK l,V.i fr,V.i to] (.tup [.sl (m.map V.i),V.i 0]):=by
  refine zV ZR rfl ?_
  refine aus ?_
  refine GS.bldF rfl rfl rfl rfl ?_
  refine X.call (Qw h1) rfl rfl rfl (.cons (.shut (n:=9) rfl) (.cons (.shut (n:=9) rfl) .nil)) ?_
  refine aus ?_
  refine X.cond rfl (fun q=>?_) (fun _=>?_)
  · cases q
  refine aus ?_
  refine X.cond rfl (fun q=>?_) (fun _=>?_)
  · exact absurd (of_decide_eq_true q) h2
  refine aus ?_
  refine X.call (zJa h3) rfl rfl rfl (.cons (.shut (n:=9) rfl) (.cons (.shut (n:=9) rfl) .nil)) ?_
  unfold fBk
  refine aus ?_
  have h0:Has [] []:=Has.nil
  refine S.pad h0 fun iv H hH=>?_
  refine X.call (zJa h4) rfl rfl rfl (.cons (.shut (n:=9) rfl) (.cons (.shut (n:=9) rfl) .nil)) ?_
  unfold fBk
  refine aus ?_
  refine S.box hH rfl rfl rfl fun it H hH=>?_
  refine aus ?_
  obtain ⟨ks,hks⟩:∃ ks,ks=(fbm b).map fun p=>V.i p.1:=⟨_,rfl⟩
  obtain ⟨vs,hvs⟩:∃ vs,vs=(fbm b).map fun p=>fStO p.2:=⟨_,rfl⟩
  rw [← hks,← hvs] at hH
  have hlen:ks.length=b.bills.length:=by rw [hks]; simp [fbm]
  rw [hlen] at hH
  refine X.norm [(7,V.i 0),(9,.fmap ((fbm now).map fun p=>V.i p.1) ((fbm now).map fun p=>fStO p.2)),(10,ovlz true iv ([]:List Int)),(36,.ptr it 0 0)] ?_ rfl (sr rfl)
  refine X.YY (α:=List Blk×List Nat×Option Nat×List Int×Nat) (fun x=>⟨[(7,V.i 0),(9,.fmap ((fbm now).map fun p=>V.i p.1) ((fbm now).map fun p=>fStO p.2)),(10,ovlz true x.2.2.2.2 x.2.2.2.1),(36,.ptr it 0 0)],x.1,0,none,60⟩)
    (fun x=>Has x.1 [(it,isB (.iter ks vs x.2.1 x.2.2.1)),(x.2.2.2.2,isB (oblz true 1 V.i x.2.2.2.1))]∧x.2.1.Nodup∧(x.2.2.2.1++((x.2.1.filterMap (b.bills[·]?)).filter (mvB now)).map (·.1)).Perm (yn b now))
    (fun x=>x.2.1.length) ?_ (H,idxs 0 b.bills.length,none,[],iv) ⟨hH,zDh _ _,by simp only; rw [zGn b.bills _ 0 (by omega)]; simp [yn]⟩
  clear hH h0
  rintro ⟨H,left,last,v,iv⟩ ⟨hH,hnd,hp⟩ hc
  simp only at hH hnd hp hc ⊢
  refine aus ?_
  refine X.next rfl rfl (hH.is (k:=0) rfl) S.b0 rfl (fun hl=>?_) (fun j kv vv hj hk hv=>?_)
  · subst hl
    have hp':v.Perm (yn b now):=by simpa using hp
    refine aus ?_
    refine X.cond rfl (fun h=>?_) (fun _=>?_)
    · cases h
    · refine aus ?_
      refine X.sortInt (z:=true) (id:=iv) (l:=v) (hM v hp') zNR zDw (fun _ _ _ h=>h) rfl rfl (hH.is (k:=1) rfl) (hH.blt (k:=1) rfl) S.b0 rfl rfl rfl ?_
      have hH':=hH.put (k:=1) (B:=oblz true 1 V.i m) (q:=isB (oblz true 1 V.i m)) rfl rfl
      have e:ovlz true iv v=ovlz true iv m:=by
        obtain ⟨_,e2⟩:=zFv (hM v hp')
        have:=(zAo v).1.length_eq
        rw [← e2] at this
        cases v with
        | nil=>cases m with
          | nil=>rfl
          | cons a' r' => simp at this
        | cons a r =>
          cases m with
          | nil=>simp at this
          | cons a' r' => show V.osl iv 0 (r.length+1)=V.osl iv 0 (r'.length+1); simp at this; rw [this]
      refine aus ?_
      refine GS.ret ⟨_,rfl,FR.tup (.cons (FR.eq e (FR.ovl (z:=true) (l:=m) 9 S.b0 (hH'.is (k:=1) rfl) fun _=>rfl)) (.cons ⟨1,rfl⟩ .nil))⟩
  · have hjl : j < b.bills.length := by
      have:=jm hk
      rw [hlen] at this; exact this
    have hk':kv=V.i b.bills[j].1:=by
      rw [hks,zP,List.getElem?_map] at hk
      unfold fbm at hk
      rw [List.getElem?_map,List.getElem?_eq_getElem hjl] at hk
      simpa using hk.symm
    have hv':vv=fStd b.bills[j].2:=by
      rw [hvs,zP,List.getElem?_map] at hv
      unfold fbm at hv
      rw [List.getElem?_map,List.getElem?_eq_getElem hjl] at hv
      simpa [fStO] using hv.symm
    subst hk'
    subst hv'
    obtain ⟨s2,hs2⟩:=hall _ (List.getElem_mem hjl)
    replace hH:=hH.put (k:=0) (B:=.iter ks vs (left.filter (·≠j)) (some j)) (q:=isB (.iter ks vs (left.filter (·≠j)) (some j))) rfl rfl
    replace hH:Has _ [(it,isB (.iter ks vs (left.filter (·≠j)) (some j))),(iv,isB (oblz true 1 V.i v))]:=hH
    generalize hput H it _=H1 at hH ⊢
    have hlt:(left.filter (·≠j)).length<left.length:=by
      have:=List.length_filter_lt_length_iff_exists (l:=left) (p:=(·≠j))
      exact this.2 ⟨j,hj,by simp⟩
    have hp2:=(zFI left j hnd hj).filterMap (b.bills[·]?)
    rw [List.filterMap_cons_some (List.getElem?_eq_getElem hjl)] at hp2
    have hp3:=(List.Perm.append_left v ((hp2.filter (mvB now)).map (·.1))).symm.trans hp
    clear hp hp2
    have hnd':=hnd.filter (fun x=>decide (x≠j))
    generalize b.bills[j]=p at hk hv hs2 hp3 ⊢
    obtain ⟨k0,d0⟩:=p
    have hmv:mvB now (k0,d0) = !decide (s2.amount=d0.amount):=by unfold mvB; rw [hs2]
    unfold fStd at hv ⊢
    refine aus ?_
    refine X.cond rfl (fun _=>?_) (fun h=>?_)
    · refine aus ?_
      refine X.entry rfl rfl (hH.is (k:=0) rfl) hk hv rfl ?_
      refine aus ?_
      refine X.drawc (by kernel_rfl) rfl ?_
      refine aus ?_
      refine X.cop rfl (X.zN9 (f:=V.i) (g:=fStO) (k:=k0) (l:=fbm now) (z:=none) X.jK rfl rfl rfl rfl rfl) rfl rfl ?_
      rw [zG2,hs2]
      simp only [Option.map_some,Option.getD_some,fStO]
      unfold fStd
      refine aus ?_
      refine X.cond rfl (fun h3=>?_) (fun h3=>?_)
      · have h3' : mvB now (k0, d0) = true := by rw [hmv]; exact h3
        rw [List.filter_cons_of_pos h3',List.map_cons,List.append_cons] at hp3
        have hle:(v++[k0]).length≤1000000:=by
          have:=hp3.length_eq
          simp only [List.length_append,List.length_cons,List.length_nil] at this ⊢
          have h5:(yn b now).length≤b.bills.length:=by unfold yn; rw [List.length_map]; exact List.length_filter_le _ _
          omega
        have hm:Mx.app v [k0]=some (v++[k0]):=by
          unfold Mx.app
          rw [if_pos (by simp only [List.length_append,List.length_cons,List.length_nil] at hle ⊢; omega)]
        refine aus ?_
        refine GS.bldF rfl rfl rfl rfl ?_
        refine S.appL 1 hH rfl hm (fun _=>rfl) rfl rfl rfl rfl rfl rfl rfl S.b0 rfl rfl rfl fun i2 H hH=>?_
        refine aus ?_
        exact X.norm [(7,V.i 0),(9,.fmap ((fbm now).map fun p=>V.i p.1) ((fbm now).map fun p=>fStO p.2)),(10,ovlz true i2 (v++[k0])),(36,.ptr it 0 0)] (hc (H,left.filter (·≠j),some j,v++[k0],i2) ⟨hH,hnd',hp3⟩ hlt) rfl (sr rfl)
      · have h3' : ¬ mvB now (k0, d0) = true := by rw [hmv]; intro q; rw [q] at h3; cases h3
        rw [List.filter_cons_of_neg h3'] at hp3
        refine aus ?_
        exact X.norm [(7,V.i 0),(9,.fmap ((fbm now).map fun p=>V.i p.1) ((fbm now).map fun p=>fStO p.2)),(10,ovlz true iv v),(36,.ptr it 0 0)] (hc (H1,left.filter (·≠j),some j,v,iv) ⟨hH,hnd',hp3⟩ hlt) rfl (sr rfl)
    · cases h
end Go.Proofs.YtggkidlcohickaaGreat
