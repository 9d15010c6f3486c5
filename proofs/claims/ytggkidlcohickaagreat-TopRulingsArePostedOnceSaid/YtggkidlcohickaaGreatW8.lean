/- Part of the proof of TopRulingsArePostedOnce: walks: methods of the program, step by step, compute the plain ones. Conditions: none. -/
import Derived.Test.YtggkidlcohickaaGreatW7
import Derived.Test.YtggkidlcohickaaGreatHi
import Derived.Test.YtggkidlcohickaaGreatSrt
import Derived.Test.YtggkidlcohickaaGreatWm
set_option linter.unusedVariables false
set_option linter.unusedSimpArgs false
set_option maxRecDepth 4000
namespace Go.Proofs.YtggkidlcohickaaGreat
open Go Go.Am Go.Proofs Go.Mx
theorem zDk (w:zN) (a amount:Int) {k:List zB} (hk:qD w a k) (hkl:k.length≤1000000) (hcs:w.cases.length≤1000000) (htot:(Yq w.cases k amount).length≤1000000):FrC Tryz.prog 10 [fzW w,V.i a,V.i amount] (.sl ((Yq w.cases k amount).map zI)):=by
  refine zA7 (C:=CC) (es:=7) (nn:=9) ZR rfl (fun _=>rfl) ?_
  refine aus ?_
  have h0:Has [] []:=Has.nil
  refine S.pad h0 fun iv H hH=>?_
  refine X.zDM (zGu w hcs) rfl rfl rfl (.cons (.shut (n:=9) rfl) .nil) ?_
  refine aus ?_
  obtain ⟨T,hT⟩:∃ T,T=Yq w.cases k amount:=⟨_,rfl⟩
  rw [← hT] at htot ⊢
  have happ:∀ (v:List zF) (x:zF) (r:List zF),v++x :: r=T→Mx.app v [x]=some (v++[x]):=fun v x r h=>by
    unfold Mx.app
    have:=congrArg List.length h
    simp only [List.length_append,List.length_cons,List.length_nil] at this ⊢
    rw [if_pos (by omega)]
  refine X.norm [(0,fzW w),(1,V.i a),(2,V.i amount),(7,ovlz true iv ([]:List zF)),(15,V.sl (w.cases.map V.i)),(16,V.i (w.cases.length:Nat)),(17,V.i ((0:Nat):Int))] ?_ rfl (sr rfl)
  refine X.YY (α:=List Blk×Nat×List zF×Nat) (fun x=>⟨[(0,fzW w),(1,V.i a),(2,V.i amount),(7,ovlz true x.2.2.2 x.2.2.1),(15,V.sl (w.cases.map V.i)),(16,V.i (w.cases.length:Nat)),(17,V.i ((x.2.1:Nat):Int))],x.1,0,none,63⟩)
    (fun x=>x.2.1≤w.cases.length∧x.2.2.1++((w.cases.zipIdx.drop x.2.1).map (l_bl amount)++k.flatMap (zFg w.cases))=T∧Has x.1 [(x.2.2.2,isB (oblz true 7 zI x.2.2.1))]) (fun x=>w.cases.length - x.2.1) ?_ (H,0,[],iv) ⟨Nat.zero_le _,hT.symm,hH⟩
  clear hH
  rintro ⟨H,j,v,iv⟩ ⟨hj,hv,hH⟩ hc
  simp only at hj hv hH hc ⊢
  refine aus ?_
  refine X.cond rfl (fun h4=>?_) (fun h4=>?_)
  · have h5 : j < w.cases.length := by have := of_decide_eq_true h4; omega
    have hx:ix w.cases (j:Int)=some w.cases[j]:=S.ixn h5
    rw [List.drop_eq_getElem_cons (by simpa using h5),List.getElem_zipIdx,Nat.zero_add,List.map_cons,List.cons_append] at hv
    generalize w.cases[j]=id at hx hv
    refine aus ?_
    rw [S.w64n h5 (by omega)]
    refine GS.bldF rfl rfl rfl rfl ?_
    refine S.appL 0 hH rfl (happ v (l_bl amount (id,j)) _ hv) (fun _=>rfl) rfl rfl rfl rfl rfl rfl rfl S.b0 rfl rfl rfl fun i2 H hH=>?_
    refine aus ?_
    rw [S.w64n h5 (by omega)]
    rw [List.append_cons] at hv
    exact X.norm [(0,fzW w),(1,V.i a),(2,V.i amount),(7,ovlz true i2 (v++[l_bl amount (id,j)])),(15,V.sl (w.cases.map V.i)),(16,V.i (w.cases.length:Nat)),(17,V.i ((j+1:Nat):Int))] (hc (H,j+1,v++[l_bl amount (id,j)],i2) ⟨h5,hv,hH⟩ (by simp only; omega)) rfl (sr rfl)
  · have h5 : j = w.cases.length := by have := of_decide_eq_false h4; omega
    subst h5
    rw [List.drop_eq_nil_of_le (by simp),List.map_nil,List.nil_append] at hv
    clear hc hj h4
    refine aus ?_
    refine X.zDM (zJ3 w a hk.1 hk.2) rfl rfl rfl (.cons (.shut (n:=9) rfl) (.cons (.shut (n:=9) rfl) .nil)) ?_
    refine aus ?_
    refine X.norm [(0,fzW w),(7,ovlz true iv v),(33,V.sl (k.map zJ)),(34,V.i (k.length:Nat)),(35,V.i ((0:Nat):Int))] ?_ rfl (sr rfl)
    refine X.YY (α:=List Blk×Nat×List zF×Nat) (fun x=>⟨[(0,fzW w),(7,ovlz true x.2.2.2 x.2.2.1),(33,V.sl (k.map zJ)),(34,V.i (k.length:Nat)),(35,V.i ((x.2.1:Nat):Int))],x.1,0,none,63⟩)
      (fun x=>x.2.1≤k.length∧x.2.2.1++(k.drop x.2.1).flatMap (zFg w.cases)=T∧Has x.1 [(x.2.2.2,isB (oblz true 7 zI x.2.2.1))]) (fun x=>k.length - x.2.1) ?_ (H,0,v,iv) ⟨Nat.zero_le _,hv,hH⟩
    clear hH hv H v iv
    rintro ⟨H,j,v,iv⟩ ⟨hj,hv,hH⟩ hc
    simp only at hj hv hH hc ⊢
    refine aus ?_
    refine X.cond rfl (fun h4=>?_) (fun h4=>?_)
    · have h5 : j < k.length := by have := of_decide_eq_true h4; omega
      have hx:ix k (j:Int)=some k[j]:=S.ixn h5
      rw [List.drop_eq_getElem_cons h5,List.flatMap_cons] at hv
      unfold zFg at hv
      generalize k[j]=r at hx hv
      refine aus ?_
      refine S.box hH rfl rfl rfl fun ir H hH=>?_
      refine S.w0 0 hH rfl rfl (S.st 0 hH rfl rfl rfl rfl rfl rfl rfl) fun H hH=>?_
      replace hH:Has H [(ir,isB (.rows 3 [zJ r])),(iv,isB (oblz true 7 zI v))]:=hH
      refine aus ?_
      refine X.zDM (zGu w hcs) rfl rfl rfl (.cons (.shut (n:=9) rfl) .nil) ?_
      refine aus ?_
      refine X.norm [(0,fzW w),(7,ovlz true iv v),(11,.ptr ir 0 0),(33,V.sl (k.map zJ)),(34,V.i (k.length:Nat)),(35,V.i ((j:Nat):Int)),(40,V.sl (w.cases.map V.i)),(41,V.i (w.cases.length:Nat)),(42,V.i ((0:Nat):Int))] ?_ rfl (sr rfl)
      refine X.YY (α:=List Blk×Nat×List zF×Nat) (fun x=>⟨[(0,fzW w),(7,ovlz true x.2.2.2 x.2.2.1),(11,.ptr ir 0 0),(33,V.sl (k.map zJ)),(34,V.i (k.length:Nat)),(35,V.i ((j:Nat):Int)),(40,V.sl (w.cases.map V.i)),(41,V.i (w.cases.length:Nat)),(42,V.i ((x.2.1:Nat):Int))],x.1,0,none,63⟩)
        (fun x=>x.2.1≤w.cases.length∧x.2.2.1++((w.cases.zipIdx.drop x.2.1).filterMap (l_md r)++(k.drop (j+1)).flatMap (zFg w.cases))=T∧Has x.1 [(ir,isB (.rows 3 [zJ r])),(x.2.2.2,isB (oblz true 7 zI x.2.2.1))]) (fun x=>w.cases.length - x.2.1) ?_ (H,0,v,iv) ⟨Nat.zero_le _,hv,hH⟩
      rintro ⟨H,i,v,iv⟩ ⟨hi,hv,hH⟩ hc2
      simp only at hi hv hH hc2 ⊢
      refine aus ?_
      refine X.cond rfl (fun h6=>?_) (fun h6=>?_)
      · have h7 : i < w.cases.length := by have := of_decide_eq_true h6; omega
        have hx:ix w.cases (i:Int)=some w.cases[i]:=S.ixn h7
        rw [List.drop_eq_getElem_cons (by simpa using h7),List.getElem_zipIdx,Nat.zero_add,List.filterMap_cons] at hv
        generalize w.cases[i]=id at hx hv
        refine aus ?_
        refine X.opR rfl (S.ld 0 hH rfl rfl rfl rfl rfl) rfl ?_
        refine aus ?_
        refine X.cond rfl (fun h8=>?_) (fun h8=>?_)
        · obtain ⟨N, hN⟩ : ∃ N : Nat, 100 + i = N := ⟨_, rfl⟩
          have e:l_md r (id,i)=some ⟨((N:Nat):Int),2,2,0,id,0,r.Finding⟩:=by unfold l_md; rw [hN,if_pos (of_decide_eq_true h8)]
          rw [e] at hv
          simp only [List.cons_append] at hv
          have e100:w64 (100+((i:Nat):Int))=((N:Nat):Int):=by rw [← hN]; unfold w64; omega
          refine au 4 ?_
          rw [e100]
          clear e e100 hN
          refine aus ?_
          refine X.opR rfl (S.ld 0 hH rfl rfl rfl rfl rfl) rfl ?_
          refine aus ?_
          refine GS.bldF rfl rfl rfl rfl ?_
          refine S.appL 1 hH rfl (happ v ⟨((N:Nat):Int),2,2,0,id,0,r.Finding⟩ _ hv) (fun _=>rfl) rfl rfl rfl rfl rfl rfl rfl S.b0 rfl rfl rfl fun i2 H hH=>?_
          refine aus ?_
          rw [S.w64n h7 (by omega)]
          rw [List.append_cons] at hv
          exact X.norm [(0,fzW w),(7,ovlz true i2 (v++[(⟨((N:Nat):Int),2,2,0,id,0,r.Finding⟩:zF)])),(11,.ptr ir 0 0),(33,V.sl (k.map zJ)),(34,V.i (k.length:Nat)),(35,V.i ((j:Nat):Int)),(40,V.sl (w.cases.map V.i)),(41,V.i (w.cases.length:Nat)),(42,V.i ((i+1:Nat):Int))] (hc2 (H,i+1,v++[(⟨((N:Nat):Int),2,2,0,id,0,r.Finding⟩:zF)],i2) ⟨h7,hv,hH⟩ (by simp only; omega)) rfl (sr rfl)
        · have e : l_md r (id, i) = none := by unfold l_md; rw [if_neg (of_decide_eq_false h8)]
          rw [e] at hv
          simp only at hv
          refine aus ?_
          rw [S.w64n h7 (by omega)]
          exact X.norm [(0,fzW w),(7,ovlz true iv v),(11,.ptr ir 0 0),(33,V.sl (k.map zJ)),(34,V.i (k.length:Nat)),(35,V.i ((j:Nat):Int)),(40,V.sl (w.cases.map V.i)),(41,V.i (w.cases.length:Nat)),(42,V.i ((i+1:Nat):Int))] (hc2 (H,i+1,v,iv) ⟨h7,hv,hH⟩ (by simp only; omega)) rfl (sr rfl)
      · have h7 : i = w.cases.length := by have := of_decide_eq_false h6; omega
        subst h7
        rw [List.drop_eq_nil_of_le (by simp),List.filterMap_nil,List.nil_append] at hv
        clear hc2
        refine aus ?_
        rw [S.w64n h5 (by omega)]
        exact X.norm [(0,fzW w),(7,ovlz true iv v),(33,V.sl (k.map zJ)),(34,V.i (k.length:Nat)),(35,V.i ((j+1:Nat):Int))] (hc (H,j+1,v,iv) ⟨h5,hv,hH.tail⟩ (by simp only; omega)) rfl (sr rfl)
    · have h5 : j = k.length := by have := of_decide_eq_false h4; omega
      subst h5
      rw [List.drop_length,List.flatMap_nil,List.append_nil] at hv
      subst hv
      refine aus ?_
      exact GS.ret ⟨true,iv,rfl,hH.is (k:=0) rfl⟩
theorem zKa {id:Int} {L:List zB} {r:zB} {p:Int×Bool}:JY id (L++[r]) p=if r.Case=id then (r.Finding,true) else JY id L p:=by unfold JY; rw [List.foldl_append]; rfl
theorem zMX {id:Int} {L L2:List zB} {p:Int×Bool}:JY id (L++L2) p=JY id L2 (JY id L p):=by unfold JY; rw [List.foldl_append]
theorem zNL (kf:Nat→List zB) (n:Nat):allK kf (n+1)=allK kf n++kf n:=by unfold allK; rw [List.range_succ,List.flatMap_append]; simp
theorem zKx {w:zN} {c:zD} {l:List zF} {id amount:Int} {kf:Nat→List zB} (hg:zFr w c l id amount kf):Ct Tryz.prog 12 [fzW w,zG c,ZK l,V.i id,V.i amount] (V.b true):=by
  obtain ⟨b1,b5,b7,s,s7,m,want,hb,hg⟩:=hg
  refine zV ZR rfl ?_
  refine aus ?_
  refine S.box (show Has [] [] from Has.nil) rfl rfl rfl fun ib H hH=>?_
  refine aus ?_
  refine X.norm [(0,fzW w),(2,ZK l),(3,V.i id),(4,V.i amount),(6,.ptr ib 0 0),(11,V.i (JY id (allK kf 0) (amount,false)).1),(12,V.b (JY id (allK kf 0) (amount,false)).2),(13,V.i ((0:Nat):Int))] ?_ rfl (sr rfl)
  refine X.YY (α:=List Blk×Nat) (fun x=>⟨[(0,fzW w),(2,ZK l),(3,V.i id),(4,V.i amount),(6,.ptr ib 0 0),(11,V.i (JY id (allK kf x.2) (amount,false)).1),(12,V.b (JY id (allK kf x.2) (amount,false)).2),(13,V.i ((x.2:Nat):Int))],x.1,0,none,145⟩)
    (fun x=>x.2≤c.Arbiters.toNat∧Has x.1 [(ib,isB (.rows 1 [zG c]))]) (fun x=>c.Arbiters.toNat - x.2) ?_ (H,0) ⟨Nat.zero_le _,hH⟩
  clear hH
  rintro ⟨H,a⟩ ⟨ha,hH⟩ hc
  simp only at ha hH hc ⊢
  refine aus ?_
  refine X.opR rfl (S.ld 0 hH rfl rfl rfl rfl rfl) rfl ?_
  refine aus ?_
  refine X.cond rfl (fun h4=>?_) (fun h4=>?_)
  · have h5 : (a : Int) < c.Arbiters := of_decide_eq_true h4
    have h5':a<c.Arbiters.toNat:=by omega
    obtain ⟨hk,hkl⟩:=hg.known a h5
    have hs:=zNL kf a
    generalize hkf:kf a=k at hk hkl hs
    refine aus ?_
    refine X.zDM (zJ3 w a hk.1 hk.2) rfl rfl rfl (.cons (.shut (n:=9) rfl) (.cons (.shut (n:=9) rfl) .nil)) ?_
    clear hkf
    have hs2:=congrArg (fun L=>JY id L (amount,false)) hs
    simp only [zMX] at hs2
    generalize JY id (allK kf a) (amount,false)=p0 at hs2
    clear hs
    refine aus ?_
    have e0:p0=JY id (k.take 0) p0:=rfl
    refine X.norm [(0,fzW w),(2,ZK l),(3,V.i id),(4,V.i amount),(6,.ptr ib 0 0),(11,V.i (JY id (k.take 0) p0).1),(12,V.b (JY id (k.take 0) p0).2),(13,V.i ((a:Nat):Int)),(38,V.sl (k.map zJ)),(39,V.i (k.length:Nat)),(40,V.i ((0:Nat):Int))] ?_ rfl (sr rfl)
    refine X.YY (α:=List Blk×Nat) (fun x=>⟨[(0,fzW w),(2,ZK l),(3,V.i id),(4,V.i amount),(6,.ptr ib 0 0),(11,V.i (JY id (k.take x.2) p0).1),(12,V.b (JY id (k.take x.2) p0).2),(13,V.i ((a:Nat):Int)),(38,V.sl (k.map zJ)),(39,V.i (k.length:Nat)),(40,V.i ((x.2:Nat):Int))],x.1,0,none,145⟩)
      (fun x=>x.2≤k.length∧Has x.1 [(ib,isB (.rows 1 [zG c]))]) (fun x=>k.length - x.2) ?_ (H,0) ⟨Nat.zero_le _,hH⟩
    clear e0
    rintro ⟨H,j⟩ ⟨hj,hH⟩ hc2
    simp only at hj hH hc2 ⊢
    refine aus ?_
    refine X.cond rfl (fun h6=>?_) (fun h6=>?_)
    · have h7 : j < k.length := by have := of_decide_eq_true h6; omega
      have hx:ix k (j:Int)=some k[j]:=S.ixn h7
      have hst:JY id (k.take (j+1)) p0=if k[j].Case=id then (k[j].Finding,true) else JY id (k.take j) p0:=by rw [List.take_succ_eq_append_getElem h7,zKa]
      generalize k[j]=r at hx hst
      generalize JY id (k.take j) p0=p1 at hst
      refine aus ?_
      refine S.box hH rfl rfl rfl fun ir H hH=>?_
      refine S.w0 0 hH rfl rfl (S.st 0 hH rfl rfl rfl rfl rfl rfl rfl) fun H hH=>?_
      replace hH:Has H [(ir,isB (.rows 3 [zJ r])),(ib,isB (.rows 1 [zG c]))]:=hH
      refine aus ?_
      refine X.opR rfl (S.ld 0 hH rfl rfl rfl rfl rfl) rfl ?_
      refine aus ?_
      refine X.cond rfl (fun h8=>?_) (fun h8=>?_)
      · rw [if_pos (of_decide_eq_true h8)] at hst
        have q1:=congrArg Prod.fst hst
        have q2:=congrArg Prod.snd hst
        simp only at q1 q2
        clear hst
        refine aus ?_
        refine X.opR rfl (S.ld 0 hH rfl rfl rfl rfl rfl) rfl ?_
        refine aus ?_
        rw [S.w64n h7 (by omega)]
        exact X.norm [(0,fzW w),(2,ZK l),(3,V.i id),(4,V.i amount),(6,.ptr ib 0 0),(11,V.i (JY id (k.take (j+1)) p0).1),(12,V.b (JY id (k.take (j+1)) p0).2),(13,V.i ((a:Nat):Int)),(38,V.sl (k.map zJ)),(39,V.i (k.length:Nat)),(40,V.i ((j+1:Nat):Int))] (hc2 (H,j+1) ⟨h7,hH.tail⟩ (by simp only; omega)) rfl (sr (by rw [q1,q2]; rfl))
      · rw [if_neg (of_decide_eq_false h8)] at hst
        rw [← hst]
        clear hst
        refine aus ?_
        rw [S.w64n h7 (by omega)]
        exact X.norm [(0,fzW w),(2,ZK l),(3,V.i id),(4,V.i amount),(6,.ptr ib 0 0),(11,V.i (JY id (k.take (j+1)) p0).1),(12,V.b (JY id (k.take (j+1)) p0).2),(13,V.i ((a:Nat):Int)),(38,V.sl (k.map zJ)),(39,V.i (k.length:Nat)),(40,V.i ((j+1:Nat):Int))] (hc2 (H,j+1) ⟨h7,hH.tail⟩ (by simp only; omega)) rfl (sr rfl)
    · have h7 : j = k.length := by have := of_decide_eq_false h6; omega
      subst h7
      clear hc2
      rw [List.take_length,← hs2]
      clear hs2
      refine aus ?_
      rw [S.w64n h5' (by have:=hg.arb; omega)]
      exact X.norm [(0,fzW w),(2,ZK l),(3,V.i id),(4,V.i amount),(6,.ptr ib 0 0),(11,V.i (JY id (allK kf (a+1)) (amount,false)).1),(12,V.b (JY id (allK kf (a+1)) (amount,false)).2),(13,V.i ((a+1:Nat):Int))] (hc (H,a+1) ⟨h5',hH⟩ (by simp only; omega)) rfl (sr rfl)
  · have h5 : a = c.Arbiters.toNat := by have := of_decide_eq_false h4; omega
    subst h5
    rw [hg.is]
    clear hc ha h4
    refine aus ?_
    refine X.call (zHp hb.ask5 hb.bill hb.r5 hb.look5) rfl rfl rfl (.cons (.shut (n:=9) rfl) (.cons (.shut (n:=9) rfl) (.cons (.shut (n:=9) rfl) .nil))) ?_
    refine aus ?_
    refine X.call (zKy hb.chk hb.bill hb.r7 hb.look7) rfl rfl rfl (.cons (.shut (n:=9) rfl) (.cons (.shut (n:=9) rfl) .nil)) ?_
    refine aus ?_
    refine X.call (zNx hb.ask15 (by decide) hb.r5 hb.r1 hb.all hb.len hb.mov) rfl rfl rfl (.cons (.shut (n:=9) rfl) (.cons (.shut (n:=9) rfl) (.cons (.shut (n:=9) rfl) .nil))) ?_
    refine aus ?_
    obtain ⟨wn,kn⟩:=want
    have hamt:=hg.amt
    have hmov:=hg.moved
    have hone:=hg.one
    have htwo:=hg.two
    have hsent:=hg.sent
    have hfew:=hb.few
    clear hg hb
    simp only at hamt hmov hone htwo
    refine X.norm [(0,fzW w),(3,V.i id),(4,V.i amount),(6,.ptr ib 0 0),(11,V.i wn),(12,V.b kn),(16,V.i s.amount),(17,V.i 0),(18,.sl (s7.hist.map qz)),(19,V.i 0),(21,V.i 0),(22,V.b ((m.take 0).any fun x=>decide (x=id))),(68,V.sl (m.map V.i)),(69,V.i (m.length:Nat)),(70,V.i ((0:Nat):Int))] ?_ rfl (sr rfl)
    refine X.YY (α:=Nat) (fun x=>⟨[(0,fzW w),(3,V.i id),(4,V.i amount),(6,.ptr ib 0 0),(11,V.i wn),(12,V.b kn),(16,V.i s.amount),(17,V.i 0),(18,.sl (s7.hist.map qz)),(19,V.i 0),(21,V.i 0),(22,V.b ((m.take x).any fun x=>decide (x=id))),(68,V.sl (m.map V.i)),(69,V.i (m.length:Nat)),(70,V.i ((x:Nat):Int))],H,0,none,145⟩)
      (fun x=>x≤m.length) (fun x=>m.length - x) ?_ 0 (Nat.zero_le _)
    intro j hj hc
    refine aus ?_
    refine X.cond rfl (fun h6=>?_) (fun h6=>?_)
    · have h7 : j < m.length := by have := of_decide_eq_true h6; omega
      have hx:ix m (j:Int)=some m[j]:=S.ixn h7
      have hst:((m.take (j+1)).any fun x=>decide (x=id))=(((m.take j).any fun x=>decide (x=id))||decide (m[j]=id)):=by rw [List.take_succ_eq_append_getElem h7,List.any_append]; simp
      generalize m[j]=y at hx hst
      generalize ((m.take j).any fun x=>decide (x=id))=mv at hst
      cases mv with
      | true =>
        rw [Bool.true_or] at hst
        have t1:true=true:=rfl
        refine aus ?_
        rw [S.w64n h7 (by omega)]
        exact X.norm [(0,fzW w),(3,V.i id),(4,V.i amount),(6,.ptr ib 0 0),(11,V.i wn),(12,V.b kn),(16,V.i s.amount),(17,V.i 0),(18,.sl (s7.hist.map qz)),(19,V.i 0),(21,V.i 0),(22,V.b ((m.take (j+1)).any fun x=>decide (x=id))),(68,V.sl (m.map V.i)),(69,V.i (m.length:Nat)),(70,V.i ((j+1:Nat):Int))] (hc (j+1) h7 (by omega)) rfl (sr (by rw [hst]; rfl))
      | false =>
        rw [Bool.false_or] at hst
        have t1:false=false:=rfl
        refine aus ?_
        rw [S.w64n h7 (by omega),← hst]
        exact X.norm [(0,fzW w),(3,V.i id),(4,V.i amount),(6,.ptr ib 0 0),(11,V.i wn),(12,V.b kn),(16,V.i s.amount),(17,V.i 0),(18,.sl (s7.hist.map qz)),(19,V.i 0),(21,V.i 0),(22,V.b ((m.take (j+1)).any fun x=>decide (x=id))),(68,V.sl (m.map V.i)),(69,V.i (m.length:Nat)),(70,V.i ((j+1:Nat):Int))] (hc (j+1) h7 (by omega)) rfl (sr rfl)
    · have h7 : j = m.length := by have := of_decide_eq_false h6; omega
      subst h7
      rw [List.take_length,hmov]
      clear hc hj h6 hmov
      have t1:(!decide ((0:Int)=0))=false:=rfl
      have t2:(!decide (s.amount=wn))=false:=by rw [decide_eq_true hamt]; rfl
      refine aus ?_
      clear hamt
      refine X.cond rfl (fun q=>?_) (fun _=>?_)
      · have q : (!((!decide (wn = amount)) == !decide (wn = amount))) = true := q
        simp at q
      clear t2
      cases kn with
      | false =>
        have t3:decide (((s7.hist.length:Nat):Int)=1)=true:=by rw [hone rfl]; rfl
        clear hone htwo t1
        refine aus ?_
        refine X.cond rfl (fun _=>?_) (fun q=>?_)
        · refine aus ?_
          rw [t3]
          exact X.rt
        · cases q
      | true =>
        obtain ⟨hl2,prf,r,hp,hch,hr1,hr2⟩:=htwo rfl
        have t3:decide (((s7.hist.length:Nat):Int)=2)=true:=by rw [hl2]; rfl
        have t4:decide (r.Case=id)=true:=decide_eq_true hr1
        have t5:decide (r.Finding=wn)=true:=decide_eq_true hr2
        have t6:decide ((0:Int)=0)=true:=rfl
        clear hone htwo hl2 hr1 hr2
        refine aus ?_
        refine X.cond rfl (fun q=>?_) (fun _=>?_)
        · cases q
        refine aus ?_
        refine X.drawc (by kernel_rfl) rfl ?_
        refine X.cop rfl (S.ld 0 hH rfl rfl rfl rfl rfl) rfl rfl ?_
        refine X.cop rfl rfl rfl rfl ?_
        refine X.ccallO (zL6 w hsent) rfl rfl rfl rfl (.cons (.shut (n:=9) rfl) .nil) ?_
        refine X.cop rfl rfl rfl rfl ?_
        refine X.ccall (zFA hp) rfl rfl rfl rfl (.cons (.shut (n:=9) rfl) (.cons (.shut (n:=9) rfl) (.cons (.shut (n:=9) rfl) .nil))) ?_
        clear hp
        refine aus ?_
        refine X.opR rfl (S.ld 0 hH rfl rfl rfl rfl rfl) rfl (X.q rfl ?_)
        refine X.call (zBQ hch) rfl rfl rfl (.cons (.shut (n:=9) rfl) (.cons (.shut (n:=9) rfl) .nil)) ?_
        clear hch
        refine aus ?_
        refine S.box hH rfl rfl rfl fun ir H hH=>?_
        refine S.w0 0 hH rfl rfl (S.st 0 hH rfl rfl rfl rfl rfl rfl rfl) fun H hH=>?_
        replace hH:Has H [(ir,isB (.rows 3 [zJ r])),(ib,isB (.rows 1 [zG c]))]:=hH
        refine aus ?_
        refine X.opR (X.on_t rfl rfl rfl t6) (S.ld 0 hH rfl rfl rfl rfl rfl) rfl ?_
        refine aus ?_
        refine X.opR (X.on_t rfl rfl rfl t4) (S.ld 0 hH rfl rfl rfl rfl rfl) rfl ?_
        refine aus ?_
        rw [t5]
        exact X.rt
theorem zIy {Z:WX} {w:zN} (h:Z.w=w):Z.court=w.court:=by rw [← h]; rfl
theorem zFH {Z:WX} {w:zN} (h:Z.w=w):Z.letters=w.letters:=by rw [← h]; rfl
theorem zMq {α:Type} (A:List α) (x:α):(A++[x]).Perm (x :: (A++[])):=by rw [List.append_nil]; exact List.perm_append_singleton x A
theorem zCH (h:∃ s1 f b s,zFZ s1 f b s):Ct Tryz.prog 4 [] (V.b true):=by
  obtain ⟨s1,f,b,s,h⟩:=h
  refine zV ZR rfl ?_
  refine aus ?_
  refine S.im (R:=[]) (zOL ⟨3⟩) (show Has [] ([]++[]) from Has.nil) rfl rfl rfl fun v L' H hT hH=>?_
  rcases hT with ⟨_,iw,Z,rfl,hZ,rfl⟩ | ⟨q,_⟩
  case inr=>exact absurd (by decide:zo ⟨3⟩=0) q
  have ht:(!decide ((0:Int)=0))=false:=rfl
  refine aus ?_
  refine X.cond rfl (fun q=>?_) (fun _=>?_)
  · cases q
  refine aus ?_
  refine S.im (zLx iw Z ⟨1,0,4,7,0⟩ (by rw [zIy hZ]; decide) (by rw [zFH hZ]; decide) (by rw [hZ]; exact h.a1)) hH rfl rfl rfl fun v L' H hT hH=>?_
  obtain ⟨Z1,rfl,hZ1,rfl⟩:=hT
  refine aus ?_
  refine S.im (zLx iw Z1 ⟨2,0,4,0,0⟩ (by rw [zIy hZ1,h.c1]; decide) (by rw [zFH hZ1]; exact h.l1) (by rw [hZ1]; exact h.a2)) hH rfl rfl rfl fun v L' H hT hH=>?_
  obtain ⟨Z2,rfl,hZ2,rfl⟩:=hT
  refine aus ?_
  refine X.norm [(1,.ptr iw 0 0),(3,V.i 0),(4,V.i 0),(5,V.i ((0+1:Nat):Int))] ?_ rfl (sr rfl)
  refine X.YY (α:=List Blk×Nat×WX) (fun x=>⟨[(1,.ptr iw 0 0),(3,V.i 0),(4,V.i 0),(5,V.i ((x.2.1+1:Nat):Int))],x.1,0,none,60⟩)
    (fun x=>x.2.1≤18∧x.2.2.w=f x.2.1∧Has x.1 (cAll iw x.2.2++[])) (fun x=>18 - x.2.1) ?_ (H,0,Z2) ⟨Nat.zero_le _,hZ2,hH⟩
  clear hH hZ2
  rintro ⟨H,j,Y⟩ ⟨hj,hY,hH⟩ hc
  simp only at hj hY hH hc ⊢
  refine aus ?_
  refine X.cond rfl (fun h4=>?_) (fun h4=>?_)
  · have h5 : j < 18 := by have := of_decide_eq_true h4; omega
    obtain ⟨e,hs⟩:=h.step j h5
    refine aus ?_
    refine S.im (zLx iw Y (dl ((j+1:Nat):Int)) (by rw [zIy hY,h.cf j hj]; decide) (by rw [zFH hY]; exact h.lf j hj) (by rw [hY]; exact hs)) hH rfl rfl rfl fun v L' H hT hH=>?_
    obtain ⟨Y1,rfl,hY1,rfl⟩:=hT
    clear hs
    refine aus ?_
    rw [S.w64n (show j+1<20 by omega) (by omega)]
    exact X.norm [(1,.ptr iw 0 0),(3,V.i 0),(4,V.i 0),(5,V.i ((j+1+1:Nat):Int))] (hc (H,j+1,Y1) ⟨h5,hY1,hH⟩ (by simp only; omega)) rfl (sr rfl)
  · have h5 : j = 18 := by have := of_decide_eq_false h4; omega
    subst h5
    have hk0:qD Y.w 0 [⟨4,1,7⟩]:=by rw [hY]; exact h.k0
    have hcs:Y.w.cases=[4]:=by rw [hY]; exact h.cs
    have hW:zDp H true (.ptr iw 0 0) (fzW Y.w):=FR.arg (zJ1 hH)
    have hen:=zDk Y.w 0 100 hk0 (by decide) (by rw [hcs]; decide) (by rw [hcs]; decide)
    rw [hcs] at hen
    clear hc hj h4 ht
    refine aus ?_
    refine X.zDM hen rfl rfl rfl (.cons hW (.cons (.shut (n:=9) rfl) (.cons (.shut (n:=9) rfl) .nil))) ?_
    clear hen
    refine aus ?_
    refine X.call (zHp h.ask (by decide) h.rd h.look) rfl rfl rfl (.cons (.shut (n:=9) rfl) (.cons (.shut (n:=9) rfl) (.cons (.shut (n:=9) rfl) .nil))) ?_
    have t1:decide ((0:Int)=0)=true:=rfl
    have t2:decide (s.amount=7)=true:=decide_eq_true h.amt
    have t3:decide (((Yq [4] [⟨4,1,7⟩] 100).length:Int)=2)=true:=by decide
    clear h hk0 hcs hY
    refine aus ?_
    rw [t3]
    exact X.rt
theorem zMb {L:List jr} {x:jr}:sumP (L++[x]) 0=w64 (sumP L 0+x.Amount):=by unfold sumP; rw [List.foldl_append]; rfl
theorem zNw {c:zD} {acts:List ZO} {amount order:Int} (h:zIF c acts amount order):Ct Tryz.prog 3 [zG c,V.sl (acts.map zL),.lit (.int .u16 amount),.lit (.int .u8 order)] (V.b true):=by
  obtain ⟨hsan,h⟩:=h
  refine zV ZR rfl ?_
  refine aus ?_
  refine S.box (show Has [] [] from Has.nil) rfl rfl rfl fun ib H hH=>?_
  refine aus ?_
  refine X.cond rfl (fun h1=>?_) (fun h1=>?_)
  · refine aus ?_
    refine X.call (zCH hsan) rfl rfl rfl .nil ?_
    refine aus ?_
    exact X.rt
  · have hl : acts.length ≤ 60 := by have := of_decide_eq_false h1; omega
    replace h:=h hl
    refine aus ?_
    refine X.opR rfl (S.ld 0 hH rfl rfl rfl rfl rfl) rfl ?_
    refine S.im (R:=[(ib,isB (.rows 1 [zG c]))]) (zOL c) (show Has _ ([]++[(ib,isB (.rows 1 [zG c]))]) from hH) rfl rfl rfl fun v L' H hT hH=>?_
    rcases hT with ⟨h0,iw,Z,rfl,hZ,rfl⟩ | ⟨h0,rfl,rfl⟩
    · obtain ⟨hn, hg⟩ := h h0
      replace hH:=hH.perm (zMq _ _)
      have t2:(!decide ((0:Int)=0))=false:=rfl
      refine aus ?_
      refine X.cond rfl (fun q=>?_) (fun _=>?_)
      · cases q
      refine aus ?_
      rw [← hZ] at hg
      clear t2
      refine X.norm [(2,.lit (.int .u16 amount)),(3,.lit (.int .u8 order)),(4,.ptr ib 0 0),(9,.ptr iw 0 0),(40,V.sl (acts.map zL)),(41,V.i (acts.length:Nat)),(42,V.i ((0:Nat):Int))] ?_ rfl (sr rfl)
      refine X.YY (α:=List Blk×Nat×WX) (fun x=>⟨[(2,.lit (.int .u16 amount)),(3,.lit (.int .u8 order)),(4,.ptr ib 0 0),(9,.ptr iw 0 0),(40,V.sl (acts.map zL)),(41,V.i (acts.length:Nat)),(42,V.i ((x.2.1:Nat):Int))],x.1,0,none,146⟩)
        (fun x=>x.2.1≤acts.length∧zMO c (zKX c (w64 amount) (w64 order)) (acts.drop x.2.1) x.2.2.w∧Has x.1 ((ib,isB (.rows 1 [zG c])) :: (cAll iw x.2.2++[]))) (fun x=>acts.length - x.2.1) ?_ (H,0,Z) ⟨Nat.zero_le _,hg,hH⟩
      clear hH hg hZ
      rintro ⟨H,j,U⟩ ⟨hj,hg,hH⟩ hc
      simp only at hj hg hH hc ⊢
      refine aus ?_
      refine X.cond rfl (fun h4=>?_) (fun h4=>?_)
      · have h5 : j < acts.length := by have := of_decide_eq_true h4; omega
        have hx:ix acts (j:Int)=some acts[j]:=S.ixn h5
        rw [List.drop_eq_getElem_cons h5] at hg
        generalize acts[j]=a at hx hg
        obtain ⟨hcu,hlw,f,hdo,hg⟩:=hg
        have hcu':U.court=c:=hcu
        refine aus ?_
        refine S.box hH rfl rfl rfl fun i8 H hH=>?_
        refine S.w0 0 hH rfl rfl (S.st 0 hH rfl rfl rfl rfl rfl rfl rfl) fun H hH=>?_
        replace hH:Has H ((i8,isB (.rows 5 [zL a])) :: (ib,isB (.rows 1 [zG c])) :: (cAll iw U++[])):=hH
        refine aus ?_
        refine X.opR rfl (S.ld 0 hH rfl rfl rfl rfl rfl) rfl ?_
        have hC:Has H (cAll iw U++([(i8,isB (.rows 5 [zL a])),(ib,isB (.rows 1 [zG c]))]++[])):=(show Has H ([(i8,isB (.rows 5 [zL a])),(ib,isB (.rows 1 [zG c]))]++(cAll iw U++[])) from hH).perm (List.perm_append_comm_assoc _ _ _)
        refine S.im (zLx iw U a (by rw [hcu']; exact hn) hlw hdo) hC rfl rfl rfl fun v L' H hT hH=>?_
        obtain ⟨U1,rfl,hU1,rfl⟩:=hT
        replace hH:=hH.perm (List.perm_append_comm_assoc _ _ _)
        replace hH:Has H ((i8,isB (.rows 5 [zL a])) :: (ib,isB (.rows 1 [zG c])) :: (cAll iw U1++[])):=hH
        refine aus ?_
        rw [S.w64n h5 (by omega)]
        rw [← hU1] at hg
        exact X.norm [(2,.lit (.int .u16 amount)),(3,.lit (.int .u8 order)),(4,.ptr ib 0 0),(9,.ptr iw 0 0),(40,V.sl (acts.map zL)),(41,V.i (acts.length:Nat)),(42,V.i ((j+1:Nat):Int))] (hc (H,j+1,U1) ⟨h5,hg,hH.tail⟩ (by simp only; omega)) rfl (sr rfl)
      · have h5 : j = acts.length := by have := of_decide_eq_false h4; omega
        subst h5
        rw [List.drop_length] at hg
        clear hc hj h4
        obtain ⟨hcl,hsl,hg⟩:=hg
        have hW:∀ {H:List Blk},Has H ((ib,isB (.rows 1 [zG c])) :: (cAll iw U++[]))→zDp H true (.ptr iw 0 0) (fzW U.w):=fun hH=>FR.arg (zJ1 (R:=[(ib,isB (.rows 1 [zG c]))]++[]) ((show Has _ ([(ib,isB (.rows 1 [zG c]))]++(cAll iw U++[])) from hH).perm (List.perm_append_comm_assoc _ _ _)))
        refine aus ?_
        refine X.zDM (zGu U.w hcl) rfl rfl rfl (.cons (hW hH) .nil) ?_
        rcases Bool.eq_false_or_eq_true (decide ((8:Int)<((U.w.cases.length:Nat):Int))) with t1 | t1
        · refine aus ?_
          refine X.cond rfl (fun _=>?_) (fun q=>?_)
          · refine aus ?_
            refine X.call (zCH hsan) rfl rfl rfl .nil ?_
            refine aus ?_
            exact X.rt
          · cases q
        have hc8:U.w.cases.length≤8:=by have:=of_decide_eq_false t1; omega
        refine aus ?_
        refine X.zDM (zL6 U.w hsl) (X.on_f rfl rfl rfl t1) rfl rfl (.cons (hW hH) .nil) ?_
        refine aus ?_
        refine X.cond rfl (fun _=>?_) (fun h6=>?_)
        · refine aus ?_
          refine X.call (zCH hsan) rfl rfl rfl .nil ?_
          refine aus ?_
          exact X.rt
        have hs2:U.w.sent.length≤2000:=by have:=of_decide_eq_false h6; omega
        obtain ⟨kf,fo,ft,b,hb⟩:=hg hc8 hs2
        obtain ⟨hm,hsame,hset,hask,hrd,hfew,hzero⟩:=hb
        clear hg t1 h6 hsl
        refine aus ?_
        refine S.pad hH fun ip H hH=>?_
        refine X.zCS (α:=zF) (z:=true) (l:=[]) (f:=zI) (es:=7) 14 rfl (hH.is (k:=0) rfl) (hH.blt (k:=0) rfl) S.b0 (fun _=>rfl) ?_
        replace hH:=hH.put (k:=0) (B:=.dead) (q:=isB .dead) rfl rfl
        refine X.zCS (α:=zF) (z:=true) (l:=[]) (f:=zI) (es:=7) 15 rfl (hH.is (k:=0) rfl) (hH.blt (k:=0) rfl) S.b0 (fun _=>rfl) ?_
        replace hH:=(hH.put (k:=0) (B:=.dead) (q:=isB .dead) rfl rfl).tail
        replace hH:Has _ ((ib,isB (.rows 1 [zG c])) :: (cAll iw U++[])):=hH
        generalize hput _ _ _=H1 at hH ⊢
        have e0:([]:List zF)=fo 0:=hm.fo0.symm
        have e1:([]:List zF)=ft 0:=hm.ft0.symm
        refine X.norm [(2,.lit (.int .u16 amount)),(3,.lit (.int .u8 order)),(4,.ptr ib 0 0),(9,.ptr iw 0 0),(13,V.sl (U.w.cases.map V.i)),(14,ZK (fo 0)),(15,ZK (ft 0)),(16,V.i ((0:Nat):Int))] ?_ rfl (sr (by rw [← e0,← e1]; rfl))
        clear e0 e1
        refine X.YY (α:=List Blk×Nat) (fun x=>⟨[(2,.lit (.int .u16 amount)),(3,.lit (.int .u8 order)),(4,.ptr ib 0 0),(9,.ptr iw 0 0),(13,V.sl (U.w.cases.map V.i)),(14,ZK (fo x.2)),(15,ZK (ft x.2)),(16,V.i ((x.2:Nat):Int))],x.1,0,none,146⟩)
          (fun x=>x.2≤c.Arbiters.toNat∧Has x.1 ((ib,isB (.rows 1 [zG c])) :: (cAll iw U++[]))) (fun x=>c.Arbiters.toNat - x.2) ?_ (H1,0) ⟨Nat.zero_le _,hH⟩
        clear hH
        rintro ⟨H,a⟩ ⟨ha,hH⟩ hc
        simp only at ha hH hc ⊢
        refine aus ?_
        refine X.opR rfl (S.ld 0 hH rfl rfl rfl rfl rfl) rfl ?_
        refine aus ?_
        refine X.cond rfl (fun h4=>?_) (fun h4=>?_)
        · have h5 : (a : Int) < c.Arbiters := of_decide_eq_true h4
          have h5':a<c.Arbiters.toNat:=by omega
          obtain ⟨hk1,hk2,hk3⟩:=hm.known a h5
          obtain ⟨hm1,a2,ha2,hrem,hm2⟩:=hm.step a h5
          obtain ⟨hq1,hq2,hq3⟩:=hm.known a2 ha2
          have hlen:=hm.len a
          have hE1:=zDk U.w a (w64 amount) hk1 hk2 hcl (by omega)
          have hE2:=zDk U.w a2 (w64 amount) hq1 hq2 hcl (by omega)
          have hM1:=zJc (by omega) hm1
          have hM2:=zJc (by omega) hm2
          clear hm1 hm2 hk1 hk2 hq1 hq2
          generalize Yq U.w.cases (kf a) (w64 amount)=E1 at hE1 hM1
          generalize Yq U.w.cases (kf a2) (w64 amount)=E2 at hE2 hM2
          generalize hF1:fo (a+1)=F1 at hM1
          generalize hF2:ft (a+1)=F2 at hM2
          simp only at hM1 hM2
          refine aus ?_
          rw [X.Yw]
          refine X.zDM hE1 rfl rfl rfl (.cons (hW hH) (.cons (.shut (n:=9) rfl) (.cons (.shut (n:=9) rfl) .nil))) ?_
          refine X.call hM1 rfl rfl rfl (.cons (.shut (n:=9) rfl) (.cons (.shut (n:=9) rfl) .nil)) ?_
          clear hM1 hE1
          refine aus ?_
          rw [X.Yw]
          refine X.opR rfl (S.ld 0 hH rfl rfl rfl rfl rfl) rfl ?_
          refine X.opR rfl (X.remE hrem rfl rfl) rfl ?_
          clear hrem
          refine aus ?_
          rw [X.Yw]
          refine X.zDM hE2 rfl rfl rfl (.cons (hW hH) (.cons (.shut (n:=9) rfl) (.cons (.shut (n:=9) rfl) .nil))) (X.q rfl ?_)
          refine X.call hM2 rfl rfl rfl (.cons (.shut (n:=9) rfl) (.cons (.shut (n:=9) rfl) .nil)) ?_
          clear hM2 hE2
          have t2:(!decide ((0:Int)=0))=false:=rfl
          refine aus ?_
          refine X.cond rfl (fun q=>?_) (fun _=>?_)
          · cases q
          clear t2
          subst hF1 hF2
          refine aus ?_
          rw [S.w64n h5' (by omega)]
          exact X.norm [(2,.lit (.int .u16 amount)),(3,.lit (.int .u8 order)),(4,.ptr ib 0 0),(9,.ptr iw 0 0),(13,V.sl (U.w.cases.map V.i)),(14,ZK (fo (a+1))),(15,ZK (ft (a+1))),(16,V.i ((a+1:Nat):Int))] (hc (H,a+1) ⟨h5',hH⟩ (by simp only; omega)) rfl (sr rfl)
        · have h5 : a = c.Arbiters.toNat := by have := of_decide_eq_false h4; omega
          subst h5
          clear hc ha h4 hm
          generalize fo c.Arbiters.toNat=one at hsame hset hask hrd
          generalize ft c.Arbiters.toNat=two at hsame
          refine aus ?_
          refine X.call (zIb hsame) rfl rfl rfl (.cons (.shut (n:=9) rfl) (.cons (.shut (n:=9) rfl) .nil)) ?_
          clear hsame
          refine aus ?_
          refine X.cond rfl (fun q=>?_) (fun _=>?_)
          · cases q
          refine aus ?_
          refine X.norm [(2,.lit (.int .u16 amount)),(4,.ptr ib 0 0),(9,.ptr iw 0 0),(14,ZK one),(106,V.sl (U.w.cases.map V.i)),(107,V.i (U.w.cases.length:Nat)),(108,V.i ((0:Nat):Int))] ?_ rfl (sr rfl)
          refine X.YY (α:=List Blk×Nat) (fun x=>⟨[(2,.lit (.int .u16 amount)),(4,.ptr ib 0 0),(9,.ptr iw 0 0),(14,ZK one),(106,V.sl (U.w.cases.map V.i)),(107,V.i (U.w.cases.length:Nat)),(108,V.i ((x.2:Nat):Int))],x.1,0,none,146⟩)
            (fun x=>x.2≤U.w.cases.length∧Has x.1 ((ib,isB (.rows 1 [zG c])) :: (cAll iw U++[]))) (fun x=>U.w.cases.length - x.2) ?_ (H,0) ⟨Nat.zero_le _,hH⟩
          clear hH H
          rintro ⟨H,j⟩ ⟨hj,hH⟩ hc
          simp only at hj hH hc ⊢
          refine aus ?_
          refine X.cond rfl (fun h4=>?_) (fun h4=>?_)
          · have h5 : j < U.w.cases.length := by have := of_decide_eq_true h4; omega
            have hx:ix U.w.cases (j:Int)=some U.w.cases[j]:=S.ixn h5
            have hs:=hset _ (List.getElem_mem h5)
            generalize U.w.cases[j]=id at hx hs
            refine aus ?_
            refine X.opR rfl (S.ld 0 hH rfl rfl rfl rfl rfl) rfl ?_
            refine aus ?_
            rw [X.Yw]
            refine X.zAU (m:=9) (zKx hs) rfl rfl rfl rfl (.cons (hW hH) (.cons (.shut (n:=9) rfl) (.cons (.shut (n:=9) rfl) (.cons (.shut (n:=9) rfl) (.cons (.shut (n:=9) rfl) .nil))))) ?_
            refine aus ?_
            refine X.cond rfl (fun q=>?_) (fun _=>?_)
            · cases q
            refine aus ?_
            rw [S.w64n h5 (by omega)]
            exact X.norm [(2,.lit (.int .u16 amount)),(4,.ptr ib 0 0),(9,.ptr iw 0 0),(14,ZK one),(106,V.sl (U.w.cases.map V.i)),(107,V.i (U.w.cases.length:Nat)),(108,V.i ((j+1:Nat):Int))] (hc (H,j+1) ⟨h5,hH⟩ (by simp only; omega)) rfl (sr rfl)
          · have h5 : j = U.w.cases.length := by have := of_decide_eq_false h4; omega
            subst h5
            clear hc hj h4 hset
            refine aus ?_
            refine X.call (zJb hask hrd) rfl rfl rfl (.cons (.shut (n:=9) rfl) (.cons (.shut (n:=9) rfl) .nil)) ?_
            clear hask hrd
            refine aus ?_
            generalize b.posts=P at hfew hzero
            refine X.norm [(24,V.i 0),(25,V.i (sumP (P.take 0) 0)),(126,V.sl (P.map Qb)),(127,V.i (P.length:Nat)),(128,V.i ((0:Nat):Int))] ?_ rfl (sr rfl)
            have hN:Has H []:=⟨List.nodup_nil,fun p h=>by cases h⟩
            refine X.YY (α:=List Blk×Nat) (fun x=>⟨[(24,V.i 0),(25,V.i (sumP (P.take x.2) 0)),(126,V.sl (P.map Qb)),(127,V.i (P.length:Nat)),(128,V.i ((x.2:Nat):Int))],x.1,0,none,146⟩)
              (fun x=>x.2≤P.length∧Has x.1 []) (fun x=>P.length - x.2) ?_ (H,0) ⟨Nat.zero_le _,hN⟩
            clear hH hN H
            rintro ⟨H,j⟩ ⟨hj,hH⟩ hc
            simp only at hj hH hc ⊢
            refine aus ?_
            refine X.cond rfl (fun h4=>?_) (fun h4=>?_)
            · have h5 : j < P.length := by have := of_decide_eq_true h4; omega
              have hx:ix P (j:Int)=some P[j]:=S.ixn h5
              have hst:sumP (P.take (j+1)) 0=w64 (sumP (P.take j) 0+P[j].Amount):=by rw [List.take_succ_eq_append_getElem h5,zMb]
              generalize P[j]=x at hx hst
              refine aus ?_
              refine S.box hH rfl rfl rfl fun ir H hH=>?_
              refine S.w0 0 hH rfl rfl (S.st 0 hH rfl rfl rfl rfl rfl rfl rfl) fun H hH=>?_
              replace hH:Has H [(ir,isB (.rows 4 [Qb x]))]:=hH
              refine aus ?_
              refine X.opR rfl (S.ld 0 hH rfl rfl rfl rfl rfl) rfl ?_
              refine aus ?_
              rw [S.w64n h5 (by omega),← hst]
              exact X.norm [(24,V.i 0),(25,V.i (sumP (P.take (j+1)) 0)),(126,V.sl (P.map Qb)),(127,V.i (P.length:Nat)),(128,V.i ((j+1:Nat):Int))] (hc (H,j+1) ⟨h5,hH.tail⟩ (by simp only; omega)) rfl (sr rfl)
            · have h5 : j = P.length := by have := of_decide_eq_false h4; omega
              subst h5
              rw [List.take_length,hzero]
              clear hc hj h4 hzero
              refine aus ?_
              refine X.call (zCH hsan) rfl rfl rfl .nil ?_
              have t1:true=true:=rfl
              have t2:decide ((0:Int)=0)=true:=rfl
              refine aus ?_
              exact X.rt
    · have t2 : (!decide (zo c = 0)) = true := by rw [decide_eq_false h0]; rfl
      refine aus ?_
      refine X.cond rfl (fun _=>?_) (fun q=>?_)
      · refine aus ?_
        refine X.call (zCH hsan) rfl rfl rfl .nil ?_
        refine aus ?_
        exact X.rt
      · rw [t2] at q; cases q
end Go.Proofs.YtggkidlcohickaaGreat
