/- Part of the proof of TopRulingsArePostedOnce: walks: methods of the program, step by step, compute the plain ones. Conditions: none. -/
import Derived.Test.YtggkidlcohickaaGreatW2
import Derived.Test.YtggkidlcohickaaGreatHi
import Derived.Test.YtggkidlcohickaaGreatSrt
import Derived.Test.YtggkidlcohickaaGreatWm
set_option linter.unusedVariables false
set_option linter.unusedSimpArgs false
set_option maxRecDepth 4000
namespace Go.Proofs.YtggkidlcohickaaGreat
open Go Go.Am Go.Proofs Go.Mx
theorem im_open (iw:Nat) (Z:WX) (a:ZO) (hn:Z.court.Arbiters≤1000000) {r:zN×Int} (hM:zEx Z.w a=some r):ImCt CC 17 [.ptr iw 0 0,zL a] (cAll iw Z) (fun v L' => ∃ Z',v=V.i r.2∧Z'.w=r.1∧L'=cAll iw Z'):=by
  refine ⟨_,_,rfl,fun R H hH=>?_⟩
  unfold zEx at hM
  have hcw:Z.w.court=Z.court:=rfl
  rw [hcw] at hM
  have ht:true=true:=rfl
  refine aus ?_
  refine S.box hH rfl rfl rfl fun ib H hH=>?_
  replace hH:Has H ((ib,isB (.rows 5 [zL a])) :: (cAll iw Z++R)):=hH
  refine aus ?_
  refine X.drawc (by kernel_rfl) rfl ?_
  refine aus ?_
  refine X.cop rfl (S.ld 1 hH rfl rfl rfl rfl rfl) rfl rfl ?_
  refine aus ?_
  refine X.cop rfl (S.ld 0 hH rfl rfl rfl rfl rfl) rfl rfl ?_
  refine X.ccall (Zt Z.court a.A) rfl rfl rfl rfl (.cons (.shut (n:=9) rfl) (.cons (.shut (n:=9) rfl) .nil)) ?_
  rcases Bool.eq_false_or_eq_true (!zW Z.court a.A) with h1 | h1
  · rw [if_pos (by rw [h1]; rfl)] at hM
    cases hM
    refine aus ?_
    refine X.cond rfl (fun _=>?_) (fun h=>?_)
    · refine aus ?_
      exact GS.ret ⟨_,rfl,_,⟨Z,rfl,rfl,rfl⟩,hH.tail⟩
    · cases h
  · refine aus ?_
    refine X.cop (X.on_f rfl rfl rfl h1) (S.ld 0 hH rfl rfl rfl rfl rfl) rfl rfl ?_
    refine X.ccall (Z8 a.Case) (X.on_f rfl rfl rfl h1) rfl rfl rfl (.cons (.shut (n:=9) rfl) .nil) ?_
    refine aus ?_
    refine X.cond rfl (fun h3=>?_) (fun h3=>?_)
    · rw [if_pos (by rw [h1, h3]; rfl)] at hM
      cases hM
      refine aus ?_
      exact GS.ret ⟨_,rfl,_,⟨Z,rfl,rfl,rfl⟩,hH.tail⟩
    · rw [if_neg (by rw [h1, h3]; decide)] at hM
      obtain ⟨y,h4,hM⟩:=zK hM
      refine aus ?_
      refine X.opR rfl (S.ld 0 hH rfl rfl rfl rfl rfl) rfl ?_
      refine S.rdC (zLb iw Z a.Case h4) (S.sel [1,4] hH rfl (by decide)) rfl rfl rfl fun v hv=>?_
      subst hv
      refine aus ?_
      refine X.cond rfl (fun h5=>?_) (fun h5=>?_)
      · rw [if_pos h5] at hM
        cases hM
        refine aus ?_
        exact GS.ret ⟨_,rfl,_,⟨Z,rfl,rfl,rfl⟩,hH.tail⟩
      · rw [if_neg (by rw [h5]; decide)] at hM
        refine aus ?_
        refine X.opR rfl (S.ld 0 hH rfl rfl rfl rfl rfl) rfl ?_
        refine aus ?_
        refine X.opR rfl (S.ld 0 hH rfl rfl rfl rfl rfl) rfl ?_
        refine S_at (hH.perm List.perm_middle.symm) rfl rfl rfl fun H Z1 pre d di post e1 ho hH=>?_
        replace hH:Has H ((ib,isB (.rows 5 [zL a])) :: (opn iw Z1 pre d di post++R)):=hH.perm List.perm_middle
        have hn1:Z1.court.Arbiters≤1000000:=by rw [zKH e1]; exact hn
        simp only at hM
        rw [← e1,zGq ho] at hM
        obtain ⟨rd,h6,hM⟩:=zK hM
        have hc1:Z1.w.court=Z1.court:=rfl
        rw [hc1] at h6
        refine aus ?_
        refine X.drawc (by kernel_rfl) rfl ?_
        refine aus ?_
        refine X.cop rfl (S.ld 1 hH rfl rfl rfl rfl rfl) rfl rfl ?_
        refine aus ?_
        refine X.cop rfl (S.ld 0 hH rfl rfl rfl rfl rfl) rfl rfl ?_
        refine aus ?_
        refine X.cop rfl (S.ld 6 hH rfl rfl rfl rfl rfl) rfl rfl ?_
        refine aus ?_
        refine X.cop rfl (S.ld 6 hH rfl rfl rfl rfl rfl) rfl rfl ?_
        refine aus ?_
        refine X.ccall (zFt h6) rfl rfl rfl rfl (.cons (.shut (n:=9) rfl) (.cons (.shut (n:=9) rfl) (.cons (.shut (n:=9) rfl) .nil))) ?_
        refine aus ?_
        refine X.cond rfl (fun h7=>?_) (fun h7=>?_)
        · rw [if_pos (of_decide_eq_true h7)] at hM
          cases hM
          refine aus ?_
          exact GS.ret ⟨_,rfl,_,⟨Z1,rfl,rfl,rfl⟩,(hH.tail).perm (jN ho R).symm⟩
        · rw [if_neg (of_decide_eq_false h7)] at hM
          obtain ⟨w2,h7,hM⟩:=zK hM
          obtain ⟨w3,h8,hM⟩:=zK hM
          cases hM
          refine aus ?_
          refine X.opR rfl (S.ld 0 hH rfl rfl rfl rfl rfl) rfl ?_
          refine S.im (zLw iw Z1 a.Case h7) (zJf hH) rfl rfl rfl fun v L' H hT hH=>?_
          obtain ⟨cs,ic,e2,rfl⟩:=hT
          replace hH:=name_all' hH
          obtain ⟨Z4,hZ4⟩:∃ Z4:WX,Z4 = { Z1 with cases:=cs,ic:=ic }:=⟨_,rfl⟩
          have ho4:Opened Z4 pre (a.A,a.Case) d di post:=⟨by rw [hZ4]; exact ho.e,ho.n⟩
          have e4:Z4.w=w2:=by rw [hZ4,e2]; rfl
          have hn4:Z4.court.Arbiters≤1000000:=by rw [hZ4]; exact hn1
          rw [← hZ4] at hH
          rw [← e4] at h8
          clear hZ4
          refine aus ?_
          refine S.w0 6 hH rfl rfl (S.st 6 hH rfl rfl rfl rfl rfl rfl rfl) fun H hH=>?_
          refine aus ?_
          refine S.pad hH fun ip H hH=>?_
          refine S.box hH rfl rfl rfl fun ic H hH=>?_
          refine aus ?_
          refine S.w0 8 hH rfl rfl (S.st 8 hH rfl rfl rfl rfl rfl rfl rfl) fun H hH=>?_
          obtain ⟨d',hd'⟩:∃ d',d' = { d with note:={ d.note with Opened:=rd },chair:=some ⟨rd,[],false⟩ }:=⟨_,rfl⟩
          have hP:Has H ((ib,isB (.rows 5 [zL a])) :: (core iw Z4++dcells d' { di with ic:=ic,ip:=ip }++(allD pre++allD post)++R)):=by
            rw [Yu _ (show d'.chair=some ⟨rd,[],false⟩ by rw [hd'])]
            rw [hd']
            unfold opn at hH
            rw [List.append_assoc (core iw Z4++_)] at hH ⊢
            exact Has.pick (A:=[(ic,isB (.rows 3 [crow ⟨rd,[],false⟩ ip])),(ip,isB .dead),(ib,isB (.rows 5 [zL a])),cW iw Z4,cL Z4,cS Z4,cC Z4,cM Z4,(di.id,isB (.rows 8 [zOn { d with note:={ d.note with Opened:=rd } } { di with ic:=ic,ip:=ip }])),(di.iv,isB (S.jsB true 8 zC d.votes [])),(di.ic,chB d di.ip),(di.ip,prB d)]) (R:=(allD pre++allD post)++R) [2,3,4,5,6,7,8,9,0,1] rfl (by decide) hH
          obtain ⟨Z2,hw2,ho2,hH2,hc2⟩:=zD7 (iw:=iw) (ib:=ib) (B:=isB (.rows 5 [zL a])) (d':=d') (di':={ di with ic:=ic,ip:=ip }) (R:=R) ho4 rfl hP
          rw [← hd',← hw2] at h8
          have hn2:Z2.court.Arbiters≤1000000:=by rw [hc2]; exact hn4
          have ha:yz Z4.w=yz Z2.w:=by unfold yz WX.w; simp only [hc2]
          rw [ha] at h8
          refine aus ?_
          refine S.cut 9 rfl rfl rfl rfl ?_
          iterate 2 refine X.cop rfl rfl rfl rfl ?_
          refine X.cop rfl (S.ld 0 hH2 rfl rfl rfl rfl rfl) rfl rfl ?_
          iterate 2 refine X.cop rfl rfl rfl rfl ?_
          refine X.cop rfl (S.ld 0 hH2 rfl rfl rfl rfl rfl) rfl rfl ?_
          iterate 2 refine X.cop rfl rfl rfl rfl ?_
          refine S.crd (zKo iw Z2 hn2) (S.sel [1] hH2 rfl (by decide)) (fun p hp=>by cases hp with | head=>exact (fun q=>by cases q) | tail _ q=>cases q) rfl rfl rfl rfl ?_
          refine X.cnil ?_
          refine S.im (zET iw Z2 _ (yz Z2.w) (zI3 hn2) h8) (front hH2) rfl rfl rfl fun v L' H hT hH=>?_
          obtain ⟨Z3,hk,e3,rfl⟩:=hT
          refine aus ?_
          exact GS.ret ⟨_,rfl,_,⟨Z3,rfl,e3,rfl⟩,((front' hk hH).tail).perm (jN (ho2.kept hk) R).symm⟩
def letter0 : zA:=⟨0,0,0,0,0,0,0,0⟩
theorem zM6 (id:Nat) (l jk:List zA) (i:Nat) (hi:i<l.length):ImCt CC 83 [.osl id 0 l.length,V.i (i:Int),V.i ((i+1:Nat):Int)] [(id,isB (.rows 8 ((l++jk).map zC)))] (fun v L' => v = .osl id 0 (l.eraseIdx i).length∧L'=[(id,isB (.rows 8 ((l.eraseIdx i++(letter0 :: jk)).map zC)))]):=by
  refine ⟨_,_,rfl,fun R H hH=>?_⟩
  have hl:((l++jk).map zC).length=l.length+jk.length:=by simp
  refine aus ?_
  refine GS.zMf (X:=i) (Y:=i+1) (Z:=l.length) rfl rfl rfl rfl rfl rfl rfl rfl (by omega) (by omega) (Nat.le_refl _) rfl ?_
  refine aus ?_
  refine X.cond rfl (fun h=>?_) (fun _=>?_)
  · have:=of_decide_eq_true h; omega
  refine aus ?_
  refine aus ?_
  refine S.cutW 7 1 rfl rfl rfl rfl ?_
  have hF:=S.Jo hH 1
  iterate 2 refine S.wq rfl rfl rfl rfl rfl ?_
  refine S.wq rfl (X.slO (a:=0) (b:=i) rfl rfl rfl rfl rfl (hF.is (k:=0) rfl) rfl rfl (Nat.zero_le _) (by omega)) rfl rfl rfl ?_
  iterate 2 refine S.wq rfl rfl rfl rfl rfl ?_
  refine S.wq rfl (X.slO (a:=i+1) (b:=l.length) rfl rfl rfl rfl rfl (hF.is (k:=0) rfl) rfl rfl (by omega) (by omega)) rfl rfl rfl ?_
  refine S.wput 0 hF rfl rfl (S.appK (i:=i) (j:=i+1) (m:=l.length - (i+1)) rfl rfl rfl rfl rfl rfl (hF.is (k:=0) rfl) (fun r hr=>by obtain ⟨x,_,rfl⟩:=List.mem_map.1 hr; rfl) S.b0 (by omega) (by omega)) (S.zA6 (H:=H) (m:=1) (j:=0) (by decide)) rfl rfl fun H hH=>?_
  have e1:((l++jk).map zC).take i++(((l++jk).map zC).drop (i+1)).take (l.length - (i+1))=(l.eraseIdx i).map zC:=by
    have t1:(l++jk).take i=l.take i:=List.take_append_of_le_length (by omega)
    have t2:(l++jk).drop (i+1)=l.drop (i+1)++jk:=List.drop_append_of_le_length (by omega)
    have t3:(l.drop (i+1)++jk).take (l.length - (i+1))=l.drop (i+1):=by rw [List.take_append_of_le_length (by simp),List.take_of_length_le (by simp)]
    rw [← List.map_take,← List.map_drop,← List.map_take,← List.map_append,t1,t2,t3,List.eraseIdx_eq_take_drop_succ]
  have e2:i+(l.length - (i+1))=(l.eraseIdx i).length:=by rw [List.length_eraseIdx]; split <;> omega
  have e3:(l.eraseIdx i).length+1=l.length:=by omega
  have e4:∃ x,((l++jk).map zC).drop (l.eraseIdx i).length=x :: jk.map zC:=by
    have h1:(l.eraseIdx i).length<(l++jk).length:=by rw [List.length_append]; omega
    rw [← List.map_drop,List.drop_eq_getElem_cons h1,List.map_cons,e3,List.drop_left' rfl]
    exact ⟨_,rfl⟩
  obtain ⟨x,e4⟩:=e4
  rw [e1,e2,e4] at hH
  refine X.q rfl ?_
  refine aus ?_
  rw [e2]
  have hB:((l.eraseIdx i).map zC++x :: jk.map zC).length=l.length+jk.length:=by simp; omega
  refine X.opR rfl (X.slO (a:=(l.eraseIdx i).length) (b:=l.length) rfl rfl rfl rfl rfl (hH.is (k:=0) rfl) rfl rfl (by omega) (by rw [hB]; omega)) rfl ?_
  have e5:l.length - (l.eraseIdx i).length=1:=by omega
  rw [e5]
  refine S.w0 0 hH rfl rfl (S.clrK (a:=(l.eraseIdx i).length) (m:=1) rfl rfl rfl rfl rfl (hH.is (k:=0) rfl) S.b0 (by rw [hB]; omega)) fun H hH=>?_
  have e6:((l.eraseIdx i).map zC++x :: jk.map zC).take (l.eraseIdx i).length++List.replicate 1 (zC letter0)++((l.eraseIdx i).map zC++x :: jk.map zC).drop ((l.eraseIdx i).length+1)=(l.eraseIdx i++(letter0 :: jk)).map zC:=by
    have h1:((l.eraseIdx i).map zC).length=(l.eraseIdx i).length:=List.length_map ..
    rw [List.take_left' h1,show (l.eraseIdx i).map zC++x :: jk.map zC=((l.eraseIdx i).map zC++[x])++jk.map zC by simp,List.drop_left' (by simp [h1])]
    simp
  replace hH:Has H ([(id,isB (.rows 8 ((l.eraseIdx i++(letter0 :: jk)).map zC)))]++R):=by rw [← e6]; exact hH
  refine aus ?_
  exact GS.ret ⟨_,rfl,_,⟨rfl,rfl⟩,hH⟩
theorem zLt (iw:Nat) (Z:WX) (id:Int) {r:zA×Bool×zN} (hM:zDP Z.w id=some r) (hl:Z.letters.length≤1000000):ImCt CC 46 [.ptr iw 0 0,V.i id] [cW iw Z,cL Z] (fun v L' => ∃ Z',Kept Z Z'∧Z'.sent=Z.sent∧Z'.is=Z.is∧v = .tup [zC r.1,V.b r.2.1]∧Z'.w=r.2.2∧L'=[cW iw Z',cL Z']):=by
  unfold zDP at hM
  obtain ⟨i,h1,hM⟩:=zK hM
  refine ⟨_,_,rfl,fun R H hH=>?_⟩
  refine aus ?_
  refine S.box hH rfl rfl rfl fun i4 H hH=>?_
  refine aus ?_
  refine S.rdC (zLc iw Z id h1) (S.sel [1,2] hH rfl (by decide)) rfl rfl rfl fun v hv=>?_
  subst hv
  refine aus ?_
  refine X.cond rfl (fun h2=>?_) (fun h2=>?_)
  · rw [if_pos (of_decide_eq_true h2)] at hM
    cases hM
    refine aus ?_
    refine S.w0 0 hH rfl rfl (S.st 0 hH rfl rfl rfl rfl rfl rfl rfl) fun H hH=>?_
    refine aus ?_
    exact GS.ret ⟨_,S.finC2 rfl rfl rfl rfl (hH.is (k:=0) rfl) rfl rfl,_,⟨Z,Kept.refl Z,rfl,rfl,rfl,rfl,rfl⟩,hH.tail⟩
  · rw [if_neg (of_decide_eq_false h2)] at hM
    obtain ⟨l,h3,hM⟩:=zK hM
    cases hM
    obtain ⟨q0,q1,q2⟩:=zBn h3
    obtain ⟨j,rfl⟩:=Int.eq_ofNat_of_zero_le q0
    have q1':j<Z.letters.length:=by have:(Z.w.letters.length:Int)=Z.letters.length:=rfl; omega
    have hne:Z.letters≠[]:=by intro e; rw [e] at q1'; simp at q1'
    obtain ⟨e1,e2⟩:ovlz Z.nl Z.il Z.letters = .osl Z.il 0 Z.letters.length∧S.jsB Z.nl 8 zC Z.letters Z.jk = .rows 8 ((Z.letters++Z.jk).map zC):=by
      rcases S.zA3 Z.nl Z.il 8 zC Z.letters Z.jk with ⟨_,q⟩ | q
      · exact absurd q hne
      · exact q
    refine aus ?_
    refine X.opR rfl (S.ld 1 hH rfl rfl rfl rfl rfl) rfl ?_
    refine aus ?_
    refine X.opR rfl (S.ixJ (z:=Z.nl) (f:=zC) (l:=Z.letters) (j:=Z.jk) h3 rfl rfl rfl rfl (hH.is (k:=2) rfl)) rfl ?_
    refine X.opR rfl (S.ldJ (z:=Z.nl) (f:=zC) (l:=Z.letters) (j:=Z.jk) h3 rfl rfl (hH.is (k:=2) rfl) rfl) rfl ?_
    refine S.box hH rfl rfl rfl fun i7 H hH=>?_
    refine aus ?_
    refine S.w0 0 hH rfl rfl (S.st 0 hH rfl rfl rfl rfl rfl rfl rfl) fun H hH=>?_
    refine aus ?_
    refine X.opR rfl (S.ld 2 hH rfl rfl rfl rfl rfl) rfl ?_
    refine aus ?_
    rw [S.w64n (m:=Z.letters.length) q1' (by omega),e1]
    have hP:Has H ([(Z.il,isB (.rows 8 ((Z.letters++Z.jk).map zC)))]++([(i7,isB (.rows 8 [zC l])),(i4,isB (.rows 8 [zC letter0])),cW iw Z]++R)):=by
      rw [← e2]
      exact show Has H ([cL Z,(i7,isB (.rows 8 [zC l])),(i4,isB (.rows 8 [zC letter0])),cW iw Z]++R) from Has.pick (A:=[(i7,isB (.rows 8 [zC l])),(i4,isB (.rows 8 [zC letter0])),cW iw Z,cL Z]) (R:=R) [3,0,1,2] rfl (by decide) hH
    refine S.im (zM6 Z.il Z.letters Z.jk j q1') hP rfl rfl rfl fun v L' H hT hH=>?_
    obtain ⟨rfl,rfl⟩:=hT
    refine aus ?_
    refine S.w0 3 hH rfl rfl (S.stO (z:=false) (ids:=Z.il) (ls:=Z.letters.eraseIdx j) 3 hH rfl rfl rfl rfl rfl rfl rfl) fun H hH=>?_
    refine aus ?_
    refine X.opR rfl (S.ld 1 hH rfl rfl rfl rfl rfl) rfl ?_
    refine S.w0 2 hH rfl rfl (S.st 2 hH rfl rfl rfl rfl rfl rfl rfl) fun H hH=>?_
    have hQ:Has H ([cW iw { Z with letters:=Z.letters.eraseIdx j,nl:=false,jk:=letter0 :: Z.jk,ok:=fun q=>by cases q },cL { Z with letters:=Z.letters.eraseIdx j,nl:=false,jk:=letter0 :: Z.jk,ok:=fun q=>by cases q }]++R) :=
      Has.pick (A:=[cL { Z with letters:=Z.letters.eraseIdx j,nl:=false,jk:=letter0 :: Z.jk,ok:=fun q=>by cases q },(i7,isB (.rows 8 [zC l])),(i4,isB (.rows 8 [zC l])),cW iw { Z with letters:=Z.letters.eraseIdx j,nl:=false,jk:=letter0 :: Z.jk,ok:=fun q=>by cases q }]) (R:=R) [3,0] rfl (by decide) hH
    refine aus ?_
    exact GS.ret ⟨_,S.finC2 rfl rfl rfl rfl (hH.is (k:=2) rfl) rfl rfl,_,⟨{ Z with letters:=Z.letters.eraseIdx j,nl:=false,jk:=letter0 :: Z.jk,ok:=fun q=>by cases q },⟨rfl,rfl,rfl,rfl,rfl⟩,rfl,rfl,rfl,rfl,rfl⟩,hQ⟩
theorem zJC {iw ib:Nat} {B:Blk→Prop} {Z:WX} {H:List Blk} {R:Hp} (hH:Has H ((ib,B) :: (cAll iw Z++R))):Has H ([cW iw Z,cL Z]++([(ib,B),cS Z,cC Z,cM Z]++(allD Z.desks++R))):=by
  unfold cAll at hH
  rw [List.append_assoc] at hH
  exact show Has _ ([cW iw Z,cL Z,(ib,B),cS Z,cC Z,cM Z]++(allD Z.desks++R)) from Has.pick (A:=[(ib,B),cW iw Z,cL Z,cS Z,cC Z,cM Z]) (R:=allD Z.desks++R) [1,2,0,3,4,5] rfl (by decide) hH
theorem take_all' {iw ib:Nat} {B:Blk→Prop} {Z Z':WX} {H:List Blk} {R:Hp} (hk:Kept Z Z') (hs:Z'.sent=Z.sent) (hi:Z'.is=Z.is) (hH:Has H ([cW iw Z',cL Z']++([(ib,B),cS Z,cC Z,cM Z]++(allD Z.desks++R)))):Has H ((ib,B) :: (cAll iw Z'++R)):=by
  have e:cS Z'=cS Z:=by unfold cS; rw [hs,hi]
  rw [← hk.cC,← hk.cM,← e,← hk.d] at hH
  unfold cAll
  rw [List.append_assoc]
  exact show Has _ ([(ib,B),cW iw Z',cL Z',cS Z',cC Z',cM Z']++(allD Z'.desks++R)) from Has.pick (A:=[cW iw Z',cL Z',(ib,B),cS Z',cC Z',cM Z']) (R:=allD Z'.desks++R) [2,0,1,3,4,5] rfl (by decide) hH
theorem im_lose (iw:Nat) (Z:WX) (a:ZO) (hl:Z.letters.length≤1000000) {r:zN×Int} (hM:zDQ Z.w a=some r):ImCt CC 19 [.ptr iw 0 0,zL a] (cAll iw Z) (fun v L' => ∃ Z',v=V.i r.2∧Z'.w=r.1∧L'=cAll iw Z'):=by
  unfold zDQ at hM
  obtain ⟨t,h1,hM⟩:=zK hM
  cases hM
  refine ⟨_,_,rfl,fun R H hH=>?_⟩
  refine aus ?_
  refine S.box hH rfl rfl rfl fun ib H hH=>?_
  replace hH:Has H ((ib,isB (.rows 5 [zL a])) :: (cAll iw Z++R)):=hH
  refine aus ?_
  refine X.opR rfl (S.ld 0 hH rfl rfl rfl rfl rfl) rfl ?_
  refine S.im (zLt iw Z a.N h1 hl) (zJC hH) rfl rfl rfl fun v L' H hT hH=>?_
  obtain ⟨Z',hk,hs,hi,rfl,e2,rfl⟩:=hT
  replace hH:=take_all' hk hs hi hH
  refine aus ?_
  refine S.box hH rfl rfl rfl fun i5 H hH=>?_
  refine S.w0 0 hH rfl rfl (S.st 0 hH rfl rfl rfl rfl rfl rfl rfl) fun H hH=>?_
  refine aus ?_
  have hR:Has H (cAll iw Z'++R):=hH.tail.tail
  refine X.cond rfl (fun h=>?_) (fun h=>?_)
  · have hb : ¬ t.2.1 = true := fun q => by rw [q] at h; cases h
    refine aus ?_
    exact GS.ret ⟨_,rfl,_,⟨Z',by simp only; rw [if_neg hb],e2,rfl⟩,hR⟩
  · have hb : t.2.1 = true := by
      cases q:t.2.1 with
      | true=>rfl
      | false=>rw [q] at h; cases h
    refine aus ?_
    exact GS.ret ⟨_,rfl,_,⟨Z',by simp only; rw [if_pos hb],e2,rfl⟩,hR⟩
theorem zNW {iw ib:Nat} {B:Blk→Prop} {Z:WX} {H:List Blk} {R:Hp} (hH:Has H ((ib,B) :: (cAll iw Z++R))):Has H ([cW iw Z,cL Z,cS Z]++([(ib,B),cC Z,cM Z]++(allD Z.desks++R))):=by
  unfold cAll at hH
  rw [List.append_assoc] at hH
  exact show Has _ ([cW iw Z,cL Z,cS Z,(ib,B),cC Z,cM Z]++(allD Z.desks++R)) from Has.pick (A:=[(ib,B),cW iw Z,cL Z,cS Z,cC Z,cM Z]) (R:=allD Z.desks++R) [1,2,3,0,4,5] rfl (by decide) hH
theorem send_all' {iw ib:Nat} {B:Blk→Prop} {Z Z':WX} {H:List Blk} {R:Hp} (hk:Kept Z Z') (hH:Has H ([cW iw Z',cL Z',cS Z']++([(ib,B),cC Z,cM Z]++(allD Z.desks++R)))):Has H ((ib,B) :: (cAll iw Z'++R)):=by
  rw [← hk.cC,← hk.cM,← hk.d] at hH
  unfold cAll
  rw [List.append_assoc]
  exact show Has _ ([(ib,B),cW iw Z',cL Z',cS Z',cC Z',cM Z']++(allD Z'.desks++R)) from Has.pick (A:=[cW iw Z',cL Z',cS Z',(ib,B),cC Z',cM Z']) (R:=allD Z'.desks++R) [3,0,1,2,4,5] rfl (by decide) hH
theorem zM5 (iw:Nat) (Z:WX) (a:ZO) {r:zN×Int} (hM:qN Z.w a=some r):ImCt CC 20 [.ptr iw 0 0,zL a] (cAll iw Z) (fun v L' => ∃ Z',v=V.i r.2∧Z'.w=r.1∧L'=cAll iw Z'):=by
  unfold qN at hM
  obtain ⟨i,h1,hM⟩:=zK hM
  refine ⟨_,_,rfl,fun R H hH=>?_⟩
  refine aus ?_
  refine S.box hH rfl rfl rfl fun ib H hH=>?_
  replace hH:Has H ((ib,isB (.rows 5 [zL a])) :: (cAll iw Z++R)):=hH
  refine aus ?_
  refine X.opR rfl (S.ld 0 hH rfl rfl rfl rfl rfl) rfl ?_
  refine S.rdC (zLc iw Z a.N h1) (S.sel [1,2] hH rfl (by decide)) rfl rfl rfl fun v hv=>?_
  subst hv
  refine aus ?_
  refine X.cond rfl (fun h2=>?_) (fun h2=>?_)
  · rw [if_pos (of_decide_eq_true h2)] at hM
    cases hM
    refine aus ?_
    exact GS.ret ⟨_,rfl,_,⟨Z,rfl,rfl,rfl⟩,hH.tail⟩
  · rw [if_neg (of_decide_eq_false h2)] at hM
    refine aus ?_
    refine S.rdC (zLa iw Z) (S.sel [1] hH rfl (by decide)) rfl rfl rfl fun v hv=>?_
    subst hv
    refine aus ?_
    refine X.cond rfl (fun h3=>?_) (fun h3=>?_)
    · rw [if_pos h3] at hM
      cases hM
      refine aus ?_
      exact GS.ret ⟨_,rfl,_,⟨Z,rfl,rfl,rfl⟩,hH.tail⟩
    · rw [if_neg (by rw [h3]; decide)] at hM
      obtain ⟨l,h4,hM⟩:=zK hM
      obtain ⟨w2,h5,hM⟩:=zK hM
      cases hM
      refine aus ?_
      refine S.cutW 17 1 rfl rfl rfl rfl ?_
      have hF:=S.Jo hH 1
      iterate 4 refine S.wq rfl rfl rfl rfl rfl ?_
      refine S.wq rfl (S.ld 1 hF rfl rfl rfl rfl rfl) rfl rfl rfl ?_
      refine S.wq rfl rfl rfl rfl rfl ?_
      refine S.wq rfl (S.ixJ (z:=Z.nl) (f:=zC) (l:=Z.letters) (j:=Z.jk) h4 rfl rfl rfl rfl (hF.is (k:=2) rfl)) rfl rfl rfl ?_
      refine S.wq rfl (S.ldJ (z:=Z.nl) (f:=zC) (l:=Z.letters) (j:=Z.jk) h4 rfl rfl (hF.is (k:=2) rfl) rfl) rfl rfl rfl ?_
      iterate 3 refine S.wq rfl rfl rfl rfl rfl ?_
      refine S.wq rfl (S.ld 1 hF rfl rfl rfl rfl rfl) rfl rfl rfl ?_
      refine S.wq rfl rfl rfl rfl rfl ?_
      refine S.wq rfl (S.ixJ (z:=Z.nl) (f:=zC) (l:=Z.letters) (j:=Z.jk) h4 rfl rfl rfl rfl (hF.is (k:=2) rfl)) rfl rfl rfl ?_
      refine S.wq rfl rfl rfl rfl rfl ?_
      refine S.wq rfl (S.ldJ (z:=Z.nl) (f:=zC) (l:=Z.letters) (j:=Z.jk) h4 rfl rfl (hF.is (k:=2) rfl) rfl) rfl rfl rfl ?_
      refine S.wbld (q:=0) (m:=1) rfl rfl rfl rfl rfl rfl rfl ?_
      refine X.dnil ?_
      refine S.im (zET iw Z _ [l.To] (by simp) h5) (zNW hF) rfl rfl rfl fun v L' H hT hH=>?_
      obtain ⟨Z3,hk,e3,rfl⟩:=hT
      refine aus ?_
      exact GS.ret ⟨_,rfl,_,⟨Z3,rfl,e3,rfl⟩,(send_all' hk hH).tail⟩
def gfn (iw:Nat):Option Nat→V
  | some f=>.fn (f+1000000) [.ptr iw 0 0]
  | none=>.lit .nilFunc
theorem zLD (iw:Nat) (Z:WX) (a:ZO) (hn:Z.court.Arbiters≤1000000) (hl:Z.letters.length≤1000000) {r:zN×Int} (hM:QQ Z.w a=some r):ImCt CC 18 [.ptr iw 0 0,zL a] (cAll iw Z) (fun v L' => ∃ Z',v=V.i r.2∧Z'.w=r.1∧L'=cAll iw Z'):=by
  unfold QQ at hM
  obtain ⟨t,h1,hM⟩:=zK hM
  refine ⟨_,_,rfl,fun R H hH=>?_⟩
  refine aus ?_
  refine S.box hH rfl rfl rfl fun ib H hH=>?_
  replace hH:Has H ((ib,isB (.rows 5 [zL a])) :: (cAll iw Z++R)):=hH
  refine aus ?_
  refine X.opR rfl (S.ld 0 hH rfl rfl rfl rfl rfl) rfl ?_
  refine S.im (zLt iw Z a.N h1 hl) (zJC hH) rfl rfl rfl fun v L' H hT hH=>?_
  obtain ⟨Z',hk,hs,hi,rfl,e2,rfl⟩:=hT
  replace hH:=take_all' hk hs hi hH
  have hn':Z'.court.Arbiters≤1000000:=by rw [hk.c]; exact hn
  refine aus ?_
  refine S.box hH rfl rfl rfl fun i5 H hH=>?_
  refine S.w0 0 hH rfl rfl (S.st 0 hH rfl rfl rfl rfl rfl rfl rfl) fun H hH=>?_
  replace hH:Has H ((i5,isB (.rows 8 [zC t.1])) :: (ib,isB (.rows 5 [zL a])) :: (cAll iw Z'++R)):=hH
  refine aus ?_
  refine X.cond rfl (fun h=>?_) (fun h=>?_)
  · have hb : ¬ t.2.1 = true := fun q => by rw [q] at h; cases h
    rw [if_neg hb] at hM
    cases hM
    refine aus ?_
    exact GS.ret ⟨_,rfl,_,⟨Z',rfl,e2,rfl⟩,hH.tail.tail⟩
  · have hb : t.2.1 = true := by
      cases q:t.2.1 with
      | true=>rfl
      | false=>rw [q] at h; cases h
    rw [if_pos hb] at hM
    obtain ⟨w2,h3,hM⟩:=zK hM
    cases hM
    rw [← e2] at h3
    refine aus ?_
    refine S.mkm hH rfl rfl rfl fun im H hH=>?_
    refine aus ?_
    refine S.w0 0 hH rfl rfl (X.putV (f:=V.i) (g:=gfn iw) (pos:=posI) (k:=1) (v:=some 47) (l:=[]) X.jK (X.Jk _) rfl rfl rfl rfl rfl (hH.is (k:=0) rfl) S.b0) fun H hH=>?_
    refine aus ?_
    refine S.w0 0 hH rfl rfl (X.putV (f:=V.i) (g:=gfn iw) (pos:=posI) (k:=2) (v:=some 48) (l:=[(1,some 47)]) X.jK (X.Jk _) rfl rfl rfl rfl rfl (hH.is (k:=0) rfl) S.b0) fun H hH=>?_
    refine aus ?_
    refine S.w0 0 hH rfl rfl (X.putV (f:=V.i) (g:=gfn iw) (pos:=posI) (k:=3) (v:=some 49) (l:=[(1,some 47),(2,some 48)]) X.jK (X.Jk _) rfl rfl rfl rfl rfl (hH.is (k:=0) rfl) S.b0) fun H hH=>?_
    refine aus ?_
    refine S.w0 0 hH rfl rfl (X.putV (f:=V.i) (g:=gfn iw) (pos:=posI) (k:=4) (v:=some 50) (l:=[(1,some 47),(2,some 48),(3,some 49)]) X.jK (X.Jk _) rfl rfl rfl rfl rfl (hH.is (k:=0) rfl) S.b0) fun H hH=>?_
    refine aus ?_
    refine X.opR rfl (S.ld 1 hH rfl rfl rfl rfl rfl) rfl ?_
    refine X.opR rfl (X.lookW (f:=V.i) (g:=gfn iw) (k:=t.1.Kind) (l:=[(1,some 47),(2,some 48),(3,some 49),(4,some 50)]) (z:=none) X.jK rfl rfl rfl rfl (hH.is (k:=0) rfl) rfl) rfl ?_
    refine X.opR rfl (S.ld 1 hH rfl rfl rfl rfl rfl) rfl ?_
    have hC:Has H (cAll iw Z'++([(im,isB (.map [V.i 1,V.i 2,V.i 3,V.i 4] [gfn iw (some 47),gfn iw (some 48),gfn iw (some 49),gfn iw (some 50)])),(i5,isB (.rows 8 [zC t.1])),(ib,isB (.rows 5 [zL a]))]++R)) :=
      (show Has H ([(im,isB (.map [V.i 1,V.i 2,V.i 3,V.i 4] [gfn iw (some 47),gfn iw (some 48),gfn iw (some 49),gfn iw (some 50)])),(i5,isB (.rows 8 [zC t.1])),(ib,isB (.rows 5 [zL a]))]++(cAll iw Z'++R)) from hH).perm (by rw [← List.append_assoc,← List.append_assoc]; exact List.Perm.append_right _ List.perm_append_comm)
    unfold zEw at h3
    by_cases k1:t.1.Kind=1
    · rw [if_pos k1] at h3
      have hq:(zO t.1.Kind [((1:Int),some 47),(2,some 48),(3,some 49),(4,some 50)]).getD none=some 47:=by rw [k1]; rfl
      rw [hq]
      refine S.im (zLB iw Z' t.1 h3) hC rfl rfl rfl fun v L' H hT hH=>?_
      obtain ⟨Z3,e3,rfl⟩:=hT
      refine aus ?_
      exact GS.ret ⟨_,rfl,_,⟨Z3,rfl,e3,rfl⟩,((show Has H (cAll iw Z3++([(im,isB (.map [V.i 1,V.i 2,V.i 3,V.i 4] [gfn iw (some 47),gfn iw (some 48),gfn iw (some 49),gfn iw (some 50)])),(i5,isB (.rows 8 [zC t.1])),(ib,isB (.rows 5 [zL a]))]++R)) from hH).perm (List.perm_append_comm_assoc _ _ _)).tail.tail.tail⟩
    rw [if_neg k1] at h3
    by_cases k2:t.1.Kind=2
    · rw [if_pos k2] at h3
      have hq:(zO t.1.Kind [((1:Int),some 47),(2,some 48),(3,some 49),(4,some 50)]).getD none=some 48:=by rw [k2]; rfl
      rw [hq]
      refine S.im (zLA iw Z' t.1 hn' h3) hC rfl rfl rfl fun v L' H hT hH=>?_
      obtain ⟨Z3,e3,rfl⟩:=hT
      refine aus ?_
      exact GS.ret ⟨_,rfl,_,⟨Z3,rfl,e3,rfl⟩,((show Has H (cAll iw Z3++([(im,isB (.map [V.i 1,V.i 2,V.i 3,V.i 4] [gfn iw (some 47),gfn iw (some 48),gfn iw (some 49),gfn iw (some 50)])),(i5,isB (.rows 8 [zC t.1])),(ib,isB (.rows 5 [zL a]))]++R)) from hH).perm (List.perm_append_comm_assoc _ _ _)).tail.tail.tail⟩
    rw [if_neg k2] at h3
    by_cases k3:t.1.Kind=3
    · rw [if_pos k3] at h3
      have hq:(zO t.1.Kind [((1:Int),some 47),(2,some 48),(3,some 49),(4,some 50)]).getD none=some 49:=by rw [k3]; rfl
      rw [hq]
      refine S.im (zJu iw Z' t.1 hn' h3) hC rfl rfl rfl fun v L' H hT hH=>?_
      obtain ⟨Z3,e3,rfl⟩:=hT
      refine aus ?_
      exact GS.ret ⟨_,rfl,_,⟨Z3,rfl,e3,rfl⟩,((show Has H (cAll iw Z3++([(im,isB (.map [V.i 1,V.i 2,V.i 3,V.i 4] [gfn iw (some 47),gfn iw (some 48),gfn iw (some 49),gfn iw (some 50)])),(i5,isB (.rows 8 [zC t.1])),(ib,isB (.rows 5 [zL a]))]++R)) from hH).perm (List.perm_append_comm_assoc _ _ _)).tail.tail.tail⟩
    rw [if_neg k3] at h3
    by_cases k4:t.1.Kind=4
    · rw [if_pos k4] at h3
      have hq:(zO t.1.Kind [((1:Int),some 47),(2,some 48),(3,some 49),(4,some 50)]).getD none=some 50:=by rw [k4]; rfl
      rw [hq]
      refine S.im (im_vote iw Z' t.1 h3) hC rfl rfl rfl fun v L' H hT hH=>?_
      obtain ⟨Z3,e3,rfl⟩:=hT
      refine aus ?_
      exact GS.ret ⟨_,rfl,_,⟨Z3,rfl,e3,rfl⟩,((show Has H (cAll iw Z3++([(im,isB (.map [V.i 1,V.i 2,V.i 3,V.i 4] [gfn iw (some 47),gfn iw (some 48),gfn iw (some 49),gfn iw (some 50)])),(i5,isB (.rows 8 [zC t.1])),(ib,isB (.rows 5 [zL a]))]++R)) from hH).perm (List.perm_append_comm_assoc _ _ _)).tail.tail.tail⟩
    rw [if_neg k4] at h3
    cases h3
abbrev fchair : Option qO→V
  | none=>.lit (.pointer none)
  | some c=>.fptr [.agg [V.i c.round,.sl (c.promises.map zC),V.b c.proposed]] 0 0
abbrev frow (d:zT):V:=.agg [V.i d.note.Promised,V.i d.note.Voted,V.i d.note.Finding,V.i d.note.Opened,V.i d.wish,V.b d.has,fchair d.chair,.sl (d.votes.map zC)]
def fdesk : Option zT→V
  | none=>.lit (.pointer none)
  | some d=>.fptr [frow d] 0 0
def fdm (w:zN):List ((Int×Int)×Option zT):=w.desks.map fun p=>(p.1,some p.2)
abbrev fwrow (w:zN):V:=.agg [V.i w.court.Arbiters,V.i w.last,.sl (w.letters.map zC),.sl (w.sent.map zC),.fmap ((fdm w).map fun p=>jZ p.1) ((fdm w).map fun p=>fdesk p.2),.sl (w.cases.map V.i)]
def fzW (w:zN):V:=.fptr [fwrow w] 0 0
end Go.Proofs.YtggkidlcohickaaGreat
