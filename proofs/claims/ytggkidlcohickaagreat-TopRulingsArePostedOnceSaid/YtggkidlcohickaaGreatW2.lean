/- Part of the proof of TopRulingsArePostedOnce: walks: methods of the program, step by step, compute the plain ones. Conditions: none. -/
import Derived.Test.YtggkidlcohickaaGreatW1
import Derived.Test.YtggkidlcohickaaGreatHi
import Derived.Test.YtggkidlcohickaaGreatSrt
import Derived.Test.YtggkidlcohickaaGreatWm
set_option linter.unusedVariables false
set_option linter.unusedSimpArgs false
set_option maxRecDepth 4000
namespace Go.Proofs.YtggkidlcohickaaGreat
open Go Go.Am Go.Proofs Go.Mx
theorem zD7 {iw ib:Nat} {B:Blk→Prop} {Z1:WX} {pre post:List ((Int×Int)×zT×DI)} {a c:Int} {d d':zT} {di di':DI} {H:List Blk} {R:Hp} (ho:Opened Z1 pre (a,c) d di post) (hi:di'.id=di.id) (hH:Has H ((ib,B) :: (core iw Z1++dcells d' di'++(allD pre++allD post)++R))) :
    ∃ Z2,Z2.w=j6 Z1.w a c d'∧Opened Z2 pre (a,c) d' di' post∧Has H ((ib,B) :: (opn iw Z2 pre d' di' post++R))∧Z2.court=Z1.court:=by
  refine ⟨{ Z1 with desks:=pre++((a,c),d',di') :: post },zNf ho _ _,⟨rfl,ho.n⟩,?_,rfl⟩
  unfold opn core
  rw [zLN ho d' di' hi]
  exact hH
theorem front {iw ib:Nat} {B:Blk→Prop} {Z:WX} {pre post:List ((Int×Int)×zT×DI)} {d:zT} {di:DI} {H:List Blk} {R:Hp} (hH:Has H ((ib,B) :: (opn iw Z pre d di post++R))):Has H ([cW iw Z,cL Z,cS Z]++([(ib,B),cC Z,cM Z]++dcells d di++((allD pre++allD post)++R))):=by
  unfold opn at hH
  rw [List.append_assoc] at hH
  exact show Has _ ([cW iw Z,cL Z,cS Z,(ib,B),cC Z,cM Z]++dcells d di++((allD pre++allD post)++R)) from Has.pick (A:=[(ib,B),cW iw Z,cL Z,cS Z,cC Z,cM Z]++dcells d di) (R:=(allD pre++allD post)++R) [1,2,3,0,4,5,6,7,8,9] rfl (by decide) hH
theorem front' {iw ib:Nat} {B:Blk→Prop} {Z Z3:WX} {pre post:List ((Int×Int)×zT×DI)} {d:zT} {di:DI} {H:List Blk} {R:Hp} (hk:Kept Z Z3) (hH:Has H ([cW iw Z3,cL Z3,cS Z3]++([(ib,B),cC Z,cM Z]++dcells d di++((allD pre++allD post)++R)))):Has H ((ib,B) :: (opn iw Z3 pre d di post++R)):=by
  rw [← hk.cC,← hk.cM] at hH
  unfold opn
  rw [List.append_assoc]
  exact show Has _ ([(ib,B),cW iw Z3,cL Z3,cS Z3,cC Z3,cM Z3]++dcells d di++((allD pre++allD post)++R)) from Has.pick (A:=[cW iw Z3,cL Z3,cS Z3,(ib,B),cC Z3,cM Z3]++dcells d di) (R:=(allD pre++allD post)++R) [3,0,1,2,4,5,6,7,8,9] rfl (by decide) hH
theorem Opened.kept {Z Z3:WX} {pre post:List ((Int×Int)×zT×DI)} {k:Int×Int} {d:zT} {di:DI} (h:Opened Z pre k d di post) (hk:Kept Z Z3):Opened Z3 pre k d di post:=⟨by rw [hk.d]; exact h.e,h.n⟩
theorem zI3 {w:zN} (hn:w.court.Arbiters≤1000000):(yz w).length≤1000000:=by unfold yz; simp; omega
theorem zEm (w:zN) (a c:Int):(w_at w a c).court=w.court:=by unfold w_at; split <;> rfl
theorem zNg {iw:Nat} {Z1:WX} {pre post:List ((Int×Int)×zT×DI)} {a c:Int} {d d':zT} {di di':DI} {H:List Blk} {R:Hp} (ho:Opened Z1 pre (a,c) d di post) (hi:di'.id=di.id) (hH:Has H (core iw Z1++dcells d' di'++(allD pre++allD post)++R)) :
    ∃ Z2,Z2.w=j6 Z1.w a c d'∧Opened Z2 pre (a,c) d' di' post∧Has H (opn iw Z2 pre d' di' post++R)∧Z2.court=Z1.court:=by
  refine ⟨{ Z1 with desks:=pre++((a,c),d',di') :: post },zNf ho _ _,⟨rfl,ho.n⟩,?_,rfl⟩
  unfold opn core
  rw [zLN ho d' di' hi]
  exact hH
theorem front0 {iw:Nat} {Z:WX} {pre post:List ((Int×Int)×zT×DI)} {d:zT} {di:DI} {H:List Blk} {R:Hp} (hH:Has H (opn iw Z pre d di post++R)):Has H ([cW iw Z,cL Z,cS Z]++([cC Z,cM Z]++dcells d di++((allD pre++allD post)++R))):=by
  unfold opn at hH
  rw [List.append_assoc] at hH
  exact hH
theorem front0' {iw:Nat} {Z Z3:WX} {pre post:List ((Int×Int)×zT×DI)} {d:zT} {di:DI} {H:List Blk} {R:Hp} (hk:Kept Z Z3) (hH:Has H ([cW iw Z3,cL Z3,cS Z3]++([cC Z,cM Z]++dcells d di++((allD pre++allD post)++R)))):Has H (opn iw Z3 pre d di post++R):=by
  rw [← hk.cC,← hk.cM] at hH
  unfold opn
  rw [List.append_assoc]
  exact hH
theorem im_vote (iw:Nat) (Z:WX) (l:zA) {w':zN} (hM:zEv Z.w l=some w'):ImCt CC 50 [.ptr iw 0 0,zC l] (cAll iw Z) (fun _ L' => ∃ Z',Z'.w=w'∧L'=cAll iw Z'):=by
  refine ⟨_,_,rfl,fun R H hH=>?_⟩
  refine aus ?_
  refine S.box hH rfl rfl rfl fun ib H hH=>?_
  refine aus ?_
  refine X.opR rfl (S.ld 0 hH rfl rfl rfl rfl rfl) rfl ?_
  refine aus ?_
  refine X.opR rfl (S.ld 0 hH rfl rfl rfl rfl rfl) rfl ?_
  refine S_at (hH.perm List.perm_middle.symm) rfl rfl rfl fun H Z1 pre d di post e1 ho hH=>?_
  replace hH:Has H ((ib,isB (.rows 8 [zC l])) :: (opn iw Z1 pre d di post++R)):=hH.perm List.perm_middle
  unfold zEv at hM
  simp only at hM
  rw [← e1,zGq ho] at hM
  obtain ⟨y,h1,hM⟩:=zK hM
  refine aus ?_
  refine X.opR rfl (S.ld 6 hH rfl rfl rfl rfl rfl) rfl ?_
  refine aus ?_
  refine X.zAU (m:=9) (jy h1) rfl rfl rfl rfl (.cons (FR.arg (S.zCT (z:=true) (l:=d.votes) (j:=[]) 9 (hH.is (k:=7) rfl) fun _=>rfl)) (.cons (FR.arg (FR.fn (.cons (FR.ptr S.b0 (hH.is (k:=0) rfl) ⟨9,rfl⟩) .nil))) .nil)) ?_
  refine aus ?_
  refine X.cond rfl (fun h=>?_) (fun h=>?_)
  · have hy : ¬ y = true := by cases y with | false => decide | true => cases h
    rw [if_neg hy] at hM
    obtain ⟨v,h2,hM⟩:=zK hM
    cases hM
    refine aus ?_
    refine S.cutW 8 2 rfl rfl rfl rfl ?_
    have hF:=S.Jo hH 2
    iterate 4 refine S.wq rfl rfl rfl rfl rfl ?_
    refine S.wq rfl (S.ld 6 hF rfl rfl rfl rfl rfl) rfl rfl rfl ?_
    refine S.wq rfl (S.ld 0 hF rfl rfl rfl rfl rfl) rfl rfl rfl ?_
    refine S.wbld (q:=0) (m:=2) rfl rfl rfl rfl rfl rfl rfl ?_
    refine S.zF8 (q:=1) (m:=2) (z:=true) (j:=[]) (l:=d.votes) 7 hH rfl (fun _ _=>rfl) h2 (fun _=>rfl) rfl rfl rfl rfl rfl rfl rfl rfl rfl rfl rfl (S.wt rfl) fun i1 H hH=>(X.q rfl (X.q rfl ?_))
    refine S.w0 6 hH rfl rfl (S.stO (z:=true) (ids:=i1) (ls:=v) 6 hH rfl rfl rfl rfl rfl rfl rfl) fun H hH=>?_
    obtain ⟨Z2,hw2,ho2,hH,hc2⟩:=zD7 (iw:=iw) (ib:=ib) (B:=isB (.rows 8 [zC l])) (d':={ d with votes:=v }) (di':={ di with iv:=i1 }) (R:=R) ho rfl hH
    refine aus ?_
    exact GS.nil ⟨_,rfl,_,⟨Z2,hw2,rfl⟩,(hH.tail).perm (jN ho2 R).symm⟩
  · have hy : y = true := by cases y with | false => cases h | true => rfl
    rw [if_pos hy] at hM
    cases hM
    refine aus ?_
    exact GS.nil ⟨_,rfl,_,⟨Z1,rfl,rfl⟩,(hH.tail).perm (jN ho R).symm⟩
abbrev zOn (d:zT) (i:DI):V:=.agg [V.i d.note.Promised,V.i d.note.Voted,V.i d.note.Finding,V.i d.note.Opened,V.i d.wish,V.b d.has,.ptr i.ic 0 0,ovlz true i.iv d.votes]
abbrev zEg (d:zT) (ch:qO) (i:DI):Hp:=[(i.id,isB (.rows 8 [zOn d i])),(i.iv,isB (S.jsB true 8 zC d.votes [])),(i.ic,isB (.rows 3 [crow ch i.ip])),(i.ip,isB (S.jsB true 8 zC ch.promises []))]
theorem Yu {d:zT} {ch:qO} (i:DI) (h:d.chair=some ch):dcells d i=zEg d ch i:=by
  unfold dcells zEg drow zOn chB prB
  rw [h]; rfl
theorem zGm (iw:Nat) (Z:WX) (a c:Int) (hn:Z.court.Arbiters≤1000000) {pre0 post0:List ((Int×Int)×zT×DI)} {d0:zT} {di0:DI} (ho0:Opened Z pre0 (a,c) d0 di0 post0) {w':zN} (hM:Yl Z.w a c=some w'):ImCt CC 42 [.ptr iw 0 0,V.i a,V.i c] (cAll iw Z) (fun _ L' => ∃ Z',Z'.w=w'∧L'=cAll iw Z'):=by
  refine ⟨_,_,rfl,fun R H hH=>?_⟩
  refine aus ?_
  refine S_at hH rfl rfl rfl fun H Z1 pre d di post e1 ho hH=>?_
  have hn1:Z1.court.Arbiters≤1000000:=by
    have:=congrArg (fun w=>w.court) e1
    simp only [zEm] at this
    have q:Z1.court=Z.court:=this
    rw [q]; exact hn
  have e0:w_at Z.w a c=Z.w:=by unfold w_at; rw [if_pos (by rw [zFU ho0]; rfl)]
  rw [e0] at e1
  unfold Yl at hM
  simp only at hM
  rw [← e1,zGq ho] at hM
  cases hch:d.chair with
  | none =>
    rw [hch] at hM
    cases hM
    refine aus ?_
    refine X.drawc (by kernel_rfl) rfl ?_
    refine aus ?_
    refine X.cop rfl (S.ld 5 hH rfl rfl rfl rfl rfl) rfl rfl ?_
    simp only [hch,Option.map_none]
    have ht:true=true:=rfl
    refine aus ?_
    refine X.cond rfl (fun _=>?_) (fun h=>?_)
    · exact GS.ret ⟨_,rfl,_,⟨Z1,rfl,rfl⟩,hH.perm (jN ho R).symm⟩
    · cases h
  | some ch =>
    rw [hch] at hM
    simp only at hM
    have hO:=hH
    replace hH:Has H (core iw Z1++zEg d ch di++(allD pre++allD post)++R):=by rw [← Yu di hch]; exact hH
    have ht:false=false:=rfl
    refine aus ?_
    refine X.drawc (by kernel_rfl) rfl ?_
    refine aus ?_
    refine X.cop rfl (S.ld 5 hH rfl rfl rfl rfl rfl) rfl rfl ?_
    refine aus ?_
    refine X.cop (X.on_f rfl rfl rfl ht) (S.ld 5 hH rfl rfl rfl rfl rfl) rfl rfl ?_
    refine aus ?_
    refine X.cop (X.on_f rfl rfl rfl ht) (S.ld 7 hH rfl rfl rfl rfl rfl) rfl rfl ?_
    rcases Bool.eq_false_or_eq_true ch.proposed with h2 | h2
    · rw [if_pos h2] at hM
      cases hM
      refine aus ?_
      refine X.cond rfl (fun _=>?_) (fun h=>?_)
      · exact GS.ret ⟨_,rfl,_,⟨Z1,rfl,rfl⟩,hO.perm (jN ho R).symm⟩
      · cases h
    · rw [if_neg (by rw [h2]; decide)] at hM
      obtain ⟨m,h3,hM⟩:=zK hM
      refine aus ?_
      refine X.cop (X.on_f rfl rfl rfl h2) (S.ld 5 hH rfl rfl rfl rfl rfl) rfl rfl ?_
      refine aus ?_
      refine X.cop (X.on_f rfl rfl rfl h2) (S.ld 7 hH rfl rfl rfl rfl rfl) rfl rfl ?_
      refine aus ?_
      refine X.cop (X.on_f rfl rfl rfl h2) (S.ld 0 hH rfl rfl rfl rfl rfl) rfl rfl ?_
      refine X.ccall (jD (c:=Z1.court) h3) (X.on_f rfl rfl rfl h2) rfl rfl rfl (.cons (.shut (n:=9) rfl) .nil) ?_
      refine aus ?_
      refine X.cond rfl (fun h4=>?_) (fun h4=>?_)
      · rw [if_pos (of_decide_eq_true h4)] at hM
        cases hM
        exact GS.ret ⟨_,rfl,_,⟨Z1,rfl,rfl⟩,hO.perm (jN ho R).symm⟩
      · rw [if_neg (of_decide_eq_false h4)] at hM
        obtain ⟨p,h5,hM⟩:=zK hM
        refine aus ?_
        refine X.opR rfl (S.ld 5 hH rfl rfl rfl rfl rfl) rfl ?_
        refine aus ?_
        refine X.opR rfl (S.ld 7 hH rfl rfl rfl rfl rfl) rfl ?_
        refine X.zAU (m:=9) (zED h5) rfl rfl rfl rfl (.cons (FR.arg (S.zCT (z:=true) (l:=ch.promises) (j:=[]) 9 (hH.is (k:=8) rfl) fun _=>rfl)) .nil) ?_
        refine aus ?_
        refine X.join (τ:=Unit) (fun _=>p.2=true∨d.has=true) (fun _=>⟨[(0,.ptr iw 0 0),(1,V.i a),(2,V.i c),(6,.ptr di.id 0 0),(7,V.i (if p.2=true then p.1 else d.wish))],H,0,none,86⟩) ?_ ?_
        · rintro _ hf
          rw [if_neg (by rcases hf with q | q <;> simp [q])] at hM
          refine aus ?_
          refine X.opR rfl (S.ld 5 hH rfl rfl rfl rfl rfl) rfl ?_
          refine aus ?_
          refine S.w0 7 hH rfl rfl (S.st 7 hH rfl rfl rfl rfl rfl rfl rfl) fun H hH=>?_
          obtain ⟨d',hd'⟩:∃ d',d' = { d with chair:=some { ch with proposed:=true } }:=⟨_,rfl⟩
          obtain ⟨Z2,hw2,ho2,hH2,hc2⟩:=zNg (iw:=iw) (d':=d') (di':=di) (R:=R) ho rfl (by rw [Yu di (show d'.chair=some { ch with proposed:=true } by rw [hd'])]; rw [hd']; exact hH)
          rw [← hd',← hw2] at hM
          have ha:yz Z1.w=yz Z2.w:=by unfold yz WX.w; simp only [hc2]
          rw [ha] at hM
          have hn2:Z2.court.Arbiters≤1000000:=by rw [hc2]; exact hn1
          refine aus ?_
          refine S.cut 14 rfl rfl rfl rfl ?_
          iterate 5 refine X.cop rfl rfl rfl rfl ?_
          refine X.cop rfl (S.ld 5 hH rfl rfl rfl rfl rfl) rfl rfl ?_
          iterate 2 refine X.cop rfl rfl rfl rfl ?_
          refine X.cop rfl (S.ld 7 hH rfl rfl rfl rfl rfl) rfl rfl ?_
          iterate 4 refine X.cop rfl rfl rfl rfl ?_
          refine S.crd (zKo iw Z2 hn2) (S.sel [0] hH2 rfl (by decide)) (fun p hp=>by cases hp with | head=>exact (fun q=>by cases q) | tail _ q=>cases q) rfl rfl rfl rfl ?_
          refine X.cnil ?_
          refine S.im (zET iw Z2 _ (yz Z2.w) (zI3 hn2) hM) (front0 hH2) rfl rfl rfl fun v L' H hT hH=>?_
          obtain ⟨Z3,hk,e3,rfl⟩:=hT
          refine aus ?_
          exact GS.nil ⟨_,rfl,_,⟨Z3,e3,rfl⟩,(front0' hk hH).perm (jN (ho2.kept hk) R).symm⟩
        · intro hj
          refine X.cond rfl (fun h6=>?_) (fun h6=>?_)
          · have h6' : ¬ p.2 = true := fun q => by rw [q] at h6; cases h6
            refine aus ?_
            refine X.opR rfl (S.ld 5 hH rfl rfl rfl rfl rfl) rfl ?_
            refine aus ?_
            refine X.cond rfl (fun h7=>?_) (fun h7=>?_)
            · have h7' : ¬ d.has = true := fun q => by rw [q] at h7; cases h7
              rw [if_pos (by simp [h6',h7'])] at hM
              cases hM
              exact GS.ret ⟨_,rfl,_,⟨Z1,rfl,rfl⟩,hO.perm (jN ho R).symm⟩
            · have h7' : d.has = true := by
                cases q:d.has with
                | true=>rfl
                | false=>rw [q] at h7; cases h7
              refine aus ?_
              refine X.opR rfl (S.ld 5 hH rfl rfl rfl rfl rfl) rfl (X.q rfl (GS.za ?_))
              have hj':=hj () (.inr h7')
              rw [if_neg h6'] at hj'
              exact X.norm _ hj' rfl (sr rfl)
          · have h6' : p.2 = true := by
              cases q:p.2 with
              | true=>rfl
              | false=>rw [q] at h6; cases h6
            refine GS.skip ?_
            have hj':=hj () (.inl h6')
            rw [if_pos h6'] at hj'
            exact X.norm _ hj' rfl (sr rfl)
theorem zH9 {iw ib:Nat} {B:Blk→Prop} {Z:WX} {pre post:List ((Int×Int)×zT×DI)} {k:Int×Int} {d:zT} {di:DI} {H:List Blk} {R:Hp} (ho:Opened Z pre k d di post) (hH:Has H ((ib,B) :: (opn iw Z pre d di post++R))):Has H (cAll iw Z++((ib,B) :: R)) :=
  (hH.perm List.perm_middle.symm).perm (jN ho _).symm
theorem zLA (iw:Nat) (Z:WX) (l:zA) (hn:Z.court.Arbiters≤1000000) {w':zN} (hM:qE Z.w l=some w'):ImCt CC 48 [.ptr iw 0 0,zC l] (cAll iw Z) (fun _ L' => ∃ Z',Z'.w=w'∧L'=cAll iw Z'):=by
  refine ⟨_,_,rfl,fun R H hH=>?_⟩
  refine aus ?_
  refine S.box hH rfl rfl rfl fun ib H hH=>?_
  refine aus ?_
  refine X.opR rfl (S.ld 0 hH rfl rfl rfl rfl rfl) rfl ?_
  refine aus ?_
  refine X.opR rfl (S.ld 0 hH rfl rfl rfl rfl rfl) rfl ?_
  refine S_at (hH.perm List.perm_middle.symm) rfl rfl rfl fun H Z1 pre d di post e1 ho hH=>?_
  replace hH:Has H ((ib,isB (.rows 8 [zC l])) :: (opn iw Z1 pre d di post++R)):=hH.perm List.perm_middle
  have hn1:Z1.court.Arbiters≤1000000:=by
    have:=congrArg (fun w=>w.court) e1
    simp only [zEm] at this
    have q:Z1.court=Z.court:=this
    rw [q]; exact hn
  unfold qE at hM
  simp only at hM
  rw [← e1,zGq ho] at hM
  cases hch:d.chair with
  | none =>
    rw [hch] at hM
    cases hM
    refine aus ?_
    refine X.drawc (by kernel_rfl) rfl ?_
    refine aus ?_
    refine X.cop rfl (S.ld 6 hH rfl rfl rfl rfl rfl) rfl rfl ?_
    simp only [hch,Option.map_none]
    have ht:true=true:=rfl
    refine aus ?_
    refine X.cond rfl (fun _=>?_) (fun h=>?_)
    · exact GS.ret ⟨_,rfl,_,⟨Z1,rfl,rfl⟩,(hH.tail).perm (jN ho R).symm⟩
    · cases h
  | some ch =>
    rw [hch] at hM
    simp only at hM
    have hO:=hH
    replace hH:Has H ((ib,isB (.rows 8 [zC l])) :: (core iw Z1++zEg d ch di++(allD pre++allD post)++R)):=by rw [← Yu di hch]; exact hH
    have ht:false=false:=rfl
    refine aus ?_
    refine X.drawc (by kernel_rfl) rfl ?_
    refine aus ?_
    refine X.cop rfl (S.ld 6 hH rfl rfl rfl rfl rfl) rfl rfl ?_
    refine aus ?_
    refine X.cop (X.on_f rfl rfl rfl ht) (S.ld 6 hH rfl rfl rfl rfl rfl) rfl rfl ?_
    refine aus ?_
    refine X.cop (X.on_f rfl rfl rfl ht) (S.ld 8 hH rfl rfl rfl rfl rfl) rfl rfl ?_
    refine aus ?_
    refine X.cop (X.on_f rfl rfl rfl ht) (S.ld 0 hH rfl rfl rfl rfl rfl) rfl rfl ?_
    rcases Bool.eq_false_or_eq_true (!decide (ch.round=l.Round)) with h2 | h2
    · rw [if_pos (by simpa using h2)] at hM
      cases hM
      refine aus ?_
      refine X.cond rfl (fun _=>?_) (fun h=>?_)
      · exact GS.ret ⟨_,rfl,_,⟨Z1,rfl,rfl⟩,(hO.tail).perm (jN ho R).symm⟩
      · cases h
    · rw [if_neg (by simpa using h2)] at hM
      obtain ⟨y,h3,hM⟩:=zK hM
      refine aus ?_
      refine X.cop (X.on_f rfl rfl rfl h2) (S.ld 6 hH rfl rfl rfl rfl rfl) rfl rfl ?_
      refine aus ?_
      refine X.cop (X.on_f rfl rfl rfl h2) (S.ld 8 hH rfl rfl rfl rfl rfl) rfl rfl ?_
      refine aus ?_
      refine X.ccallF (m:=9) (jc h3) (X.on_f rfl rfl rfl h2) rfl rfl rfl rfl (.cons (FR.arg (S.zCT (z:=true) (l:=ch.promises) (j:=[]) 9 (hH.is (k:=9) rfl) fun _=>rfl)) (.cons (FR.arg (FR.fn (.cons (FR.ptr S.b0 (hH.is (k:=0) rfl) ⟨9,rfl⟩) .nil))) .nil)) ?_
      refine aus ?_
      refine X.cond rfl (fun h4=>?_) (fun h4=>?_)
      · rw [if_pos h4] at hM
        cases hM
        exact GS.ret ⟨_,rfl,_,⟨Z1,rfl,rfl⟩,(hO.tail).perm (jN ho R).symm⟩
      · rw [if_neg (by rw [h4]; decide)] at hM
        obtain ⟨u,h5,hM⟩:=zK hM
        refine aus ?_
        refine S.cutW 14 2 rfl rfl rfl rfl ?_
        have hF:=S.Jo hH 2
        iterate 3 refine S.wq rfl rfl rfl rfl rfl ?_
        refine S.wq rfl (S.ld 6 hF rfl rfl rfl rfl rfl) rfl rfl rfl ?_
        iterate 3 refine S.wq rfl rfl rfl rfl rfl ?_
        refine S.wq rfl (S.ld 6 hF rfl rfl rfl rfl rfl) rfl rfl rfl ?_
        iterate 2 refine S.wq rfl rfl rfl rfl rfl ?_
        refine S.wq rfl (S.ld 8 hF rfl rfl rfl rfl rfl) rfl rfl rfl ?_
        refine S.wq rfl (S.ld 0 hF rfl rfl rfl rfl rfl) rfl rfl rfl ?_
        refine S.wbld (q:=0) (m:=2) rfl rfl rfl rfl rfl rfl rfl ?_
        have hne:=hH.ne (i:=6) (j:=9) rfl rfl (by decide)
        have hlt:=hH.lt (k:=6) rfl
        refine S.zF8 (q:=1) (m:=2) (z:=true) (j:=[]) (l:=ch.promises) 9 hH rfl (fun _ _=>rfl) h5 (fun _=>rfl) rfl rfl rfl rfl rfl rfl rfl rfl rfl rfl rfl (by
          repeat (first
            | exact (fun _ h=>absurd h List.not_mem_nil)
            | refine List.forall_mem_cons.2 ⟨by first
                | exact .inl rfl
                | exact .inr ⟨rfl,fun y hy=>by simp only [List.mem_singleton] at hy; subst hy; exact ⟨hne,hlt⟩⟩
                | exact .inr ⟨rfl,fun y hy=>absurd hy List.not_mem_nil⟩,?_⟩)) fun i1 H hH=>?_
        refine X.q rfl (X.q rfl ?_)
        refine S.w0 8 hH rfl rfl (S.stO (z:=true) (ids:=i1) (ls:=u) 8 hH rfl rfl rfl rfl rfl rfl rfl) fun H hH=>?_
        obtain ⟨d',hd'⟩:∃ d',d' = { d with chair:=some { ch with promises:=u } }:=⟨_,rfl⟩
        obtain ⟨Z2,hw2,ho2,hH2,hc2⟩:=zD7 (iw:=iw) (ib:=ib) (B:=isB (.rows 8 [zC l])) (d':=d') (di':={ di with ip:=i1 }) (R:=R) ho rfl (by rw [Yu _ (show d'.chair=some { ch with promises:=u } by rw [hd'])]; rw [hd']; exact hH)
        rw [← hd',← hw2] at hM
        have hn2:Z2.court.Arbiters≤1000000:=by rw [hc2]; exact hn1
        refine aus ?_
        refine X.opR rfl (S.ld 0 hH2 rfl rfl rfl rfl rfl) rfl ?_
        refine aus ?_
        refine X.opR rfl (S.ld 0 hH2 rfl rfl rfl rfl rfl) rfl ?_
        refine S.im (zGm iw Z2 l.To l.Case hn2 ho2 hM) (zH9 ho2 hH2) rfl rfl rfl fun v L' H hT hH=>?_
        obtain ⟨Z3,e3,rfl⟩:=hT
        refine aus ?_
        exact GS.nil ⟨_,rfl,_,⟨Z3,e3,rfl⟩,(hH.perm List.perm_middle).tail⟩
theorem zJu (iw:Nat) (Z:WX) (l:zA) (hn:Z.court.Arbiters≤1000000) {w':zN} (hM:QP Z.w l=some w'):ImCt CC 49 [.ptr iw 0 0,zC l] (cAll iw Z) (fun _ L' => ∃ Z',Z'.w=w'∧L'=cAll iw Z'):=by
  refine ⟨_,_,rfl,fun R H hH=>?_⟩
  refine aus ?_
  refine S.box hH rfl rfl rfl fun ib H hH=>?_
  refine aus ?_
  refine X.opR rfl (S.ld 0 hH rfl rfl rfl rfl rfl) rfl ?_
  refine aus ?_
  refine X.opR rfl (S.ld 0 hH rfl rfl rfl rfl rfl) rfl ?_
  refine S_at (hH.perm List.perm_middle.symm) rfl rfl rfl fun H Z1 pre d di post e1 ho hH=>?_
  replace hH:Has H ((ib,isB (.rows 8 [zC l])) :: (opn iw Z1 pre d di post++R)):=hH.perm List.perm_middle
  have hn1:Z1.court.Arbiters≤1000000:=by
    have:=congrArg (fun w=>w.court) e1
    simp only [zEm] at this
    have q:Z1.court=Z.court:=this
    rw [q]; exact hn
  unfold QP at hM
  simp only at hM
  rw [← e1,zGq ho] at hM
  refine aus ?_
  refine X.drawc (by kernel_rfl) rfl ?_
  refine aus ?_
  refine X.cop rfl (S.ld 0 hH rfl rfl rfl rfl rfl) rfl rfl ?_
  refine aus ?_
  refine X.cop rfl (S.ld 6 hH rfl rfl rfl rfl rfl) rfl rfl ?_
  refine aus ?_
  refine X.cond rfl (fun h1=>?_) (fun h1=>?_)
  · rw [if_pos (of_decide_eq_true h1)] at hM
    cases hM
    exact GS.ret ⟨_,rfl,_,⟨Z1,rfl,rfl⟩,(hH.tail).perm (jN ho R).symm⟩
  · rw [if_neg (of_decide_eq_false h1)] at hM
    refine aus ?_
    refine S.cutW 20 0 rfl rfl rfl rfl ?_
    have hF:=S.Jo hH 0
    have hne:ib≠di.id:=hH.ne (i:=0) (j:=6) rfl rfl (by decide)
    iterate 4 refine S.wq rfl rfl rfl rfl rfl ?_
    refine S.wq rfl (S.ld 0 hF rfl rfl rfl rfl rfl) rfl rfl rfl ?_
    iterate 1 refine S.wq rfl rfl rfl rfl rfl ?_
    refine S.wq rfl (S.ld 0 hF rfl rfl rfl rfl rfl) rfl rfl rfl ?_
    iterate 1 refine S.wq rfl rfl rfl rfl rfl ?_
    refine S.wq rfl (S.ld 0 hF rfl rfl rfl rfl rfl) rfl rfl rfl ?_
    iterate 3 refine S.wq rfl rfl rfl rfl rfl ?_
    refine S.wst 6 hF rfl rfl (S.st 6 hF rfl rfl rfl rfl rfl rfl rfl) rfl (by
      repeat (first
        | exact (fun _ h=>absurd h List.not_mem_nil)
        | refine List.forall_mem_cons.2 ⟨by first
            | exact .inl rfl
            | exact .inr ⟨rfl,fun y hy=>by simp only [List.mem_singleton] at hy; subst hy; exact hne⟩
            | exact .inr ⟨rfl,fun y hy=>absurd hy List.not_mem_nil⟩,?_⟩)) fun H hF=>?_
    iterate 3 refine S.wpu rfl rfl rfl rfl ?_
    refine S.wst 6 hF rfl rfl (S.st 6 hF rfl rfl rfl rfl rfl rfl rfl) rfl (by
      repeat (first
        | exact (fun _ h=>absurd h List.not_mem_nil)
        | refine List.forall_mem_cons.2 ⟨by first
            | exact .inl rfl
            | exact .inr ⟨rfl,fun y hy=>by simp only [List.mem_singleton] at hy; subst hy; exact hne⟩
            | exact .inr ⟨rfl,fun y hy=>absurd hy List.not_mem_nil⟩,?_⟩)) fun H hF=>?_
    iterate 3 refine S.wpu rfl rfl rfl rfl ?_
    refine X.dnil ?_
    refine S.w0 6 hF rfl rfl (S.st 6 hF rfl rfl rfl rfl rfl rfl rfl) fun H hH=>?_
    obtain ⟨Z2,hw2,ho2,hH,hc2⟩:=zD7 (iw:=iw) (ib:=ib) (B:=isB (.rows 8 [zC l])) (d':={ d with note:={ d.note with Promised:=l.Round,Voted:=l.Round,Finding:=l.Finding } }) (di':=di) (R:=R) ho rfl hH
    rw [← hw2] at hM
    have ha:yz Z1.w=yz Z2.w:=by unfold yz WX.w; simp only [hc2]
    rw [ha] at hM
    have hn2:Z2.court.Arbiters≤1000000:=by rw [hc2]; exact hn1
    refine aus ?_
    refine S.cut 12 rfl rfl rfl rfl ?_
    iterate 2 refine X.cop rfl rfl rfl rfl ?_
    refine X.cop rfl (S.ld 0 hH rfl rfl rfl rfl rfl) rfl rfl ?_
    iterate 1 refine X.cop rfl rfl rfl rfl ?_
    refine X.cop rfl (S.ld 0 hH rfl rfl rfl rfl rfl) rfl rfl ?_
    iterate 1 refine X.cop rfl rfl rfl rfl ?_
    refine X.cop rfl (S.ld 0 hH rfl rfl rfl rfl rfl) rfl rfl ?_
    iterate 1 refine X.cop rfl rfl rfl rfl ?_
    refine X.cop rfl (S.ld 0 hH rfl rfl rfl rfl rfl) rfl rfl ?_
    iterate 2 refine X.cop rfl rfl rfl rfl ?_
    refine S.crd (zKo iw Z2 hn2) (S.sel [1] hH rfl (by decide)) (fun p hp=>by cases hp with | head=>exact (fun q=>by cases q) | tail _ q=>cases q) rfl rfl rfl rfl ?_
    refine X.cnil ?_
    refine S.im (zET iw Z2 _ (yz Z2.w) (zI3 hn2) hM) (front hH) rfl rfl rfl fun v L' H hT hH=>?_
    obtain ⟨Z3,hk,e3,rfl⟩:=hT
    refine aus ?_
    exact GS.nil ⟨_,rfl,_,⟨Z3,e3,rfl⟩,((front' hk hH).tail).perm (jN (ho2.kept hk) R).symm⟩
theorem zKH {Z Z1:WX} {a c:Int} (e1:Z1.w=w_at Z.w a c):Z1.court=Z.court:=by
  have:=congrArg (fun w=>w.court) e1
  simp only [zEm] at this
  exact this
theorem zJf {iw ib:Nat} {B:Blk→Prop} {Z:WX} {pre post:List ((Int×Int)×zT×DI)} {d:zT} {di:DI} {H:List Blk} {R:Hp} (hH:Has H ((ib,B) :: (opn iw Z pre d di post++R))):Has H ([cW iw Z,cC Z]++([(ib,B),cL Z,cS Z,cM Z]++dcells d di++((allD pre++allD post)++R))):=by
  unfold opn at hH
  rw [List.append_assoc] at hH
  exact show Has _ ([cW iw Z,cC Z,(ib,B),cL Z,cS Z,cM Z]++dcells d di++((allD pre++allD post)++R)) from Has.pick (A:=[(ib,B),cW iw Z,cL Z,cS Z,cC Z,cM Z]++dcells d di) (R:=(allD pre++allD post)++R) [1,4,0,2,3,5,6,7,8,9] rfl (by decide) hH
theorem name_all' {iw ib:Nat} {B:Blk→Prop} {Z:WX} {cs:List Int} {ic:Nat} {pre post:List ((Int×Int)×zT×DI)} {d:zT} {di:DI} {H:List Blk} {R:Hp} (hH:Has H ([cW iw { Z with cases:=cs,ic:=ic },cC { Z with cases:=cs,ic:=ic }]++([(ib,B),cL Z,cS Z,cM Z]++dcells d di++((allD pre++allD post)++R)))):Has H ((ib,B) :: (opn iw { Z with cases:=cs,ic:=ic } pre d di post++R)):=by
  unfold opn
  rw [List.append_assoc]
  exact show Has _ ([(ib,B),cW iw { Z with cases:=cs,ic:=ic },cL Z,cS Z,cC { Z with cases:=cs,ic:=ic },cM Z]++dcells d di++((allD pre++allD post)++R)) from Has.pick (A:=[cW iw { Z with cases:=cs,ic:=ic },cC { Z with cases:=cs,ic:=ic },(ib,B),cL Z,cS Z,cM Z]++dcells d di) (R:=(allD pre++allD post)++R) [2,0,3,4,1,5,6,7,8,9] rfl (by decide) hH
theorem im_wish (iw:Nat) (Z:WX) (a:ZO) (hn:Z.court.Arbiters≤1000000) {r:zN×Int} (hM:zBr Z.w a=some r):ImCt CC 16 [.ptr iw 0 0,zL a] (cAll iw Z) (fun v L' => ∃ Z',v=V.i r.2∧Z'.w=r.1∧L'=cAll iw Z'):=by
  refine ⟨_,_,rfl,fun R H hH=>?_⟩
  unfold zBr at hM
  have hcw:Z.w.court=Z.court:=rfl
  rw [hcw] at hM
  have ht:true=true:=rfl
  refine aus ?_
  refine S.box hH rfl rfl rfl fun ib H hH=>?_
  replace hH:Has H ((ib,isB (.rows 5 [zL a])) :: (cAll iw Z++R)):=hH
  refine aus ?_
  refine X.drawc (by kernel_rfl) rfl ?_
  refine aus ?_
  refine X.cop rfl (S.ld 1 hH rfl rfl rfl rfl rfl) rfl rfl ?_
  refine aus ?_
  refine X.cop rfl (S.ld 0 hH rfl rfl rfl rfl rfl) rfl rfl ?_
  refine X.ccall (Zt Z.court a.A) rfl rfl rfl rfl (.cons (.shut (n:=9) rfl) (.cons (.shut (n:=9) rfl) .nil)) ?_
  rcases Bool.eq_false_or_eq_true (!zW Z.court a.A) with h1 | h1
  · rw [if_pos (by rw [h1]; rfl)] at hM
    cases hM
    refine aus ?_
    refine X.cond rfl (fun _=>?_) (fun h=>?_)
    · refine aus ?_
      exact GS.ret ⟨_,rfl,_,⟨Z,rfl,rfl,rfl⟩,hH.tail⟩
    · cases h
  · refine aus ?_
    refine X.cop (X.on_f rfl rfl rfl h1) (S.ld 0 hH rfl rfl rfl rfl rfl) rfl rfl ?_
    refine X.ccall (Z8 a.Case) (X.on_f rfl rfl rfl h1) rfl rfl rfl (.cons (.shut (n:=9) rfl) .nil) ?_
    rcases Bool.eq_false_or_eq_true (!Zj a.Case) with h2 | h2
    · rw [if_pos (by rw [h1, h2]; rfl)] at hM
      cases hM
      refine aus ?_
      refine X.cond rfl (fun _=>?_) (fun h=>?_)
      · refine aus ?_
        exact GS.ret ⟨_,rfl,_,⟨Z,rfl,rfl,rfl⟩,hH.tail⟩
      · cases h
    · refine aus ?_
      refine X.cop (X.on_f rfl rfl rfl h2) (S.ld 0 hH rfl rfl rfl rfl rfl) rfl rfl ?_
      refine X.ccall (qf a.Finding) (X.on_f rfl rfl rfl h2) rfl rfl rfl (.cons (.shut (n:=9) rfl) .nil) ?_
      refine aus ?_
      refine X.cond rfl (fun h3=>?_) (fun h3=>?_)
      · rw [if_pos (by rw [h1, h2, h3]; rfl)] at hM
        cases hM
        refine aus ?_
        exact GS.ret ⟨_,rfl,_,⟨Z,rfl,rfl,rfl⟩,hH.tail⟩
      · rw [if_neg (by rw [h1, h2, h3]; decide)] at hM
        obtain ⟨y,h4,hM⟩:=zK hM
        refine aus ?_
        refine X.opR rfl (S.ld 0 hH rfl rfl rfl rfl rfl) rfl ?_
        refine S.rdC (zLb iw Z a.Case h4) (S.sel [1,4] hH rfl (by decide)) rfl rfl rfl fun v hv=>?_
        subst hv
        refine aus ?_
        refine X.cond rfl (fun h5=>?_) (fun h5=>?_)
        · rw [if_pos h5] at hM
          cases hM
          refine aus ?_
          exact GS.ret ⟨_,rfl,_,⟨Z,rfl,rfl,rfl⟩,hH.tail⟩
        · rw [if_neg (by rw [h5]; decide)] at hM
          refine aus ?_
          refine X.opR rfl (S.ld 0 hH rfl rfl rfl rfl rfl) rfl ?_
          refine aus ?_
          refine X.opR rfl (S.ld 0 hH rfl rfl rfl rfl rfl) rfl ?_
          refine S_at (hH.perm List.perm_middle.symm) rfl rfl rfl fun H Z1 pre d di post e1 ho hH=>?_
          replace hH:Has H ((ib,isB (.rows 5 [zL a])) :: (opn iw Z1 pre d di post++R)):=hH.perm List.perm_middle
          have hn1:Z1.court.Arbiters≤1000000:=by rw [zKH e1]; exact hn
          simp only at hM
          rw [← e1,zGq ho] at hM
          refine aus ?_
          refine X.opR rfl (S.ld 6 hH rfl rfl rfl rfl rfl) rfl ?_
          refine aus ?_
          refine X.cond rfl (fun h6=>?_) (fun h6=>?_)
          · rw [if_pos h6] at hM
            cases hM
            refine aus ?_
            exact GS.ret ⟨_,rfl,_,⟨Z1,rfl,rfl,rfl⟩,(hH.tail).perm (jN ho R).symm⟩
          · rw [if_neg (by rw [h6]; decide)] at hM
            obtain ⟨w2,h7,hM⟩:=zK hM
            obtain ⟨w3,h8,hM⟩:=zK hM
            cases hM
            refine aus ?_
            refine X.opR rfl (S.ld 0 hH rfl rfl rfl rfl rfl) rfl ?_
            refine S.im (zLw iw Z1 a.Case h7) (zJf hH) rfl rfl rfl fun v L' H hT hH=>?_
            obtain ⟨cs,ic,e2,rfl⟩:=hT
            replace hH:=name_all' hH
            obtain ⟨Z4,hZ4⟩:∃ Z4:WX,Z4 = { Z1 with cases:=cs,ic:=ic }:=⟨_,rfl⟩
            have ho4:Opened Z4 pre (a.A,a.Case) d di post:=⟨by rw [hZ4]; exact ho.e,ho.n⟩
            have e4:Z4.w=w2:=by rw [hZ4,e2]; rfl
            have hn4:Z4.court.Arbiters≤1000000:=by rw [hZ4]; exact hn1
            rw [← hZ4] at hH
            rw [← e4] at h8
            clear hZ4
            refine aus ?_
            refine X.opR rfl (S.ld 0 hH rfl rfl rfl rfl rfl) rfl ?_
            refine aus ?_
            refine S.w0 6 hH rfl rfl (S.st 6 hH rfl rfl rfl rfl rfl rfl rfl) fun H hH=>?_
            refine aus ?_
            refine S.w0 6 hH rfl rfl (S.st 6 hH rfl rfl rfl rfl rfl rfl rfl) fun H hH=>?_
            obtain ⟨Z2,hw2,ho2,hH2,hc2⟩:=zD7 (iw:=iw) (ib:=ib) (B:=isB (.rows 5 [zL a])) (d':={ d with wish:=a.Finding,has:=true }) (di':=di) (R:=R) ho4 rfl hH
            rw [← hw2] at h8
            have hn2:Z2.court.Arbiters≤1000000:=by rw [hc2]; exact hn4
            refine aus ?_
            refine X.opR rfl (S.ld 0 hH2 rfl rfl rfl rfl rfl) rfl ?_
            refine aus ?_
            refine X.opR rfl (S.ld 0 hH2 rfl rfl rfl rfl rfl) rfl ?_
            refine S.im (zGm iw Z2 a.A a.Case hn2 ho2 h8) (zH9 ho2 hH2) rfl rfl rfl fun v L' H hT hH=>?_
            obtain ⟨Z3,e3,rfl⟩:=hT
            refine aus ?_
            exact GS.ret ⟨_,rfl,_,⟨Z3,rfl,e3,rfl⟩,(hH.perm List.perm_middle).tail⟩
end Go.Proofs.YtggkidlcohickaaGreat
