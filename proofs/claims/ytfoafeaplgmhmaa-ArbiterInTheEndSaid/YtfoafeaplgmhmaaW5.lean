/- Part of the proof of ArbiterInTheEnd: walks: methods of the program, step by step, compute the plain ones. Conditions: none. -/
import Derived.Test.YtfoafeaplgmhmaaW4
import Derived.Test.YtfoafeaplgmhmaaHi
import Derived.Test.YtfoafeaplgmhmaaSrt
import Derived.Test.YtfoafeaplgmhmaaWm
set_option linter.unusedVariables false
set_option linter.unusedSimpArgs false
set_option maxRecDepth 4000
namespace Go.Proofs.Ytfoafeaplgmhmaa
open Go Go.Am Go.Proofs Go.Mx
theorem ok_wBook (w:wWorld) (a c:Int):Ct Try.prog 8 [fzW w,V.i a,V.i c] (e_api_Note (w_get w a c).note):=by
  refine ct_of_gs CC_ok rfl ?_
  refine aus ?_
  refine X.opW rfl rfl rfl rfl ?_
  refine aus ?_
  refine X.call (ok_wseen w a c) rfl rfl rfl (.cons (.shut (n:=9) rfl) (.cons (.shut (n:=9) rfl) (.cons (.shut (n:=9) rfl) .nil))) ?_
  generalize w_get w a c=d
  refine aus ?_
  refine X.op0W rfl rfl rfl ?_
  refine aus ?_
  exact X.rt
theorem ok_wWish (w:wWorld) (a c:Int):Ct Try.prog 7 [fzW w,V.i a,V.i c] (.tup [V.i (w_get w a c).wish,V.b (w_get w a c).has]):=by
  refine ct_of_gs CC_ok rfl ?_
  refine aus ?_
  refine X.call (ok_wseen w a c) rfl rfl rfl (.cons (.shut (n:=9) rfl) (.cons (.shut (n:=9) rfl) (.cons (.shut (n:=9) rfl) .nil))) ?_
  generalize w_get w a c=d
  refine aus ?_
  refine X.opW rfl rfl rfl rfl ?_
  refine X.op0W rfl rfl rfl ?_
  refine aus ?_
  refine X.drawc (by kernel_rfl) rfl ?_
  refine aus ?_
  exact X.rt
theorem app_self {α:Type} {l:List α} (h:l.length≤1000000):Mx.app [] l=some l:=by unfold Mx.app; rw [if_pos (by simp; omega)]; rfl
theorem fr_Letters (w:wWorld) (h:w.letters.length≤1000000):FrC Try.prog 9 [fzW w] (.sl (w.letters.map e_api_Letter)):=by
  refine frc_of_gs (C:=CC) (es:=8) (nn:=9) CC_ok rfl (fun _=>rfl) ?_
  unfold fzW
  refine aus ?_
  refine X.ownF (nn:=9) (own_slices_Clone_api_Letter (app_self h)) (fun _=>rfl) rfl rfl rfl (.cons (.shut (n:=9) rfl) .nil) rfl fun z=>?_
  refine aus ?_
  exact GS.ret ⟨z,_,rfl,rfl⟩
theorem fr_Sent (w:wWorld) (h:w.sent.length≤1000000):FrC Try.prog 11 [fzW w] (.sl (w.sent.map e_api_Letter)):=by
  refine frc_of_gs (C:=CC) (es:=8) (nn:=9) CC_ok rfl (fun _=>rfl) ?_
  unfold fzW
  refine aus ?_
  refine X.ownF (nn:=9) (own_slices_Clone_api_Letter (app_self h)) (fun _=>rfl) rfl rfl rfl (.cons (.shut (n:=9) rfl) .nil) rfl fun z=>?_
  refine aus ?_
  exact GS.ret ⟨z,_,rfl,rfl⟩
theorem votesOf_perm {a:Int} {l l':List ((Int×Int)×wDesk)} (h:l.Perm l'):(votesOf a l).Perm (votesOf a l'):=h.flatMap_right _
theorem left_perm : ∀ (l:List Nat) (j:Nat),l.Nodup→j∈l→l.Perm (j :: l.filter (·≠j))
  | [],j,_,h=>by cases h
  | x :: l,j,hn,hj=>by
    rw [List.nodup_cons] at hn
    by_cases e:x=j
    · subst e
      rw [List.filter_cons_of_neg (by simp),List.filter_eq_self.2 fun y hy=>by simp; rintro rfl; exact hn.1 hy]
    · rw [List.filter_cons_of_pos (by simpa using e)]
      have hj':j∈l:=by
        rcases List.mem_cons.1 hj with h | h
        · exact absurd h.symm e
        · exact h
      exact ((left_perm l j hn.2 hj').cons x).trans (List.Perm.swap j x _)
theorem idxs_nodup : ∀ (n i:Nat),(idxs i n).Nodup
  | 0,i=>List.nodup_nil
  | n+1,i=>List.nodup_cons.2 ⟨fun h=>by have:=(idxs_mem n (i+1) i).1 h; omega,idxs_nodup n (i+1)⟩
theorem idxs_get {α:Type} (l:List α):∀ (n i:Nat),i+n=l.length→(idxs i n).filterMap (l[·]?)=l.drop i
  | 0,i,h=>by simp only [idxs,List.filterMap_nil]; rw [List.drop_eq_nil_of_le (by omega)]
  | n+1,i,h=>by
    simp only [idxs]
    rw [List.filterMap_cons_some (List.getElem?_eq_getElem (by omega)),idxs_get l n (i+1) (by omega),← List.drop_eq_getElem_cons (by omega)]
abbrev fks (w:wWorld):List V:=(fdm w).map fun p=>e_place p.1
abbrev fvs (w:wWorld):List V:=(fdm w).map fun p=>fdesk p.2
theorem fr_Known (w:wWorld) (a:Int) {r:List api_Ruling} (hn:(votesOf a w.desks).length≤1000000) (hM:∀ v,v.Perm (votesOf a w.desks)→arbiter_rulings w.court v=some r):FrC Try.prog 10 [fzW w,V.i a] (.sl (r.map e_api_Ruling)):=by
  refine frc_of_gs (C:=CC) (es:=3) (nn:=9) CC_ok rfl (fun _=>rfl) ?_
  refine aus ?_
  have h0:Has [] []:=Has.nil
  refine S.pad h0 fun iv H hH=>?_
  unfold fzW
  refine aus ?_
  refine S.box hH rfl rfl rfl fun it H hH=>?_
  refine aus ?_
  have hlen:(fks w).length=w.desks.length:=by simp [fks,fdm]
  rw [hlen] at hH
  refine X.norm [(0,.fptr [fwrow w] 0 0),(1,V.i a),(5,ovlz true iv ([]:List api_Letter)),(12,.ptr it 0 0)] ?_ rfl (sr rfl)
  refine X.loopR (α:=List Blk×List Nat×Option Nat×List api_Letter×Nat) (fun x=>⟨[(0,.fptr [fwrow w] 0 0),(1,V.i a),(5,ovlz true x.2.2.2.2 x.2.2.2.1),(12,.ptr it 0 0)],x.1,0,none,34⟩)
    (fun x=>Has x.1 [(it,isB (.iter (fks w) (fvs w) x.2.1 x.2.2.1)),(x.2.2.2.2,isB (oblz true 8 e_api_Letter x.2.2.2.1))]∧x.2.1.Nodup∧(x.2.2.2.1++votesOf a (x.2.1.filterMap (w.desks[·]?))).Perm (votesOf a w.desks))
    (fun x=>x.2.1.length) ?_ (H,idxs 0 w.desks.length,none,[],iv) ⟨hH,idxs_nodup _ _,by simp only; rw [idxs_get w.desks _ 0 (by omega)]; simp⟩
  clear hH h0
  rintro ⟨H,left,last,v,iv⟩ ⟨hH,hnd,hp⟩ hc
  simp only at hH hnd hp hc ⊢
  refine aus ?_
  refine X.next rfl rfl (hH.is (k:=0) rfl) S.b0 rfl (fun hl=>?_) (fun j kv vv hj hk hv=>?_)
  · subst hl
    refine aus ?_
    refine X.cond rfl (fun h=>?_) (fun _=>?_)
    · cases h
    · have hp' : v.Perm (votesOf a w.desks) := by simpa [votesOf] using hp
      refine aus ?_
      refine X.ownF (nn:=9) (own_arbiter_rulings (hM v hp')) (fun _=>rfl) rfl rfl rfl (.cons (.shut (n:=9) rfl) (.cons (FR.arg (FR.ovl (z:=true) (l:=v) 9 S.b0 (hH.is (k:=1) rfl) fun _=>rfl)) .nil)) rfl fun z=>?_
      refine aus ?_
      refine GS.ret ⟨z,_,rfl,?_⟩
      unfold hget
      simp only
      rw [get_eq,List.getElem?_append_right (Nat.le_refl _)]
      simp
  · have hjl : j < w.desks.length := by
      have:=get_lt hk
      rw [hlen] at this; exact this
    have hk':kv=e_place w.desks[j].1:=by
      rw [get_eq,List.getElem?_map] at hk
      unfold fdm at hk
      rw [List.getElem?_map,List.getElem?_eq_getElem hjl] at hk
      simpa using hk.symm
    have hv':vv=fdesk (some w.desks[j].2):=by
      rw [get_eq,List.getElem?_map] at hv
      unfold fdm at hv
      rw [List.getElem?_map,List.getElem?_eq_getElem hjl] at hv
      simpa using hv.symm
    subst hk'
    subst hv'
    replace hH:=hH.put (k:=0) (B:=.iter (fks w) (fvs w) (left.filter (·≠j)) (some j)) (q:=isB (.iter (fks w) (fvs w) (left.filter (·≠j)) (some j))) rfl rfl
    replace hH:Has _ [(it,isB (.iter (fks w) (fvs w) (left.filter (·≠j)) (some j))),(iv,isB (oblz true 8 e_api_Letter v))]:=hH
    generalize hput H it _=H1 at hH ⊢
    have hlt:(left.filter (·≠j)).length<left.length:=by
      have:=List.length_filter_lt_length_iff_exists (l:=left) (p:=(·≠j))
      exact this.2 ⟨j,hj,by simp⟩
    have hp2:=(left_perm left j hnd hj).filterMap (w.desks[·]?)
    rw [List.filterMap_cons_some (List.getElem?_eq_getElem hjl)] at hp2
    have hp3:=(List.Perm.append_left v (votesOf_perm (a:=a) hp2)).symm.trans hp
    clear hp hp2
    generalize w.desks[j]=p at hk hv hp3 ⊢
    obtain ⟨k0,d0⟩:=p
    have hnd':=hnd.filter (fun x=>decide (x≠j))
    refine aus ?_
    refine X.cond rfl (fun _=>?_) (fun h=>?_)
    · refine aus ?_
      refine X.entry rfl rfl (hH.is (k:=0) rfl) hk hv rfl ?_
      refine aus ?_
      refine S.box hH rfl rfl rfl fun ip H hH=>?_
      refine S.w0 0 hH rfl rfl (S.st 0 hH rfl rfl rfl rfl rfl rfl rfl) fun H hH=>?_
      refine aus ?_
      refine X.opR rfl (S.ld 0 hH rfl rfl rfl rfl rfl) rfl ?_
      replace hH:=hH.tail
      refine aus ?_
      refine X.cond rfl (fun h3=>?_) (fun h3=>?_)
      · have h3' : k0.1 = a := of_decide_eq_true h3
        have e:votesOf a ((k0,d0) :: (left.filter (·≠j)).filterMap (w.desks[·]?))=d0.votes++votesOf a ((left.filter (·≠j)).filterMap (w.desks[·]?)):=by
          unfold votesOf
          rw [List.flatMap_cons]
          simp only [h3',if_true]
        rw [e,← List.append_assoc] at hp3
        have hle:(v++d0.votes).length≤1000000:=by
          have:=hp3.length_eq
          rw [List.length_append] at this
          omega
        have hm:Mx.app v d0.votes=some (v++d0.votes):=by
          unfold Mx.app
          rw [if_pos (by rw [List.length_append] at hle; omega)]
        refine aus ?_
        refine S.appL 1 hH rfl hm (fun _=>rfl) rfl rfl rfl rfl rfl rfl rfl S.b0 rfl rfl rfl fun i2 H hH=>?_
        refine aus ?_
        exact X.norm [(0,.fptr [fwrow w] 0 0),(1,V.i a),(5,ovlz true i2 (v++d0.votes)),(12,.ptr it 0 0)] (hc (H,left.filter (·≠j),some j,v++d0.votes,i2) ⟨hH,hnd',hp3⟩ hlt) rfl (sr rfl)
      · have h3' : ¬ k0.1 = a := of_decide_eq_false h3
        have e:votesOf a ((k0,d0) :: (left.filter (·≠j)).filterMap (w.desks[·]?))=votesOf a ((left.filter (·≠j)).filterMap (w.desks[·]?)):=by
          unfold votesOf
          rw [List.flatMap_cons]
          simp only [h3',if_false,List.nil_append]
        rw [e] at hp3
        refine aus ?_
        exact X.norm [(0,.fptr [fwrow w] 0 0),(1,V.i a),(5,ovlz true iv v),(12,.ptr it 0 0)] (hc (H,left.filter (·≠j),some j,v,iv) ⟨hH,hnd',hp3⟩ hlt) rfl (sr rfl)
    · cases h
theorem im_new (c:api_Court):ImCt CC 5 [e_api_Court c] [] (fun v L' => (arbiter_Check c=0∧∃ iw Z,v = .tup [.ptr iw 0 0,V.i 0]∧Z.w=w_new c∧L'=cAll iw Z)∨(arbiter_Check c≠0∧v = .tup [.lit (.pointer none),V.i (arbiter_Check c)]∧L'=[])):=by
  refine ⟨_,_,rfl,fun R H hH=>?_⟩
  refine aus ?_
  refine S.box hH rfl rfl rfl fun ib H hH=>?_
  replace hH:Has H ((ib,isB (.rows 1 [e_api_Court c])) :: R):=hH
  refine aus ?_
  refine X.opR rfl (S.ld 0 hH rfl rfl rfl rfl rfl) rfl ?_
  refine X.call (ok_arbiter_Check c) rfl rfl rfl (.cons (.shut (n:=9) rfl) .nil) ?_
  refine aus ?_
  refine X.cond rfl (fun h=>?_) (fun h=>?_)
  · have h' : arbiter_Check c ≠ 0 := fun q => by rw [decide_eq_true q] at h; cases h
    refine aus ?_
    exact GS.ret ⟨_,rfl,_,.inr ⟨h',rfl,rfl⟩,hH.tail⟩
  · have h' : arbiter_Check c = 0 := by
      rcases Decidable.em (arbiter_Check c=0) with q | q
      · exact q
      · rw [decide_eq_false q] at h; cases h
    refine aus ?_
    refine X.opR rfl (S.ld 0 hH rfl rfl rfl rfl rfl) rfl ?_
    refine S.mkm hH rfl rfl rfl fun im H hH=>?_
    refine aus ?_
    refine S.pad hH fun il H hH=>S.pad hH fun is H hH=>S.pad hH fun ic H hH=>?_
    refine S.box hH rfl rfl rfl fun iw H hH=>?_
    refine aus ?_
    refine GS.ret ⟨_,rfl,_,.inl ⟨h',iw,⟨c,0,[],true,[],fun _ _=>rfl,[],[],[],il,is,im,ic⟩,rfl,rfl,rfl⟩,?_⟩
    exact Has.pick (A:=[(iw,isB (.rows 6 [wrow ⟨c,0,[],true,[],fun _ _=>rfl,[],[],[],il,is,im,ic⟩])),(ic,isB .dead),(is,isB .dead),(il,isB .dead),(im,isB (.map [] [])),(ib,isB (.rows 1 [e_api_Court c]))]) (R:=R) [0,3,2,1,4] rfl (by decide) hH
theorem has_left {H:List Blk} {A B:Hp} (h:Has H (A++B)):Has H A:=⟨by have:=h.nd; rw [List.map_append,List.nodup_append] at this; exact this.1,fun p hp=>h.bl p (List.mem_append_left _ hp)⟩
theorem has_right {H:List Blk} {A B:Hp} (h:Has H (A++B)):Has H B:=⟨by have:=h.nd; rw [List.map_append,List.nodup_append] at this; exact this.2.1,fun p hp=>h.bl p (List.mem_append_right _ hp)⟩
theorem fr_chair {H:List Blk} {d:wDesk} {i:DI} (h:Has H (dcells d i)):FR H 0 (e_dptr (d.chair.map fun _=>i.ic)) (fchair d.chair):=by
  cases hch:d.chair with
  | none=>exact ⟨1,rfl⟩
  | some c =>
    have h':Has H (dcellsC d c i):=by rw [← dcells_some i hch]; exact h
    exact FR.ptr S.b0 (h'.is (k:=2) rfl) (FR.agg (.cons ⟨1,rfl⟩ (.cons (S.fr_js (z:=true) (l:=c.promises) (j:=[]) 9 (h'.is (k:=3) rfl) fun _=>rfl) (.cons ⟨1,rfl⟩ .nil))))
theorem fr_desk {H:List Blk} {d:wDesk} {i:DI} (h:Has H (dcells d i)):FR H 0 (.ptr i.id 0 0) (fdesk (some d)) :=
  FR.ptr S.b0 (h.is (k:=0) rfl) (FR.agg (.cons ⟨1,rfl⟩ (.cons ⟨1,rfl⟩ (.cons ⟨1,rfl⟩ (.cons ⟨1,rfl⟩ (.cons ⟨1,rfl⟩ (.cons ⟨1,rfl⟩ (.cons (fr_chair h) (.cons (S.fr_js (z:=true) (l:=d.votes) (j:=[]) 9 (h.is (k:=1) rfl) fun _=>rfl) .nil)))))))))
theorem fr_desks {H:List Blk}:∀ {l:List ((Int×Int)×wDesk×DI)},Has H (allD l)→FRL H 0 (l.map fun p=>.ptr p.2.2.id 0 0) (l.map fun p=>fdesk (some p.2.1))
  | [],_=>.nil
  | p :: r,h=>by
    rw [allD_cons] at h
    exact .cons (fr_desk (has_left h)) (fr_desks (has_right h))
theorem fr_keys {H:List Blk}:∀ (l:List ((Int×Int)×wDesk×DI)),FRL H 0 (l.map fun p=>e_place p.1) (l.map fun p=>e_place p.1)
  | []=>.nil
  | p :: r=>.cons ⟨9,rfl⟩ (fr_keys r)
theorem fr_world {iw:Nat} {Z:WX} {H:List Blk} {R:Hp} (hH:Has H (cAll iw Z++R)):FR H 0 (.ptr iw 0 0) (fzW Z.w):=by
  have hA:Has H (cAll iw Z):=has_left hH
  unfold cAll at hA
  have hC:=has_left hA
  have hD:=fr_desks (has_right hA)
  have hM:FR H 0 (.map Z.im) (.fmap ((fdm Z.w).map fun p=>e_place p.1) ((fdm Z.w).map fun p=>fdesk p.2)):=by
    have e1:(fdm Z.w).map (fun p=>e_place p.1)=Z.desks.map fun p=>e_place p.1:=by simp [fdm,WX.w]
    have e2:(fdm Z.w).map (fun p=>fdesk p.2)=Z.desks.map fun p=>fdesk (some p.2.1):=by simp [fdm,WX.w]
    rw [e1,e2]
    have e3:hget H Z.im = .map (Z.desks.map fun p=>e_place p.1) (Z.desks.map fun p=>.ptr p.2.2.id 0 0):=by
      rw [hC.is (k:=4) rfl]
      simp [WX.dm]
    obtain ⟨n1,h1⟩:=(fr_keys (H:=H) Z.desks).mapO
    obtain ⟨n2,h2⟩:=hD.mapO
    exact ⟨max n1 n2+1,X.frzMap e3 (h1 _ (Nat.le_max_left _ _)) (h2 _ (Nat.le_max_right _ _))⟩
  exact FR.ptr S.b0 (hC.is (k:=0) rfl) (FR.agg (.cons ⟨1,rfl⟩ (.cons ⟨1,rfl⟩ (.cons (S.fr_js (z:=Z.nl) (l:=Z.letters) (j:=Z.jk) 9 (hC.is (k:=1) rfl) fun _=>rfl) (.cons (S.fr_js (z:=true) (l:=Z.sent) (j:=[]) 9 (hC.is (k:=2) rfl) fun _=>rfl) (.cons hM (.cons (FR.ovl (z:=true) (l:=Z.cases) 9 S.b0 (hC.is (k:=3) rfl) fun _=>rfl) .nil)))))))
theorem eq_note (a b:api_Note):eqA CC.ty 36 (e_api_Note a) (e_api_Note b)=some (decide (a=b)):=by
  refine (X.eqa rfl rfl (X.eqp rfl rfl rfl (X.eqp rfl rfl rfl (X.eqp rfl rfl rfl (X.eqp rfl rfl rfl X.eqn'))))).trans ?_
  congr 1
  rw [Bool.eq_iff_iff]
  simp only [Bool.and_eq_true,decide_eq_true_eq,beq_iff_eq,and_true]
  constructor
  · intro h
    obtain ⟨a1,a2,a3,a4⟩:=a
    obtain ⟨b1,b2,b3,b4⟩:=b
    simp at h
    simp [h]
  · rintro rfl
    simp
theorem court_w {Z:WX} {w:wWorld} (h:Z.w=w):Z.court=w.court:=by rw [← h]; rfl
theorem letters_w {Z:WX} {w:wWorld} (h:Z.w=w):Z.letters=w.letters:=by rw [← h]; rfl
theorem ok_world (h:∃ s1 f,SanGood s1 f):Ct Try.prog 4 [] (V.b true):=by
  obtain ⟨s1,f,h⟩:=h
  refine ct_of_gs CC_ok rfl ?_
  refine aus ?_
  refine S.im (R:=[]) (im_new ⟨3⟩) (show Has [] ([]++[]) from Has.nil) rfl rfl rfl fun v L' H hT hH=>?_
  rcases hT with ⟨_,iw,Z,rfl,hZ,rfl⟩ | ⟨q,_⟩
  case inr=>exact absurd (by decide:arbiter_Check ⟨3⟩=0) q
  have ht:(!decide ((0:Int)=0))=false:=rfl
  refine aus ?_
  refine X.cond rfl (fun q=>?_) (fun _=>?_)
  · cases q
  refine aus ?_
  refine S.im (im_do iw Z ⟨1,0,4,7,0⟩ (by rw [court_w hZ]; decide) (by rw [letters_w hZ]; decide) (by rw [hZ]; exact h.a1)) hH rfl rfl rfl fun v L' H hT hH=>?_
  obtain ⟨Z1,rfl,hZ1,rfl⟩:=hT
  refine aus ?_
  refine S.im (im_do iw Z1 ⟨2,0,4,0,0⟩ (by rw [court_w hZ1,h.c1]; decide) (by rw [letters_w hZ1]; exact h.l1) (by rw [hZ1]; exact h.a2)) hH rfl rfl rfl fun v L' H hT hH=>?_
  obtain ⟨Z2,rfl,hZ2,rfl⟩:=hT
  refine aus ?_
  refine X.callO (fr_Letters Z2.w (by rw [hZ2,h.first]; decide)) rfl rfl rfl (.cons (FR.arg (fr_world hH)) .nil) ?_
  have hl3:Z2.w.letters.length=3:=by rw [hZ2]; exact h.first
  refine aus ?_
  refine GS.bldF rfl rfl rfl rfl ?_
  refine aus ?_
  refine X.norm [(1,.ptr iw 0 0),(3,V.i 0),(4,V.i 0),(5,V.i (Z2.w.letters.length:Nat)),(29,.sl (sanN.map V.i)),(30,V.i 9),(31,V.i ((0:Nat):Int))] ?_ rfl (sr rfl)
  refine X.loopR (α:=List Blk×Nat×WX) (fun x=>⟨[(1,.ptr iw 0 0),(3,V.i 0),(4,V.i 0),(5,V.i (Z2.w.letters.length:Nat)),(29,.sl (sanN.map V.i)),(30,V.i 9),(31,V.i ((x.2.1:Nat):Int))],x.1,0,none,83⟩)
    (fun x=>x.2.1≤9∧x.2.2.w=f x.2.1∧Has x.1 (cAll iw x.2.2++[])) (fun x=>9 - x.2.1) ?_ (H,0,Z2) ⟨Nat.zero_le _,hZ2,hH⟩
  clear hH hZ2
  rintro ⟨H,j,Y⟩ ⟨hj,hY,hH⟩ hc
  simp only at hj hY hH hc ⊢
  refine aus ?_
  refine X.cond rfl (fun h4=>?_) (fun h4=>?_)
  · have h5 : j < 9 := by have := of_decide_eq_true h4; omega
    have hx:ix sanN (j:Int)=some (sanN[j]'h5):=S.ixn h5
    have hs:=h.step j h5
    generalize sanN[j]'h5=t at hx hs
    refine aus ?_
    refine S.im (im_do iw Y (dl t) (by rw [court_w hY,h.cf j hj]; decide) (by rw [letters_w hY]; exact h.lf j hj) (by rw [hY]; exact hs)) hH rfl rfl rfl fun v L' H hT hH=>?_
    obtain ⟨Y1,rfl,hY1,rfl⟩:=hT
    refine aus ?_
    refine X.cond rfl (fun q=>?_) (fun _=>?_)
    · cases q
    · refine aus ?_
      rw [S.w64n h5 (by omega)]
      exact X.norm [(1,.ptr iw 0 0),(3,V.i 0),(4,V.i 0),(5,V.i (Z2.w.letters.length:Nat)),(29,.sl (sanN.map V.i)),(30,V.i 9),(31,V.i ((j+1:Nat):Int))] (hc (H,j+1,Y1) ⟨h5,hY1,hH⟩ (by simp only; omega)) rfl (sr rfl)
  · have h5 : j = 9 := by have := of_decide_eq_false h4; omega
    subst h5
    have hk0:KnownIs Y.w 0 [⟨4,1,7⟩]:=by rw [hY]; exact h.k0
    have hk1:KnownIs Y.w 1 []:=by rw [hY]; exact h.k1
    have hb:(w_get Y.w 1 4).note=⟨1,1,7,0⟩:=by rw [hY]; exact h.book
    have hs:Y.w.sent.length=15:=by rw [hY]; exact h.sent
    have t1:decide ((0:Int)=0)=true:=rfl
    have t2:decide (((Z2.w.letters.length:Nat):Int)=3)=true:=by rw [hl3]; rfl
    have t3:decide (((Y.w.sent.length:Nat):Int)=15)=true:=by rw [hs]; rfl
    refine aus ?_
    refine X.callO (fr_Known Y.w 0 hk0.1 hk0.2) rfl rfl rfl (.cons (FR.arg (fr_world hH)) (.cons (.shut (n:=9) rfl) .nil)) ?_
    refine aus ?_
    have hW:CloArg H true (.ptr iw 0 0) (fzW Y.w):=FR.arg (fr_world hH)
    refine X.callO (fr_Sent Y.w (by rw [hs]; decide)) (X.on_t rfl rfl rfl t2) rfl rfl (.cons hW .nil) ?_
    have t4:decide (((([⟨4,1,7⟩]:List api_Ruling).length:Nat):Int)=1)=true:=rfl
    have hix:ix ([⟨4,1,7⟩]:List api_Ruling) 0=some ⟨4,1,7⟩:=rfl
    have t5:true=true:=rfl
    refine aus ?_
    refine X.callO (fr_Known Y.w 1 hk1.1 hk1.2) (X.on_t rfl rfl rfl t5) rfl rfl (.cons hW (.cons (.shut (n:=9) rfl) .nil)) ?_
    have t6:decide (((([]:List api_Ruling).length:Nat):Int)=0)=true:=rfl
    refine aus ?_
    refine X.callF (m:=9) (ok_wBook Y.w 1 4) (X.on_t rfl rfl rfl t6) rfl rfl rfl (.cons hW (.cons (.shut (n:=9) rfl) (.cons (.shut (n:=9) rfl) .nil))) ?_
    refine aus ?_
    refine X.opR (X.on_t rfl rfl rfl t6) (X.eqlE (eq_note (w_get Y.w 1 4).note ⟨1,1,7,0⟩) rfl rfl) rfl ?_
    have t7:decide ((w_get Y.w 1 4).note=⟨1,1,7,0⟩)=true:=decide_eq_true hb
    refine aus ?_
    rw [t7]
    exact X.rt
theorem perm_last {α:Type} (A:List α) (x:α):(A++[x]).Perm (x :: (A++[])):=by rw [List.append_nil]; exact List.perm_append_singleton x A
theorem ok_ArbiterInTheEnd {c:api_Court} {acts:List api_Act} {who id:Int} (h:EndGood c acts who id):Ct Try.prog 3 [e_api_Court c,V.sl (acts.map e_api_Act),.lit (.int .u8 who),V.i id] (V.b true):=by
  obtain ⟨hsan,h⟩:=h
  refine ct_of_gs CC_ok rfl ?_
  refine aus ?_
  refine S.box (show Has [] [] from Has.nil) rfl rfl rfl fun ib H hH=>?_
  refine aus ?_
  refine X.cond rfl (fun h1=>?_) (fun h1=>?_)
  · refine aus ?_
    refine X.call (ok_world hsan) rfl rfl rfl .nil ?_
    refine aus ?_
    exact X.rt
  · have hl : acts.length ≤ 40 := by have := of_decide_eq_false h1; omega
    replace h:=h hl
    refine aus ?_
    refine X.opR rfl (S.ld 0 hH rfl rfl rfl rfl rfl) rfl ?_
    refine S.im (R:=[(ib,isB (.rows 1 [e_api_Court c]))]) (im_new c) (show Has _ ([]++[(ib,isB (.rows 1 [e_api_Court c]))]) from hH) rfl rfl rfl fun v L' H hT hH=>?_
    rcases hT with ⟨h0,iw,Z,rfl,hZ,rfl⟩ | ⟨h0,rfl,rfl⟩
    · obtain ⟨hn, a, hra, hg⟩ := h h0
      replace hH:=hH.perm (perm_last _ _)
      have t2:(!decide ((0:Int)=0))=false:=rfl
      refine aus ?_
      refine X.cond rfl (fun q=>?_) (fun _=>?_)
      · cases q
      refine aus ?_
      rw [← hZ] at hg
      clear t2
      refine X.norm [(2,.lit (.int .u8 who)),(3,V.i id),(4,.ptr ib 0 0),(9,.ptr iw 0 0),(39,V.sl (acts.map e_api_Act)),(40,V.i (acts.length:Nat)),(41,V.i ((0:Nat):Int))] ?_ rfl (sr rfl)
      refine X.loopR (α:=List Blk×Nat×WX) (fun x=>⟨[(2,.lit (.int .u8 who)),(3,V.i id),(4,.ptr ib 0 0),(9,.ptr iw 0 0),(39,V.sl (acts.map e_api_Act)),(40,V.i (acts.length:Nat)),(41,V.i ((x.2.1:Nat):Int))],x.1,0,none,167⟩)
        (fun x=>x.2.1≤acts.length∧RunTo c (EndLaw c a id) (acts.drop x.2.1) x.2.2.w∧Has x.1 ((ib,isB (.rows 1 [e_api_Court c])) :: (cAll iw x.2.2++[]))) (fun x=>acts.length - x.2.1) ?_ (H,0,Z) ⟨Nat.zero_le _,hg,hH⟩
      clear hH hg hZ
      rintro ⟨H,j,U⟩ ⟨hj,hg,hH⟩ hc
      simp only at hj hg hH hc ⊢
      refine aus ?_
      refine X.cond rfl (fun h4=>?_) (fun h4=>?_)
      · have h5 : j < acts.length := by have := of_decide_eq_true h4; omega
        have hx:ix acts (j:Int)=some acts[j]:=S.ixn h5
        rw [List.drop_eq_getElem_cons h5] at hg
        generalize acts[j]=a at hx hg
        obtain ⟨hcu,hlw,f,hdo,hg⟩:=hg
        have hcu':U.court=c:=hcu
        refine aus ?_
        refine S.box hH rfl rfl rfl fun i8 H hH=>?_
        refine S.w0 0 hH rfl rfl (S.st 0 hH rfl rfl rfl rfl rfl rfl rfl) fun H hH=>?_
        replace hH:Has H ((i8,isB (.rows 5 [e_api_Act a])) :: (ib,isB (.rows 1 [e_api_Court c])) :: (cAll iw U++[])):=hH
        refine aus ?_
        refine X.opR rfl (S.ld 0 hH rfl rfl rfl rfl rfl) rfl ?_
        have hC:Has H (cAll iw U++([(i8,isB (.rows 5 [e_api_Act a])),(ib,isB (.rows 1 [e_api_Court c]))]++[])):=(show Has H ([(i8,isB (.rows 5 [e_api_Act a])),(ib,isB (.rows 1 [e_api_Court c]))]++(cAll iw U++[])) from hH).perm (List.perm_append_comm_assoc _ _ _)
        refine S.im (im_do iw U a (by rw [hcu']; exact hn) hlw hdo) hC rfl rfl rfl fun v L' H hT hH=>?_
        obtain ⟨U1,rfl,hU1,rfl⟩:=hT
        replace hH:=hH.perm (List.perm_append_comm_assoc _ _ _)
        replace hH:Has H ((i8,isB (.rows 5 [e_api_Act a])) :: (ib,isB (.rows 1 [e_api_Court c])) :: (cAll iw U1++[])):=hH
        refine aus ?_
        rw [S.w64n h5 (by omega)]
        rw [← hU1] at hg
        exact X.norm [(2,.lit (.int .u8 who)),(3,V.i id),(4,.ptr ib 0 0),(9,.ptr iw 0 0),(39,V.sl (acts.map e_api_Act)),(40,V.i (acts.length:Nat)),(41,V.i ((j+1:Nat):Int))] (hc (H,j+1,U1) ⟨h5,hg,hH.tail⟩ (by simp only; omega)) rfl (sr rfl)
      · have h5 : j = acts.length := by have := of_decide_eq_false h4; omega
        subst h5
        rw [List.drop_length] at hg
        clear hc hj h4
        refine aus ?_
        rw [X.wrap_w64]
        refine X.opR rfl (S.ld 0 hH rfl rfl rfl rfl rfl) rfl ?_
        refine X.opR rfl (X.remE hra rfl rfl) rfl ?_
        have hW:CloArg H true (.ptr iw 0 0) (fzW U.w):=FR.arg (fr_world (R:=[(ib,isB (.rows 1 [e_api_Court c]))]++[]) ((show Has H ([(ib,isB (.rows 1 [e_api_Court c]))]++(cAll iw U++[])) from hH).perm (List.perm_append_comm_assoc _ _ _)))
        refine aus ?_
        refine X.callF (m:=9) (ok_wWish U.w a id) rfl rfl rfl rfl (.cons hW (.cons (.shut (n:=9) rfl) (.cons (.shut (n:=9) rfl) .nil))) ?_
        refine aus ?_
        refine X.cond rfl (fun h6=>?_) (fun h6=>?_)
        · refine aus ?_
          refine X.call (ok_world hsan) rfl rfl rfl .nil ?_
          refine aus ?_
          exact X.rt
        have hhas:(w_get U.w a id).has=true:=by
          cases q:(w_get U.w a id).has with
          | true=>rfl
          | false =>
            have h6:(!(w_get U.w a id).has)=false:=h6
            rw [q] at h6; cases h6
        obtain ⟨hll,hlo⟩:=hg hhas
        clear h6 hhas hg hW
        refine aus ?_
        refine X.norm [(3,V.i id),(4,.ptr ib 0 0),(9,.ptr iw 0 0),(13,V.i a),(16,V.i (mostS U.w id 0)),(17,V.i ((0:Nat):Int))] ?_ rfl (sr rfl)
        refine X.loopR (α:=List Blk×Nat) (fun x=>⟨[(3,V.i id),(4,.ptr ib 0 0),(9,.ptr iw 0 0),(13,V.i a),(16,V.i (mostS U.w id x.2)),(17,V.i ((x.2:Nat):Int))],x.1,0,none,167⟩)
          (fun x=>(x.2:Int)≤max 0 c.Arbiters∧Has x.1 ((ib,isB (.rows 1 [e_api_Court c])) :: (cAll iw U++[]))) (fun x=>c.Arbiters.toNat - x.2) ?_ (H,0) ⟨by simp only; omega,hH⟩
        clear hH H
        rintro ⟨H,b⟩ ⟨hb,hH⟩ hc
        simp only at hb hH hc ⊢
        refine aus ?_
        refine X.opR rfl (S.ld 0 hH rfl rfl rfl rfl rfl) rfl ?_
        refine aus ?_
        refine X.cond rfl (fun h7=>?_) (fun h7=>?_)
        · have h8 : (b : Int) < c.Arbiters := of_decide_eq_true h7
          have h8':b<c.Arbiters.toNat:=by omega
          have hW:CloArg H true (.ptr iw 0 0) (fzW U.w):=FR.arg (fr_world (R:=[(ib,isB (.rows 1 [e_api_Court c]))]++[]) ((show Has H ([(ib,isB (.rows 1 [e_api_Court c]))]++(cAll iw U++[])) from hH).perm (List.perm_append_comm_assoc _ _ _)))
          refine aus ?_
          refine X.callF (m:=9) (ok_wBook U.w b id) rfl rfl rfl rfl (.cons hW (.cons (.shut (n:=9) rfl) (.cons (.shut (n:=9) rfl) .nil))) ?_
          refine aus ?_
          rw [S.w64n h8' (by omega)]
          exact X.norm [(3,V.i id),(4,.ptr ib 0 0),(9,.ptr iw 0 0),(13,V.i a),(16,V.i (mostS U.w id (b+1))),(17,V.i ((b+1:Nat):Int))] (hc (H,b+1) ⟨by simp only; omega,hH⟩ (by simp only; omega)) rfl (sr rfl)
        · have h8 : b = c.Arbiters.toNat := by have := of_decide_eq_false h7; omega
          subst h8
          have hW:CloArg H true (.ptr iw 0 0) (fzW U.w):=FR.arg (fr_world (R:=[(ib,isB (.rows 1 [e_api_Court c]))]++[]) ((show Has H ([(ib,isB (.rows 1 [e_api_Court c]))]++(cAll iw U++[])) from hH).perm (List.perm_append_comm_assoc _ _ _)))
          clear hc hb h7
          refine aus ?_
          refine X.callO (fr_Letters U.w hll) rfl rfl rfl (.cons hW .nil) ?_
          refine aus ?_
          clear hW
          refine X.norm [(3,V.i id),(4,.ptr ib 0 0),(9,.ptr iw 0 0),(13,V.i a),(16,V.i (mostS U.w id c.Arbiters.toNat)),(78,V.sl (U.w.letters.map e_api_Letter)),(79,V.i (U.w.letters.length:Nat)),(80,V.i ((0:Nat):Int))] ?_ rfl (sr rfl)
          refine X.loopR (α:=List Blk×Nat×WX) (fun x=>⟨[(3,V.i id),(4,.ptr ib 0 0),(9,.ptr iw 0 0),(13,V.i a),(16,V.i (mostS U.w id c.Arbiters.toNat)),(78,V.sl (U.w.letters.map e_api_Letter)),(79,V.i (U.w.letters.length:Nat)),(80,V.i ((x.2.1:Nat):Int))],x.1,0,none,167⟩)
            (fun x=>x.2.1≤U.w.letters.length∧Lose (fun w2 => ∃ f,OpenGood c a id U.w w2 f) (U.w.letters.drop x.2.1) x.2.2.w∧Has x.1 ((ib,isB (.rows 1 [e_api_Court c])) :: (cAll iw x.2.2++[]))) (fun x=>U.w.letters.length - x.2.1) ?_ (H,0,U) ⟨Nat.zero_le _,hlo,hH⟩
          clear hH hlo H
          rintro ⟨H,i,Z⟩ ⟨hi,hlo,hH⟩ hc
          simp only at hi hlo hH hc ⊢
          refine aus ?_
          refine X.cond rfl (fun h9=>?_) (fun h9=>?_)
          · have h10 : i < U.w.letters.length := by have := of_decide_eq_true h9; omega
            have hx:ix U.w.letters (i:Int)=some U.w.letters[i]:=S.ixn h10
            rw [List.drop_eq_getElem_cons h10] at hlo
            generalize U.w.letters[i]=l at hx hlo
            obtain ⟨hcn,hcl,w',hdo,hlo⟩:=hlo
            refine aus ?_
            refine S.box hH rfl rfl rfl fun i19 H hH=>?_
            refine S.w0 0 hH rfl rfl (S.st 0 hH rfl rfl rfl rfl rfl rfl rfl) fun H hH=>?_
            replace hH:Has H ((i19,isB (.rows 8 [e_api_Letter l])) :: (ib,isB (.rows 1 [e_api_Court c])) :: (cAll iw Z++[])):=hH
            refine aus ?_
            refine X.opR rfl (S.ld 0 hH rfl rfl rfl rfl rfl) rfl ?_
            refine aus ?_
            have hC:Has H (cAll iw Z++([(i19,isB (.rows 8 [e_api_Letter l])),(ib,isB (.rows 1 [e_api_Court c]))]++[])):=(show Has H ([(i19,isB (.rows 8 [e_api_Letter l])),(ib,isB (.rows 1 [e_api_Court c]))]++(cAll iw Z++[])) from hH).perm (List.perm_append_comm_assoc _ _ _)
            refine S.im (im_do iw Z ⟨4,0,0,0,l.ID⟩ hcn hcl hdo) hC rfl rfl rfl fun v L' H hT hH=>?_
            obtain ⟨Z1,rfl,hZ1,rfl⟩:=hT
            replace hH:=hH.perm (List.perm_append_comm_assoc _ _ _)
            replace hH:Has H ((i19,isB (.rows 8 [e_api_Letter l])) :: (ib,isB (.rows 1 [e_api_Court c])) :: (cAll iw Z1++[])):=hH
            have hZ1:Z1.w=w':=hZ1
            rw [← hZ1] at hlo
            refine aus ?_
            refine X.cond rfl (fun q=>?_) (fun _=>?_)
            · cases q
            refine aus ?_
            rw [S.w64n h10 (by omega)]
            exact X.norm [(3,V.i id),(4,.ptr ib 0 0),(9,.ptr iw 0 0),(13,V.i a),(16,V.i (mostS U.w id c.Arbiters.toNat)),(78,V.sl (U.w.letters.map e_api_Letter)),(79,V.i (U.w.letters.length:Nat)),(80,V.i ((i+1:Nat):Int))] (hc (H,i+1,Z1) ⟨h10,hlo,hH.tail⟩ (by simp only; omega)) rfl (sr rfl)
          · have h10 : i = U.w.letters.length := by have := of_decide_eq_false h9; omega
            subst h10
            rw [List.drop_length] at hlo
            obtain ⟨f,hop⟩:=hlo
            clear hc hi h9
            refine aus ?_
            have hC:Has H (cAll iw Z++([(ib,isB (.rows 1 [e_api_Court c]))]++[])):=(show Has H ([(ib,isB (.rows 1 [e_api_Court c]))]++(cAll iw Z++[])) from hH).perm (List.perm_append_comm_assoc _ _ _)
            refine S.im (im_do iw Z ⟨2,a,id,0,0⟩ hop.n hop.l hop.d) hC rfl rfl rfl fun v L' H hT hH=>?_
            obtain ⟨Z1,rfl,hZ1,rfl⟩:=hT
            replace hH:=hH.perm (List.perm_append_comm_assoc _ _ _)
            replace hH:Has H ((ib,isB (.rows 1 [e_api_Court c])) :: (cAll iw Z1++[])):=hH
            obtain ⟨_,_,_,he,hgo⟩:=hop
            obtain ⟨fw,fe⟩:=f
            have hZ1:Z1.w=fw:=hZ1
            subst hZ1
            have he:fe=0∨fe=2:=he
            rcases he with rfl | rfl
            · have hgo : mostS U.w id c.Arbiters.toNat < (w_get Z1.w a id).note.Opened → ∃ n, n ≤ 1000 ∧ Del (InEnd c id) n Z1.w := hgo rfl
              have t1:(!decide ((0:Int)=0))=false:=rfl
              have hW:CloArg H true (.ptr iw 0 0) (fzW Z1.w):=FR.arg (fr_world (R:=[(ib,isB (.rows 1 [e_api_Court c]))]++[]) ((show Has H ([(ib,isB (.rows 1 [e_api_Court c]))]++(cAll iw Z1++[])) from hH).perm (List.perm_append_comm_assoc _ _ _)))
              refine aus ?_
              refine X.callF (m:=9) (ok_wBook Z1.w a id) (X.on_f rfl rfl rfl t1) rfl rfl rfl (.cons hW (.cons (.shut (n:=9) rfl) (.cons (.shut (n:=9) rfl) .nil))) ?_
              have t5:decide ((0:Int)=0)=true:=rfl
              have t6:true=true:=rfl
              refine aus ?_
              refine X.cond rfl (fun h11=>?_) (fun h11=>?_)
              · refine aus ?_
                refine X.call (ok_world hsan) rfl rfl rfl .nil ?_
                refine aus ?_
                exact X.rt
              obtain ⟨n,hn1,hdel⟩:=hgo (by have:=of_decide_eq_false h11; omega)
              clear hgo h11 t1 t5 t6 hW he
              refine aus ?_
              refine X.norm [(3,V.i id),(4,.ptr ib 0 0),(9,.ptr iw 0 0),(21,V.i ((0:Nat):Int))] ?_ rfl (sr rfl)
              refine X.loopR (α:=List Blk×Nat×Nat×WX) (fun x=>⟨[(3,V.i id),(4,.ptr ib 0 0),(9,.ptr iw 0 0),(21,V.i ((x.2.1:Nat):Int))],x.1,0,none,167⟩)
                (fun x=>x.2.1+x.2.2.1≤1000∧Del (InEnd c id) x.2.2.1 x.2.2.2.w∧Has x.1 ((ib,isB (.rows 1 [e_api_Court c])) :: (cAll iw x.2.2.2++[]))) (fun x=>x.2.2.1) ?_ (H,0,n,Z1) ⟨by simp only; omega,hdel,hH⟩
              clear hH hdel H hn1 n
              rintro ⟨H,n,N,Z⟩ ⟨hn,hdel,hH⟩ hc
              simp only at hn hdel hH hc ⊢
              cases N with
              | zero =>
                obtain ⟨hl0,hend⟩:=hdel
                have hW:CloArg H true (.ptr iw 0 0) (fzW Z.w):=FR.arg (fr_world (R:=[(ib,isB (.rows 1 [e_api_Court c]))]++[]) ((show Has H ([(ib,isB (.rows 1 [e_api_Court c]))]++(cAll iw Z++[])) from hH).perm (List.perm_append_comm_assoc _ _ _)))
                refine aus ?_
                refine X.callO (fr_Letters Z.w (by rw [hl0]; simp)) rfl rfl rfl (.cons hW .nil) ?_
                refine aus ?_
                refine X.cond rfl (fun q=>?_) (fun _=>?_)
                · have := of_decide_eq_true q
                  rw [hl0] at this
                  exact absurd this (by decide)
                clear hW hc
                obtain ⟨fnd,hf0,hkn⟩:=hend
                refine aus ?_
                refine X.norm [(3,V.i id),(4,.ptr ib 0 0),(9,.ptr iw 0 0),(22,V.i (-1)),(23,V.i ((0:Nat):Int))] ?_ rfl (sr rfl)
                refine X.loopR (α:=List Blk×Nat×Int) (fun x=>⟨[(3,V.i id),(4,.ptr ib 0 0),(9,.ptr iw 0 0),(22,V.i x.2.2),(23,V.i ((x.2.1:Nat):Int))],x.1,0,none,167⟩)
                  (fun x=>(x.2.1:Int)≤max 0 c.Arbiters∧(x.2.2=fnd∨x.2.2 = -1)∧Has x.1 ((ib,isB (.rows 1 [e_api_Court c])) :: (cAll iw Z++[]))) (fun x=>c.Arbiters.toNat - x.2.1) ?_ (H,0,-1) ⟨by simp only; omega,.inr rfl,hH⟩
                clear hH H
                rintro ⟨H,b,F⟩ ⟨hb,hF,hH⟩ hc
                simp only at hb hF hH hc ⊢
                refine aus ?_
                refine X.opR rfl (S.ld 0 hH rfl rfl rfl rfl rfl) rfl ?_
                refine aus ?_
                refine X.cond rfl (fun h7=>?_) (fun h7=>?_)
                · have h8 : (b : Int) < c.Arbiters := of_decide_eq_true h7
                  have h8':b<c.Arbiters.toNat:=by omega
                  obtain ⟨kn,hk1,hk2,hk3,rk,hk4,hk5⟩:=hkn b h8
                  have hW:CloArg H true (.ptr iw 0 0) (fzW Z.w):=FR.arg (fr_world (R:=[(ib,isB (.rows 1 [e_api_Court c]))]++[]) ((show Has H ([(ib,isB (.rows 1 [e_api_Court c]))]++(cAll iw Z++[])) from hH).perm (List.perm_append_comm_assoc _ _ _)))
                  refine aus ?_
                  refine X.callO (fr_Known Z.w b hk1.1 hk1.2) rfl rfl rfl (.cons hW (.cons (.shut (n:=9) rfl) .nil)) ?_
                  refine aus ?_
                  clear hW h7
                  refine X.norm [(3,V.i id),(4,.ptr ib 0 0),(9,.ptr iw 0 0),(22,V.i F),(23,V.i (b:Nat)),(24,V.b false),(143,V.sl (kn.map e_api_Ruling)),(144,V.i (kn.length:Nat)),(145,V.i ((0:Nat):Int))] ?_ rfl (sr rfl)
                  refine X.loopR (α:=List Blk×Nat×Int×Bool) (fun x=>⟨[(3,V.i id),(4,.ptr ib 0 0),(9,.ptr iw 0 0),(22,V.i x.2.2.1),(23,V.i (b:Nat)),(24,V.b x.2.2.2),(143,V.sl (kn.map e_api_Ruling)),(144,V.i (kn.length:Nat)),(145,V.i ((x.2.1:Nat):Int))],x.1,0,none,167⟩)
                    (fun x=>x.2.1≤kn.length∧(x.2.2.1=fnd∨x.2.2.1 = -1)∧x.2.2.2=((kn.take x.2.1).any fun q=>decide (q.Case=id))∧Has x.1 ((ib,isB (.rows 1 [e_api_Court c])) :: (cAll iw Z++[]))) (fun x=>kn.length - x.2.1) ?_ (H,0,F,false) ⟨Nat.zero_le _,hF,rfl,hH⟩
                  clear hH H hF F
                  rintro ⟨H,j,F,fl⟩ ⟨hj,hF,hfl,hH⟩ hc10
                  simp only at hj hF hfl hH hc10 ⊢
                  refine aus ?_
                  refine X.cond rfl (fun h9=>?_) (fun h9=>?_)
                  · have h10 : j < kn.length := by have := of_decide_eq_true h9; omega
                    have hx:ix kn (j:Int)=some kn[j]:=S.ixn h10
                    have hr:=hk3 _ (List.getElem_mem h10)
                    have hs:((kn.take (j+1)).any fun q=>decide (q.Case=id))=(fl||decide (kn[j].Case=id)):=by rw [List.take_succ_eq_append_getElem h10,List.any_append,hfl]; simp
                    generalize kn[j]=r at hx hr hs
                    refine aus ?_
                    refine S.box hH rfl rfl rfl fun i26 H hH=>?_
                    refine S.w0 0 hH rfl rfl (S.st 0 hH rfl rfl rfl rfl rfl rfl rfl) fun H hH=>?_
                    replace hH:Has H ((i26,isB (.rows 3 [e_api_Ruling r])) :: (ib,isB (.rows 1 [e_api_Court c])) :: (cAll iw Z++[])):=hH
                    refine aus ?_
                    refine X.opR rfl (S.ld 0 hH rfl rfl rfl rfl rfl) rfl ?_
                    refine aus ?_
                    refine X.cond rfl (fun h11=>?_) (fun h11=>?_)
                    · have hne : ¬ r.Case = id := fun q => by
                        have h11:(!decide (r.Case=id))=true:=h11
                        rw [decide_eq_true q] at h11; cases h11
                      rw [decide_eq_false hne,Bool.or_false] at hs
                      refine aus ?_
                      rw [S.w64n h10 (by omega)]
                      exact X.norm [(3,V.i id),(4,.ptr ib 0 0),(9,.ptr iw 0 0),(22,V.i F),(23,V.i (b:Nat)),(24,V.b fl),(143,V.sl (kn.map e_api_Ruling)),(144,V.i (kn.length:Nat)),(145,V.i ((j+1:Nat):Int))] (hc10 (H,j+1,F,fl) ⟨h10,hF,hs.symm,hH.tail⟩ (by simp only; omega)) rfl (sr rfl)
                    · have heq : r.Case = id := by
                        have h11:(!decide (r.Case=id))=false:=h11
                        rcases Decidable.em (r.Case=id) with q | q
                        · exact q
                        · rw [decide_eq_false q] at h11; cases h11
                      have hrf:=hr heq
                      rw [decide_eq_true heq,Bool.or_true] at hs
                      rcases hF with hF | hF
                      · have t1 : decide (0 ≤ F) = true := decide_eq_true (by omega)
                        refine aus ?_
                        refine X.opR (X.on_t rfl rfl rfl t1) (S.ld 0 hH rfl rfl rfl rfl rfl) rfl ?_
                        refine aus ?_
                        refine X.cond rfl (fun q=>?_) (fun _=>?_)
                        · exact absurd q (by show ¬ (!decide (F=r.Finding))=true; rw [decide_eq_true (hF.trans hrf.symm)]; decide)
                        · refine aus ?_
                          refine X.opR rfl (S.ld 0 hH rfl rfl rfl rfl rfl) rfl ?_
                          refine aus ?_
                          rw [S.w64n h10 (by omega)]
                          exact X.norm [(3,V.i id),(4,.ptr ib 0 0),(9,.ptr iw 0 0),(22,V.i r.Finding),(23,V.i (b:Nat)),(24,V.b true),(143,V.sl (kn.map e_api_Ruling)),(144,V.i (kn.length:Nat)),(145,V.i ((j+1:Nat):Int))] (hc10 (H,j+1,r.Finding,true) ⟨h10,.inl hrf,hs.symm,hH.tail⟩ (by simp only; omega)) rfl (sr rfl)
                      · have t1 : decide (0 ≤ F) = false := decide_eq_false (by omega)
                        refine aus ?_
                        refine X.cond rfl (fun q=>?_) (fun _=>?_)
                        · cases q
                        · refine aus ?_
                          refine X.opR rfl (S.ld 0 hH rfl rfl rfl rfl rfl) rfl ?_
                          refine aus ?_
                          rw [S.w64n h10 (by omega)]
                          exact X.norm [(3,V.i id),(4,.ptr ib 0 0),(9,.ptr iw 0 0),(22,V.i r.Finding),(23,V.i (b:Nat)),(24,V.b true),(143,V.sl (kn.map e_api_Ruling)),(144,V.i (kn.length:Nat)),(145,V.i ((j+1:Nat):Int))] (hc10 (H,j+1,r.Finding,true) ⟨h10,.inl hrf,hs.symm,hH.tail⟩ (by simp only; omega)) rfl (sr rfl)
                  · have h10 : j = kn.length := by have := of_decide_eq_false h9; omega
                    have hft:fl=true:=by rw [hfl,h10,List.take_length]; exact List.any_eq_true.2 ⟨rk,hk4,decide_eq_true hk5⟩
                    clear hc10
                    refine aus ?_
                    refine X.cond rfl (fun q=>?_) (fun _=>?_)
                    · exact absurd q (by show ¬ (!fl)=true; rw [hft]; decide)
                    refine aus ?_
                    rw [S.w64n h8' (by omega)]
                    exact X.norm [(3,V.i id),(4,.ptr ib 0 0),(9,.ptr iw 0 0),(22,V.i F),(23,V.i ((b+1:Nat):Int))] (hc (H,b+1,F) ⟨by simp only; omega,hF,hH⟩ (by simp only; omega)) rfl (sr rfl)
                · refine aus ?_
                  refine X.call (ok_world hsan) rfl rfl rfl .nil ?_
                  refine aus ?_
                  exact X.rt
              | succ N =>
                obtain ⟨hcn,hcl,l,r,hl0,w',hdo,hdel⟩:=hdel
                have hW:CloArg H true (.ptr iw 0 0) (fzW Z.w):=FR.arg (fr_world (R:=[(ib,isB (.rows 1 [e_api_Court c]))]++[]) ((show Has H ([(ib,isB (.rows 1 [e_api_Court c]))]++(cAll iw Z++[])) from hH).perm (List.perm_append_comm_assoc _ _ _)))
                refine aus ?_
                refine X.callO (fr_Letters Z.w hcl) rfl rfl rfl (.cons hW .nil) ?_
                refine aus ?_
                refine X.cond rfl (fun _=>?_) (fun q=>?_)
                · have t1 : decide ((1000 : Int) < (n : Nat)) = false := decide_eq_false (by omega)
                  have hx:ix Z.w.letters (0:Int)=some l:=by rw [hl0]; rfl
                  refine aus ?_
                  refine X.callO (fr_Letters Z.w hcl) (X.on_f rfl rfl rfl t1) rfl rfl (.cons hW .nil) ?_
                  refine aus ?_
                  have hC:Has H (cAll iw Z++([(ib,isB (.rows 1 [e_api_Court c]))]++[])):=(show Has H ([(ib,isB (.rows 1 [e_api_Court c]))]++(cAll iw Z++[])) from hH).perm (List.perm_append_comm_assoc _ _ _)
                  refine S.im (im_do iw Z ⟨3,0,0,0,l.ID⟩ hcn hcl hdo) hC (X.on_f rfl rfl rfl t1) rfl rfl fun v L' H hT hH=>?_
                  obtain ⟨Z1,rfl,hZ1,rfl⟩:=hT
                  replace hH:=hH.perm (List.perm_append_comm_assoc _ _ _)
                  replace hH:Has H ((ib,isB (.rows 1 [e_api_Court c])) :: (cAll iw Z1++[])):=hH
                  have hZ1:Z1.w=w':=hZ1
                  rw [← hZ1] at hdel
                  refine aus ?_
                  refine X.cond rfl (fun q=>?_) (fun _=>?_)
                  · cases q
                  refine aus ?_
                  rw [S.w64n (show n<1001 by omega) (by omega)]
                  exact X.norm [(3,V.i id),(4,.ptr ib 0 0),(9,.ptr iw 0 0),(21,V.i ((n+1:Nat):Int))] (hc (H,n+1,N,Z1) ⟨by simp only; omega,hdel,hH⟩ (by simp only; omega)) rfl (sr rfl)
                · have := of_decide_eq_false q
                  rw [hl0] at this
                  simp at this
            · have t1 : (!decide ((2 : Int) = 0)) = true := rfl
              have t5:decide ((2:Int)=0)=false:=rfl
              have t6:true=true:=rfl
              refine aus ?_
              refine X.cond rfl (fun _=>?_) (fun q=>?_)
              · refine aus ?_
                refine X.call (ok_world hsan) rfl rfl rfl .nil ?_
                refine aus ?_
                exact X.rt
              · cases q
    · have t2 : (!decide (arbiter_Check c = 0)) = true := by rw [decide_eq_false h0]; rfl
      refine aus ?_
      refine X.cond rfl (fun _=>?_) (fun q=>?_)
      · refine aus ?_
        refine X.call (ok_world hsan) rfl rfl rfl .nil ?_
        refine aus ?_
        exact X.rt
      · rw [t2] at q; cases q
end Go.Proofs.Ytfoafeaplgmhmaa
