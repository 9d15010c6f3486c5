/- Part of the proof of ArbiterWorlds: walks: methods of the program, step by step, compute the plain ones. Conditions: none. -/
import Derived.Test.YtfoafeaplgmhmaaGreatW4
import Derived.Test.YtfoafeaplgmhmaaGreatHi
import Derived.Test.YtfoafeaplgmhmaaGreatSrt
import Derived.Test.YtfoafeaplgmhmaaGreatWm
set_option linter.unusedVariables false
set_option linter.unusedSimpArgs false
set_option maxRecDepth 4000
namespace Go.Proofs.YtfoafeaplgmhmaaGreat
open Go Go.Am Go.Proofs Go.Mx
theorem ok_wBook (w:wWorld) (a c:Int):Ct Tryz.prog 20 [fzW w,V.i a,V.i c] (e_api_Note (w_get w a c).note):=by
  refine ct_of_gs CC_ok rfl ?_
  refine aus ?_
  refine X.opW rfl rfl rfl rfl ?_
  refine aus ?_
  refine X.call (ok_wseen w a c) rfl rfl rfl (.cons (.shut (n:=9) rfl) (.cons (.shut (n:=9) rfl) (.cons (.shut (n:=9) rfl) .nil))) ?_
  generalize w_get w a c=d
  refine aus ?_
  refine X.op0W rfl rfl rfl ?_
  refine aus ?_
  exact X.rt
theorem ok_wWish (w:wWorld) (a c:Int):Ct Tryz.prog 36 [fzW w,V.i a,V.i c] (.tup [V.i (w_get w a c).wish,V.b (w_get w a c).has]):=by
  refine ct_of_gs CC_ok rfl ?_
  refine aus ?_
  refine X.call (ok_wseen w a c) rfl rfl rfl (.cons (.shut (n:=9) rfl) (.cons (.shut (n:=9) rfl) (.cons (.shut (n:=9) rfl) .nil))) ?_
  generalize w_get w a c=d
  refine aus ?_
  refine X.opW rfl rfl rfl rfl ?_
  refine X.op0W rfl rfl rfl ?_
  refine aus ?_
  refine X.drawc (by kernel_rfl) rfl ?_
  refine aus ?_
  exact X.rt
theorem app_self {α:Type} {l:List α} (h:l.length≤1000000):Mx.app [] l=some l:=by unfold Mx.app; rw [if_pos (by simp; omega)]; rfl
theorem fr_Letters (w:wWorld) (h:w.letters.length≤1000000):FrC Tryz.prog 11 [fzW w] (.sl (w.letters.map e_api_Letter)):=by
  refine frc_of_gs (C:=CC) (es:=8) (nn:=9) CC_ok rfl (fun _=>rfl) ?_
  unfold fzW
  refine aus ?_
  refine X.ownF (nn:=9) (own_slices_Clone_api_Letter (app_self h)) (fun _=>rfl) rfl rfl rfl (.cons (.shut (n:=9) rfl) .nil) rfl fun z=>?_
  refine aus ?_
  exact GS.ret ⟨z,_,rfl,rfl⟩
theorem fr_Sent (w:wWorld) (h:w.sent.length≤1000000):FrC Tryz.prog 15 [fzW w] (.sl (w.sent.map e_api_Letter)):=by
  refine frc_of_gs (C:=CC) (es:=8) (nn:=9) CC_ok rfl (fun _=>rfl) ?_
  unfold fzW
  refine aus ?_
  refine X.ownF (nn:=9) (own_slices_Clone_api_Letter (app_self h)) (fun _=>rfl) rfl rfl rfl (.cons (.shut (n:=9) rfl) .nil) rfl fun z=>?_
  refine aus ?_
  exact GS.ret ⟨z,_,rfl,rfl⟩
theorem fr_Cases (w:wWorld) (h:w.cases.length≤1000000):FrC Tryz.prog 13 [fzW w] (.sl (w.cases.map V.i)):=by
  refine frc_of_gs (C:=CC) (es:=1) (nn:=9) CC_ok rfl (fun _=>rfl) ?_
  unfold fzW
  refine aus ?_
  refine X.ownF (nn:=9) (own_slices_Clone_int (app_self h)) (fun _=>rfl) rfl rfl rfl (.cons (.shut (n:=9) rfl) .nil) rfl fun z=>?_
  refine aus ?_
  exact GS.ret ⟨z,_,rfl,rfl⟩
theorem votesOf_perm {a:Int} {l l':List ((Int×Int)×wDesk)} (h:l.Perm l'):(votesOf a l).Perm (votesOf a l'):=h.flatMap_right _
theorem left_perm : ∀ (l:List Nat) (j:Nat),l.Nodup→j∈l→l.Perm (j :: l.filter (·≠j))
  | [],j,_,h=>by cases h
  | x :: l,j,hn,hj=>by
    rw [List.nodup_cons] at hn
    by_cases e:x=j
    · subst e
      rw [List.filter_cons_of_neg (by simp),List.filter_eq_self.2 fun y hy=>by simp; rintro rfl; exact hn.1 hy]
    · rw [List.filter_cons_of_pos (by simpa using e)]
      have hj':j∈l:=by
        rcases List.mem_cons.1 hj with h | h
        · exact absurd h.symm e
        · exact h
      exact ((left_perm l j hn.2 hj').cons x).trans (List.Perm.swap j x _)
theorem idxs_nodup : ∀ (n i:Nat),(idxs i n).Nodup
  | 0,i=>List.nodup_nil
  | n+1,i=>List.nodup_cons.2 ⟨fun h=>by have:=(idxs_mem n (i+1) i).1 h; omega,idxs_nodup n (i+1)⟩
theorem idxs_get {α:Type} (l:List α):∀ (n i:Nat),i+n=l.length→(idxs i n).filterMap (l[·]?)=l.drop i
  | 0,i,h=>by simp only [idxs,List.filterMap_nil]; rw [List.drop_eq_nil_of_le (by omega)]
  | n+1,i,h=>by
    simp only [idxs]
    rw [List.filterMap_cons_some (List.getElem?_eq_getElem (by omega)),idxs_get l n (i+1) (by omega),← List.drop_eq_getElem_cons (by omega)]
abbrev fks (w:wWorld):List V:=(fdm w).map fun p=>e_place p.1
abbrev fvs (w:wWorld):List V:=(fdm w).map fun p=>fdesk p.2
theorem fr_Known (w:wWorld) (a:Int) {r:List api_Ruling} (hn:(votesOf a w.desks).length≤1000000) (hM:∀ v,v.Perm (votesOf a w.desks)→arbiter_rulings w.court v=some r):FrC Tryz.prog 18 [fzW w,V.i a] (.sl (r.map e_api_Ruling)):=by
  refine frc_of_gs (C:=CC) (es:=3) (nn:=9) CC_ok rfl (fun _=>rfl) ?_
  refine aus ?_
  have h0:Has [] []:=Has.nil
  refine S.pad h0 fun iv H hH=>?_
  unfold fzW
  refine aus ?_
  refine S.box hH rfl rfl rfl fun it H hH=>?_
  refine aus ?_
  have hlen:(fks w).length=w.desks.length:=by simp [fks,fdm]
  rw [hlen] at hH
  refine X.norm [(0,.fptr [fwrow w] 0 0),(1,V.i a),(5,ovlz true iv ([]:List api_Letter)),(12,.ptr it 0 0)] ?_ rfl (sr rfl)
  refine X.loopR (α:=List Blk×List Nat×Option Nat×List api_Letter×Nat) (fun x=>⟨[(0,.fptr [fwrow w] 0 0),(1,V.i a),(5,ovlz true x.2.2.2.2 x.2.2.2.1),(12,.ptr it 0 0)],x.1,0,none,34⟩)
    (fun x=>Has x.1 [(it,isB (.iter (fks w) (fvs w) x.2.1 x.2.2.1)),(x.2.2.2.2,isB (oblz true 8 e_api_Letter x.2.2.2.1))]∧x.2.1.Nodup∧(x.2.2.2.1++votesOf a (x.2.1.filterMap (w.desks[·]?))).Perm (votesOf a w.desks))
    (fun x=>x.2.1.length) ?_ (H,idxs 0 w.desks.length,none,[],iv) ⟨hH,idxs_nodup _ _,by simp only; rw [idxs_get w.desks _ 0 (by omega)]; simp⟩
  clear hH h0
  rintro ⟨H,left,last,v,iv⟩ ⟨hH,hnd,hp⟩ hc
  simp only at hH hnd hp hc ⊢
  refine aus ?_
  refine X.next rfl rfl (hH.is (k:=0) rfl) S.b0 rfl (fun hl=>?_) (fun j kv vv hj hk hv=>?_)
  · subst hl
    refine aus ?_
    refine X.cond rfl (fun h=>?_) (fun _=>?_)
    · cases h
    · have hp' : v.Perm (votesOf a w.desks) := by simpa [votesOf] using hp
      refine aus ?_
      refine X.ownF (nn:=9) (own_arbiter_rulings (hM v hp')) (fun _=>rfl) rfl rfl rfl (.cons (.shut (n:=9) rfl) (.cons (FR.arg (FR.ovl (z:=true) (l:=v) 9 S.b0 (hH.is (k:=1) rfl) fun _=>rfl)) .nil)) rfl fun z=>?_
      refine aus ?_
      refine GS.ret ⟨z,_,rfl,?_⟩
      unfold hget
      simp only
      rw [get_eq,List.getElem?_append_right (Nat.le_refl _)]
      simp
  · have hjl : j < w.desks.length := by
      have:=get_lt hk
      rw [hlen] at this; exact this
    have hk':kv=e_place w.desks[j].1:=by
      rw [get_eq,List.getElem?_map] at hk
      unfold fdm at hk
      rw [List.getElem?_map,List.getElem?_eq_getElem hjl] at hk
      simpa using hk.symm
    have hv':vv=fdesk (some w.desks[j].2):=by
      rw [get_eq,List.getElem?_map] at hv
      unfold fdm at hv
      rw [List.getElem?_map,List.getElem?_eq_getElem hjl] at hv
      simpa using hv.symm
    subst hk'
    subst hv'
    replace hH:=hH.put (k:=0) (B:=.iter (fks w) (fvs w) (left.filter (·≠j)) (some j)) (q:=isB (.iter (fks w) (fvs w) (left.filter (·≠j)) (some j))) rfl rfl
    replace hH:Has _ [(it,isB (.iter (fks w) (fvs w) (left.filter (·≠j)) (some j))),(iv,isB (oblz true 8 e_api_Letter v))]:=hH
    generalize hput H it _=H1 at hH ⊢
    have hlt:(left.filter (·≠j)).length<left.length:=by
      have:=List.length_filter_lt_length_iff_exists (l:=left) (p:=(·≠j))
      exact this.2 ⟨j,hj,by simp⟩
    have hp2:=(left_perm left j hnd hj).filterMap (w.desks[·]?)
    rw [List.filterMap_cons_some (List.getElem?_eq_getElem hjl)] at hp2
    have hp3:=(List.Perm.append_left v (votesOf_perm (a:=a) hp2)).symm.trans hp
    clear hp hp2
    generalize w.desks[j]=p at hk hv hp3 ⊢
    obtain ⟨k0,d0⟩:=p
    have hnd':=hnd.filter (fun x=>decide (x≠j))
    refine aus ?_
    refine X.cond rfl (fun _=>?_) (fun h=>?_)
    · refine aus ?_
      refine X.entry rfl rfl (hH.is (k:=0) rfl) hk hv rfl ?_
      refine aus ?_
      refine S.box hH rfl rfl rfl fun ip H hH=>?_
      refine S.w0 0 hH rfl rfl (S.st 0 hH rfl rfl rfl rfl rfl rfl rfl) fun H hH=>?_
      refine aus ?_
      refine X.opR rfl (S.ld 0 hH rfl rfl rfl rfl rfl) rfl ?_
      replace hH:=hH.tail
      refine aus ?_
      refine X.cond rfl (fun h3=>?_) (fun h3=>?_)
      · have h3' : k0.1 = a := of_decide_eq_true h3
        have e:votesOf a ((k0,d0) :: (left.filter (·≠j)).filterMap (w.desks[·]?))=d0.votes++votesOf a ((left.filter (·≠j)).filterMap (w.desks[·]?)):=by
          unfold votesOf
          rw [List.flatMap_cons]
          simp only [h3',if_true]
        rw [e,← List.append_assoc] at hp3
        have hle:(v++d0.votes).length≤1000000:=by
          have:=hp3.length_eq
          rw [List.length_append] at this
          omega
        have hm:Mx.app v d0.votes=some (v++d0.votes):=by
          unfold Mx.app
          rw [if_pos (by rw [List.length_append] at hle; omega)]
        refine aus ?_
        refine S.appL 1 hH rfl hm (fun _=>rfl) rfl rfl rfl rfl rfl rfl rfl S.b0 rfl rfl rfl fun i2 H hH=>?_
        refine aus ?_
        exact X.norm [(0,.fptr [fwrow w] 0 0),(1,V.i a),(5,ovlz true i2 (v++d0.votes)),(12,.ptr it 0 0)] (hc (H,left.filter (·≠j),some j,v++d0.votes,i2) ⟨hH,hnd',hp3⟩ hlt) rfl (sr rfl)
      · have h3' : ¬ k0.1 = a := of_decide_eq_false h3
        have e:votesOf a ((k0,d0) :: (left.filter (·≠j)).filterMap (w.desks[·]?))=votesOf a ((left.filter (·≠j)).filterMap (w.desks[·]?)):=by
          unfold votesOf
          rw [List.flatMap_cons]
          simp only [h3',if_false,List.nil_append]
        rw [e] at hp3
        refine aus ?_
        exact X.norm [(0,.fptr [fwrow w] 0 0),(1,V.i a),(5,ovlz true iv v),(12,.ptr it 0 0)] (hc (H,left.filter (·≠j),some j,v,iv) ⟨hH,hnd',hp3⟩ hlt) rfl (sr rfl)
    · cases h
theorem im_new (c:api_Court):ImCt CC 6 [e_api_Court c] [] (fun v L' => (arbiter_Check c=0∧∃ iw Z,v = .tup [.ptr iw 0 0,V.i 0]∧Z.w=w_new c∧L'=cAll iw Z)∨(arbiter_Check c≠0∧v = .tup [.lit (.pointer none),V.i (arbiter_Check c)]∧L'=[])):=by
  refine ⟨_,_,rfl,fun R H hH=>?_⟩
  refine aus ?_
  refine S.box hH rfl rfl rfl fun ib H hH=>?_
  replace hH:Has H ((ib,isB (.rows 1 [e_api_Court c])) :: R):=hH
  refine aus ?_
  refine X.opR rfl (S.ld 0 hH rfl rfl rfl rfl rfl) rfl ?_
  refine X.call (ok_arbiter_Check c) rfl rfl rfl (.cons (.shut (n:=9) rfl) .nil) ?_
  refine aus ?_
  refine X.cond rfl (fun h=>?_) (fun h=>?_)
  · have h' : arbiter_Check c ≠ 0 := fun q => by rw [decide_eq_true q] at h; cases h
    refine aus ?_
    exact GS.ret ⟨_,rfl,_,.inr ⟨h',rfl,rfl⟩,hH.tail⟩
  · have h' : arbiter_Check c = 0 := by
      rcases Decidable.em (arbiter_Check c=0) with q | q
      · exact q
      · rw [decide_eq_false q] at h; cases h
    refine aus ?_
    refine X.opR rfl (S.ld 0 hH rfl rfl rfl rfl rfl) rfl ?_
    refine S.mkm hH rfl rfl rfl fun im H hH=>?_
    refine aus ?_
    refine S.pad hH fun il H hH=>S.pad hH fun is H hH=>S.pad hH fun ic H hH=>?_
    refine S.box hH rfl rfl rfl fun iw H hH=>?_
    refine aus ?_
    refine GS.ret ⟨_,rfl,_,.inl ⟨h',iw,⟨c,0,[],true,[],fun _ _=>rfl,[],[],[],il,is,im,ic⟩,rfl,rfl,rfl⟩,?_⟩
    exact Has.pick (A:=[(iw,isB (.rows 6 [wrow ⟨c,0,[],true,[],fun _ _=>rfl,[],[],[],il,is,im,ic⟩])),(ic,isB .dead),(is,isB .dead),(il,isB .dead),(im,isB (.map [] [])),(ib,isB (.rows 1 [e_api_Court c]))]) (R:=R) [0,3,2,1,4] rfl (by decide) hH
theorem has_left {H:List Blk} {A B:Hp} (h:Has H (A++B)):Has H A:=⟨by have:=h.nd; rw [List.map_append,List.nodup_append] at this; exact this.1,fun p hp=>h.bl p (List.mem_append_left _ hp)⟩
theorem has_right {H:List Blk} {A B:Hp} (h:Has H (A++B)):Has H B:=⟨by have:=h.nd; rw [List.map_append,List.nodup_append] at this; exact this.2.1,fun p hp=>h.bl p (List.mem_append_right _ hp)⟩
theorem fr_chair {H:List Blk} {d:wDesk} {i:DI} (h:Has H (dcells d i)):FR H 0 (e_dptr (d.chair.map fun _=>i.ic)) (fchair d.chair):=by
  cases hch:d.chair with
  | none=>exact ⟨1,rfl⟩
  | some c =>
    have h':Has H (dcellsC d c i):=by rw [← dcells_some i hch]; exact h
    exact FR.ptr S.b0 (h'.is (k:=2) rfl) (FR.agg (.cons ⟨1,rfl⟩ (.cons (S.fr_js (z:=true) (l:=c.promises) (j:=[]) 9 (h'.is (k:=3) rfl) fun _=>rfl) (.cons ⟨1,rfl⟩ .nil))))
theorem fr_desk {H:List Blk} {d:wDesk} {i:DI} (h:Has H (dcells d i)):FR H 0 (.ptr i.id 0 0) (fdesk (some d)) :=
  FR.ptr S.b0 (h.is (k:=0) rfl) (FR.agg (.cons ⟨1,rfl⟩ (.cons ⟨1,rfl⟩ (.cons ⟨1,rfl⟩ (.cons ⟨1,rfl⟩ (.cons ⟨1,rfl⟩ (.cons ⟨1,rfl⟩ (.cons (fr_chair h) (.cons (S.fr_js (z:=true) (l:=d.votes) (j:=[]) 9 (h.is (k:=1) rfl) fun _=>rfl) .nil)))))))))
theorem fr_desks {H:List Blk}:∀ {l:List ((Int×Int)×wDesk×DI)},Has H (allD l)→FRL H 0 (l.map fun p=>.ptr p.2.2.id 0 0) (l.map fun p=>fdesk (some p.2.1))
  | [],_=>.nil
  | p :: r,h=>by
    rw [allD_cons] at h
    exact .cons (fr_desk (has_left h)) (fr_desks (has_right h))
theorem fr_keys {H:List Blk}:∀ (l:List ((Int×Int)×wDesk×DI)),FRL H 0 (l.map fun p=>e_place p.1) (l.map fun p=>e_place p.1)
  | []=>.nil
  | p :: r=>.cons ⟨9,rfl⟩ (fr_keys r)
theorem fr_world {iw:Nat} {Z:WX} {H:List Blk} {R:Hp} (hH:Has H (cAll iw Z++R)):FR H 0 (.ptr iw 0 0) (fzW Z.w):=by
  have hA:Has H (cAll iw Z):=has_left hH
  unfold cAll at hA
  have hC:=has_left hA
  have hD:=fr_desks (has_right hA)
  have hM:FR H 0 (.map Z.im) (.fmap ((fdm Z.w).map fun p=>e_place p.1) ((fdm Z.w).map fun p=>fdesk p.2)):=by
    have e1:(fdm Z.w).map (fun p=>e_place p.1)=Z.desks.map fun p=>e_place p.1:=by simp [fdm,WX.w]
    have e2:(fdm Z.w).map (fun p=>fdesk p.2)=Z.desks.map fun p=>fdesk (some p.2.1):=by simp [fdm,WX.w]
    rw [e1,e2]
    have e3:hget H Z.im = .map (Z.desks.map fun p=>e_place p.1) (Z.desks.map fun p=>.ptr p.2.2.id 0 0):=by
      rw [hC.is (k:=4) rfl]
      simp [WX.dm]
    obtain ⟨n1,h1⟩:=(fr_keys (H:=H) Z.desks).mapO
    obtain ⟨n2,h2⟩:=hD.mapO
    exact ⟨max n1 n2+1,X.frzMap e3 (h1 _ (Nat.le_max_left _ _)) (h2 _ (Nat.le_max_right _ _))⟩
  exact FR.ptr S.b0 (hC.is (k:=0) rfl) (FR.agg (.cons ⟨1,rfl⟩ (.cons ⟨1,rfl⟩ (.cons (S.fr_js (z:=Z.nl) (l:=Z.letters) (j:=Z.jk) 9 (hC.is (k:=1) rfl) fun _=>rfl) (.cons (S.fr_js (z:=true) (l:=Z.sent) (j:=[]) 9 (hC.is (k:=2) rfl) fun _=>rfl) (.cons hM (.cons (FR.ovl (z:=true) (l:=Z.cases) 9 S.b0 (hC.is (k:=3) rfl) fun _=>rfl) .nil)))))))
theorem eq_note (a b:api_Note):eqA CC.ty 62 (e_api_Note a) (e_api_Note b)=some (decide (a=b)):=by
  refine (X.eqa rfl rfl (X.eqp rfl rfl rfl (X.eqp rfl rfl rfl (X.eqp rfl rfl rfl (X.eqp rfl rfl rfl X.eqn'))))).trans ?_
  congr 1
  rw [Bool.eq_iff_iff]
  simp only [Bool.and_eq_true,decide_eq_true_eq,beq_iff_eq,and_true]
  constructor
  · intro h
    obtain ⟨a1,a2,a3,a4⟩:=a
    obtain ⟨b1,b2,b3,b4⟩:=b
    simp at h
    simp [h]
  · rintro rfl
    simp
theorem ok_seen {w:wWorld} {y:ref09_World} {a id:Int} (h:∃ s k k',SeenGood w y a id s k k'):Ct Tryz.prog 14 [fzW w,e_ref09_World y,V.i a,V.i id] (V.b true):=by
  obtain ⟨s,k,k',h⟩:=h
  refine ct_of_gs CC_ok rfl ?_
  refine aus ?_
  refine X.opW rfl rfl rfl rfl ?_
  refine aus ?_
  refine X.call (ok_ref09_Sit h.sit) rfl rfl rfl (.cons (.shut (n:=9) rfl) (.cons (.shut (n:=9) rfl) (.cons (.shut (n:=9) rfl) .nil))) ?_
  refine X.opW rfl rfl rfl rfl ?_
  refine X.op0W rfl rfl (H':=[.rows 7 [e_ref09_World y],.rows 11 [e_ref09_Seat s]]) rfl ?_
  refine aus ?_
  refine X.call (ok_wWish w a id) rfl rfl rfl (.cons (.shut (n:=9) rfl) (.cons (.shut (n:=9) rfl) (.cons (.shut (n:=9) rfl) .nil))) ?_
  refine aus ?_
  refine X.drawc (by kernel_rfl) rfl ?_
  refine aus ?_
  refine X.ccall (ok_wBook w a id) rfl rfl rfl rfl (.cons (.shut (n:=9) rfl) (.cons (.shut (n:=9) rfl) (.cons (.shut (n:=9) rfl) .nil))) ?_
  refine aus ?_
  refine X.cop rfl (X.eqlE (eq_note (w_get w a id).note s.Book) rfl rfl) rfl rfl ?_
  have h1:decide ((w_get w a id).note=s.Book)=true:=decide_eq_true h.note
  have h2:decide ((w_get w a id).wish=s.Wish)=true:=decide_eq_true h.wish
  have h3:((w_get w a id).has==s.Wishes)=true:=by rw [h.has]; exact beq_self_eq_true _
  refine aus ?_
  refine X.ccallO (fr_Known w a h.known.1 h.known.2) (X.on_t rfl rfl rfl h3) rfl rfl rfl (.cons (.shut (n:=9) rfl) (.cons (.shut (n:=9) rfl) .nil)) ?_
  refine aus ?_
  refine X.ccall (ok_ref09_Known h.ref) (X.on_t rfl rfl rfl h3) rfl rfl rfl (.cons (.shut (n:=9) rfl) (.cons (.shut (n:=9) rfl) .nil)) ?_
  refine aus ?_
  refine X.ccall (ok_ref09_SameRulings h.same) (X.on_t rfl rfl rfl h3) rfl rfl rfl (.cons (.shut (n:=9) rfl) (.cons (.shut (n:=9) rfl) .nil)) ?_
  refine aus ?_
  exact X.rt
theorem court_w {Z:WX} {w:wWorld} (h:Z.w=w):Z.court=w.court:=by rw [← h]; rfl
theorem letters_w {Z:WX} {w:wWorld} (h:Z.w=w):Z.letters=w.letters:=by rw [← h]; rfl
theorem ok_world (h:∃ s1 f,SanGood s1 f):Ct Tryz.prog 5 [] (V.b true):=by
  obtain ⟨s1,f,h⟩:=h
  refine ct_of_gs CC_ok rfl ?_
  refine aus ?_
  refine S.im (R:=[]) (im_new ⟨3⟩) (show Has [] ([]++[]) from Has.nil) rfl rfl rfl fun v L' H hT hH=>?_
  rcases hT with ⟨_,iw,Z,rfl,hZ,rfl⟩ | ⟨q,_⟩
  case inr=>exact absurd (by decide:arbiter_Check ⟨3⟩=0) q
  have ht:(!decide ((0:Int)=0))=false:=rfl
  refine aus ?_
  refine X.cond rfl (fun q=>?_) (fun _=>?_)
  · cases q
  refine aus ?_
  refine S.im (im_do iw Z ⟨1,0,4,7,0⟩ (by rw [court_w hZ]; decide) (by rw [letters_w hZ]; decide) (by rw [hZ]; exact h.a1)) hH rfl rfl rfl fun v L' H hT hH=>?_
  obtain ⟨Z1,rfl,hZ1,rfl⟩:=hT
  refine aus ?_
  refine S.im (im_do iw Z1 ⟨2,0,4,0,0⟩ (by rw [court_w hZ1,h.c1]; decide) (by rw [letters_w hZ1]; exact h.l1) (by rw [hZ1]; exact h.a2)) hH rfl rfl rfl fun v L' H hT hH=>?_
  obtain ⟨Z2,rfl,hZ2,rfl⟩:=hT
  refine aus ?_
  refine X.callO (fr_Letters Z2.w (by rw [hZ2,h.first]; decide)) rfl rfl rfl (.cons (FR.arg (fr_world hH)) .nil) ?_
  have hl3:Z2.w.letters.length=3:=by rw [hZ2]; exact h.first
  refine aus ?_
  refine GS.bldF rfl rfl rfl rfl ?_
  refine aus ?_
  refine X.norm [(1,.ptr iw 0 0),(3,V.i 0),(4,V.i 0),(5,V.i (Z2.w.letters.length:Nat)),(29,.sl (sanN.map V.i)),(30,V.i 9),(31,V.i ((0:Nat):Int))] ?_ rfl (sr rfl)
  refine X.loopR (α:=List Blk×Nat×WX) (fun x=>⟨[(1,.ptr iw 0 0),(3,V.i 0),(4,V.i 0),(5,V.i (Z2.w.letters.length:Nat)),(29,.sl (sanN.map V.i)),(30,V.i 9),(31,V.i ((x.2.1:Nat):Int))],x.1,0,none,83⟩)
    (fun x=>x.2.1≤9∧x.2.2.w=f x.2.1∧Has x.1 (cAll iw x.2.2++[])) (fun x=>9 - x.2.1) ?_ (H,0,Z2) ⟨Nat.zero_le _,hZ2,hH⟩
  clear hH hZ2
  rintro ⟨H,j,Y⟩ ⟨hj,hY,hH⟩ hc
  simp only at hj hY hH hc ⊢
  refine aus ?_
  refine X.cond rfl (fun h4=>?_) (fun h4=>?_)
  · have h5 : j < 9 := by have := of_decide_eq_true h4; omega
    have hx:ix sanN (j:Int)=some (sanN[j]'h5):=S.ixn h5
    have hs:=h.step j h5
    generalize sanN[j]'h5=t at hx hs
    refine aus ?_
    refine S.im (im_do iw Y (dl t) (by rw [court_w hY,h.cf j hj]; decide) (by rw [letters_w hY]; exact h.lf j hj) (by rw [hY]; exact hs)) hH rfl rfl rfl fun v L' H hT hH=>?_
    obtain ⟨Y1,rfl,hY1,rfl⟩:=hT
    refine aus ?_
    refine X.cond rfl (fun q=>?_) (fun _=>?_)
    · cases q
    · refine aus ?_
      rw [S.w64n h5 (by omega)]
      exact X.norm [(1,.ptr iw 0 0),(3,V.i 0),(4,V.i 0),(5,V.i (Z2.w.letters.length:Nat)),(29,.sl (sanN.map V.i)),(30,V.i 9),(31,V.i ((j+1:Nat):Int))] (hc (H,j+1,Y1) ⟨h5,hY1,hH⟩ (by simp only; omega)) rfl (sr rfl)
  · have h5 : j = 9 := by have := of_decide_eq_false h4; omega
    subst h5
    have hk0:KnownIs Y.w 0 [⟨4,1,7⟩]:=by rw [hY]; exact h.k0
    have hk1:KnownIs Y.w 1 []:=by rw [hY]; exact h.k1
    have hb:(w_get Y.w 1 4).note=⟨1,1,7,0⟩:=by rw [hY]; exact h.book
    have hs:Y.w.sent.length=15:=by rw [hY]; exact h.sent
    have t1:decide ((0:Int)=0)=true:=rfl
    have t2:decide (((Z2.w.letters.length:Nat):Int)=3)=true:=by rw [hl3]; rfl
    have t3:decide (((Y.w.sent.length:Nat):Int)=15)=true:=by rw [hs]; rfl
    refine aus ?_
    refine X.callO (fr_Known Y.w 0 hk0.1 hk0.2) rfl rfl rfl (.cons (FR.arg (fr_world hH)) (.cons (.shut (n:=9) rfl) .nil)) ?_
    refine aus ?_
    have hW:CloArg H true (.ptr iw 0 0) (fzW Y.w):=FR.arg (fr_world hH)
    refine X.callO (fr_Sent Y.w (by rw [hs]; decide)) (X.on_t rfl rfl rfl t2) rfl rfl (.cons hW .nil) ?_
    have t4:decide (((([⟨4,1,7⟩]:List api_Ruling).length:Nat):Int)=1)=true:=rfl
    have hix:ix ([⟨4,1,7⟩]:List api_Ruling) 0=some ⟨4,1,7⟩:=rfl
    have t5:true=true:=rfl
    refine aus ?_
    refine X.callO (fr_Known Y.w 1 hk1.1 hk1.2) (X.on_t rfl rfl rfl t5) rfl rfl (.cons hW (.cons (.shut (n:=9) rfl) .nil)) ?_
    have t6:decide (((([]:List api_Ruling).length:Nat):Int)=0)=true:=rfl
    refine aus ?_
    refine X.callF (m:=9) (ok_wBook Y.w 1 4) (X.on_t rfl rfl rfl t6) rfl rfl rfl (.cons hW (.cons (.shut (n:=9) rfl) (.cons (.shut (n:=9) rfl) .nil))) ?_
    refine aus ?_
    refine X.opR (X.on_t rfl rfl rfl t6) (X.eqlE (eq_note (w_get Y.w 1 4).note ⟨1,1,7,0⟩) rfl rfl) rfl ?_
    have t7:decide ((w_get Y.w 1 4).note=⟨1,1,7,0⟩)=true:=decide_eq_true hb
    refine aus ?_
    rw [t7]
    exact X.rt
theorem perm_last {α:Type} (A:List α) (x:α):(A++[x]).Perm (x :: (A++[])):=by rw [List.append_nil]; exact List.perm_append_singleton x A
theorem ok_ArbiterWorlds {c:api_Court} {acts:List api_Act} {who id:Int} (h:WorldsGood c acts who id):Ct Tryz.prog 3 [e_api_Court c,V.sl (acts.map e_api_Act),V.i who,V.i id] (V.b true):=by
  obtain ⟨hsan,h⟩:=h
  refine ct_of_gs CC_ok rfl ?_
  refine aus ?_
  refine S.box (show Has [] [] from Has.nil) rfl rfl rfl fun ib H hH=>?_
  refine aus ?_
  refine X.cond rfl (fun h1=>?_) (fun h1=>?_)
  · refine aus ?_
    refine X.call (ok_world hsan) rfl rfl rfl .nil ?_
    refine aus ?_
    exact X.rt
  · have hl : acts.length ≤ 60 := by have := of_decide_eq_false h1; omega
    obtain ⟨hc,h⟩:=h hl
    refine aus ?_
    refine X.opR rfl (S.ld 0 hH rfl rfl rfl rfl rfl) rfl ?_
    refine S.im (R:=[(ib,isB (.rows 1 [e_api_Court c]))]) (im_new c) (show Has _ ([]++[(ib,isB (.rows 1 [e_api_Court c]))]) from hH) rfl rfl rfl fun v L' H hT hH=>?_
    rcases hT with ⟨h0,iw,Z,rfl,hZ,rfl⟩ | ⟨h0,rfl,rfl⟩
    · obtain ⟨hn, hg⟩ := h h0
      replace hH:=hH.perm (perm_last _ _)
      refine aus ?_
      refine X.opR rfl (S.ld 0 hH rfl rfl rfl rfl rfl) rfl ?_
      refine X.call (ok_ref09_New c) rfl rfl rfl (.cons (.shut (n:=9) rfl) .nil) ?_
      refine S.box hH rfl rfl rfl fun i11 H hH=>?_
      refine S.w0 0 hH rfl rfl (S.st 0 hH rfl rfl rfl rfl rfl rfl rfl) fun H hH=>?_
      replace hH:Has H ((i11,isB (.rows 8 [e_ref09_Made (ref09_New c)])) :: (ib,isB (.rows 1 [e_api_Court c])) :: (cAll iw Z++[])):=hH
      generalize hY:ref09_New c=Y at hc hg hH
      refine aus ?_
      refine X.opR rfl (S.ld 0 hH rfl rfl rfl rfl rfl) rfl ?_
      have t1:(!decide ((0:Int)=Y.E))=false:=by rw [← hc,h0]; rfl
      have t2:(!decide ((0:Int)=0))=false:=rfl
      refine aus ?_
      refine X.cond rfl (fun q=>?_) (fun _=>?_)
      · cases q
      refine aus ?_
      refine X.cond rfl (fun q=>?_) (fun _=>?_)
      · cases q
      refine aus ?_
      refine X.opR rfl (S.ld 0 hH rfl rfl rfl rfl rfl) rfl ?_
      refine S.box hH rfl rfl rfl fun i12 H hH=>?_
      refine S.w0 0 hH rfl rfl (S.st 0 hH rfl rfl rfl rfl rfl rfl rfl) fun H hH=>?_
      replace hH:Has H ((i12,isB (.rows 7 [e_ref09_World Y.W])) :: (cAll iw Z++[])):=Has.pick (A:=[(i12,isB (.rows 7 [e_ref09_World Y.W])),(i11,isB (.rows 8 [e_ref09_Made Y])),(ib,isB (.rows 1 [e_api_Court c]))]) (R:=cAll iw Z++[]) [0] rfl (by decide) hH
      refine aus ?_
      rw [← hZ] at hg
      generalize Y.W=y0 at hg hH
      clear hY hc t1
      refine X.norm [(2,V.i who),(3,V.i id),(9,.ptr iw 0 0),(12,.ptr i12 0 0),(44,V.sl (acts.map e_api_Act)),(45,V.i (acts.length:Nat)),(46,V.i ((0:Nat):Int))] ?_ rfl (sr rfl)
      refine X.loopR (α:=List Blk×Nat×WX×ref09_World) (fun x=>⟨[(2,V.i who),(3,V.i id),(9,.ptr iw 0 0),(12,.ptr i12 0 0),(44,V.sl (acts.map e_api_Act)),(45,V.i (acts.length:Nat)),(46,V.i ((x.2.1:Nat):Int))],x.1,0,none,105⟩)
        (fun x=>x.2.1≤acts.length∧ActsGood c who id (acts.drop x.2.1) x.2.2.1.w x.2.2.2∧Has x.1 ((i12,isB (.rows 7 [e_ref09_World x.2.2.2])) :: (cAll iw x.2.2.1++[]))) (fun x=>acts.length - x.2.1) ?_ (H,0,Z,y0) ⟨Nat.zero_le _,hg,hH⟩
      clear hH hg hZ t2
      rintro ⟨H,j,U,y⟩ ⟨hj,hg,hH⟩ hc
      simp only at hj hg hH hc ⊢
      refine aus ?_
      refine X.cond rfl (fun h4=>?_) (fun h4=>?_)
      · have h5 : j < acts.length := by have := of_decide_eq_true h4; omega
        have hx:ix acts (j:Int)=some acts[j]:=S.ixn h5
        rw [List.drop_eq_getElem_cons h5] at hg
        generalize acts[j]=a at hx hg
        obtain ⟨hcu,f,g,ag,hg⟩:=hg
        have hcu':U.court=c:=hcu
        refine aus ?_
        refine S.box hH rfl rfl rfl fun i14 H hH=>?_
        refine S.w0 0 hH rfl rfl (S.st 0 hH rfl rfl rfl rfl rfl rfl rfl) fun H hH=>?_
        replace hH:Has H ((i14,isB (.rows 5 [e_api_Act a])) :: (i12,isB (.rows 7 [e_ref09_World y])) :: (cAll iw U++[])):=hH
        refine aus ?_
        refine X.opR rfl (S.ld 0 hH rfl rfl rfl rfl rfl) rfl ?_
        have hC:Has H (cAll iw U++([(i14,isB (.rows 5 [e_api_Act a])),(i12,isB (.rows 7 [e_ref09_World y]))]++[])):=(show Has H ([(i14,isB (.rows 5 [e_api_Act a])),(i12,isB (.rows 7 [e_ref09_World y]))]++(cAll iw U++[])) from hH).perm (List.perm_append_comm_assoc _ _ _)
        refine S.im (im_do iw U a (by rw [hcu']; exact hn) ag.lw ag.dw) hC rfl rfl rfl fun v L' H hT hH=>?_
        obtain ⟨U1,rfl,hU1,rfl⟩:=hT
        replace hH:=hH.perm (List.perm_append_comm_assoc _ _ _)
        replace hH:Has H ((i14,isB (.rows 5 [e_api_Act a])) :: (i12,isB (.rows 7 [e_ref09_World y])) :: (cAll iw U1++[])):=hH
        refine aus ?_
        refine X.opR rfl (S.ld 1 hH rfl rfl rfl rfl rfl) rfl ?_
        refine aus ?_
        refine X.opR rfl (S.ld 0 hH rfl rfl rfl rfl rfl) rfl ?_
        refine X.call (ok_ref09_Do ag.dy) rfl rfl rfl (.cons (.shut (n:=9) rfl) (.cons (.shut (n:=9) rfl) .nil)) ?_
        refine aus ?_
        refine S.w0 1 hH rfl rfl (S.st 1 hH rfl rfl rfl rfl rfl rfl rfl) fun H hH=>?_
        replace hH:Has H ((i14,isB (.rows 5 [e_api_Act a])) :: (i12,isB (.rows 7 [e_ref09_World g.1])) :: (cAll iw U1++[])):=hH
        have hW:CloArg H true (.ptr iw 0 0) (fzW U1.w):=FR.arg (fr_world (R:=[(i14,isB (.rows 5 [e_api_Act a])),(i12,isB (.rows 7 [e_ref09_World g.1]))]++[]) ((show Has H ([(i14,isB (.rows 5 [e_api_Act a])),(i12,isB (.rows 7 [e_ref09_World g.1]))]++(cAll iw U1++[])) from hH).perm (List.perm_append_comm_assoc _ _ _)))
        rw [hU1] at hW
        refine aus ?_
        refine X.drawc (by kernel_rfl) rfl ?_
        have t1:(!decide (f.2=g.2))=false:=by rw [ag.e,decide_eq_true rfl]; rfl
        have t2:(!true)=false:=rfl
        refine aus ?_
        refine X.ccallO (fr_Letters f.1 ag.l1) (X.on_f rfl rfl rfl t1) rfl rfl rfl (.cons hW .nil) ?_
        refine aus ?_
        refine X.cop (X.on_f rfl rfl rfl t1) (S.ld 1 hH rfl rfl rfl rfl rfl) rfl rfl ?_
        refine X.ccall (ok_ref09_SameLetters ag.letters) (X.on_f rfl rfl rfl t1) rfl rfl rfl (.cons (.shut (n:=9) rfl) (.cons (.shut (n:=9) rfl) .nil)) ?_
        refine aus ?_
        refine X.ccallO (fr_Cases f.1 ag.l2) (X.on_f rfl rfl rfl t2) rfl rfl rfl (.cons hW .nil) ?_
        refine aus ?_
        refine X.cop (X.on_f rfl rfl rfl t2) (S.ld 1 hH rfl rfl rfl rfl rfl) rfl rfl ?_
        refine X.ccall (ok_ref09_SameInts ag.cases) (X.on_f rfl rfl rfl t2) rfl rfl rfl (.cons (.shut (n:=9) rfl) (.cons (.shut (n:=9) rfl) .nil)) ?_
        refine aus ?_
        refine X.cop (X.on_f rfl rfl rfl t2) (S.ld 1 hH rfl rfl rfl rfl rfl) rfl rfl ?_
        refine aus ?_
        refine X.ccallF (m:=9) (ok_seen ag.seen) (X.on_f rfl rfl rfl t2) rfl rfl rfl rfl (.cons hW (.cons (.shut (n:=9) rfl) (.cons (.shut (n:=9) rfl) (.cons (.shut (n:=9) rfl) .nil)))) ?_
        refine aus ?_
        refine X.cop (X.on_f rfl rfl rfl t2) (S.ld 1 hH rfl rfl rfl rfl rfl) rfl rfl ?_
        refine aus ?_
        refine X.cop (X.on_f rfl rfl rfl t2) (S.ld 0 hH rfl rfl rfl rfl rfl) rfl rfl ?_
        refine aus ?_
        refine X.cop (X.on_f rfl rfl rfl t2) (S.ld 0 hH rfl rfl rfl rfl rfl) rfl rfl ?_
        refine X.ccallF (m:=9) (ok_seen ag.seen2) (X.on_f rfl rfl rfl t2) rfl rfl rfl rfl (.cons hW (.cons (.shut (n:=9) rfl) (.cons (.shut (n:=9) rfl) (.cons (.shut (n:=9) rfl) .nil)))) ?_
        refine aus ?_
        refine X.cond rfl (fun q=>?_) (fun _=>?_)
        · cases q
        refine aus ?_
        rw [S.w64n h5 (by omega)]
        rw [← hU1] at hg
        exact X.norm [(2,V.i who),(3,V.i id),(9,.ptr iw 0 0),(12,.ptr i12 0 0),(44,V.sl (acts.map e_api_Act)),(45,V.i (acts.length:Nat)),(46,V.i ((j+1:Nat):Int))] (hc (H,j+1,U1,g.1) ⟨h5,hg,hH.tail⟩ (by simp only; omega)) rfl (sr rfl)
      · have h5 : j = acts.length := by have := of_decide_eq_false h4; omega
        subst h5
        rw [List.drop_length] at hg
        obtain ⟨hs,hsl⟩:=hg
        have hW:CloArg H true (.ptr iw 0 0) (fzW U.w):=FR.arg (fr_world (R:=[(i12,isB (.rows 7 [e_ref09_World y]))]++[]) ((show Has H ([(i12,isB (.rows 7 [e_ref09_World y]))]++(cAll iw U++[])) from hH).perm (List.perm_append_comm_assoc _ _ _)))
        have tt:true=true:=rfl
        refine aus ?_
        refine X.drawc (by kernel_rfl) rfl ?_
        refine X.ccall (ok_world hsan) rfl rfl rfl rfl .nil ?_
        refine aus ?_
        refine X.ccallO (fr_Sent U.w hsl) (X.on_t rfl rfl rfl tt) rfl rfl rfl (.cons hW .nil) ?_
        refine aus ?_
        refine X.cop (X.on_t rfl rfl rfl tt) (S.ld 0 hH rfl rfl rfl rfl rfl) rfl rfl ?_
        refine X.ccall (ok_ref09_SameLetters hs) (X.on_t rfl rfl rfl tt) rfl rfl rfl (.cons (.shut (n:=9) rfl) (.cons (.shut (n:=9) rfl) .nil)) ?_
        refine aus ?_
        exact X.rt
    · refine aus ?_
      refine X.opR rfl (S.ld 0 hH rfl rfl rfl rfl rfl) rfl ?_
      refine X.call (ok_ref09_New c) rfl rfl rfl (.cons (.shut (n:=9) rfl) .nil) ?_
      refine S.box hH rfl rfl rfl fun i11 H hH=>?_
      refine S.w0 0 hH rfl rfl (S.st 0 hH rfl rfl rfl rfl rfl rfl rfl) fun H hH=>?_
      replace hH:Has H ((i11,isB (.rows 8 [e_ref09_Made (ref09_New c)])) :: ([]++[(ib,isB (.rows 1 [e_api_Court c]))])):=hH
      generalize hY:ref09_New c=Y at hc hH
      refine aus ?_
      refine X.opR rfl (S.ld 0 hH rfl rfl rfl rfl rfl) rfl ?_
      have t1:(!decide (arbiter_Check c=Y.E))=false:=by rw [hc,decide_eq_true rfl]; rfl
      have t2:(!decide (arbiter_Check c=0))=true:=by rw [decide_eq_false h0]; rfl
      refine aus ?_
      refine X.cond rfl (fun q=>?_) (fun _=>?_)
      · rw [t2] at q; cases q
      refine aus ?_
      refine X.cond rfl (fun _=>?_) (fun q=>?_)
      · refine aus ?_
        refine X.call (ok_world hsan) rfl rfl rfl .nil ?_
        refine aus ?_
        exact X.rt
      · cases q
end Go.Proofs.YtfoafeaplgmhmaaGreat
