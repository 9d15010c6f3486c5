/- Part of the proof of ArbiterWorldsAreLawful: walks: methods of the program, step by step, compute the plain ones. Conditions: none. -/
import Derived.Test.YtfoafeaplgmhmaaGreatW4
import Derived.Test.YtfoafeaplgmhmaaGreatHi
import Derived.Test.YtfoafeaplgmhmaaGreatSrt
import Derived.Test.YtfoafeaplgmhmaaGreatWm
set_option linter.unusedVariables false
set_option linter.unusedSimpArgs false
set_option maxRecDepth 4000
namespace Go.Proofs.YtfoafeaplgmhmaaGreat
open Go Go.Am Go.Proofs Go.Mx
theorem zJm (w:zR) (a c:Int):Ct Tryz.prog 20 [fzW w,V.i a,V.i c] (zB4 (ZM w a c).note):=by
  refine zX Zh rfl ?_
  refine aus ?_
  refine X.opW rfl rfl rfl rfl ?_
  refine aus ?_
  refine X.call (zNg w a c) rfl rfl rfl (.cons (.shut (n:=9) rfl) (.cons (.shut (n:=9) rfl) (.cons (.shut (n:=9) rfl) .nil))) ?_
  generalize ZM w a c=d
  refine aus ?_
  refine X.op0W rfl rfl rfl ?_
  refine aus ?_
  exact X.rt
theorem zHM {α:Type} {l:List α} (h:l.length≤1000000):Mx.app [] l=some l:=by unfold Mx.app; rw [if_pos (by simp; omega)]; rfl
theorem zLI (w:zR) (h:w.letters.length≤1000000):FrC Tryz.prog 11 [fzW w] (.sl (w.letters.map zB)):=by
  refine zDH (C:=CC) (es:=8) (nn:=9) Zh rfl (fun _=>rfl) ?_
  unfold fzW
  refine aus ?_
  refine X.ownF (nn:=9) (YQ (zHM h)) (fun _=>rfl) rfl rfl rfl (.cons (.shut (n:=9) rfl) .nil) rfl fun z=>?_
  refine aus ?_
  exact GS.ret ⟨z,_,rfl,rfl⟩
theorem zL4 (w:zR) (h:w.sent.length≤1000000):FrC Tryz.prog 15 [fzW w] (.sl (w.sent.map zB)):=by
  refine zDH (C:=CC) (es:=8) (nn:=9) Zh rfl (fun _=>rfl) ?_
  unfold fzW
  refine aus ?_
  refine X.ownF (nn:=9) (YQ (zHM h)) (fun _=>rfl) rfl rfl rfl (.cons (.shut (n:=9) rfl) .nil) rfl fun z=>?_
  refine aus ?_
  exact GS.ret ⟨z,_,rfl,rfl⟩
theorem zOH (w:zR) (h:w.cases.length≤1000000):FrC Tryz.prog 13 [fzW w] (.sl (w.cases.map V.i)):=by
  refine zDH (C:=CC) (es:=1) (nn:=9) Zh rfl (fun _=>rfl) ?_
  unfold fzW
  refine aus ?_
  refine X.ownF (nn:=9) (zCe (zHM h)) (fun _=>rfl) rfl rfl rfl (.cons (.shut (n:=9) rfl) .nil) rfl fun z=>?_
  refine aus ?_
  exact GS.ret ⟨z,_,rfl,rfl⟩
theorem zIX {a:Int} {l l':List ((Int×Int)×zV)} (h:l.Perm l'):(jS a l).Perm (jS a l'):=h.flatMap_right _
theorem zIA : ∀ (l:List Nat) (j:Nat),l.Nodup→j∈l→l.Perm (j :: l.filter (·≠j))
  | [],j,_,h=>by cases h
  | x :: l,j,hn,hj=>by
    rw [List.nodup_cons] at hn
    by_cases e:x=j
    · subst e
      rw [List.filter_cons_of_neg (by simp),List.filter_eq_self.2 fun y hy=>by simp; rintro rfl; exact hn.1 hy]
    · rw [List.filter_cons_of_pos (by simpa using e)]
      have hj':j∈l:=by
        rcases List.mem_cons.1 hj with h | h
        · exact absurd h.symm e
        · exact h
      exact ((zIA l j hn.2 hj').cons x).trans (List.Perm.swap j x _)
theorem zGv : ∀ (n i:Nat),(idxs i n).Nodup
  | 0,i=>List.nodup_nil
  | n+1,i=>List.nodup_cons.2 ⟨fun h=>by have:=(Qb n (i+1) i).1 h; omega,zGv n (i+1)⟩
theorem zJ3 {α:Type} (l:List α):∀ (n i:Nat),i+n=l.length→(idxs i n).filterMap (l[·]?)=l.drop i
  | 0,i,h=>by simp only [idxs,List.filterMap_nil]; rw [List.drop_eq_nil_of_le (by omega)]
  | n+1,i,h=>by
    simp only [idxs]
    rw [List.filterMap_cons_some (List.getElem?_eq_getElem (by omega)),zJ3 l n (i+1) (by omega),← List.drop_eq_getElem_cons (by omega)]
abbrev fks (w:zR):List V:=(fdm w).map fun p=>JB p.1
abbrev fvs (w:zR):List V:=(fdm w).map fun p=>fdesk p.2
theorem zG5 (w:zR) (a:Int) {r:List zF} (hn:(jS a w.desks).length≤1000000) (hM:∀ v,v.Perm (jS a w.desks)→jY w.court v=some r):FrC Tryz.prog 18 [fzW w,V.i a] (.sl (r.map zJ)):=by
  refine zDH (C:=CC) (es:=3) (nn:=9) Zh rfl (fun _=>rfl) ?_
  refine aus ?_
  have h0:Has [] []:=Has.nil
  refine S.pad h0 fun iv H hH=>?_
  unfold fzW
  refine aus ?_
  refine S.box hH rfl rfl rfl fun it H hH=>?_
  refine aus ?_
  have hlen:(fks w).length=w.desks.length:=by simp [fks,fdm]
  rw [hlen] at hH
  refine X.norm [(0,.fptr [fwrow w] 0 0),(1,V.i a),(5,ovlz true iv ([]:List zA)),(12,.ptr it 0 0)] ?_ rfl (sr rfl)
  refine X.zDb (α:=List Blk×List Nat×Option Nat×List zA×Nat) (fun x=>⟨[(0,.fptr [fwrow w] 0 0),(1,V.i a),(5,ovlz true x.2.2.2.2 x.2.2.2.1),(12,.ptr it 0 0)],x.1,0,none,34⟩)
    (fun x=>Has x.1 [(it,isB (.iter (fks w) (fvs w) x.2.1 x.2.2.1)),(x.2.2.2.2,isB (oblz true 8 zB x.2.2.2.1))]∧x.2.1.Nodup∧(x.2.2.2.1++jS a (x.2.1.filterMap (w.desks[·]?))).Perm (jS a w.desks))
    (fun x=>x.2.1.length) ?_ (H,idxs 0 w.desks.length,none,[],iv) ⟨hH,zGv _ _,by simp only; rw [zJ3 w.desks _ 0 (by omega)]; simp⟩
  clear hH h0
  rintro ⟨H,left,last,v,iv⟩ ⟨hH,hnd,hp⟩ hc
  simp only at hH hnd hp hc ⊢
  refine aus ?_
  refine X.next rfl rfl (hH.is (k:=0) rfl) S.b0 rfl (fun hl=>?_) (fun j kv vv hj hk hv=>?_)
  · subst hl
    refine aus ?_
    refine X.cond rfl (fun h=>?_) (fun _=>?_)
    · cases h
    · have hp' : v.Perm (jS a w.desks) := by simpa [jS] using hp
      refine aus ?_
      refine X.ownF (nn:=9) (zDN (hM v hp')) (fun _=>rfl) rfl rfl rfl (.cons (.shut (n:=9) rfl) (.cons (FR.arg (FR.ovl (z:=true) (l:=v) 9 S.b0 (hH.is (k:=1) rfl) fun _=>rfl)) .nil)) rfl fun z=>?_
      refine aus ?_
      refine GS.ret ⟨z,_,rfl,?_⟩
      unfold hget
      simp only
      rw [zS,List.getElem?_append_right (Nat.le_refl _)]
      simp
  · have hjl : j < w.desks.length := by
      have:=Je hk
      rw [hlen] at this; exact this
    have hk':kv=JB w.desks[j].1:=by
      rw [zS,List.getElem?_map] at hk
      unfold fdm at hk
      rw [List.getElem?_map,List.getElem?_eq_getElem hjl] at hk
      simpa using hk.symm
    have hv':vv=fdesk (some w.desks[j].2):=by
      rw [zS,List.getElem?_map] at hv
      unfold fdm at hv
      rw [List.getElem?_map,List.getElem?_eq_getElem hjl] at hv
      simpa using hv.symm
    subst hk'
    subst hv'
    replace hH:=hH.put (k:=0) (B:=.iter (fks w) (fvs w) (left.filter (·≠j)) (some j)) (q:=isB (.iter (fks w) (fvs w) (left.filter (·≠j)) (some j))) rfl rfl
    replace hH:Has _ [(it,isB (.iter (fks w) (fvs w) (left.filter (·≠j)) (some j))),(iv,isB (oblz true 8 zB v))]:=hH
    generalize hput H it _=H1 at hH ⊢
    have hlt:(left.filter (·≠j)).length<left.length:=by
      have:=List.length_filter_lt_length_iff_exists (l:=left) (p:=(·≠j))
      exact this.2 ⟨j,hj,by simp⟩
    have hp2:=(zIA left j hnd hj).filterMap (w.desks[·]?)
    rw [List.filterMap_cons_some (List.getElem?_eq_getElem hjl)] at hp2
    have hp3:=(List.Perm.append_left v (zIX (a:=a) hp2)).symm.trans hp
    clear hp hp2
    generalize w.desks[j]=p at hk hv hp3 ⊢
    obtain ⟨k0,d0⟩:=p
    have hnd':=hnd.filter (fun x=>decide (x≠j))
    refine aus ?_
    refine X.cond rfl (fun _=>?_) (fun h=>?_)
    · refine aus ?_
      refine X.entry rfl rfl (hH.is (k:=0) rfl) hk hv rfl ?_
      refine aus ?_
      refine S.box hH rfl rfl rfl fun ip H hH=>?_
      refine S.w0 0 hH rfl rfl (S.st 0 hH rfl rfl rfl rfl rfl rfl rfl) fun H hH=>?_
      refine aus ?_
      refine X.opR rfl (S.ld 0 hH rfl rfl rfl rfl rfl) rfl ?_
      replace hH:=hH.tail
      refine aus ?_
      refine X.cond rfl (fun h3=>?_) (fun h3=>?_)
      · have h3' : k0.1 = a := of_decide_eq_true h3
        have e:jS a ((k0,d0) :: (left.filter (·≠j)).filterMap (w.desks[·]?))=d0.votes++jS a ((left.filter (·≠j)).filterMap (w.desks[·]?)):=by
          unfold jS
          rw [List.flatMap_cons]
          simp only [h3',if_true]
        rw [e,← List.append_assoc] at hp3
        have hle:(v++d0.votes).length≤1000000:=by
          have:=hp3.length_eq
          rw [List.length_append] at this
          omega
        have hm:Mx.app v d0.votes=some (v++d0.votes):=by
          unfold Mx.app
          rw [if_pos (by rw [List.length_append] at hle; omega)]
        refine aus ?_
        refine S.appL 1 hH rfl hm (fun _=>rfl) rfl rfl rfl rfl rfl rfl rfl S.b0 rfl rfl rfl fun i2 H hH=>?_
        refine aus ?_
        exact X.norm [(0,.fptr [fwrow w] 0 0),(1,V.i a),(5,ovlz true i2 (v++d0.votes)),(12,.ptr it 0 0)] (hc (H,left.filter (·≠j),some j,v++d0.votes,i2) ⟨hH,hnd',hp3⟩ hlt) rfl (sr rfl)
      · have h3' : ¬ k0.1 = a := of_decide_eq_false h3
        have e:jS a ((k0,d0) :: (left.filter (·≠j)).filterMap (w.desks[·]?))=jS a ((left.filter (·≠j)).filterMap (w.desks[·]?)):=by
          unfold jS
          rw [List.flatMap_cons]
          simp only [h3',if_false,List.nil_append]
        rw [e] at hp3
        refine aus ?_
        exact X.norm [(0,.fptr [fwrow w] 0 0),(1,V.i a),(5,ovlz true iv v),(12,.ptr it 0 0)] (hc (H,left.filter (·≠j),some j,v,iv) ⟨hH,hnd',hp3⟩ hlt) rfl (sr rfl)
    · cases h
theorem zN6 (c:zG):ImCt CC 6 [zD c] [] (fun v L' => (za c=0∧∃ iw Z,v = .tup [.ptr iw 0 0,V.i 0]∧Z.w=zBE c∧L'=cAll iw Z)∨(za c≠0∧v = .tup [.lit (.pointer none),V.i (za c)]∧L'=[])):=by
  refine ⟨_,_,rfl,fun R H hH=>?_⟩
  refine aus ?_
  refine S.box hH rfl rfl rfl fun ib H hH=>?_
  replace hH:Has H ((ib,isB (.rows 1 [zD c])) :: R):=hH
  refine aus ?_
  refine X.opR rfl (S.ld 0 hH rfl rfl rfl rfl rfl) rfl ?_
  refine X.call (Z7 c) rfl rfl rfl (.cons (.shut (n:=9) rfl) .nil) ?_
  refine aus ?_
  refine X.cond rfl (fun h=>?_) (fun h=>?_)
  · have h' : za c ≠ 0 := fun q => by rw [decide_eq_true q] at h; cases h
    refine aus ?_
    exact GS.ret ⟨_,rfl,_,.inr ⟨h',rfl,rfl⟩,hH.tail⟩
  · have h' : za c = 0 := by
      rcases Decidable.em (za c=0) with q | q
      · exact q
      · rw [decide_eq_false q] at h; cases h
    refine aus ?_
    refine X.opR rfl (S.ld 0 hH rfl rfl rfl rfl rfl) rfl ?_
    refine S.mkm hH rfl rfl rfl fun im H hH=>?_
    refine aus ?_
    refine S.pad hH fun il H hH=>S.pad hH fun is H hH=>S.pad hH fun ic H hH=>?_
    refine S.box hH rfl rfl rfl fun iw H hH=>?_
    refine aus ?_
    refine GS.ret ⟨_,rfl,_,.inl ⟨h',iw,⟨c,0,[],true,[],fun _ _=>rfl,[],[],[],il,is,im,ic⟩,rfl,rfl,rfl⟩,?_⟩
    exact Has.pick (A:=[(iw,isB (.rows 6 [wrow ⟨c,0,[],true,[],fun _ _=>rfl,[],[],[],il,is,im,ic⟩])),(ic,isB .dead),(is,isB .dead),(il,isB .dead),(im,isB (.map [] [])),(ib,isB (.rows 1 [zD c]))]) (R:=R) [0,3,2,1,4] rfl (by decide) hH
theorem zGy {H:List Blk} {A B:Hp} (h:Has H (A++B)):Has H A:=⟨by have:=h.nd; rw [List.map_append,List.nodup_append] at this; exact this.1,fun p hp=>h.bl p (List.mem_append_left _ hp)⟩
theorem zIE {H:List Blk} {A B:Hp} (h:Has H (A++B)):Has H B:=⟨by have:=h.nd; rw [List.map_append,List.nodup_append] at this; exact this.2.1,fun p hp=>h.bl p (List.mem_append_right _ hp)⟩
theorem zOG {H:List Blk} {d:zV} {i:DI} (h:Has H (dcells d i)):FR H 0 (zA9 (d.chair.map fun _=>i.ic)) (fchair d.chair):=by
  cases hch:d.chair with
  | none=>exact ⟨1,rfl⟩
  | some c =>
    have h':Has H (zE1 d c i):=by rw [← QN i hch]; exact h
    exact FR.ptr S.b0 (h'.is (k:=2) rfl) (FR.agg (.cons ⟨1,rfl⟩ (.cons (S.zFr (z:=true) (l:=c.promises) (j:=[]) 9 (h'.is (k:=3) rfl) fun _=>rfl) (.cons ⟨1,rfl⟩ .nil))))
theorem fr_desk {H:List Blk} {d:zV} {i:DI} (h:Has H (dcells d i)):FR H 0 (.ptr i.id 0 0) (fdesk (some d)) :=
  FR.ptr S.b0 (h.is (k:=0) rfl) (FR.agg (.cons ⟨1,rfl⟩ (.cons ⟨1,rfl⟩ (.cons ⟨1,rfl⟩ (.cons ⟨1,rfl⟩ (.cons ⟨1,rfl⟩ (.cons ⟨1,rfl⟩ (.cons (zOG h) (.cons (S.zFr (z:=true) (l:=d.votes) (j:=[]) 9 (h.is (k:=1) rfl) fun _=>rfl) .nil)))))))))
theorem zKC {H:List Blk}:∀ {l:List ((Int×Int)×zV×DI)},Has H (allD l)→FRL H 0 (l.map fun p=>.ptr p.2.2.id 0 0) (l.map fun p=>fdesk (some p.2.1))
  | [],_=>.nil
  | p :: r,h=>by
    rw [zIS] at h
    exact .cons (fr_desk (zGy h)) (zKC (zIE h))
theorem zL3 {H:List Blk}:∀ (l:List ((Int×Int)×zV×DI)),FRL H 0 (l.map fun p=>JB p.1) (l.map fun p=>JB p.1)
  | []=>.nil
  | p :: r=>.cons ⟨9,rfl⟩ (zL3 r)
theorem zAT {iw:Nat} {Z:WX} {H:List Blk} {R:Hp} (hH:Has H (cAll iw Z++R)):FR H 0 (.ptr iw 0 0) (fzW Z.w):=by
  have hA:Has H (cAll iw Z):=zGy hH
  unfold cAll at hA
  have hC:=zGy hA
  have hD:=zKC (zIE hA)
  have hM:FR H 0 (.map Z.im) (.fmap ((fdm Z.w).map fun p=>JB p.1) ((fdm Z.w).map fun p=>fdesk p.2)):=by
    have e1:(fdm Z.w).map (fun p=>JB p.1)=Z.desks.map fun p=>JB p.1:=by simp [fdm,WX.w]
    have e2:(fdm Z.w).map (fun p=>fdesk p.2)=Z.desks.map fun p=>fdesk (some p.2.1):=by simp [fdm,WX.w]
    rw [e1,e2]
    have e3:hget H Z.im = .map (Z.desks.map fun p=>JB p.1) (Z.desks.map fun p=>.ptr p.2.2.id 0 0):=by
      rw [hC.is (k:=4) rfl]
      simp [WX.dm]
    obtain ⟨n1,h1⟩:=(zL3 (H:=H) Z.desks).mapO
    obtain ⟨n2,h2⟩:=hD.mapO
    exact ⟨max n1 n2+1,X.zLH e3 (h1 _ (Nat.le_max_left _ _)) (h2 _ (Nat.le_max_right _ _))⟩
  exact FR.ptr S.b0 (hC.is (k:=0) rfl) (FR.agg (.cons ⟨1,rfl⟩ (.cons ⟨1,rfl⟩ (.cons (S.zFr (z:=Z.nl) (l:=Z.letters) (j:=Z.jk) 9 (hC.is (k:=1) rfl) fun _=>rfl) (.cons (S.zFr (z:=true) (l:=Z.sent) (j:=[]) 9 (hC.is (k:=2) rfl) fun _=>rfl) (.cons hM (.cons (FR.ovl (z:=true) (l:=Z.cases) 9 S.b0 (hC.is (k:=3) rfl) fun _=>rfl) .nil)))))))
theorem eq_note (a b:Ye):eqA CC.ty 62 (zB4 a) (zB4 b)=some (decide (a=b)):=by
  refine (X.eqa rfl rfl (X.eqp rfl rfl rfl (X.eqp rfl rfl rfl (X.eqp rfl rfl rfl (X.eqp rfl rfl rfl X.eqn'))))).trans ?_
  congr 1
  rw [Bool.eq_iff_iff]
  simp only [Bool.and_eq_true,decide_eq_true_eq,beq_iff_eq,and_true]
  constructor
  · intro h
    obtain ⟨a1,a2,a3,a4⟩:=a
    obtain ⟨b1,b2,b3,b4⟩:=b
    simp at h
    simp [h]
  · rintro rfl
    simp
theorem eq_rul (a b:zF):eqA CC.ty 57 (zJ a) (zJ b)=some (decide (a=b)):=by
  refine (X.eqa rfl rfl (X.eqp rfl rfl rfl (X.eqp rfl rfl rfl (X.eqp rfl rfl rfl X.eqn')))).trans ?_
  congr 1
  rw [Bool.eq_iff_iff]
  simp only [Bool.and_eq_true,decide_eq_true_eq,beq_iff_eq,and_true]
  constructor
  · intro h
    obtain ⟨a1,a2,a3⟩:=a
    obtain ⟨b1,b2,b3⟩:=b
    simp at h
    simp [h]
  · rintro rfl
    simp
theorem zJB {Z:WX} {w:zR} (h:Z.w=w):Z.court=w.court:=by rw [← h]; rfl
theorem zFV {Z:WX} {w:zR} (h:Z.w=w):Z.letters=w.letters:=by rw [← h]; rfl
theorem zEU (h:∃ s1 f,zJL s1 f):Ct Tryz.prog 5 [] (V.b true):=by
  obtain ⟨s1,f,h⟩:=h
  refine zX Zh rfl ?_
  refine aus ?_
  refine S.im (R:=[]) (zN6 ⟨3⟩) (show Has [] ([]++[]) from Has.nil) rfl rfl rfl fun v L' H hT hH=>?_
  rcases hT with ⟨_,iw,Z,rfl,hZ,rfl⟩ | ⟨q,_⟩
  case inr=>exact absurd (by decide:za ⟨3⟩=0) q
  have ht:(!decide ((0:Int)=0))=false:=rfl
  refine aus ?_
  refine X.cond rfl (fun q=>?_) (fun _=>?_)
  · cases q
  refine aus ?_
  refine S.im (zLy iw Z ⟨1,0,4,7,0⟩ (by rw [zJB hZ]; decide) (by rw [zFV hZ]; decide) (by rw [hZ]; exact h.a1)) hH rfl rfl rfl fun v L' H hT hH=>?_
  obtain ⟨Z1,rfl,hZ1,rfl⟩:=hT
  refine aus ?_
  refine S.im (zLy iw Z1 ⟨2,0,4,0,0⟩ (by rw [zJB hZ1,h.c1]; decide) (by rw [zFV hZ1]; exact h.l1) (by rw [hZ1]; exact h.a2)) hH rfl rfl rfl fun v L' H hT hH=>?_
  obtain ⟨Z2,rfl,hZ2,rfl⟩:=hT
  refine aus ?_
  refine X.zHK (zLI Z2.w (by rw [hZ2,h.first]; decide)) rfl rfl rfl (.cons (FR.arg (zAT hH)) .nil) ?_
  have hl3:Z2.w.letters.length=3:=by rw [hZ2]; exact h.first
  refine aus ?_
  refine GS.bldF rfl rfl rfl rfl ?_
  refine aus ?_
  refine X.norm [(1,.ptr iw 0 0),(3,V.i 0),(4,V.i 0),(5,V.i (Z2.w.letters.length:Nat)),(29,.sl (sanN.map V.i)),(30,V.i 9),(31,V.i ((0:Nat):Int))] ?_ rfl (sr rfl)
  refine X.zDb (α:=List Blk×Nat×WX) (fun x=>⟨[(1,.ptr iw 0 0),(3,V.i 0),(4,V.i 0),(5,V.i (Z2.w.letters.length:Nat)),(29,.sl (sanN.map V.i)),(30,V.i 9),(31,V.i ((x.2.1:Nat):Int))],x.1,0,none,83⟩)
    (fun x=>x.2.1≤9∧x.2.2.w=f x.2.1∧Has x.1 (cAll iw x.2.2++[])) (fun x=>9 - x.2.1) ?_ (H,0,Z2) ⟨Nat.zero_le _,hZ2,hH⟩
  clear hH hZ2
  rintro ⟨H,j,Y⟩ ⟨hj,hY,hH⟩ hc
  simp only at hj hY hH hc ⊢
  refine aus ?_
  refine X.cond rfl (fun h4=>?_) (fun h4=>?_)
  · have h5 : j < 9 := by have := of_decide_eq_true h4; omega
    have hx:ix sanN (j:Int)=some (sanN[j]'h5):=S.ixn h5
    have hs:=h.step j h5
    generalize sanN[j]'h5=t at hx hs
    refine aus ?_
    refine S.im (zLy iw Y (dl t) (by rw [zJB hY,h.cf j hj]; decide) (by rw [zFV hY]; exact h.lf j hj) (by rw [hY]; exact hs)) hH rfl rfl rfl fun v L' H hT hH=>?_
    obtain ⟨Y1,rfl,hY1,rfl⟩:=hT
    refine aus ?_
    refine X.cond rfl (fun q=>?_) (fun _=>?_)
    · cases q
    · refine aus ?_
      rw [S.w64n h5 (by omega)]
      exact X.norm [(1,.ptr iw 0 0),(3,V.i 0),(4,V.i 0),(5,V.i (Z2.w.letters.length:Nat)),(29,.sl (sanN.map V.i)),(30,V.i 9),(31,V.i ((j+1:Nat):Int))] (hc (H,j+1,Y1) ⟨h5,hY1,hH⟩ (by simp only; omega)) rfl (sr rfl)
  · have h5 : j = 9 := by have := of_decide_eq_false h4; omega
    subst h5
    have hk0:zB9 Y.w 0 [⟨4,1,7⟩]:=by rw [hY]; exact h.k0
    have hk1:zB9 Y.w 1 []:=by rw [hY]; exact h.k1
    have hb:(ZM Y.w 1 4).note=⟨1,1,7,0⟩:=by rw [hY]; exact h.book
    have hs:Y.w.sent.length=15:=by rw [hY]; exact h.sent
    have t1:decide ((0:Int)=0)=true:=rfl
    have t2:decide (((Z2.w.letters.length:Nat):Int)=3)=true:=by rw [hl3]; rfl
    have t3:decide (((Y.w.sent.length:Nat):Int)=15)=true:=by rw [hs]; rfl
    refine aus ?_
    refine X.zHK (zG5 Y.w 0 hk0.1 hk0.2) rfl rfl rfl (.cons (FR.arg (zAT hH)) (.cons (.shut (n:=9) rfl) .nil)) ?_
    refine aus ?_
    have hW:zBB H true (.ptr iw 0 0) (fzW Y.w):=FR.arg (zAT hH)
    refine X.zHK (zL4 Y.w (by rw [hs]; decide)) (X.on_t rfl rfl rfl t2) rfl rfl (.cons hW .nil) ?_
    have t4:decide (((([⟨4,1,7⟩]:List zF).length:Nat):Int)=1)=true:=rfl
    have hix:ix ([⟨4,1,7⟩]:List zF) 0=some ⟨4,1,7⟩:=rfl
    have t5:true=true:=rfl
    refine aus ?_
    refine X.zHK (zG5 Y.w 1 hk1.1 hk1.2) (X.on_t rfl rfl rfl t5) rfl rfl (.cons hW (.cons (.shut (n:=9) rfl) .nil)) ?_
    have t6:decide (((([]:List zF).length:Nat):Int)=0)=true:=rfl
    refine aus ?_
    refine X.Y3 (m:=9) (zJm Y.w 1 4) (X.on_t rfl rfl rfl t6) rfl rfl rfl (.cons hW (.cons (.shut (n:=9) rfl) (.cons (.shut (n:=9) rfl) .nil))) ?_
    refine aus ?_
    refine X.opR (X.on_t rfl rfl rfl t6) (X.eqlE (eq_note (ZM Y.w 1 4).note ⟨1,1,7,0⟩) rfl rfl) rfl ?_
    have t7:decide ((ZM Y.w 1 4).note=⟨1,1,7,0⟩)=true:=decide_eq_true hb
    refine aus ?_
    rw [t7]
    exact X.rt
theorem zMa {α:Type} (A:List α) (x:α):(A++[x]).Perm (x :: (A++[])):=by rw [List.append_nil]; exact List.perm_append_singleton x A
def mapB (m:List (Int×Int)):Blk:=.map (m.map fun p=>V.i p.1) (m.map fun p=>V.i p.2)
def qW (o:List zF) (m:List (Int×Int)):Prop := ∀ p∈m,∃ x∈o,x.Case=p.1∧x.Finding=p.2
theorem zH3 {k v:Int}:∀ {m:List (Int×Int)},zY k m=some v→(k,v)∈m
  | [],h=>by cases h
  | p :: r,h=>by
    simp only [zY] at h
    split at h
    · rename_i e
      cases h
      rw [e]; exact List.mem_cons_self
    · exact List.mem_cons_of_mem _ (zH3 h)
theorem zJr {p x:Int×Int}:∀ {l:List (Int×Int)} {n:Nat},p∈insL l n x→p=x∨p∈l
  | [],n,h=>by cases n <;> simpa [insL] using h
  | q :: r,0,h=>by simpa [insL] using h
  | q :: r,n+1,h=>by
    simp only [insL,List.mem_cons] at h ⊢
    rcases h with h | h
    · exact .inr (.inl h)
    · rcases zJr h with h | h
      · exact .inl h
      · exact .inr (.inr h)
theorem qW.put {o:List zF} {m:List (Int×Int)} (h:qW o m) {r:zF} (hr:r∈o):qW o (putM posI m r.Case r.Finding):=fun p hp=>by
  have:p=(r.Case,r.Finding)∨p∈m:=by
    unfold putM at hp
    split at hp
    · rcases List.mem_or_eq_of_mem_set hp with q | q
      · exact .inr q
      · exact .inl q
    · exact zJr hp
  rcases this with rfl | q
  · exact ⟨r,hr,rfl,rfl⟩
  · exact h p q
theorem zAe {c:zG} {acts:List Zn} (h:zHS c acts):Ct Tryz.prog 4 [zD c,V.sl (acts.map zL)] (V.b true):=by
  obtain ⟨hsan,h⟩:=h
  refine zX Zh rfl ?_
  refine aus ?_
  refine S.box (show Has [] [] from Has.nil) rfl rfl rfl fun ib H hH=>?_
  refine aus ?_
  refine X.cond rfl (fun h1=>?_) (fun h1=>?_)
  · refine aus ?_
    refine X.call (zEU hsan) rfl rfl rfl .nil ?_
    refine aus ?_
    exact X.rt
  · have hl : acts.length ≤ 60 := by have := of_decide_eq_false h1; omega
    replace h:=h hl
    refine aus ?_
    refine X.opR rfl (S.ld 0 hH rfl rfl rfl rfl rfl) rfl ?_
    refine S.im (R:=[(ib,isB (.rows 1 [zD c]))]) (zN6 c) (show Has _ ([]++[(ib,isB (.rows 1 [zD c]))]) from hH) rfl rfl rfl fun v L' H hT hH=>?_
    rcases hT with ⟨h0,iw,Z,rfl,hZ,rfl⟩ | ⟨h0,rfl,rfl⟩
    · obtain ⟨hn, hg⟩ := h h0
      replace hH:=hH.perm (zMa _ _)
      have t2:(!decide ((0:Int)=0))=false:=rfl
      refine aus ?_
      refine X.cond rfl (fun q=>?_) (fun _=>?_)
      · cases q
      refine aus ?_
      rw [← hZ] at hg
      clear t2
      refine X.norm [(2,.ptr ib 0 0),(5,.ptr iw 0 0),(42,V.sl (acts.map zL)),(43,V.i (acts.length:Nat)),(44,V.i ((0:Nat):Int))] ?_ rfl (sr rfl)
      refine X.zDb (α:=List Blk×Nat×WX) (fun x=>⟨[(2,.ptr ib 0 0),(5,.ptr iw 0 0),(42,V.sl (acts.map zL)),(43,V.i (acts.length:Nat)),(44,V.i ((x.2.1:Nat):Int))],x.1,0,none,176⟩)
        (fun x=>x.2.1≤acts.length∧zMF c (fun w=>w.sent.length≤1000000∧(w.sent.length≤2000→zJO c w)) (acts.drop x.2.1) x.2.2.w∧Has x.1 ((ib,isB (.rows 1 [zD c])) :: (cAll iw x.2.2++[]))) (fun x=>acts.length - x.2.1) ?_ (H,0,Z) ⟨Nat.zero_le _,hg,hH⟩
      clear hH hg hZ
      rintro ⟨H,j,U⟩ ⟨hj,hg,hH⟩ hc
      simp only at hj hg hH hc ⊢
      refine aus ?_
      refine X.cond rfl (fun h4=>?_) (fun h4=>?_)
      · have h5 : j < acts.length := by have := of_decide_eq_true h4; omega
        have hx:ix acts (j:Int)=some acts[j]:=S.ixn h5
        rw [List.drop_eq_getElem_cons h5] at hg
        generalize acts[j]=a at hx hg
        obtain ⟨hcu,hlw,f,hdo,hg⟩:=hg
        have hcu':U.court=c:=hcu
        refine aus ?_
        refine S.box hH rfl rfl rfl fun i8 H hH=>?_
        refine S.w0 0 hH rfl rfl (S.st 0 hH rfl rfl rfl rfl rfl rfl rfl) fun H hH=>?_
        replace hH:Has H ((i8,isB (.rows 5 [zL a])) :: (ib,isB (.rows 1 [zD c])) :: (cAll iw U++[])):=hH
        refine aus ?_
        refine X.opR rfl (S.ld 0 hH rfl rfl rfl rfl rfl) rfl ?_
        have hC:Has H (cAll iw U++([(i8,isB (.rows 5 [zL a])),(ib,isB (.rows 1 [zD c]))]++[])):=(show Has H ([(i8,isB (.rows 5 [zL a])),(ib,isB (.rows 1 [zD c]))]++(cAll iw U++[])) from hH).perm (List.perm_append_comm_assoc _ _ _)
        refine S.im (zLy iw U a (by rw [hcu']; exact hn) hlw hdo) hC rfl rfl rfl fun v L' H hT hH=>?_
        obtain ⟨U1,rfl,hU1,rfl⟩:=hT
        replace hH:=hH.perm (List.perm_append_comm_assoc _ _ _)
        replace hH:Has H ((i8,isB (.rows 5 [zL a])) :: (ib,isB (.rows 1 [zD c])) :: (cAll iw U1++[])):=hH
        refine aus ?_
        rw [S.w64n h5 (by omega)]
        rw [← hU1] at hg
        exact X.norm [(2,.ptr ib 0 0),(5,.ptr iw 0 0),(42,V.sl (acts.map zL)),(43,V.i (acts.length:Nat)),(44,V.i ((j+1:Nat):Int))] (hc (H,j+1,U1) ⟨h5,hg,hH.tail⟩ (by simp only; omega)) rfl (sr rfl)
      · have h5 : j = acts.length := by have := of_decide_eq_false h4; omega
        subst h5
        rw [List.drop_length] at hg
        obtain ⟨hsl,hlaw⟩:=hg
        have hW:zBB H true (.ptr iw 0 0) (fzW U.w):=FR.arg (zAT (R:=[(ib,isB (.rows 1 [zD c]))]++[]) ((show Has H ([(ib,isB (.rows 1 [zD c]))]++(cAll iw U++[])) from hH).perm (List.perm_append_comm_assoc _ _ _)))
        refine aus ?_
        refine X.zHK (zL4 U.w hsl) rfl rfl rfl (.cons hW .nil) ?_
        refine aus ?_
        refine X.cond rfl (fun h6=>?_) (fun h6=>?_)
        · refine aus ?_
          refine X.call (zEU hsan) rfl rfl rfl .nil ?_
          refine aus ?_
          exact X.rt
        obtain ⟨⟨n,hla⟩,⟨o,hru,hol,hon,hkn⟩,hfw,hids⟩:=hlaw (by have:=of_decide_eq_false h6; omega)
        refine aus ?_
        refine X.opR rfl (S.ld 0 hH rfl rfl rfl rfl rfl) rfl ?_
        refine aus ?_
        refine X.call (zEY hla) rfl rfl rfl (.cons (.shut (n:=9) rfl) (.cons (.shut (n:=9) rfl) .nil)) ?_
        refine aus ?_
        refine X.opR rfl (S.ld 0 hH rfl rfl rfl rfl rfl) rfl ?_
        refine aus ?_
        refine X.call (zDz hru) rfl rfl rfl (.cons (.shut (n:=9) rfl) (.cons (.shut (n:=9) rfl) .nil)) ?_
        refine aus ?_
        have t1:(!decide ((0:Int)=0))=false:=rfl
        have t2:(!true)=false:=rfl
        refine aus ?_
        refine X.cond rfl (fun q=>?_) (fun _=>?_)
        · cases q
        refine aus ?_
        refine S.mkm hH rfl rfl rfl fun im H hH=>?_
        refine aus ?_
        clear t1 t2 h6 h4 hc hj
        refine X.norm [(2,.ptr ib 0 0),(5,.ptr iw 0 0),(9,V.sl (U.w.sent.map zB)),(13,V.sl (o.map zJ)),(15,.map im),(16,V.i ((0:Nat):Int))] ?_ rfl (sr rfl)
        refine X.zDb (α:=List Blk×Nat×List (Int×Int)) (fun x=>⟨[(2,.ptr ib 0 0),(5,.ptr iw 0 0),(9,V.sl (U.w.sent.map zB)),(13,V.sl (o.map zJ)),(15,.map im),(16,V.i ((x.2.1:Nat):Int))],x.1,0,none,176⟩)
          (fun x=>(x.2.1:Int)≤max 0 c.Arbiters∧qW o x.2.2∧Has x.1 ((im,isB (mapB x.2.2)) :: (ib,isB (.rows 1 [zD c])) :: (cAll iw U++[]))) (fun x=>c.Arbiters.toNat - x.2.1) ?_ (H,0,[]) ⟨by simp only; omega,(fun _ h=>by cases h),hH⟩
        clear hH hW
        rintro ⟨H,a,m⟩ ⟨ha,hm,hH⟩ hc
        simp only at ha hm hH hc ⊢
        refine aus ?_
        refine X.opR rfl (S.ld 1 hH rfl rfl rfl rfl rfl) rfl ?_
        refine aus ?_
        refine X.cond rfl (fun h7=>?_) (fun h7=>?_)
        · have h8 : (a : Int) < c.Arbiters := of_decide_eq_true h7
          have h8':a<c.Arbiters.toNat:=by omega
          have hW:zBB H true (.ptr iw 0 0) (fzW U.w):=FR.arg (zAT (R:=[(im,isB (mapB m)),(ib,isB (.rows 1 [zD c]))]++[]) ((show Has H ([(im,isB (mapB m)),(ib,isB (.rows 1 [zD c]))]++(cAll iw U++[])) from hH).perm (List.perm_append_comm_assoc _ _ _)))
          obtain ⟨kn,hkn1,hkl,hko⟩:=hkn a h8
          refine aus ?_
          refine X.zHK (zG5 U.w a hkn1.1 hkn1.2) rfl rfl rfl (.cons hW (.cons (.shut (n:=9) rfl) .nil)) ?_
          refine aus ?_
          clear h7
          refine X.norm [(2,.ptr ib 0 0),(5,.ptr iw 0 0),(9,V.sl (U.w.sent.map zB)),(13,V.sl (o.map zJ)),(15,.map im),(16,V.i (a:Nat)),(90,V.sl (kn.map zJ)),(91,V.i (kn.length:Nat)),(92,V.i ((0:Nat):Int))] ?_ rfl (sr rfl)
          refine X.zDb (α:=List Blk×Nat×List (Int×Int)) (fun x=>⟨[(2,.ptr ib 0 0),(5,.ptr iw 0 0),(9,V.sl (U.w.sent.map zB)),(13,V.sl (o.map zJ)),(15,.map im),(16,V.i (a:Nat)),(90,V.sl (kn.map zJ)),(91,V.i (kn.length:Nat)),(92,V.i ((x.2.1:Nat):Int))],x.1,0,none,176⟩)
            (fun x=>x.2.1≤kn.length∧qW o x.2.2∧Has x.1 ((im,isB (mapB x.2.2)) :: (ib,isB (.rows 1 [zD c])) :: (cAll iw U++[]))) (fun x=>kn.length - x.2.1) ?_ (H,0,m) ⟨Nat.zero_le _,hm,hH⟩
          clear hH hW hm m H
          rintro ⟨H,j,m⟩ ⟨hj,hm,hH⟩ hc4
          simp only at hj hm hH hc4 ⊢
          refine aus ?_
          refine X.cond rfl (fun h9=>?_) (fun h9=>?_)
          · have h10 : j < kn.length := by have := of_decide_eq_true h9; omega
            have hx:ix kn (j:Int)=some kn[j]:=S.ixn h10
            have hr:kn[j]∈o:=hko _ (List.getElem_mem h10)
            generalize kn[j]=r at hx hr
            refine aus ?_
            refine S.box hH rfl rfl rfl fun i18 H hH=>?_
            refine S.w0 0 hH rfl rfl (S.st 0 hH rfl rfl rfl rfl rfl rfl rfl) fun H hH=>?_
            replace hH:Has H ((i18,isB (.rows 3 [zJ r])) :: (im,isB (mapB m)) :: (ib,isB (.rows 1 [zD c])) :: (cAll iw U++[])):=hH
            refine aus ?_
            refine X.norm [(2,.ptr ib 0 0),(5,.ptr iw 0 0),(9,V.sl (U.w.sent.map zB)),(13,V.sl (o.map zJ)),(15,.map im),(16,V.i (a:Nat)),(90,V.sl (kn.map zJ)),(91,V.i (kn.length:Nat)),(92,V.i (j:Nat)),(18,.ptr i18 0 0),(19,V.b ((o.take 0).any fun x=>decide (x=r))),(96,V.sl (o.map zJ)),(97,V.i (o.length:Nat)),(98,V.i ((0:Nat):Int))] ?_ rfl (sr rfl)
            refine X.zDb (α:=List Blk×Nat) (fun x=>⟨[(2,.ptr ib 0 0),(5,.ptr iw 0 0),(9,V.sl (U.w.sent.map zB)),(13,V.sl (o.map zJ)),(15,.map im),(16,V.i (a:Nat)),(90,V.sl (kn.map zJ)),(91,V.i (kn.length:Nat)),(92,V.i (j:Nat)),(18,.ptr i18 0 0),(19,V.b ((o.take x.2).any fun x=>decide (x=r))),(96,V.sl (o.map zJ)),(97,V.i (o.length:Nat)),(98,V.i ((x.2:Nat):Int))],x.1,0,none,176⟩)
              (fun x=>x.2≤o.length∧Has x.1 ((i18,isB (.rows 3 [zJ r])) :: (im,isB (mapB m)) :: (ib,isB (.rows 1 [zD c])) :: (cAll iw U++[]))) (fun x=>o.length - x.2) ?_ (H,0) ⟨Nat.zero_le _,hH⟩
            clear hH H
            rintro ⟨H,i⟩ ⟨hi,hH⟩ hc6
            simp only at hi hH hc6 ⊢
            refine aus ?_
            refine X.cond rfl (fun h11=>?_) (fun h11=>?_)
            · have h12 : i < o.length := by have := of_decide_eq_true h11; omega
              have hx:ix o (i:Int)=some o[i]:=S.ixn h12
              have hs:((o.take (i+1)).any fun x=>decide (x=r))=(((o.take i).any fun x=>decide (x=r))||decide (o[i]=r)):=by rw [List.take_succ_eq_append_getElem h12,List.any_append]; simp
              generalize o[i]=q at hx hs
              refine aus ?_
              refine S.box hH rfl rfl rfl fun i21 H hH=>?_
              refine S.w0 0 hH rfl rfl (S.st 0 hH rfl rfl rfl rfl rfl rfl rfl) fun H hH=>?_
              replace hH:Has H ((i21,isB (.rows 3 [zJ q])) :: (i18,isB (.rows 3 [zJ r])) :: (im,isB (mapB m)) :: (ib,isB (.rows 1 [zD c])) :: (cAll iw U++[])):=hH
              generalize hfl:((o.take i).any fun x=>decide (x=r))=fl at hs
              cases fl with
              | true =>
                refine aus ?_
                rw [S.w64n h12 (by omega)]
                refine X.norm [(2,.ptr ib 0 0),(5,.ptr iw 0 0),(9,V.sl (U.w.sent.map zB)),(13,V.sl (o.map zJ)),(15,.map im),(16,V.i (a:Nat)),(90,V.sl (kn.map zJ)),(91,V.i (kn.length:Nat)),(92,V.i (j:Nat)),(18,.ptr i18 0 0),(19,V.b (true||decide (q=r))),(96,V.sl (o.map zJ)),(97,V.i (o.length:Nat)),(98,V.i ((i+1:Nat):Int))] ?_ rfl (sr rfl)
                rw [← hs]
                exact hc6 (H,i+1) ⟨h12,hH.tail⟩ (by simp only; omega)
              | false =>
                refine aus ?_
                refine X.opR (X.on_f rfl rfl rfl rfl) (S.ld 0 hH rfl rfl rfl rfl rfl) rfl ?_
                refine X.opR (X.on_f rfl rfl rfl rfl) (S.ld 1 hH rfl rfl rfl rfl rfl) rfl ?_
                refine X.opR (X.on_f rfl rfl rfl rfl) (X.eqlE (eq_rul q r) rfl rfl) rfl ?_
                refine aus ?_
                rw [S.w64n h12 (by omega)]
                refine X.norm [(2,.ptr ib 0 0),(5,.ptr iw 0 0),(9,V.sl (U.w.sent.map zB)),(13,V.sl (o.map zJ)),(15,.map im),(16,V.i (a:Nat)),(90,V.sl (kn.map zJ)),(91,V.i (kn.length:Nat)),(92,V.i (j:Nat)),(18,.ptr i18 0 0),(19,V.b (false||decide (q=r))),(96,V.sl (o.map zJ)),(97,V.i (o.length:Nat)),(98,V.i ((i+1:Nat):Int))] ?_ rfl (sr rfl)
                rw [← hs]
                exact hc6 (H,i+1) ⟨h12,hH.tail⟩ (by simp only; omega)
            · have h12 : i = o.length := by have := of_decide_eq_false h11; omega
              subst h12
              have hin:((o.take o.length).any fun x=>decide (x=r))=true:=by rw [List.take_length]; exact List.any_eq_true.2 ⟨r,hr,decide_eq_true rfl⟩
              rw [hin]
              refine aus ?_
              refine X.opR rfl (S.ld 0 hH rfl rfl rfl rfl rfl) rfl ?_
              refine X.opR rfl (X.lookW (f:=V.i) (g:=V.i) (k:=r.Case) (l:=m) (z:=0) X.yH rfl rfl rfl rfl (hH.is (k:=1) rfl) rfl) rfl ?_
              have hmf:∀ v,zY r.Case m=some v→(!decide (v=r.Finding))=false:=fun v hv=>by
                obtain ⟨x,x1,x2,x3⟩:=hm _ (zH3 hv)
                rw [show v=x.Finding from x3.symm,hon x x1 r hr x2,decide_eq_true rfl]; rfl
              generalize hlk:zY r.Case m=ov at hmf
              cases ov with
              | none =>
                have t2:(!true)=false:=rfl
                have t3:(none:Option Int).isSome=false:=rfl
                refine aus ?_
                refine X.cond rfl (fun q=>?_) (fun _=>?_)
                · cases q
                · refine aus ?_
                  refine X.opR rfl (S.ld 0 hH rfl rfl rfl rfl rfl) rfl ?_
                  refine aus ?_
                  refine X.opR rfl (S.ld 0 hH rfl rfl rfl rfl rfl) rfl ?_
                  refine S.w0 1 hH rfl rfl (X.putW (f:=V.i) (g:=V.i) (pos:=posI) (k:=r.Case) (v:=r.Finding) (l:=m) X.yH (X.Y8 _) rfl rfl rfl rfl rfl (hH.is (k:=1) rfl) S.b0) fun H hH=>?_
                  refine aus ?_
                  rw [S.w64n h10 (by omega)]
                  exact X.norm [(2,.ptr ib 0 0),(5,.ptr iw 0 0),(9,V.sl (U.w.sent.map zB)),(13,V.sl (o.map zJ)),(15,.map im),(16,V.i (a:Nat)),(90,V.sl (kn.map zJ)),(91,V.i (kn.length:Nat)),(92,V.i ((j+1:Nat):Int))] (hc4 (H,j+1,putM posI m r.Case r.Finding) ⟨h10,hm.put hr,hH.tail⟩ (by simp only; omega)) rfl (sr rfl)
              | some v =>
                have t2:(!true)=false:=rfl
                have t3:(some v).isSome=true:=rfl
                have t4:=hmf v rfl
                refine aus ?_
                refine X.opR (X.on_t rfl rfl rfl t3) (S.ld 0 hH rfl rfl rfl rfl rfl) rfl ?_
                refine aus ?_
                refine X.cond rfl (fun q=>?_) (fun _=>?_)
                · exact absurd q (by show ¬ (!decide (v=r.Finding))=true; rw [t4]; decide)
                · refine aus ?_
                  refine X.opR rfl (S.ld 0 hH rfl rfl rfl rfl rfl) rfl ?_
                  refine aus ?_
                  refine X.opR rfl (S.ld 0 hH rfl rfl rfl rfl rfl) rfl ?_
                  refine S.w0 1 hH rfl rfl (X.putW (f:=V.i) (g:=V.i) (pos:=posI) (k:=r.Case) (v:=r.Finding) (l:=m) X.yH (X.Y8 _) rfl rfl rfl rfl rfl (hH.is (k:=1) rfl) S.b0) fun H hH=>?_
                  refine aus ?_
                  rw [S.w64n h10 (by omega)]
                  exact X.norm [(2,.ptr ib 0 0),(5,.ptr iw 0 0),(9,V.sl (U.w.sent.map zB)),(13,V.sl (o.map zJ)),(15,.map im),(16,V.i (a:Nat)),(90,V.sl (kn.map zJ)),(91,V.i (kn.length:Nat)),(92,V.i ((j+1:Nat):Int))] (hc4 (H,j+1,putM posI m r.Case r.Finding) ⟨h10,hm.put hr,hH.tail⟩ (by simp only; omega)) rfl (sr rfl)
          · have hW : zBB H true (.ptr iw 0 0) (fzW U.w) := FR.arg (zAT (R := [(im, isB (mapB m)), (ib, isB (.rows 1 [zD c]))] ++ []) ((show Has H ([(im, isB (mapB m)), (ib, isB (.rows 1 [zD c]))] ++ (cAll iw U ++ [])) from hH).perm (List.perm_append_comm_assoc _ _ _)))
            refine aus ?_
            refine X.zHK (zOH U.w hfw) rfl rfl rfl (.cons hW .nil) ?_
            refine aus ?_
            clear hc4 h9 hW
            refine X.norm [(2,.ptr ib 0 0),(5,.ptr iw 0 0),(9,V.sl (U.w.sent.map zB)),(13,V.sl (o.map zJ)),(15,.map im),(16,V.i (a:Nat)),(134,V.sl (U.w.cases.map V.i)),(135,V.i (U.w.cases.length:Nat)),(136,V.i ((0:Nat):Int))] ?_ rfl (sr rfl)
            refine X.zDb (α:=List Blk×Nat) (fun x=>⟨[(2,.ptr ib 0 0),(5,.ptr iw 0 0),(9,V.sl (U.w.sent.map zB)),(13,V.sl (o.map zJ)),(15,.map im),(16,V.i (a:Nat)),(134,V.sl (U.w.cases.map V.i)),(135,V.i (U.w.cases.length:Nat)),(136,V.i ((x.2:Nat):Int))],x.1,0,none,176⟩)
              (fun x=>x.2≤U.w.cases.length∧Has x.1 ((im,isB (mapB m)) :: (ib,isB (.rows 1 [zD c])) :: (cAll iw U++[]))) (fun x=>U.w.cases.length - x.2) ?_ (H,0) ⟨Nat.zero_le _,hH⟩
            clear hH H
            rintro ⟨H,i⟩ ⟨hi,hH⟩ hc8
            simp only at hi hH hc8 ⊢
            refine aus ?_
            refine X.cond rfl (fun h11=>?_) (fun h11=>?_)
            · have h12 : i < U.w.cases.length := by have := of_decide_eq_true h11; omega
              have hx:ix U.w.cases (i:Int)=some U.w.cases[i]:=S.ixn h12
              obtain ⟨hv,hpv⟩:=hids a h8 _ (List.getElem_mem h12)
              generalize U.w.cases[i]=id at hx hv hpv
              have hW:zBB H true (.ptr iw 0 0) (fzW U.w):=FR.arg (zAT (R:=[(im,isB (mapB m)),(ib,isB (.rows 1 [zD c]))]++[]) ((show Has H ([(im,isB (mapB m)),(ib,isB (.rows 1 [zD c]))]++(cAll iw U++[])) from hH).perm (List.perm_append_comm_assoc _ _ _)))
              refine aus ?_
              refine X.opR rfl (S.ld 1 hH rfl rfl rfl rfl rfl) rfl ?_
              refine aus ?_
              refine X.call (zFP hv) rfl rfl rfl (.cons (.shut (n:=9) rfl) (.cons (.shut (n:=9) rfl) (.cons (.shut (n:=9) rfl) (.cons (.shut (n:=9) rfl) .nil)))) ?_
              refine aus ?_
              refine X.Y3 (m:=9) (zJm U.w a id) rfl rfl rfl rfl (.cons hW (.cons (.shut (n:=9) rfl) (.cons (.shut (n:=9) rfl) .nil))) ?_
              generalize ZM U.w a id=dk at hv hpv
              refine aus ?_
              refine S.box hH rfl rfl rfl fun i29 H hH=>?_
              refine S.w0 0 hH rfl rfl (S.st 0 hH rfl rfl rfl rfl rfl rfl rfl) fun H hH=>?_
              replace hH:Has H ((i29,isB (.rows 4 [zB4 dk.note])) :: (im,isB (mapB m)) :: (ib,isB (.rows 1 [zD c])) :: (cAll iw U++[])):=hH
              have f1:(!decide ((0:Int)=0))=false:=rfl
              have f2:(!decide (dk.note.Voted=dk.note.Voted))=false:=by simp
              have f3:(!decide (dk.note.Finding=dk.note.Finding))=false:=by simp
              have f4:decide (dk.note.Promised<dk.note.Voted)=false:=decide_eq_false hpv
              refine aus ?_
              refine X.opR (X.on_f rfl rfl rfl f1) (S.ld 0 hH rfl rfl rfl rfl rfl) rfl ?_
              refine aus ?_
              refine X.opR (X.on_f rfl rfl rfl f2) (S.ld 0 hH rfl rfl rfl rfl rfl) rfl ?_
              refine aus ?_
              refine X.opR (X.on_f rfl rfl rfl f3) (S.ld 0 hH rfl rfl rfl rfl rfl) rfl ?_
              refine aus ?_
              refine X.opR (X.on_f rfl rfl rfl f3) (S.ld 0 hH rfl rfl rfl rfl rfl) rfl ?_
              refine aus ?_
              refine X.cond rfl (fun q=>?_) (fun _=>?_)
              · exact absurd q (by show ¬ decide (dk.note.Promised<dk.note.Voted)=true; rw [f4]; decide)
              · refine aus ?_
                rw [S.w64n h12 (by omega)]
                exact X.norm [(2,.ptr ib 0 0),(5,.ptr iw 0 0),(9,V.sl (U.w.sent.map zB)),(13,V.sl (o.map zJ)),(15,.map im),(16,V.i (a:Nat)),(134,V.sl (U.w.cases.map V.i)),(135,V.i (U.w.cases.length:Nat)),(136,V.i ((i+1:Nat):Int))] (hc8 (H,i+1) ⟨h12,hH.tail⟩ (by simp only; omega)) rfl (sr rfl)
            · refine aus ?_
              rw [S.w64n h8' (by omega)]
              exact X.norm [(2,.ptr ib 0 0),(5,.ptr iw 0 0),(9,V.sl (U.w.sent.map zB)),(13,V.sl (o.map zJ)),(15,.map im),(16,V.i ((a+1:Nat):Int))] (hc (H,a+1,m) ⟨by simp only; omega,hm,hH⟩ (by simp only; omega)) rfl (sr rfl)
        · refine aus ?_
          refine X.call (zEU hsan) rfl rfl rfl .nil ?_
          refine aus ?_
          exact X.rt
    · have t2 : (!decide (za c = 0)) = true := by rw [decide_eq_false h0]; rfl
      refine aus ?_
      refine X.cond rfl (fun _=>?_) (fun q=>?_)
      · refine aus ?_
        refine X.call (zEU hsan) rfl rfl rfl .nil ?_
        refine aus ?_
        exact X.rt
      · rw [t2] at q; cases q
end Go.Proofs.YtfoafeaplgmhmaaGreat
