/- Part of the proof of TopRulingsArePostedOnce: walks: methods of the program, step by step, compute the plain ones. Conditions: none. -/
import Derived.Test.YtggkidlcohickaaGreatW4
import Derived.Test.YtggkidlcohickaaGreatHi
import Derived.Test.YtggkidlcohickaaGreatSrt
import Derived.Test.YtggkidlcohickaaGreatWm
set_option linter.unusedVariables false
set_option linter.unusedSimpArgs false
set_option maxRecDepth 4000
namespace Go.Proofs.YtggkidlcohickaaGreat
open Go Go.Am Go.Proofs Go.Mx
theorem zKS {α:Type} {l:List α} (h:l.length≤1000000):Mx.app [] l=some l:=by unfold Mx.app; rw [if_pos (by simp; omega)]; rfl
theorem zL6 (w:zN) (h:w.sent.length≤1000000):FrC Tryz.prog 8 [fzW w] (.sl (w.sent.map zC)):=by
  refine zA7 (C:=CC) (es:=8) (nn:=9) ZR rfl (fun _=>rfl) ?_
  unfold fzW
  refine aus ?_
  refine X.ownF (nn:=9) (Q7 (zKS h)) (fun _=>rfl) rfl rfl rfl (.cons (.shut (n:=9) rfl) .nil) rfl fun z=>?_
  refine aus ?_
  exact GS.ret ⟨z,_,rfl,rfl⟩
theorem zGu (w:zN) (h:w.cases.length≤1000000):FrC Tryz.prog 7 [fzW w] (.sl (w.cases.map V.i)):=by
  refine zA7 (C:=CC) (es:=1) (nn:=9) ZR rfl (fun _=>rfl) ?_
  unfold fzW
  refine aus ?_
  refine X.ownF (nn:=9) (zCF (zKS h)) (fun _=>rfl) rfl rfl rfl (.cons (.shut (n:=9) rfl) .nil) rfl fun z=>?_
  refine aus ?_
  exact GS.ret ⟨z,_,rfl,rfl⟩
theorem zII {a:Int} {l l':List ((Int×Int)×zT)} (h:l.Perm l'):(Zz a l).Perm (Zz a l'):=h.flatMap_right _
theorem zFI : ∀ (l:List Nat) (j:Nat),l.Nodup→j∈l→l.Perm (j :: l.filter (·≠j))
  | [],j,_,h=>by cases h
  | x :: l,j,hn,hj=>by
    rw [List.nodup_cons] at hn
    by_cases e:x=j
    · subst e
      rw [List.filter_cons_of_neg (by simp),List.filter_eq_self.2 fun y hy=>by simp; rintro rfl; exact hn.1 hy]
    · rw [List.filter_cons_of_pos (by simpa using e)]
      have hj':j∈l:=by
        rcases List.mem_cons.1 hj with h | h
        · exact absurd h.symm e
        · exact h
      exact ((zFI l j hn.2 hj').cons x).trans (List.Perm.swap j x _)
theorem zDh : ∀ (n i:Nat),(idxs i n).Nodup
  | 0,i=>List.nodup_nil
  | n+1,i=>List.nodup_cons.2 ⟨fun h=>by have:=(QE n (i+1) i).1 h; omega,zDh n (i+1)⟩
theorem zGn {α:Type} (l:List α):∀ (n i:Nat),i+n=l.length→(idxs i n).filterMap (l[·]?)=l.drop i
  | 0,i,h=>by simp only [idxs,List.filterMap_nil]; rw [List.drop_eq_nil_of_le (by omega)]
  | n+1,i,h=>by
    simp only [idxs]
    rw [List.filterMap_cons_some (List.getElem?_eq_getElem (by omega)),zGn l n (i+1) (by omega),← List.drop_eq_getElem_cons (by omega)]
abbrev fks (w:zN):List V:=(fdm w).map fun p=>jZ p.1
abbrev fvs (w:zN):List V:=(fdm w).map fun p=>fdesk p.2
theorem zJ3 (w:zN) (a:Int) {r:List zB} (hn:(Zz a w.desks).length≤1000000) (hM:∀ v,v.Perm (Zz a w.desks)→ZW w.court v=some r):FrC Tryz.prog 27 [fzW w,V.i a] (.sl (r.map zJ)):=by
  refine zA7 (C:=CC) (es:=3) (nn:=9) ZR rfl (fun _=>rfl) ?_
  refine aus ?_
  have h0:Has [] []:=Has.nil
  refine S.pad h0 fun iv H hH=>?_
  unfold fzW
  refine aus ?_
  refine S.box hH rfl rfl rfl fun it H hH=>?_
  refine aus ?_
  have hlen:(fks w).length=w.desks.length:=by simp [fks,fdm]
  rw [hlen] at hH
  refine X.norm [(0,.fptr [fwrow w] 0 0),(1,V.i a),(5,ovlz true iv ([]:List zA)),(12,.ptr it 0 0)] ?_ rfl (sr rfl)
  refine X.YY (α:=List Blk×List Nat×Option Nat×List zA×Nat) (fun x=>⟨[(0,.fptr [fwrow w] 0 0),(1,V.i a),(5,ovlz true x.2.2.2.2 x.2.2.2.1),(12,.ptr it 0 0)],x.1,0,none,34⟩)
    (fun x=>Has x.1 [(it,isB (.iter (fks w) (fvs w) x.2.1 x.2.2.1)),(x.2.2.2.2,isB (oblz true 8 zC x.2.2.2.1))]∧x.2.1.Nodup∧(x.2.2.2.1++Zz a (x.2.1.filterMap (w.desks[·]?))).Perm (Zz a w.desks))
    (fun x=>x.2.1.length) ?_ (H,idxs 0 w.desks.length,none,[],iv) ⟨hH,zDh _ _,by simp only; rw [zGn w.desks _ 0 (by omega)]; simp⟩
  clear hH h0
  rintro ⟨H,left,last,v,iv⟩ ⟨hH,hnd,hp⟩ hc
  simp only at hH hnd hp hc ⊢
  refine aus ?_
  refine X.next rfl rfl (hH.is (k:=0) rfl) S.b0 rfl (fun hl=>?_) (fun j kv vv hj hk hv=>?_)
  · subst hl
    refine aus ?_
    refine X.cond rfl (fun h=>?_) (fun _=>?_)
    · cases h
    · have hp' : v.Perm (Zz a w.desks) := by simpa [Zz] using hp
      refine aus ?_
      refine X.ownF (nn:=9) (zC9 (hM v hp')) (fun _=>rfl) rfl rfl rfl (.cons (.shut (n:=9) rfl) (.cons (FR.arg (FR.ovl (z:=true) (l:=v) 9 S.b0 (hH.is (k:=1) rfl) fun _=>rfl)) .nil)) rfl fun z=>?_
      refine aus ?_
      refine GS.ret ⟨z,_,rfl,?_⟩
      unfold hget
      simp only
      rw [zP,List.getElem?_append_right (Nat.le_refl _)]
      simp
  · have hjl : j < w.desks.length := by
      have:=jm hk
      rw [hlen] at this; exact this
    have hk':kv=jZ w.desks[j].1:=by
      rw [zP,List.getElem?_map] at hk
      unfold fdm at hk
      rw [List.getElem?_map,List.getElem?_eq_getElem hjl] at hk
      simpa using hk.symm
    have hv':vv=fdesk (some w.desks[j].2):=by
      rw [zP,List.getElem?_map] at hv
      unfold fdm at hv
      rw [List.getElem?_map,List.getElem?_eq_getElem hjl] at hv
      simpa using hv.symm
    subst hk'
    subst hv'
    replace hH:=hH.put (k:=0) (B:=.iter (fks w) (fvs w) (left.filter (·≠j)) (some j)) (q:=isB (.iter (fks w) (fvs w) (left.filter (·≠j)) (some j))) rfl rfl
    replace hH:Has _ [(it,isB (.iter (fks w) (fvs w) (left.filter (·≠j)) (some j))),(iv,isB (oblz true 8 zC v))]:=hH
    generalize hput H it _=H1 at hH ⊢
    have hlt:(left.filter (·≠j)).length<left.length:=by
      have:=List.length_filter_lt_length_iff_exists (l:=left) (p:=(·≠j))
      exact this.2 ⟨j,hj,by simp⟩
    have hp2:=(zFI left j hnd hj).filterMap (w.desks[·]?)
    rw [List.filterMap_cons_some (List.getElem?_eq_getElem hjl)] at hp2
    have hp3:=(List.Perm.append_left v (zII (a:=a) hp2)).symm.trans hp
    clear hp hp2
    generalize w.desks[j]=p at hk hv hp3 ⊢
    obtain ⟨k0,d0⟩:=p
    have hnd':=hnd.filter (fun x=>decide (x≠j))
    refine aus ?_
    refine X.cond rfl (fun _=>?_) (fun h=>?_)
    · refine aus ?_
      refine X.entry rfl rfl (hH.is (k:=0) rfl) hk hv rfl ?_
      refine aus ?_
      refine S.box hH rfl rfl rfl fun ip H hH=>?_
      refine S.w0 0 hH rfl rfl (S.st 0 hH rfl rfl rfl rfl rfl rfl rfl) fun H hH=>?_
      refine aus ?_
      refine X.opR rfl (S.ld 0 hH rfl rfl rfl rfl rfl) rfl ?_
      replace hH:=hH.tail
      refine aus ?_
      refine X.cond rfl (fun h3=>?_) (fun h3=>?_)
      · have h3' : k0.1 = a := of_decide_eq_true h3
        have e:Zz a ((k0,d0) :: (left.filter (·≠j)).filterMap (w.desks[·]?))=d0.votes++Zz a ((left.filter (·≠j)).filterMap (w.desks[·]?)):=by
          unfold Zz
          rw [List.flatMap_cons]
          simp only [h3',if_true]
        rw [e,← List.append_assoc] at hp3
        have hle:(v++d0.votes).length≤1000000:=by
          have:=hp3.length_eq
          rw [List.length_append] at this
          omega
        have hm:Mx.app v d0.votes=some (v++d0.votes):=by
          unfold Mx.app
          rw [if_pos (by rw [List.length_append] at hle; omega)]
        refine aus ?_
        refine S.appL 1 hH rfl hm (fun _=>rfl) rfl rfl rfl rfl rfl rfl rfl S.b0 rfl rfl rfl fun i2 H hH=>?_
        refine aus ?_
        exact X.norm [(0,.fptr [fwrow w] 0 0),(1,V.i a),(5,ovlz true i2 (v++d0.votes)),(12,.ptr it 0 0)] (hc (H,left.filter (·≠j),some j,v++d0.votes,i2) ⟨hH,hnd',hp3⟩ hlt) rfl (sr rfl)
      · have h3' : ¬ k0.1 = a := of_decide_eq_false h3
        have e:Zz a ((k0,d0) :: (left.filter (·≠j)).filterMap (w.desks[·]?))=Zz a ((left.filter (·≠j)).filterMap (w.desks[·]?)):=by
          unfold Zz
          rw [List.flatMap_cons]
          simp only [h3',if_false,List.nil_append]
        rw [e] at hp3
        refine aus ?_
        exact X.norm [(0,.fptr [fwrow w] 0 0),(1,V.i a),(5,ovlz true iv v),(12,.ptr it 0 0)] (hc (H,left.filter (·≠j),some j,v,iv) ⟨hH,hnd',hp3⟩ hlt) rfl (sr rfl)
    · cases h
theorem zOL (c:zD):ImCt CC 5 [zG c] [] (fun v L' => (zo c=0∧∃ iw Z,v = .tup [.ptr iw 0 0,V.i 0]∧Z.w=zAl c∧L'=cAll iw Z)∨(zo c≠0∧v = .tup [.lit (.pointer none),V.i (zo c)]∧L'=[])):=by
  refine ⟨_,_,rfl,fun R H hH=>?_⟩
  refine aus ?_
  refine S.box hH rfl rfl rfl fun ib H hH=>?_
  replace hH:Has H ((ib,isB (.rows 1 [zG c])) :: R):=hH
  refine aus ?_
  refine X.opR rfl (S.ld 0 hH rfl rfl rfl rfl rfl) rfl ?_
  refine X.call (Ze c) rfl rfl rfl (.cons (.shut (n:=9) rfl) .nil) ?_
  refine aus ?_
  refine X.cond rfl (fun h=>?_) (fun h=>?_)
  · have h' : zo c ≠ 0 := fun q => by rw [decide_eq_true q] at h; cases h
    refine aus ?_
    exact GS.ret ⟨_,rfl,_,.inr ⟨h',rfl,rfl⟩,hH.tail⟩
  · have h' : zo c = 0 := by
      rcases Decidable.em (zo c=0) with q | q
      · exact q
      · rw [decide_eq_false q] at h; cases h
    refine aus ?_
    refine X.opR rfl (S.ld 0 hH rfl rfl rfl rfl rfl) rfl ?_
    refine S.mkm hH rfl rfl rfl fun im H hH=>?_
    refine aus ?_
    refine S.pad hH fun il H hH=>S.pad hH fun is H hH=>S.pad hH fun ic H hH=>?_
    refine S.box hH rfl rfl rfl fun iw H hH=>?_
    refine aus ?_
    refine GS.ret ⟨_,rfl,_,.inl ⟨h',iw,⟨c,0,[],true,[],fun _ _=>rfl,[],[],[],il,is,im,ic⟩,rfl,rfl,rfl⟩,?_⟩
    exact Has.pick (A:=[(iw,isB (.rows 6 [wrow ⟨c,0,[],true,[],fun _ _=>rfl,[],[],[],il,is,im,ic⟩])),(ic,isB .dead),(is,isB .dead),(il,isB .dead),(im,isB (.map [] [])),(ib,isB (.rows 1 [zG c]))]) (R:=R) [0,3,2,1,4] rfl (by decide) hH
theorem zA5 {H:List Blk} {A B:Hp} (h:Has H (A++B)):Has H A:=⟨by have:=h.nd; rw [List.map_append,List.nodup_append] at this; exact this.1,fun p hp=>h.bl p (List.mem_append_left _ hp)⟩
theorem qM {H:List Blk} {A B:Hp} (h:Has H (A++B)):Has H B:=⟨by have:=h.nd; rw [List.map_append,List.nodup_append] at this; exact this.2.1,fun p hp=>h.bl p (List.mem_append_right _ hp)⟩
theorem zOX {H:List Blk} {d:zT} {i:DI} (h:Has H (dcells d i)):FR H 0 (QI (d.chair.map fun _=>i.ic)) (fchair d.chair):=by
  cases hch:d.chair with
  | none=>exact ⟨1,rfl⟩
  | some c =>
    have h':Has H (zEg d c i):=by rw [← Yu i hch]; exact h
    exact FR.ptr S.b0 (h'.is (k:=2) rfl) (FR.agg (.cons ⟨1,rfl⟩ (.cons (S.zCT (z:=true) (l:=c.promises) (j:=[]) 9 (h'.is (k:=3) rfl) fun _=>rfl) (.cons ⟨1,rfl⟩ .nil))))
theorem fr_desk {H:List Blk} {d:zT} {i:DI} (h:Has H (dcells d i)):FR H 0 (.ptr i.id 0 0) (fdesk (some d)) :=
  FR.ptr S.b0 (h.is (k:=0) rfl) (FR.agg (.cons ⟨1,rfl⟩ (.cons ⟨1,rfl⟩ (.cons ⟨1,rfl⟩ (.cons ⟨1,rfl⟩ (.cons ⟨1,rfl⟩ (.cons ⟨1,rfl⟩ (.cons (zOX h) (.cons (S.zCT (z:=true) (l:=d.votes) (j:=[]) 9 (h.is (k:=1) rfl) fun _=>rfl) .nil)))))))))
theorem zJ2 {H:List Blk}:∀ {l:List ((Int×Int)×zT×DI)},Has H (allD l)→FRL H 0 (l.map fun p=>.ptr p.2.2.id 0 0) (l.map fun p=>fdesk (some p.2.1))
  | [],_=>.nil
  | p :: r,h=>by
    rw [zIE] at h
    exact .cons (fr_desk (zA5 h)) (zJ2 (qM h))
theorem zL3 {H:List Blk}:∀ (l:List ((Int×Int)×zT×DI)),FRL H 0 (l.map fun p=>jZ p.1) (l.map fun p=>jZ p.1)
  | []=>.nil
  | p :: r=>.cons ⟨9,rfl⟩ (zL3 r)
theorem zJ1 {iw:Nat} {Z:WX} {H:List Blk} {R:Hp} (hH:Has H (cAll iw Z++R)):FR H 0 (.ptr iw 0 0) (fzW Z.w):=by
  have hA:Has H (cAll iw Z):=zA5 hH
  unfold cAll at hA
  have hC:=zA5 hA
  have hD:=zJ2 (qM hA)
  have hM:FR H 0 (.map Z.im) (.fmap ((fdm Z.w).map fun p=>jZ p.1) ((fdm Z.w).map fun p=>fdesk p.2)):=by
    have e1:(fdm Z.w).map (fun p=>jZ p.1)=Z.desks.map fun p=>jZ p.1:=by simp [fdm,WX.w]
    have e2:(fdm Z.w).map (fun p=>fdesk p.2)=Z.desks.map fun p=>fdesk (some p.2.1):=by simp [fdm,WX.w]
    rw [e1,e2]
    have e3:hget H Z.im = .map (Z.desks.map fun p=>jZ p.1) (Z.desks.map fun p=>.ptr p.2.2.id 0 0):=by
      rw [hC.is (k:=4) rfl]
      simp [WX.dm]
    obtain ⟨n1,h1⟩:=(zL3 (H:=H) Z.desks).mapO
    obtain ⟨n2,h2⟩:=hD.mapO
    exact ⟨max n1 n2+1,X.zFN e3 (h1 _ (Nat.le_max_left _ _)) (h2 _ (Nat.le_max_right _ _))⟩
  exact FR.ptr S.b0 (hC.is (k:=0) rfl) (FR.agg (.cons ⟨1,rfl⟩ (.cons ⟨1,rfl⟩ (.cons (S.zCT (z:=Z.nl) (l:=Z.letters) (j:=Z.jk) 9 (hC.is (k:=1) rfl) fun _=>rfl) (.cons (S.zCT (z:=true) (l:=Z.sent) (j:=[]) 9 (hC.is (k:=2) rfl) fun _=>rfl) (.cons hM (.cons (FR.ovl (z:=true) (l:=Z.cases) 9 S.b0 (hC.is (k:=3) rfl) fun _=>rfl) .nil)))))))
theorem grow_it {n:Nat} (hn:n≤1000000):zBq Tryz.prog 53 [V.nil,V.i (n:Nat)] (fun z=>ovlz z 0 ([]:List zF)) (fun z=>oblz z 7 zI ([]:List zF)):=by
  obtain ⟨i0,h1,h2,h3,h4⟩:=okt62.get
  exact X.zOQ Tryz.growIt rfl i0 t62.Qk h1 h2 rfl h3 (by decide) (by rw [h4]; show n*56≤_; omega) (by omega) (enters_of Tryz.func53 (by kernel_rfl) rfl)
abbrev ZK (l:List zF):V:=V.sl (l.map zI)
def zBl (L:List (List zF)) (n:Nat):Nat:=((L.take n).map List.length).sum
theorem zND (L:List (List zF)) (hn:L.length≤1000) (hl:L.flatten.length≤1000000):FrC Tryz.prog 24 [V.sl (L.map ZK)] (.sl (L.flatten.map zI)):=by
  have hL:∀ n,zBl L n≤1000000:=fun n=>by
    unfold zBl
    have h1:((L.take n).map List.length).sum=(L.take n).flatten.length:=by rw [List.length_flatten]
    have h2:(L.take n).flatten.length≤L.flatten.length:=by
      conv=>rhs; rw [← List.take_append_drop n L,List.flatten_append,List.length_append]
      omega
    omega
  refine zA7 (C:=CC) (es:=7) (nn:=9) ZR rfl (fun _=>rfl) ?_
  refine aus ?_
  have e0:zBl L 0=0:=rfl
  refine X.norm [(0,V.sl (L.map ZK)),(3,V.i (zBl L 0:Nat)),(9,V.sl (L.map ZK)),(10,V.i (L.length:Nat)),(11,V.i ((0:Nat):Int))] ?_ rfl (sr rfl)
  refine X.YY (α:=Nat) (fun x=>⟨[(0,V.sl (L.map ZK)),(3,V.i (zBl L x:Nat)),(9,V.sl (L.map ZK)),(10,V.i (L.length:Nat)),(11,V.i ((x:Nat):Int))],[],0,none,36⟩) (fun x=>x≤L.length) (fun x=>L.length - x) ?_ 0 (Nat.zero_le _)
  intro j hj hc
  refine aus ?_
  refine X.cond rfl (fun h4=>?_) (fun h4=>?_)
  · have h5 : j < L.length := by have := of_decide_eq_true h4; omega
    have hx:ix L (j:Int)=some L[j]:=S.ixn h5
    have hs:zBl L (j+1)=zBl L j+L[j].length:=by unfold zBl; rw [List.take_succ_eq_append_getElem h5,List.map_append,List.sum_append]; simp
    have hb1:=hL j
    have hb2:=hL (j+1)
    generalize L[j]=q at hx hs
    refine aus ?_
    have hw:w64 ((zBl L j:Nat)+(q.length:Nat))=((zBl L (j+1):Nat):Int):=by rw [JD (by omega) (by omega)]; omega
    rw [hw]
    refine X.cond rfl (fun h6=>?_) (fun _=>?_)
    · have:=of_decide_eq_true h6; omega
    refine aus ?_
    rw [S.w64n h5 (by omega)]
    exact X.norm [(0,V.sl (L.map ZK)),(3,V.i (zBl L (j+1):Nat)),(9,V.sl (L.map ZK)),(10,V.i (L.length:Nat)),(11,V.i ((j+1:Nat):Int))] (hc (j+1) h5 (by omega)) rfl (sr rfl)
  · have h5 : j = L.length := by have := of_decide_eq_false h4; omega
    subst h5
    have hb:=hL L.length
    clear hc hj h4
    refine aus ?_
    refine X.ownF (nn:=9) (grow_it hb) (fun _=>rfl) rfl rfl rfl (.cons (.shut (n:=9) rfl) (.cons (.shut (n:=9) rfl) .nil)) rfl fun z=>?_
    have hH:Has ([]++[oblz z 7 zI ([]:List zF)]) [(0,isB (oblz z 7 zI ([]:List zF)))]:=(Has.nil (H:=[])).new rfl
    refine aus ?_
    refine X.norm [(6,ovlz z 0 ([]:List zF)),(25,V.sl (L.map ZK)),(26,V.i (L.length:Nat)),(27,V.i ((0:Nat):Int))] ?_ rfl (sr rfl)
    refine X.YY (α:=List Blk×Nat×Nat) (fun x=>⟨[(6,ovlz z x.2.1 ((L.take x.2.2).flatten:List zF)),(25,V.sl (L.map ZK)),(26,V.i (L.length:Nat)),(27,V.i ((x.2.2:Nat):Int))],x.1,0,none,36⟩)
      (fun x=>x.2.2≤L.length∧Has x.1 [(x.2.1,isB (oblz z 7 zI (L.take x.2.2).flatten))]) (fun x=>L.length - x.2.2) ?_ (_,0,0) ⟨Nat.zero_le _,hH⟩
    clear hH
    rintro ⟨H,id,j⟩ ⟨hj,hH⟩ hc
    simp only at hj hH hc ⊢
    refine aus ?_
    refine X.cond rfl (fun h4=>?_) (fun h4=>?_)
    · have h5 : j < L.length := by have := of_decide_eq_true h4; omega
      have hx:ix L (j:Int)=some L[j]:=S.ixn h5
      have hs:(L.take (j+1)).flatten=(L.take j).flatten++L[j]:=by rw [List.take_succ_eq_append_getElem h5,List.flatten_append]; simp
      have hq:(L.take (j+1)).flatten.length≤1000000:=by have:=hL (j+1); unfold zBl at this; rw [List.length_flatten]; exact this
      rw [hs,List.length_append] at hq
      generalize L[j]=q at hx hs hq
      refine aus ?_
      refine S.appA 0 hH rfl (show app (L.take j).flatten q=some ((L.take j).flatten++q) by unfold app; rw [if_pos (by omega)]) (fun _=>rfl) rfl rfl rfl rfl rfl rfl rfl S.b0 rfl rfl rfl fun H' hle hH' => ?_
      refine aus ?_
      rw [S.w64n h5 (by omega)]
      refine X.norm [(6,ovlz z H.length (((L.take j).flatten++q):List zF)),(25,V.sl (L.map ZK)),(26,V.i (L.length:Nat)),(27,V.i ((j+1:Nat):Int))] ?_ rfl (sr rfl)
      rw [← hs] at hH' ⊢
      exact hc (H',H.length,j+1) ⟨h5,hH'⟩ (by simp only; omega)
    · have h5 : j = L.length := by have := of_decide_eq_false h4; omega
      subst h5
      rw [List.take_length] at hH ⊢
      refine aus ?_
      exact GS.ret ⟨z,id,rfl,hH.is (k:=0) rfl⟩
theorem zJc {a b:List zF} {r:List zF×Int} (hl:a.length+b.length≤1000000) (hM:zAQ a b=some r):Ct Tryz.prog 9 [ZK a,ZK b] (.tup [V.sl (r.1.map zI),V.i r.2]):=by
  unfold zAQ at hM
  obtain ⟨e,h1,hM⟩:=zK hM
  refine zV ZR rfl ?_
  refine aus ?_
  refine GS.bldF rfl rfl rfl rfl ?_
  refine X.zDM (zND [a,b] (by simp) (by simp; omega)) rfl rfl rfl (.cons (.shut (n:=9) rfl) .nil) ?_
  refine aus ?_
  have e2:[a,b].flatten=a++b:=by simp
  rw [e2]
  refine GS.bldF rfl rfl rfl rfl ?_
  refine aus ?_
  have key:∃ LL:List (List zF),LL=[a,b,a++b]:=⟨_,rfl⟩
  obtain ⟨LL,hLL⟩:=key
  have hlen:LL.length=3:=by rw [hLL]; rfl
  rw [← hLL] at h1
  refine X.norm [(6,ZK (a++b)),(17,V.sl ([a,b,a++b].map ZK)),(18,V.i 3),(19,V.i ((0:Nat):Int))] ?_ rfl (sr rfl)
  rw [← hLL,show (3:Int)=(LL.length:Nat) by rw [hlen]; rfl]
  refine X.YY (α:=Nat) (fun x=>⟨[(6,ZK (a++b)),(17,V.sl (LL.map ZK)),(18,V.i (LL.length:Nat)),(19,V.i ((x:Nat):Int))],[],0,none,31⟩) (fun x=>x≤LL.length∧zCM (LL.drop x)=some e) (fun x=>LL.length - x) ?_ 0 ⟨Nat.zero_le _,h1⟩
  rintro j ⟨hj,hch⟩ hc
  refine aus ?_
  refine X.cond rfl (fun h4=>?_) (fun h4=>?_)
  · have h5 : j < LL.length := by have := of_decide_eq_true h4; omega
    have hx:ix LL (j:Int)=some LL[j]:=S.ixn h5
    rw [List.drop_eq_getElem_cons h5] at hch
    generalize LL[j]=q at hx hch
    unfold zCM at hch
    obtain ⟨e',k1,hch⟩:=zK hch
    refine aus ?_
    refine X.call (Qx k1) rfl rfl rfl (.cons (.shut (n:=9) rfl) .nil) ?_
    refine aus ?_
    refine X.cond rfl (fun h6=>?_) (fun h6=>?_)
    · have hne : ¬ e' = 0 := fun q => by
        have h6:(!decide (e'=0))=true:=h6
        rw [decide_eq_true q] at h6; cases h6
      rw [if_neg hne] at hch
      cases hch
      rw [if_neg hne] at hM
      cases hM
      refine aus ?_
      exact X.rt
    · have he0 : e' = 0 := by
        have h6:(!decide (e'=0))=false:=h6
        rcases Decidable.em (e'=0) with q | q
        · exact q
        · rw [decide_eq_false q] at h6; cases h6
      rw [if_pos he0] at hch
      refine aus ?_
      rw [S.w64n h5 (by omega)]
      exact X.norm [(6,ZK (a++b)),(17,V.sl (LL.map ZK)),(18,V.i (LL.length:Nat)),(19,V.i ((j+1:Nat):Int))] (hc (j+1) ⟨h5,hch⟩ (by omega)) rfl (sr rfl)
  · have h5 : j = LL.length := by have := of_decide_eq_false h4; omega
    subst h5
    rw [List.drop_length] at hch
    cases hch
    rw [if_pos rfl] at hM
    obtain ⟨s,h2,hM⟩:=zK hM
    cases hM
    refine aus ?_
    refine X.call (zAx h2) rfl rfl rfl (.cons (.shut (n:=9) rfl) .nil) ?_
    refine aus ?_
    exact X.rt
end Go.Proofs.YtggkidlcohickaaGreat
