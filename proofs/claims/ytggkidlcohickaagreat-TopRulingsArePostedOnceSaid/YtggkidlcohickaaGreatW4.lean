/- Part of the proof of TopRulingsArePostedOnce: walks: methods of the program, step by step, compute the plain ones. Conditions: none. -/
import Derived.Test.YtggkidlcohickaaGreatW3
import Derived.Test.YtggkidlcohickaaGreatHi
import Derived.Test.YtggkidlcohickaaGreatSrt
import Derived.Test.YtggkidlcohickaaGreatWm
set_option linter.unusedVariables false
set_option linter.unusedSimpArgs false
set_option maxRecDepth 4000
namespace Go.Proofs.YtggkidlcohickaaGreat
open Go Go.Am Go.Proofs Go.Mx
def fg (A:Int) (p:(Int×Int)×zT×DI):(Int×Int)×zT×DI:=if p.1.1=A then (p.1,{ p.2.1 with chair:=none },p.2.2) else p
def fgt (A:Int) (left:List Nat) (l:List ((Int×Int)×zT×DI)):List ((Int×Int)×zT×DI):=l.mapIdx fun j p=>if j∈left then p else fg A p
abbrev rowD (p:(Int×Int)×zT×DI):Nat×(Blk→Prop):=(p.2.2.id,isB (.rows 8 [drow p.2.1 p.2.2]))
def JZ (l:List ((Int×Int)×zT×DI)):Hp:=l.map rowD
theorem zOa (A:Int) (left:List Nat) (l:List ((Int×Int)×zT×DI)) (j:Nat) (h:j<l.length) (hj:j∈left):fgt A (left.filter (·≠j)) l=(fgt A left l).set j (fg A l[j])∧(fgt A left l)[j]? = some l[j]:=by
  constructor
  · refine List.ext_getElem? fun i => ?_
    unfold fgt
    rw [List.getElem?_mapIdx,List.getElem?_set,List.length_mapIdx,List.getElem?_mapIdx]
    by_cases e:j=i
    · subst e
      simp [h]
    · rw [if_neg e]
      have:i∈left.filter (·≠j)↔i∈left:=by
        rw [List.mem_filter]
        constructor
        · exact fun q=>q.1
        · exact fun q=>⟨q,by simpa using fun e' => e e'.symm⟩
      simp only [this]
  · unfold fgt
    rw [List.getElem?_mapIdx,List.getElem?_eq_getElem h]
    simp [hj]
theorem zL8 (A:Int) (l:List ((Int×Int)×zT×DI)):fgt A [] l=l.map (fg A):=by
  refine List.ext_getElem? fun i=>?_
  unfold fgt
  rw [List.getElem?_mapIdx,List.getElem?_map]
  simp
theorem fgt_all (A:Int) (l:List ((Int×Int)×zT×DI)):fgt A (idxs 0 l.length) l=l:=by
  refine List.ext_getElem? fun i=>?_
  unfold fgt
  rw [List.getElem?_mapIdx]
  cases h:l[i]? with
  | none=>rfl
  | some p =>
    have hi:=(List.getElem?_eq_some_iff.1 h).1
    have:i∈idxs 0 l.length:=(QE _ _ _).2 ⟨Nat.zero_le _,by omega⟩
    simp [this]
theorem zOb (A:Int) (left:List Nat) (l:List ((Int×Int)×zT×DI)):(JZ (fgt A left l)).map (·.1)=(JZ l).map (·.1):=by
  refine List.ext_getElem? fun i=>?_
  unfold fgt JZ
  rw [List.getElem?_map,List.getElem?_map,List.getElem?_mapIdx,List.getElem?_map,List.getElem?_map]
  cases l[i]? with
  | none=>rfl
  | some p =>
    simp only [Option.map_some]
    unfold fg
    split
    · rfl
    · split <;> rfl
theorem zJz {c0 c1 c2:Nat×(Blk→Prop)} {l:List ((Int×Int)×zT×DI)} {R:Hp} {j:Nat} {p:(Int×Int)×zT×DI} (h:l[j]? = some p):Am.get (c0 :: c1 :: c2 :: (JZ l++R)) (j+3)=some (rowD p):=by
  have hj:=(List.getElem?_eq_some_iff.1 h).1
  rw [zP]
  simp only [List.getElem?_cons_succ]
  rw [List.getElem?_append_left (by unfold JZ; simpa using hj)]
  unfold JZ
  rw [List.getElem?_map,h]; rfl
theorem zNU {c0 c1 c2:Nat×(Blk→Prop)} {l:List ((Int×Int)×zT×DI)} {R:Hp} {j:Nat} (p:(Int×Int)×zT×DI) (h:j<l.length):Am.set (c0 :: c1 :: c2 :: (JZ l++R)) (j+3) (rowD p)=c0 :: c1 :: c2 :: (JZ (l.set j p)++R):=by
  rw [Zy]
  simp only [List.set_cons_succ]
  rw [List.set_append_left _ _ (by unfold JZ; simpa using h)]
  unfold JZ
  rw [List.map_set]
theorem zIe {α:Type} (z:Bool) (i:Nat) (l:List α) (n:Nat):nm (n+1) (ovlz z i l)=true:=by cases z <;> cases l <;> rfl
theorem nm_drow (d:zT) (i:DI):nm 9 (drow d i)=true:=by
  have h1:nm 8 (ovlz true i.iv d.votes)=true:=zIe _ _ _ 7
  have h2:nm 8 (QI (d.chair.map fun _=>i.ic))=true:=by cases d.chair <;> rfl
  show ([V.i d.note.Promised,V.i d.note.Voted,V.i d.note.Finding,V.i d.note.Opened,V.i d.wish,V.b d.has,QI (d.chair.map fun _=>i.ic),ovlz true i.iv d.votes].all (nm 8))=true
  simp only [List.all_cons,List.all_nil,Bool.and_true,h1,h2]
  rfl
theorem zLl {l:List ((Int×Int)×zT×DI)}:∀ q∈JZ l,∀ B,q.2 B→nmB B:=fun q hq B hB=>by
  obtain ⟨p,_,rfl⟩:=List.mem_map.1 hq
  have hB':B = .rows 8 [drow p.2.1 p.2.2]:=hB
  subst hB'
  intro v hv
  rw [List.mem_singleton] at hv
  subst hv
  exact nm_drow _ _
abbrev mks (Z:WX):List V:=Z.dm.map fun p=>jZ p.1
abbrev mvs (Z:WX):List V:=Z.dm.map fun p=>QI p.2
abbrev owrow (Z:WX):V:=.agg ([V.i Z.court.Arbiters,V.i Z.last,ovlz Z.nl Z.il Z.letters,ovlz true Z.is Z.sent] ++ .omap Z.im (mks Z) (mvs Z) :: [ovlz true Z.ic Z.cases])
theorem zLC (iw:Nat) (Z:WX) (a:ZO):ImCt CC 21 [.ptr iw 0 0,zL a] ((iw,isB (.rows 6 [owrow Z])) :: JZ Z.desks) (fun v L' => ∃ V',L'=(iw,isB (.rows 6 [owrow Z])) :: V'∧nm 9 v=true∧V'.map (·.1)=(JZ Z.desks).map (·.1)∧(∀ q∈V',∀ B,q.2 B→nmB B)∧v=V.i (J5 Z.w a).2∧∃ l,V'=JZ l∧l=if zW Z.court a.A then Z.desks.map (fg a.A) else Z.desks):=by
  refine ⟨_,_,rfl,fun R H hH=>?_⟩
  have hr:(J5 Z.w a).2=if !zW Z.court a.A then 1 else 0:=by
    unfold J5
    have:Z.w.court=Z.court:=rfl
    rw [this]
    split <;> rfl
  rw [hr]
  refine aus ?_
  refine S.box hH rfl rfl rfl fun ib H hH=>?_
  replace hH:Has H ((ib,isB (.rows 5 [zL a])) :: (iw,isB (.rows 6 [owrow Z])) :: (JZ Z.desks++R)):=hH
  refine aus ?_
  refine X.drawc (by kernel_rfl) rfl ?_
  refine aus ?_
  refine X.cop rfl (S.ld 1 hH rfl rfl rfl rfl rfl) rfl rfl ?_
  refine aus ?_
  refine X.cop rfl (S.ld 0 hH rfl rfl rfl rfl rfl) rfl rfl ?_
  refine X.ccall (Zt Z.court a.A) rfl rfl rfl rfl (.cons (.shut (n:=9) rfl) (.cons (.shut (n:=9) rfl) .nil)) ?_
  refine aus ?_
  refine X.cond rfl (fun h1=>?_) (fun h1=>?_)
  · have h1' : ¬ zW Z.court a.A = true := fun q => by rw [q] at h1; cases h1
    rw [if_pos h1,if_neg h1']
    refine aus ?_
    exact GS.ret ⟨_,rfl,_,⟨JZ Z.desks,rfl,rfl,rfl,zLl,rfl,Z.desks,rfl,rfl⟩,hH.tail⟩
  · have h1' : zW Z.court a.A = true := by
      cases q:zW Z.court a.A with
      | true=>rfl
      | false=>rw [q] at h1; cases h1
    rw [if_neg (by rw [h1]; decide),if_pos h1']
    refine aus ?_
    refine X.opR rfl (S.ld 1 hH rfl rfl rfl rfl rfl) rfl ?_
    refine S.box hH rfl rfl rfl fun it H hH=>?_
    refine aus ?_
    refine X.norm [(0,.ptr iw 0 0),(3,.ptr ib 0 0),(19,.ptr it 0 0)] ?_ rfl (sr rfl)
    have hlen:(mks Z).length=Z.desks.length:=by simp [mks,WX.dm]
    rw [hlen] at hH
    refine X.YY (α:=List Blk×List Nat×Option Nat) (fun x=>⟨[(0,.ptr iw 0 0),(3,.ptr ib 0 0),(19,.ptr it 0 0)],x.1,0,none,33⟩)
      (fun x=>Has x.1 ((it,isB (.oiter (mks Z) (mvs Z) x.2.1 x.2.2)) :: (ib,isB (.rows 5 [zL a])) :: (iw,isB (.rows 6 [owrow Z])) :: (JZ (fgt a.A x.2.1 Z.desks)++R)))
      (fun x=>x.2.1.length) ?_ (H,idxs 0 Z.desks.length,none) (by simp only; rw [fgt_all]; exact hH)
    clear hH hr h1
    rintro ⟨H,left,last⟩ hH hc
    simp only at hH hc ⊢
    refine aus ?_
    refine X.zN2 rfl rfl (hH.is (k:=0) rfl) S.b0 rfl (fun hl=>?_) (fun j kv vv hj hk hv=>?_)
    · subst hl
      refine aus ?_
      refine X.cond rfl (fun h=>?_) (fun _=>?_)
      · cases h
      · rw [zL8] at hH
        refine aus ?_
        exact GS.ret ⟨_,rfl,_,⟨JZ (Z.desks.map (fg a.A)),rfl,rfl,by rw [← zL8]; exact zOb _ _ _,zLl,rfl,_,rfl,rfl⟩,hH.tail.tail⟩
    · have hjl : j < Z.desks.length := by
        have:=jm hk
        rw [hlen] at this; exact this
      have hk':kv=jZ Z.desks[j].1:=by
        rw [zP,List.getElem?_map] at hk
        unfold WX.dm at hk
        rw [List.getElem?_map,List.getElem?_eq_getElem hjl] at hk
        simpa using hk.symm
      have hv':vv = .ptr Z.desks[j].2.2.id 0 0:=by
        rw [zP,List.getElem?_map] at hv
        unfold WX.dm at hv
        rw [List.getElem?_map,List.getElem?_eq_getElem hjl] at hv
        simpa using hv.symm
      subst hk'
      subst hv'
      obtain ⟨f1,f2⟩:=zOa a.A left Z.desks j hjl hj
      replace hH:=hH.put (k:=0) (B:=.oiter (mks Z) (mvs Z) (left.filter (·≠j)) (some j)) (q:=isB (.oiter (mks Z) (mvs Z) (left.filter (·≠j)) (some j))) rfl rfl
      replace hH:Has _ ((it,isB (.oiter (mks Z) (mvs Z) (left.filter (·≠j)) (some j))) :: (ib,isB (.rows 5 [zL a])) :: (iw,isB (.rows 6 [owrow Z])) :: (JZ (fgt a.A left Z.desks)++R)):=hH
      generalize hput H it _=H1 at hH ⊢
      have hlt:(left.filter (·≠j)).length<left.length:=by
        have:=List.length_filter_lt_length_iff_exists (l:=left) (p:=(·≠j))
        exact this.2 ⟨j,hj,by simp⟩
      generalize Z.desks[j]=p at hk hv f1 f2 ⊢
      obtain ⟨k0,d0,i0⟩:=p
      refine aus ?_
      refine X.cond rfl (fun _=>?_) (fun h=>?_)
      · refine aus ?_
        refine X.zLM rfl rfl (hH.is (k:=0) rfl) hk hv rfl ?_
        refine aus ?_
        refine S.box hH rfl rfl rfl fun ip H hH=>?_
        refine S.w0 0 hH rfl rfl (S.st 0 hH rfl rfl rfl rfl rfl rfl rfl) fun H hH=>?_
        refine aus ?_
        refine X.opR rfl (S.ld 0 hH rfl rfl rfl rfl rfl) rfl ?_
        refine aus ?_
        refine X.opR rfl (S.ld 2 hH rfl rfl rfl rfl rfl) rfl ?_
        replace hH:=hH.tail
        refine aus ?_
        refine X.cond rfl (fun h3=>?_) (fun h3=>?_)
        · have h3' : k0.1 = a.A := of_decide_eq_true h3
          have hfg:fg a.A (k0,d0,i0)=(k0,{ d0 with chair:=none },i0):=by unfold fg; rw [if_pos h3']
          rw [hfg] at f1
          refine aus ?_
          refine S.w0 (j+3) hH (zJz f2) rfl (S.st (j+3) hH rfl rfl (zJz f2) rfl rfl rfl rfl) fun H hH=>?_
          refine aus ?_
          refine X.norm [(0,.ptr iw 0 0),(3,.ptr ib 0 0),(19,.ptr it 0 0)] (hc (H,left.filter (·≠j),some j) ?_ hlt) rfl (sr rfl)
          simp only
          rw [f1]
          have:=zNU (c0:=(it,isB (.oiter (mks Z) (mvs Z) (left.filter (·≠j)) (some j)))) (c1:=(ib,isB (.rows 5 [zL a]))) (c2:=(iw,isB (.rows 6 [owrow Z]))) (R:=R) (k0,{ d0 with chair:=none },i0) (List.getElem?_eq_some_iff.1 f2).1
          rw [← this]
          exact hH
        · have h3' : ¬ k0.1 = a.A := of_decide_eq_false h3
          have hfg:fg a.A (k0,d0,i0)=(k0,d0,i0):=by unfold fg; rw [if_neg h3']
          rw [hfg] at f1
          refine aus ?_
          refine X.norm [(0,.ptr iw 0 0),(3,.ptr ib 0 0),(19,.ptr it 0 0)] (hc (H,left.filter (·≠j),some j) ?_ hlt) rfl (sr rfl)
          simp only
          rw [f1]
          have:(fgt a.A left Z.desks).set j (k0,d0,i0)=fgt a.A left Z.desks:=by
            refine List.ext_getElem? fun i=>?_
            rw [List.getElem?_set]
            by_cases e:j=i
            · subst e; rw [if_pos rfl,if_pos (List.getElem?_eq_some_iff.1 f2).1,f2]
            · rw [if_neg e]
          rw [this]
          exact hH
      · cases h
abbrev zJN (d:zT) (i:DI):Hp:=[(i.iv,isB (S.jsB true 8 zC d.votes [])),(i.ic,chB d i.ip),(i.ip,prB d)]
def Ym (l:List ((Int×Int)×zT×DI)):Hp:=l.flatMap fun p=>zJN p.2.1 p.2.2
theorem zHb (l:List ((Int×Int)×zT×DI)):(allD l).Perm (JZ l++Ym l):=by
  induction l with
  | nil=>exact .refl _
  | cons p r ih =>
    have e1:allD (p :: r)=rowD p :: (zJN p.2.1 p.2.2++allD r):=by simp [allD,rowD]
    have e2:JZ (p :: r)++Ym (p :: r)=rowD p :: (JZ r++(zJN p.2.1 p.2.2++Ym r)):=by simp [JZ,Ym]
    rw [e1,e2]
    refine .cons _ ?_
    exact (List.Perm.append_left _ ih).trans (List.perm_append_comm_assoc _ _ _)
inductive Weak : Hp→Hp→Prop where
  | nil:Weak [] []
  | cons {i:Nat} {p q:Blk→Prop} {l l':Hp}:(∀ B,p B→q B)→Weak l l'→Weak ((i,p) :: l) ((i,q) :: l')
theorem Weak.refl : ∀ l:Hp,Weak l l
  | []=>.nil
  | (i,p) :: r=>.cons (fun _ h=>h) (Weak.refl r)
theorem Weak.app {l l':Hp} (h:Weak l l') (R:Hp):Weak (l++R) (l'++R):=by
  induction h with
  | nil=>exact Weak.refl R
  | cons h1 _ ih=>exact .cons h1 ih
theorem Weak.left (A:Hp) {l l':Hp} (h:Weak l l'):Weak (A++l) (A++l'):=by
  induction A with
  | nil=>exact h
  | cons a r ih=>exact .cons (fun _ h=>h) ih
theorem Weak.has {l l':Hp} (h:Weak l l') {H:List Blk} (hH:Has H l):Has H l':=by
  have e:l'.map (·.1)=l.map (·.1):=by
    clear hH
    induction h with
    | nil=>rfl
    | cons _ _ ih=>simp only [List.map_cons,ih]
  refine ⟨by rw [e]; exact hH.nd,?_⟩
  have hb:=hH.bl
  clear hH e
  induction h with
  | nil=>intro p hp; cases hp
  | cons h1 _ ih =>
    intro p hp
    rcases List.mem_cons.1 hp with rfl | hp
    · obtain ⟨B, q1, q2⟩ := hb _ List.mem_cons_self
      exact ⟨B,q1,h1 B q2⟩
    · exact ih (fun p hp=>hb p (List.mem_cons_of_mem _ hp)) p hp
theorem rest_fg (A:Int) (l:List ((Int×Int)×zT×DI)):Weak (Ym l) (Ym (l.map (fg A))):=by
  induction l with
  | nil=>exact .nil
  | cons p r ih =>
    have e1:Ym (p :: r)=zJN p.2.1 p.2.2++Ym r:=by simp [Ym]
    have e2:Ym ((p :: r).map (fg A))=zJN (fg A p).2.1 (fg A p).2.2++Ym (r.map (fg A)):=by simp [Ym]
    rw [e1,e2]
    unfold fg
    split
    · exact .cons (fun _ h=>h) (.cons (fun _ _=>trivial) (.cons (fun _ _=>trivial) ih))
    · exact .cons (fun _ h=>h) (.cons (fun _ h=>h) (.cons (fun _ h=>h) ih))
theorem zOY (Z:WX) (a:ZO):({ Z with desks:=if zW Z.court a.A then Z.desks.map (fg a.A) else Z.desks }:WX).w=(J5 Z.w a).1:=by
  unfold J5 WX.w
  simp only
  cases zW Z.court a.A with
  | false=>rfl
  | true =>
    simp only [Bool.not_true,if_true,Bool.false_eq_true,if_false,List.map_map]
    congr 1
    refine List.map_congr_left fun p _=>?_
    simp only [Function.comp,fg]
    split <;> rfl
theorem zO6 {iw:Nat} {Z:WX} {a:ZO} {N:Nat} {k:List It} {K:List (Nat×V)} {H:List Blk} {R:Hp} {n dst:Nat} {rnd:Option Nat} {Q:Ex→St→Prop} {all os:List Oper} {p:Op} {ty:TypeId} {pos:String} {after:Array Edge} {g:Option (Nat×Bool)} (hH:Has H (cAll iw Z++R)) (hw:wants all K g=some true) (hc:callee K p=some (.fn 21 [.ptr iw 0 0,zL a])) (hd:Nat.blt dst n=true)
    (h:∀ H Z1,Z1.w=(J5 Z.w a).1→Has H (cAll iw Z1++R)→GS CC N (.ops all os :: k) ⟨(dst,V.i (J5 Z.w a).2) :: K,H,0,rnd,n⟩ Q) :
    GS CC N (.ops all (⟨some dst,p,ty,pos,after,g⟩ :: os) :: k) ⟨K,H,0,rnd,n⟩ Q:=by
  have hP:Has H (cW iw Z :: cM Z :: (JZ Z.desks++([cL Z,cS Z,cC Z]++(Ym Z.desks++R)))):=by
    refine hH.perm ?_
    unfold cAll core
    have e1:([cW iw Z,cL Z,cS Z,cC Z,cM Z]++allD Z.desks++R).Perm ([cW iw Z,cM Z]++([cL Z,cS Z,cC Z]++((JZ Z.desks++Ym Z.desks)++R))):=by
      rw [List.append_assoc]
      refine (List.Perm.append_left _ (List.Perm.append_right R (zHb Z.desks))).trans ?_
      refine List.Perm.cons _ ?_
      exact (List.perm_append_comm (l₁:=[cL Z,cS Z,cC Z]) (l₂:=[cM Z])).append_right _
    refine e1.trans (List.Perm.cons _ (List.Perm.cons _ ?_))
    rw [List.append_assoc]
    exact List.perm_append_comm_assoc [cL Z,cS Z,cC Z] (JZ Z.desks) (Ym Z.desks++R)
  have hna:([V.i Z.court.Arbiters,V.i Z.last,ovlz Z.nl Z.il Z.letters,ovlz true Z.is Z.sent].all (nm 9))=true:=by
    simp only [List.all_cons,List.all_nil,Bool.and_true,zIe _ _ _ 8]; rfl
  have hnb:([ovlz true Z.ic Z.cases].all (nm 9))=true:=by
    simp only [List.all_cons,List.all_nil,Bool.and_true,zIe _ _ _ 8]
  refine S.hid (a:=[V.i Z.court.Arbiters,V.i Z.last,ovlz Z.nl Z.il Z.letters,ovlz true Z.is Z.sent]) (b:=[ovlz true Z.ic Z.cases]) (T:=fun v V' => v=V.i (J5 Z.w a).2∧∃ l,V'=JZ l∧l=if zW Z.court a.A then Z.desks.map (fg a.A) else Z.desks) (zLC iw Z a) hP hna hnb hw hc hd fun v V' H' hT hH' => ?_
  obtain ⟨rfl,l,rfl,rfl⟩:=hT
  obtain ⟨Z1,hZ1⟩:∃ Z1:WX,Z1 = { Z with desks:=if zW Z.court a.A then Z.desks.map (fg a.A) else Z.desks }:=⟨_,rfl⟩
  refine h H' Z1 (by rw [hZ1]; exact zOY Z a) ?_
  have hM:cM Z1=cM Z:=by
    unfold cM WX.dm
    rw [hZ1]
    simp only
    split
    · simp only [List.map_map]
      have:List.map ((fun p:(Int×Int)×zT×DI=>(p.1,some p.2.2.id))∘fg a.A) Z.desks=List.map (fun p=>(p.1,some p.2.2.id)) Z.desks:=List.map_congr_left fun p _=>by
        simp only [Function.comp,fg]
        split <;> rfl
      rw [this]
    · rfl
  have hW:Weak (Ym Z.desks) (Ym Z1.desks):=by
    rw [hZ1]
    simp only
    split
    · exact rest_fg a.A Z.desks
    · exact Weak.refl _
  have hd1:(if zW Z.court a.A then Z.desks.map (fg a.A) else Z.desks)=Z1.desks:=by rw [hZ1]
  rw [hd1] at hH'
  have hQ:Has H' (cW iw Z1 :: cM Z1 :: (JZ Z1.desks++([cL Z1,cS Z1,cC Z1]++(Ym Z1.desks++R)))):=by
    rw [hM]
    have h0:=(Weak.left (cW iw Z :: cM Z :: (JZ Z1.desks++[cL Z,cS Z,cC Z])) (hW.app R)).has (H:=H') (by simpa using hH')
    have e:cW iw Z1=cW iw Z∧cL Z1=cL Z∧cS Z1=cS Z∧cC Z1=cC Z:=by rw [hZ1]; exact ⟨rfl,rfl,rfl,rfl⟩
    rw [e.1,e.2.1,e.2.2.1,e.2.2.2]
    simpa using h0
  refine hQ.perm ?_
  refine List.Perm.symm ?_
  unfold cAll core
  have e1:([cW iw Z1,cL Z1,cS Z1,cC Z1,cM Z1]++allD Z1.desks++R).Perm ([cW iw Z1,cM Z1]++([cL Z1,cS Z1,cC Z1]++((JZ Z1.desks++Ym Z1.desks)++R))):=by
    rw [List.append_assoc]
    refine (List.Perm.append_left _ (List.Perm.append_right R (zHb Z1.desks))).trans ?_
    refine List.Perm.cons _ ?_
    exact (List.perm_append_comm (l₁:=[cL Z1,cS Z1,cC Z1]) (l₂:=[cM Z1])).append_right _
  refine e1.trans (List.Perm.cons _ (List.Perm.cons _ ?_))
  rw [List.append_assoc]
  exact List.perm_append_comm_assoc [cL Z1,cS Z1,cC Z1] (JZ Z1.desks) (Ym Z1.desks++R)
theorem zFR (a b:ZO):eqA CC.ty 32 (zL a) (zL b)=some (decide (a=b)):=by
  refine (X.eqa rfl rfl (X.eqp rfl rfl rfl (X.eqp rfl rfl rfl (X.eqp rfl rfl rfl (X.eqp rfl rfl rfl (X.eqp rfl rfl rfl X.eqn')))))).trans ?_
  congr 1
  rw [Bool.eq_iff_iff]
  simp only [Bool.and_eq_true,decide_eq_true_eq,beq_iff_eq,and_true]
  constructor
  · intro h
    obtain ⟨a1,a2,a3,a4,a5⟩:=a
    obtain ⟨b1,b2,b3,b4,b5⟩:=b
    simp at h
    simp [h]
  · rintro rfl
    simp
def gdo (iw:Nat):Option Nat→V
  | none=>.lit .nilFunc
  | some f=>.fn (f+1000000) [.ptr iw 0 0]
def doF (k:Int):Option Nat:=if k=1 then some 16 else if k=2 then some 17 else if k=3 then some 18 else if k=4 then some 19 else if k=5 then some 20 else if k=6 then some 21 else none
theorem zLx (iw:Nat) (Z:WX) (a:ZO) (hn:Z.court.Arbiters≤1000000) (hl:Z.letters.length≤1000000) {r:zN×Int} (hM:w_do Z.w a=some r):ImCt CC 6 [.ptr iw 0 0,zL a] (cAll iw Z) (fun v L' => ∃ Z',v=V.i r.2∧Z'.w=r.1∧L'=cAll iw Z'):=by
  refine ⟨_,_,rfl,fun R H hH=>?_⟩
  refine aus ?_
  refine S.box hH rfl rfl rfl fun ib H hH=>?_
  replace hH:Has H ((ib,isB (.rows 5 [zL a])) :: (cAll iw Z++R)):=hH
  refine aus ?_
  refine X.opR rfl (S.ld 0 hH rfl rfl rfl rfl rfl) rfl ?_
  refine S.box hH rfl rfl rfl fun ir H hH=>?_
  refine S.w0 0 hH rfl rfl (S.st 0 hH rfl rfl rfl rfl rfl rfl rfl) fun H hH=>?_
  replace hH:Has H ((ir,isB (.rows 5 [zL a])) :: (ib,isB (.rows 5 [zL a])) :: (cAll iw Z++R)):=hH
  refine aus ?_
  refine X.opR rfl (S.ld 1 hH rfl rfl rfl rfl rfl) rfl ?_
  refine GS.za ?_
  refine X.join (τ:=List Blk) (fun H=>Has H ((ir,isB (.rows 5 [zL (doR a)])) :: (ib,isB (.rows 5 [zL a])) :: (cAll iw Z++R))) (fun H=>⟨[(0,.ptr iw 0 0),(3,.ptr ib 0 0),(5,.ptr ir 0 0),(6,gdo iw (doF a.Kind))],H,0,none,55⟩) ?_ ?_
  · clear hH
    intro H hH
    have ht:false=false:=rfl
    unfold w_do at hM
    by_cases k1:a.Kind=1
    · have hF : doF a.Kind = some 16 := by rw [k1]; rfl
      rw [hF]
      refine aus ?_
      refine X.opR (X.on_f rfl rfl rfl ht) (S.ld 0 hH rfl rfl rfl rfl rfl) rfl ?_
      refine aus ?_
      refine X.opR (X.on_f rfl rfl rfl ht) (S.ld 1 hH rfl rfl rfl rfl rfl) rfl ?_
      refine aus ?_
      refine X.opR (X.on_f rfl rfl rfl ht) (X.neqE (zFR (doR a) ⟨a.Kind,0,0,0,0⟩) rfl rfl) rfl ?_
      refine aus ?_
      refine X.cond rfl (fun h=>?_) (fun h=>?_)
      · have h' : doR a ≠ ⟨a.Kind, 0, 0, 0, 0⟩ := by
          intro q; rw [decide_eq_true q] at h; cases h
        rw [if_pos h'] at hM
        cases hM
        refine aus ?_
        exact GS.ret ⟨_,rfl,_,⟨Z,rfl,rfl,rfl⟩,hH.tail.tail⟩
      · have h' : ¬ doR a ≠ ⟨a.Kind, 0, 0, 0, 0⟩ := by
          intro q; rw [decide_eq_false q] at h; cases h
        rw [if_neg h'] at hM
        rw [if_pos k1] at hM
        refine aus ?_
        refine X.opR rfl (S.ld 1 hH rfl rfl rfl rfl rfl) rfl ?_
        have hC:Has H (cAll iw Z++([(ir,isB (.rows 5 [zL (doR a)])),(ib,isB (.rows 5 [zL a]))]++R)):=(show Has H ([(ir,isB (.rows 5 [zL (doR a)])),(ib,isB (.rows 5 [zL a]))]++(cAll iw Z++R)) from hH).perm (List.perm_append_comm_assoc _ _ _)
        refine S.im (im_wish iw Z a hn hM) hC rfl rfl rfl fun v L' H hT hH=>?_
        obtain ⟨Z3,rfl,e3,rfl⟩:=hT
        refine aus ?_
        exact GS.ret ⟨_,rfl,_,⟨Z3,rfl,e3,rfl⟩,((show Has H (cAll iw Z3++([(ir,isB (.rows 5 [zL (doR a)])),(ib,isB (.rows 5 [zL a]))]++R)) from hH).perm (List.perm_append_comm_assoc _ _ _)).tail.tail⟩
    by_cases k2:a.Kind=2
    · have hF : doF a.Kind = some 17 := by rw [k2]; rfl
      rw [hF]
      refine aus ?_
      refine X.opR (X.on_f rfl rfl rfl ht) (S.ld 0 hH rfl rfl rfl rfl rfl) rfl ?_
      refine aus ?_
      refine X.opR (X.on_f rfl rfl rfl ht) (S.ld 1 hH rfl rfl rfl rfl rfl) rfl ?_
      refine aus ?_
      refine X.opR (X.on_f rfl rfl rfl ht) (X.neqE (zFR (doR a) ⟨a.Kind,0,0,0,0⟩) rfl rfl) rfl ?_
      refine aus ?_
      refine X.cond rfl (fun h=>?_) (fun h=>?_)
      · have h' : doR a ≠ ⟨a.Kind, 0, 0, 0, 0⟩ := by
          intro q; rw [decide_eq_true q] at h; cases h
        rw [if_pos h'] at hM
        cases hM
        refine aus ?_
        exact GS.ret ⟨_,rfl,_,⟨Z,rfl,rfl,rfl⟩,hH.tail.tail⟩
      · have h' : ¬ doR a ≠ ⟨a.Kind, 0, 0, 0, 0⟩ := by
          intro q; rw [decide_eq_false q] at h; cases h
        rw [if_neg h'] at hM
        rw [if_neg (by rw [k2]; decide)] at hM
        rw [if_pos k2] at hM
        refine aus ?_
        refine X.opR rfl (S.ld 1 hH rfl rfl rfl rfl rfl) rfl ?_
        have hC:Has H (cAll iw Z++([(ir,isB (.rows 5 [zL (doR a)])),(ib,isB (.rows 5 [zL a]))]++R)):=(show Has H ([(ir,isB (.rows 5 [zL (doR a)])),(ib,isB (.rows 5 [zL a]))]++(cAll iw Z++R)) from hH).perm (List.perm_append_comm_assoc _ _ _)
        refine S.im (im_open iw Z a hn hM) hC rfl rfl rfl fun v L' H hT hH=>?_
        obtain ⟨Z3,rfl,e3,rfl⟩:=hT
        refine aus ?_
        exact GS.ret ⟨_,rfl,_,⟨Z3,rfl,e3,rfl⟩,((show Has H (cAll iw Z3++([(ir,isB (.rows 5 [zL (doR a)])),(ib,isB (.rows 5 [zL a]))]++R)) from hH).perm (List.perm_append_comm_assoc _ _ _)).tail.tail⟩
    by_cases k3:a.Kind=3
    · have hF : doF a.Kind = some 18 := by rw [k3]; rfl
      rw [hF]
      refine aus ?_
      refine X.opR (X.on_f rfl rfl rfl ht) (S.ld 0 hH rfl rfl rfl rfl rfl) rfl ?_
      refine aus ?_
      refine X.opR (X.on_f rfl rfl rfl ht) (S.ld 1 hH rfl rfl rfl rfl rfl) rfl ?_
      refine aus ?_
      refine X.opR (X.on_f rfl rfl rfl ht) (X.neqE (zFR (doR a) ⟨a.Kind,0,0,0,0⟩) rfl rfl) rfl ?_
      refine aus ?_
      refine X.cond rfl (fun h=>?_) (fun h=>?_)
      · have h' : doR a ≠ ⟨a.Kind, 0, 0, 0, 0⟩ := by
          intro q; rw [decide_eq_true q] at h; cases h
        rw [if_pos h'] at hM
        cases hM
        refine aus ?_
        exact GS.ret ⟨_,rfl,_,⟨Z,rfl,rfl,rfl⟩,hH.tail.tail⟩
      · have h' : ¬ doR a ≠ ⟨a.Kind, 0, 0, 0, 0⟩ := by
          intro q; rw [decide_eq_false q] at h; cases h
        rw [if_neg h'] at hM
        rw [if_neg (by rw [k3]; decide)] at hM
        rw [if_neg (by rw [k3]; decide)] at hM
        rw [if_pos k3] at hM
        refine aus ?_
        refine X.opR rfl (S.ld 1 hH rfl rfl rfl rfl rfl) rfl ?_
        have hC:Has H (cAll iw Z++([(ir,isB (.rows 5 [zL (doR a)])),(ib,isB (.rows 5 [zL a]))]++R)):=(show Has H ([(ir,isB (.rows 5 [zL (doR a)])),(ib,isB (.rows 5 [zL a]))]++(cAll iw Z++R)) from hH).perm (List.perm_append_comm_assoc _ _ _)
        refine S.im (zLD iw Z a hn hl hM) hC rfl rfl rfl fun v L' H hT hH=>?_
        obtain ⟨Z3,rfl,e3,rfl⟩:=hT
        refine aus ?_
        exact GS.ret ⟨_,rfl,_,⟨Z3,rfl,e3,rfl⟩,((show Has H (cAll iw Z3++([(ir,isB (.rows 5 [zL (doR a)])),(ib,isB (.rows 5 [zL a]))]++R)) from hH).perm (List.perm_append_comm_assoc _ _ _)).tail.tail⟩
    by_cases k4:a.Kind=4
    · have hF : doF a.Kind = some 19 := by rw [k4]; rfl
      rw [hF]
      refine aus ?_
      refine X.opR (X.on_f rfl rfl rfl ht) (S.ld 0 hH rfl rfl rfl rfl rfl) rfl ?_
      refine aus ?_
      refine X.opR (X.on_f rfl rfl rfl ht) (S.ld 1 hH rfl rfl rfl rfl rfl) rfl ?_
      refine aus ?_
      refine X.opR (X.on_f rfl rfl rfl ht) (X.neqE (zFR (doR a) ⟨a.Kind,0,0,0,0⟩) rfl rfl) rfl ?_
      refine aus ?_
      refine X.cond rfl (fun h=>?_) (fun h=>?_)
      · have h' : doR a ≠ ⟨a.Kind, 0, 0, 0, 0⟩ := by
          intro q; rw [decide_eq_true q] at h; cases h
        rw [if_pos h'] at hM
        cases hM
        refine aus ?_
        exact GS.ret ⟨_,rfl,_,⟨Z,rfl,rfl,rfl⟩,hH.tail.tail⟩
      · have h' : ¬ doR a ≠ ⟨a.Kind, 0, 0, 0, 0⟩ := by
          intro q; rw [decide_eq_false q] at h; cases h
        rw [if_neg h'] at hM
        rw [if_neg (by rw [k4]; decide)] at hM
        rw [if_neg (by rw [k4]; decide)] at hM
        rw [if_neg (by rw [k4]; decide)] at hM
        rw [if_pos k4] at hM
        refine aus ?_
        refine X.opR rfl (S.ld 1 hH rfl rfl rfl rfl rfl) rfl ?_
        have hC:Has H (cAll iw Z++([(ir,isB (.rows 5 [zL (doR a)])),(ib,isB (.rows 5 [zL a]))]++R)):=(show Has H ([(ir,isB (.rows 5 [zL (doR a)])),(ib,isB (.rows 5 [zL a]))]++(cAll iw Z++R)) from hH).perm (List.perm_append_comm_assoc _ _ _)
        refine S.im (im_lose iw Z a hl hM) hC rfl rfl rfl fun v L' H hT hH=>?_
        obtain ⟨Z3,rfl,e3,rfl⟩:=hT
        refine aus ?_
        exact GS.ret ⟨_,rfl,_,⟨Z3,rfl,e3,rfl⟩,((show Has H (cAll iw Z3++([(ir,isB (.rows 5 [zL (doR a)])),(ib,isB (.rows 5 [zL a]))]++R)) from hH).perm (List.perm_append_comm_assoc _ _ _)).tail.tail⟩
    by_cases k5:a.Kind=5
    · have hF : doF a.Kind = some 20 := by rw [k5]; rfl
      rw [hF]
      refine aus ?_
      refine X.opR (X.on_f rfl rfl rfl ht) (S.ld 0 hH rfl rfl rfl rfl rfl) rfl ?_
      refine aus ?_
      refine X.opR (X.on_f rfl rfl rfl ht) (S.ld 1 hH rfl rfl rfl rfl rfl) rfl ?_
      refine aus ?_
      refine X.opR (X.on_f rfl rfl rfl ht) (X.neqE (zFR (doR a) ⟨a.Kind,0,0,0,0⟩) rfl rfl) rfl ?_
      refine aus ?_
      refine X.cond rfl (fun h=>?_) (fun h=>?_)
      · have h' : doR a ≠ ⟨a.Kind, 0, 0, 0, 0⟩ := by
          intro q; rw [decide_eq_true q] at h; cases h
        rw [if_pos h'] at hM
        cases hM
        refine aus ?_
        exact GS.ret ⟨_,rfl,_,⟨Z,rfl,rfl,rfl⟩,hH.tail.tail⟩
      · have h' : ¬ doR a ≠ ⟨a.Kind, 0, 0, 0, 0⟩ := by
          intro q; rw [decide_eq_false q] at h; cases h
        rw [if_neg h'] at hM
        rw [if_neg (by rw [k5]; decide)] at hM
        rw [if_neg (by rw [k5]; decide)] at hM
        rw [if_neg (by rw [k5]; decide)] at hM
        rw [if_neg (by rw [k5]; decide)] at hM
        rw [if_pos k5] at hM
        refine aus ?_
        refine X.opR rfl (S.ld 1 hH rfl rfl rfl rfl rfl) rfl ?_
        have hC:Has H (cAll iw Z++([(ir,isB (.rows 5 [zL (doR a)])),(ib,isB (.rows 5 [zL a]))]++R)):=(show Has H ([(ir,isB (.rows 5 [zL (doR a)])),(ib,isB (.rows 5 [zL a]))]++(cAll iw Z++R)) from hH).perm (List.perm_append_comm_assoc _ _ _)
        refine S.im (zM5 iw Z a hM) hC rfl rfl rfl fun v L' H hT hH=>?_
        obtain ⟨Z3,rfl,e3,rfl⟩:=hT
        refine aus ?_
        exact GS.ret ⟨_,rfl,_,⟨Z3,rfl,e3,rfl⟩,((show Has H (cAll iw Z3++([(ir,isB (.rows 5 [zL (doR a)])),(ib,isB (.rows 5 [zL a]))]++R)) from hH).perm (List.perm_append_comm_assoc _ _ _)).tail.tail⟩
    by_cases k6:a.Kind=6
    · have hF : doF a.Kind = some 21 := by rw [k6]; rfl
      rw [hF]
      refine aus ?_
      refine X.opR (X.on_f rfl rfl rfl ht) (S.ld 0 hH rfl rfl rfl rfl rfl) rfl ?_
      refine aus ?_
      refine X.opR (X.on_f rfl rfl rfl ht) (S.ld 1 hH rfl rfl rfl rfl rfl) rfl ?_
      refine aus ?_
      refine X.opR (X.on_f rfl rfl rfl ht) (X.neqE (zFR (doR a) ⟨a.Kind,0,0,0,0⟩) rfl rfl) rfl ?_
      refine aus ?_
      refine X.cond rfl (fun h=>?_) (fun h=>?_)
      · have h' : doR a ≠ ⟨a.Kind, 0, 0, 0, 0⟩ := by
          intro q; rw [decide_eq_true q] at h; cases h
        rw [if_pos h'] at hM
        cases hM
        refine aus ?_
        exact GS.ret ⟨_,rfl,_,⟨Z,rfl,rfl,rfl⟩,hH.tail.tail⟩
      · have h' : ¬ doR a ≠ ⟨a.Kind, 0, 0, 0, 0⟩ := by
          intro q; rw [decide_eq_false q] at h; cases h
        rw [if_neg h'] at hM
        rw [if_neg (by rw [k6]; decide)] at hM
        rw [if_neg (by rw [k6]; decide)] at hM
        rw [if_neg (by rw [k6]; decide)] at hM
        rw [if_neg (by rw [k6]; decide)] at hM
        rw [if_neg (by rw [k6]; decide)] at hM
        rw [if_pos k6] at hM
        refine aus ?_
        refine X.opR rfl (S.ld 1 hH rfl rfl rfl rfl rfl) rfl ?_
        have hC:Has H (cAll iw Z++([(ir,isB (.rows 5 [zL (doR a)])),(ib,isB (.rows 5 [zL a]))]++R)):=(show Has H ([(ir,isB (.rows 5 [zL (doR a)])),(ib,isB (.rows 5 [zL a]))]++(cAll iw Z++R)) from hH).perm (List.perm_append_comm_assoc _ _ _)
        cases hM
        refine zO6 hC rfl rfl rfl fun H Z3 e3 hH=>?_
        refine aus ?_
        exact GS.ret ⟨_,rfl,_,⟨Z3,rfl,e3,rfl⟩,((show Has H (cAll iw Z3++([(ir,isB (.rows 5 [zL (doR a)])),(ib,isB (.rows 5 [zL a]))]++R)) from hH).perm (List.perm_append_comm_assoc _ _ _)).tail.tail⟩
    have hF:doF a.Kind=none:=by simp [doF,k1,k2,k3,k4,k5,k6]
    have hr:r=(Z.w,1):=by
      simp only [k1,k2,k3,k4,k5,k6,if_false] at hM
      split at hM <;> (cases hM; rfl)
    rw [hF]
    subst hr
    have htt:true=true:=rfl
    refine aus ?_
    refine X.cond rfl (fun _=>?_) (fun h=>?_)
    · refine aus ?_
      exact GS.ret ⟨_,rfl,_,⟨Z,rfl,rfl,rfl⟩,hH.tail.tail⟩
    · cases h
  · intro hj
    refine GS.block (GS.seq (GS.region (X.q rfl (X.q rfl (GS.za ?_)))))
    refine X.cond rfl (fun k1=>?_) (fun k1=>?_)
    · have k1' : a.Kind = 1 := of_decide_eq_true k1
      have hF:doF a.Kind=some 16:=by rw [k1']; rfl
      have hR:doR a = { a with A:=0,Case:=0,Finding:=0 }:=by unfold doR; simp [k1']
      rw [hF,hR] at hj
      refine GS.region (X.q rfl (X.q rfl (X.q rfl ?_)))
      refine S.w0 0 hH rfl rfl (S.st 0 hH rfl rfl rfl rfl rfl rfl rfl) fun H hH=>(X.q rfl ?_)
      refine S.w0 0 hH rfl rfl (S.st 0 hH rfl rfl rfl rfl rfl rfl rfl) fun H hH=>(X.q rfl ?_)
      refine S.w0 0 hH rfl rfl (S.st 0 hH rfl rfl rfl rfl rfl rfl rfl) fun H hH=>(X.q rfl (GS.za (GS.endB ?_)))
      exact X.norm _ (hj H hH) rfl (sr rfl)
    · have k1' : ¬ a.Kind = 1 := of_decide_eq_false k1
      refine GS.seq (GS.region (X.q rfl (X.q rfl (GS.za ?_))))
      refine X.cond rfl (fun k2=>?_) (fun k2=>?_)
      · have k2' : a.Kind = 2 := of_decide_eq_true k2
        have hF:doF a.Kind=some 17:=by rw [k2']; rfl
        have hR:doR a = { a with A:=0,Case:=0 }:=by unfold doR; simp [k2']
        rw [hF,hR] at hj
        refine GS.region (X.q rfl (X.q rfl (X.q rfl ?_)))
        refine S.w0 0 hH rfl rfl (S.st 0 hH rfl rfl rfl rfl rfl rfl rfl) fun H hH=>(X.q rfl ?_)
        refine S.w0 0 hH rfl rfl (S.st 0 hH rfl rfl rfl rfl rfl rfl rfl) fun H hH=>(X.q rfl (GS.za (GS.endB ?_)))
        exact X.norm _ (hj H hH) rfl (sr rfl)
      · have k2' : ¬ a.Kind = 2 := of_decide_eq_false k2
        refine GS.seq (GS.region (X.q rfl (X.q rfl (GS.za ?_))))
        refine X.cond rfl (fun k3=>?_) (fun k3=>?_)
        · have k3' : a.Kind = 3 := of_decide_eq_true k3
          have hF:doF a.Kind=some 18:=by rw [k3']; rfl
          have hR:doR a = { a with N:=0 }:=by unfold doR; simp [k3']
          rw [hF,hR] at hj
          refine GS.region (X.q rfl (X.q rfl (X.q rfl ?_)))
          refine S.w0 0 hH rfl rfl (S.st 0 hH rfl rfl rfl rfl rfl rfl rfl) fun H hH=>(X.q rfl (GS.za (GS.endB ?_)))
          exact X.norm _ (hj H hH) rfl (sr rfl)
        · have k3' : ¬ a.Kind = 3 := of_decide_eq_false k3
          refine GS.seq (GS.region (X.q rfl (X.q rfl (GS.za ?_))))
          refine X.cond rfl (fun k4=>?_) (fun k4=>?_)
          · have k4' : a.Kind = 4 := of_decide_eq_true k4
            have hF:doF a.Kind=some 19:=by rw [k4']; rfl
            have hR:doR a = { a with N:=0 }:=by unfold doR; simp [k4']
            rw [hF,hR] at hj
            refine GS.region (X.q rfl (X.q rfl (X.q rfl ?_)))
            refine S.w0 0 hH rfl rfl (S.st 0 hH rfl rfl rfl rfl rfl rfl rfl) fun H hH=>(X.q rfl (GS.za (GS.endB ?_)))
            exact X.norm _ (hj H hH) rfl (sr rfl)
          · have k4' : ¬ a.Kind = 4 := of_decide_eq_false k4
            refine GS.seq (GS.region (X.q rfl (X.q rfl (GS.za ?_))))
            refine X.cond rfl (fun k5=>?_) (fun k5=>?_)
            · have k5' : a.Kind = 5 := of_decide_eq_true k5
              have hF:doF a.Kind=some 20:=by rw [k5']; rfl
              have hR:doR a = { a with N:=0 }:=by unfold doR; simp [k5']
              rw [hF,hR] at hj
              refine GS.region (X.q rfl (X.q rfl (X.q rfl ?_)))
              refine S.w0 0 hH rfl rfl (S.st 0 hH rfl rfl rfl rfl rfl rfl rfl) fun H hH=>(X.q rfl (GS.za (GS.endB ?_)))
              exact X.norm _ (hj H hH) rfl (sr rfl)
            · have k5' : ¬ a.Kind = 5 := of_decide_eq_false k5
              refine GS.seq (GS.region (X.q rfl (X.q rfl (GS.za ?_))))
              refine X.cond rfl (fun k6=>?_) (fun k6=>?_)
              · have k6' : a.Kind = 6 := of_decide_eq_true k6
                have hF:doF a.Kind=some 21:=by rw [k6']; rfl
                have hR:doR a = { a with A:=0 }:=by unfold doR; simp [k6']
                rw [hF,hR] at hj
                refine GS.region (X.q rfl (X.q rfl (X.q rfl ?_)))
                refine S.w0 0 hH rfl rfl (S.st 0 hH rfl rfl rfl rfl rfl rfl rfl) fun H hH=>(X.q rfl (GS.za (GS.endB ?_)))
                exact X.norm _ (hj H hH) rfl (sr rfl)
              · have k6' : ¬ a.Kind = 6 := of_decide_eq_false k6
                have hF:doF a.Kind=none:=by simp [doF,k1',k2',k3',k4',k5',k6']
                have hR:doR a=a:=by simp [doR,k1',k2',k3',k4',k5',k6']
                rw [hF,hR] at hj
                refine GS.skip (GS.endB ?_)
                exact X.norm _ (hj H hH) rfl (sr rfl)
end Go.Proofs.YtggkidlcohickaaGreat
