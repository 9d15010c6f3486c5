/- Part of the proof of BerthFull: plain laws about the functions of M, no program in sight. Conditions: none. -/
import Derived.Test.YtmebbbblomlgdaaGreatLawYu
import Derived.Test.YtmebbbblomlgdaaGreatLawYn
import Derived.Test.YtmebbbblomlgdaaGreatLawYt
import Derived.Test.YtmebbbblomlgdaaGreatOkp
set_option linter.unusedVariables false
set_option linter.unusedSimpArgs false
namespace Go.Mx
def rowS (h:zG) (c:zJ):List zB:=(jc h c 0 h.Tides).map (·.1)
def choS (h:zG) (l:List zJ):zm:=⟨l.map (rowS h)⟩
theorem zGV {h:zG} {l:List zJ} (hg:QU h l):Yo h l=some (choS h l):=by
 have hn:=hg.n
 unfold Yo
 refine (Zw l (by omega) (fun (o:List (List zB)) i=>(i,o)) (fun o r=>(⟨o++r.map (rowS h)⟩:zm)) (fun i o=>o.length=i) (a:=[]) rfl rfl (fun o i hi ho=>?_) fun o _=>?_).trans (by simp [choS])
 ·left
  unfold QX
  simp only
  rw [if_pos (by simpa using hi),ZY hi,Option.bind_some,zJD hg.h (zDX.of (hg.r _ (List.getElem_mem hi))),Option.bind_some,j5 (by simp; omega),Option.bind_some,w64s' hi (by omega)]
  exact ⟨_,rfl,by rw [List.map_cons,List.append_assoc]; rfl,by simp [ho]⟩
 ·unfold QX yz
  simp only
  rw [if_neg (by simp)]
  simp
theorem zOC {h:zG} {c:zJ} {x:zB}:x∈rowS h c↔(ZE x (jc h c 0 h.Tides)).isSome=true:=by
 unfold rowS
 rw [List.mem_map]
 constructor
 ·rintro ⟨⟨y,s⟩,hy,rfl⟩
  cases e:ZE y (jc h c 0 h.Tides) with
  | none=>exact absurd hy (zH8 e s)
  | some v=>simp only [e,Option.isSome_some]
 ·intro e
  rw [Option.isSome_iff_exists] at e
  obtain ⟨v,e⟩:=e
  exact ⟨_,zJT e,rfl⟩
theorem zF9 {h:zG} {c:zJ} {x:zB} (hx:x∈rowS h c):x∈YO h 0 h.Tides:=by
 obtain ⟨j,hj,b,hb,e,_⟩:=zOE.1 hx
 exact zE0.2 ⟨j,hj,b,hb,by rw [e]; simp⟩
theorem zHD {h:zG} {l:List zJ} {r k:Nat} (hr:r<l.length) (hk:k<(zR h l).slots.length):canB (zR h l) r k=true↔(zR h l).slots[k]∈rowS h l[r]:=by
 unfold canB
 rw [zFd hr,getD_lt hk,zOC]
theorem zKp {h:zG} {l:List zJ} (hg:QU h l) {ok:Nat→Bool} {c:Nat→List zB} (hc:∀ r (hr:r<l.length),c r=if ok r=true then rowS h l[r] else []) {m:Nat} (e:∃ μ,Mat (zR h l) μ∧(∀ r,ok r=false→μ r=none)∧(dom (zR h l) μ).length=m) (hm:∀ μ,Mat (zR h l) μ→(∀ r,ok r=false→μ r=none)→(dom (zR h l) μ).length≤m):MaxA c l.length m:=by
 have hnd:(zR h l).slots.Nodup:=zFG hg.h h.Tides 0
 have ecl:(zR h l).calls=l:=rfl
 have to:∀ μ,Mat (zR h l) μ→(∀ r,ok r=false→μ r=none)→∃ ν,MatA c l.length ν∧(domA l.length ν).length=(dom (zR h l) μ).length:=by
  intro μ hμ ho
  refine ⟨fun r=>(μ r).bind fun k=>(zR h l).slots[k]?,⟨fun r x ex=>?_,fun r q x e1 e2=>?_⟩,?_⟩
  ·obtain ⟨k,h1,h2⟩:=Option.bind_eq_some_iff.1 ex
   obtain ⟨a1,a2,a3⟩:=hμ.c r k h1
   have a1':r<l.length:=a1
   refine ⟨a1',?_⟩
   rw [hc r a1',if_pos (by cases w:ok r with | true=>rfl | false=>rw [ho r w] at h1; cases h1)]
   have:=(zHD a1' a2).1 a3
   rw [List.getElem?_eq_getElem a2] at h2
   cases h2
   exact this
  ·obtain ⟨k,h1,h2⟩:=Option.bind_eq_some_iff.1 e1
   obtain ⟨j,h3,h4⟩:=Option.bind_eq_some_iff.1 e2
   have:=zDx hnd h2 h4
   subst this
   exact hμ.i r q k h1 h3
  ·unfold domA dom
   congr 1
   refine List.filter_congr fun r hr=>?_
   show ((μ r).bind _).isSome=(μ r).isSome
   cases e1:μ r with
   | none=>rfl
   | some k =>
    obtain ⟨a1,a2,a3⟩:=hμ.c r k e1
    rw [Option.bind_some,List.getElem?_eq_getElem a2]; rfl
 have fro:∀ ν,MatA c l.length ν→∃ μ,Mat (zR h l) μ∧(∀ r,ok r=false→μ r=none)∧(domA l.length ν).length=(dom (zR h l) μ).length:=by
  intro ν hν
  have hrow:∀ r x,ν r=some x→∃ hr:r<l.length,ok r=true∧x∈rowS h l[r]∧x∈(zR h l).slots:=fun r x e1=>by
   obtain ⟨a1,a2⟩:=hν.c r x e1
   rw [hc r a1] at a2
   cases w:ok r with
   | true=>rw [w,if_pos rfl] at a2; exact ⟨a1,rfl,a2,zF9 a2⟩
   | false=>rw [w,if_neg Bool.false_ne_true] at a2; cases a2
  refine ⟨fun r=>(ν r).bind fun x=>posL x (zR h l).slots,⟨fun r k ek=>?_,fun r q k e1 e2=>?_⟩,fun r w=>?_,?_⟩
  ·obtain ⟨x,h1,h2⟩:=Option.bind_eq_some_iff.1 ek
   obtain ⟨a1,a2,a3,a4⟩:=hrow r x h1
   have h3:=Jr h2
   have hk:=(List.getElem?_eq_some_iff.1 h3).1
   refine ⟨a1,hk,(zHD a1 hk).2 ?_⟩
   rw [(List.getElem?_eq_some_iff.1 h3).2]; exact a3
  ·obtain ⟨x,h1,h2⟩:=Option.bind_eq_some_iff.1 e1
   obtain ⟨y,h3,h4⟩:=Option.bind_eq_some_iff.1 e2
   have:=(Jr h2).symm.trans (Jr h4)
   cases this
   exact hν.i r q x h1 h3
  ·show (ν r).bind _=none
   cases e1:ν r with
   | none=>rfl
   | some x=>obtain ⟨_,a2,_⟩:=hrow r x e1; rw [w] at a2; cases a2
  ·unfold domA dom
   congr 1
   refine List.filter_congr fun r hr=>?_
   show (ν r).isSome=((ν r).bind _).isSome
   cases e1:ν r with
   | none=>rfl
   | some x =>
    obtain ⟨a1,a2,a3,a4⟩:=hrow r x e1
    rw [Option.bind_some]
    cases hp:posL x (zR h l).slots with
    | none=>exact absurd a4 (zCi hp)
    | some k=>rfl
 obtain ⟨μ,h1,h2,h3⟩:=e
 refine ⟨?_,fun ν hν=>?_⟩
 ·obtain ⟨ν,q1,q2⟩:=to μ h1 h2
  exact ⟨ν,q1,by omega⟩
 ·obtain ⟨μ',q1,q2,q3⟩:=fro ν hν
  have:=hm μ' q1 q2; omega
theorem zFK {h:zG} (hg:Qp h) (c:zJ):(rowS h c).length≤72:=by unfold rowS; rw [List.length_map]; exact zMx hg c
theorem zI9 {h:zG} (hg:Qp h):(YO h 0 h.Tides).length≤72:=by
 rw [zEq]
 have:=hg.nb; have:=hg.nt
 have:h.Berths.length*h.Tides.length≤6*12:=Nat.mul_le_mul (by omega) (by omega)
 omega
theorem zJF {h:zG} {l:List zJ} (hg:QU h l) {m:Nat} (hX:MaxM (zR h l) m):YQ (choS h l)=some (m:Int):=by
 have hn:=hg.n
 obtain ⟨m',h1,h2,_⟩:=zKa (c:=choS h l) (U:=YO h 0 h.Tides) (by have:=zI9 hg.h; omega)
  (fun r hr x hx=>by obtain ⟨c,_,rfl⟩:=List.mem_map.1 hr; exact zF9 hx) (fun r hr=>by obtain ⟨c,_,rfl⟩:=List.mem_map.1 hr; have:=zFK hg.h c; omega) (by simp [choS]; omega)
 have h3:=zKp hg (ok:=fun _=>true) (c:=yT (choS h l)) (fun r hr=>by
  rw [if_pos rfl]
  unfold yT choS
  rw [getD_lt (by simpa using hr)]; simp) ((let ⟨μ,a,b⟩:=hX.e; ⟨μ,a,(fun _ h=>by cases h),b⟩)) fun μ hμ _=>hX.m μ hμ
 have e:(choS h l).l.length=l.length:=by simp [choS]
 rw [e] at h2
 rw [h1,h2.uniq h3]
theorem zHW : ∀ (row o:List zB),row.length+o.length≤1000→JD [] row o=some (o++row)
 | [],o,_=>by simp [JD]
 | x :: r,o,h=>by
  simp only [List.length_cons] at h
  unfold JD
  rw [zJw [] (by simp),Option.bind_some,if_pos (by simp),j5 (by simp; omega),Option.bind_some,zHW r _ (by simp; omega)]
  simp
theorem zM3 {c:zm} (hrl:∀ r∈c.l,r.length≤1000) (hn:c.l.length≤1000) {i:Nat} (hi:i<c.l.length):zA6 c (i:Int) []=some ⟨c.l.set i []⟩:=by
 have key:∀ (k j:Nat) (o:List (List zB)),j+k=c.l.length→o.length=j→JE (i:Int) [] (c.l.drop j) (j:Int) o=some (o++(c.l.set i []).drop j):=by
  intro k
  induction k with
  | zero =>
   intro j o hj ho
   rw [List.drop_of_length_le (by omega),List.drop_of_length_le (by simp; omega)]
   simp [JE]
  | succ k ih =>
   intro j o hj ho
   have hj':j<c.l.length:=by omega
   rw [List.drop_eq_getElem_cons hj',List.drop_eq_getElem_cons (l:=c.l.set i []) (i:=j) (by simpa using hj'),List.getElem_set]
   unfold JE
   rw [w64s' hj' (by omega)]
   by_cases e:j=i
   ·subst e
    rw [if_pos (by simp),if_pos rfl,j5 (by simp; omega),Option.bind_some,ih (j+1) _ (by omega) (by simp [ho])]
    simp
   ·have hr:=hrl _ (List.getElem_mem hj')
    rw [if_neg (by simp; omega),if_pos (by simp; omega),zHW _ _ (by simp; omega),Option.bind_some,if_neg (show ¬ i=j by omega),j5 (by simp; omega),Option.bind_some,ih (j+1) _ (by omega) (by simp [ho])]
    simp
 unfold zA6
 rw [if_pos (by simp; omega)]
 have:=key c.l.length 0 [] (by omega) rfl
 rw [List.drop_zero,List.drop_zero] at this
 have e0:((0:Nat):Int)=0:=rfl
 rw [e0] at this
 rw [this]; rfl
theorem zLm {h:zG} {l:List zJ} (hg:QU h l) {i:Nat} (hi:i<l.length) {m':Nat} (hX:MaxM (zR h (Less l i)) m'):YQ ⟨(choS h l).l.set i []⟩=some (m':Int):=by
 have hn:=hg.n
 have e:((choS h l).l.set i []).length=l.length:=by simp [choS]
 obtain ⟨m,h1,h2,_⟩:=zKa (c:=⟨(choS h l).l.set i []⟩) (U:=YO h 0 h.Tides) (by have:=zI9 hg.h; omega)
  (fun r hr x hx=>by
   rcases List.mem_or_eq_of_mem_set hr with hr | rfl
   ·obtain ⟨c,_,rfl⟩:=List.mem_map.1 hr; exact zF9 hx
   ·cases hx) (fun r hr=>by
   rcases List.mem_or_eq_of_mem_set hr with hr | rfl
   ·obtain ⟨c,_,rfl⟩:=List.mem_map.1 hr; have:=zFK hg.h c; omega
   ·simp) (by simp only; omega)
 have h3:=zKp hg (ok:=fun r => !decide (r=i)) (c:=yT ⟨(choS h l).l.set i []⟩) (m:=m') (fun r hr=>by
  unfold yT choS
  rw [getD_lt (by simpa using hr),List.getElem_set]
  by_cases c:r=i
  ·rw [if_pos c.symm,if_neg (by simp [c])]
  ·rw [if_neg (fun q=>c q.symm),if_pos (by simp [c])]; simp) (zNJ hi hX) fun μ hμ h0=>(zJV hi hX hμ).2 (h0 i (by simp))
 simp only [e] at h2
 rw [h1,h2.uniq h3]
theorem zDo {α:Type} [DecidableEq α]:∀ {l r:List α},l.Nodup→r.Nodup→(∀ x,x∈l↔x∈r)→l.Perm r
 | [],r,_,_,h=>by
  cases r with
  | nil=>exact List.Perm.nil
  | cons a r=>exact absurd ((h a).2 List.mem_cons_self) (by simp)
 | a :: l,r,hl,hr,h=>by
  rw [List.nodup_cons] at hl
  have ha:=(h a).1 List.mem_cons_self
  refine (List.Perm.cons a (zDo hl.2 (hr.erase a) fun x=>?_)).trans (List.perm_cons_erase ha).symm
  by_cases e:x=a
  ·subst e
   exact ⟨fun q=>absurd q hl.1,fun q=>absurd q hr.not_mem_erase⟩
  ·rw [List.mem_erase_of_ne e,← h x,List.mem_cons]
   exact ⟨.inr,fun q=>q.resolve_left e⟩
theorem zKb (l:List zJ) (hl:Len l) (id:Int):zAg l id=some (yK (fun b=>decide (b.ID=id)) l 0):=by
 unfold zAg
 refine (Zw l hl (fun (k:Nat) i=>i) (fun k r=>yK (fun b:zJ=>decide (b.ID=id)) r (k:Int)) (fun i k=>k=i) (a:=0) rfl rfl (fun k i hi hk=>?_) fun k _=>?_)
 ·subst hk
  unfold zAq
  rw [if_pos (by simpa using hi),ZY hi,Option.bind_some]
  by_cases e:l[k].ID=id
  ·right; rw [if_pos (by simpa using e)]; simp only [yK,e,decide_true,if_true]
  ·left; rw [if_neg (by simpa using e),w64s' hi hl]
   refine ⟨k+1,rfl,?_,rfl⟩
   simp only [yK,e,decide_false,Bool.false_eq_true,if_false]
   congr 1
 ·unfold zAq
  rw [if_neg (by simp)]; rfl
theorem zNr (a b:List zB) (ha:a.length≤1000000):Yc a b=some (decide (a=b)):=by
 unfold Yc
 by_cases e:a.length=b.length
 ·rw [if_neg (by simp [e])]
  refine (Zw a (by omega) (fun (_:Unit) i=>i) (fun _ r=>decide (r=b.drop (a.length - r.length))) (fun _ _=>True) (a:=()) rfl trivial (fun _ i hi _=>?_) fun _ _=>?_).trans (by simp)
  ·have e1:a.length - (a[i] :: a.drop (i+1)).length=i:=by simp only [List.length_cons,List.length_drop]; omega
   have e2:a.length - (a.drop (i+1)).length=i+1:=by simp only [List.length_drop]; omega
   rw [e1,e2,List.drop_eq_getElem_cons (l:=b) (i:=i) (by omega)]
   unfold YR
   rw [if_pos (by simpa using hi),ZY hi,Option.bind_some,ZY (by omega),Option.bind_some]
   by_cases c:a[i]=b[i]
   ·left; rw [if_neg (by simp [c]),w64s' hi (by omega)]; exact ⟨(),rfl,by simp only [List.cons.injEq,c,true_and],trivial⟩
   ·right; rw [if_pos (by simp [c])]; simp only [List.cons.injEq,c,false_and,decide_false]
  ·unfold YR Jy
   rw [if_neg (by simp)]
   simp; omega
 ·rw [if_pos (by simp; omega),decide_eq_false (fun q=>e (by rw [q]))]
theorem zHV (a:List Int) (ha:a.length≤4000):Y9 a a=some true:=by
 unfold Y9
 rw [if_neg (by simp)]
 obtain ⟨r,h1,h2⟩:=lp_inv' (body:=Y0 a a) (s0:=0) (fun i s=>s=(i:Int)) (fun r=>r=true) a.length (by omega) rfl fun i s hi hI=>by
  subst hI
  unfold Y0
  by_cases e:i<a.length
  ·rw [if_pos (by simpa using e),ZY e,Option.bind_some,Option.bind_some,if_neg (by simp)]
   exact .inl ⟨e,_,rfl,w64s' e (by omega)⟩
  ·rw [if_neg (by simpa using e)]
   exact .inr ⟨_,rfl,rfl⟩
 rw [h1,h2]
theorem zIO {l:List zJ} (hd:l.Pairwise (fun a b=>a.ID≠b.ID)) {id:Int} {i:Nat} (hi:i<l.length) (e:l[i].ID=id):yK (fun b:zJ=>decide (b.ID=id)) l 0=(i:Int):=by subst e; exact zK1 hd hi
def zIf (l:List zJ) (id:Int):Prop := ∃ i,∃ hi:i<l.length,l[i].ID=id
theorem zJc {l:List zJ} {id:Int}:yK (fun b:zJ=>decide (b.ID=id)) l 0<0↔¬ zIf l id:=by
 rcases qg (fun b:zJ=>decide (b.ID=id)) l 0 with ⟨h1,h2⟩ | ⟨i,h1,h2,h3,h4⟩
 ·rw [show (0:Int)=((0:Nat):Int) from rfl,h1]
  refine ⟨fun _=>?_,fun _=>by decide⟩
  rintro ⟨i,hi,e⟩
  have:=h2 _ (List.getElem_mem hi)
  simp [e] at this
 ·rw [show (0:Int)=((0:Nat):Int) from rfl,h1]
  refine ⟨fun h=>by omega,fun h=>absurd ⟨i,h2,by simpa using h3⟩ h⟩
theorem zGp {h:zG} {l:List zJ} (hg:QU h l):∀ (ids:List Int),(∀ id∈ids,zIf l id)→∀ o:List zB,ids.length*72+o.length≤1000000→∃ s,Jw h l ids o=some s∧s.length≤ids.length*72+o.length∧∀ x,x∈s↔x∈o∨∃ id∈ids,∃ i,∃ hi:i<l.length,l[i].ID=id∧x∈rowS h l[i]
 | [],_,o,_=>⟨o,rfl,by simp,fun x=>by simp⟩
 | id :: r,hv,o,ho=>by
  have hn:=hg.n
  obtain ⟨i,hi,e⟩:=hv id List.mem_cons_self
  simp only [List.length_cons] at ho ⊢
  have hr:=zFK hg.h l[i]
  unfold Jw
  rw [zKb l (by unfold Len; omega),Option.bind_some,zIO hg.d hi e,show max (0:Int) (i:Int)=(i:Int) by omega,ZY hi,Option.bind_some,zJD hg.h (zDX.of (hg.r _ (List.getElem_mem hi))),Option.bind_some]
  have e2:(jc h l[i] 0 h.Tides).map (·.1)=rowS h l[i]:=rfl
  rw [e2,j5 (by omega),Option.bind_some]
  obtain ⟨s,h1,h2,h3⟩:=zGp hg r (fun id hid=>hv id (List.mem_cons_of_mem _ hid)) (o++rowS h l[i]) (by simp; omega)
  refine ⟨s,h1,by simp at h2; omega,fun x=>?_⟩
  rw [h3,List.mem_append]
  constructor
  ·rintro ((q | q) | ⟨id',q1,q2⟩)
   ·exact .inl q
   ·exact .inr ⟨id,List.mem_cons_self,i,hi,e,q⟩
   ·exact .inr ⟨id',List.mem_cons_of_mem _ q1,q2⟩
  ·rintro (q | ⟨id',q1,j,hj,q2,q3⟩)
   ·exact .inl (.inl q)
   ·rcases List.mem_cons.1 q1 with rfl | q1
    ·have:j=i:=by
      have a1:=zIO hg.d hi e
      rw [zIO hg.d hj q2] at a1
      omega
     subst this
     exact .inl (.inr q3)
    ·exact .inr ⟨id',q1,j,hj,q2,q3⟩
theorem zED (s:List zB) (hs:s.length≤1000000) (t:Int):∀ (bs:List zT) (o:List zB),bs.length+o.length≤1000000→jR s t bs o=some (o++(bs.map fun b=>(⟨t,b.ID⟩:zB)).filter fun x=>decide (x∈s))
 | [],o,_=>by simp [jR]
 | b :: r,o,ho=>by
  simp only [List.length_cons] at ho
  unfold jR
  rw [zJw s hs,Option.bind_some,List.map_cons,List.filter_cons]
  by_cases e:(⟨t,b.ID⟩:zB)∈s
  ·rw [if_pos (by simpa using e),if_pos (by simpa using e),j5 (by simp; omega),Option.bind_some,zED s hs t r _ (by simp; omega)]
   simp
  ·rw [if_neg (by simpa using e),if_neg (by simpa using e),zED s hs t r o (by omega)]
theorem zGo {h:zG} (hg:Qp h) (s:List zB) (hs:s.length≤1000000):∀ (ts:List zC) (i:Nat) (o:List zB),i+ts.length≤1000→ts.length*6+o.length≤1000000→JG h s ts (i:Int) o=some (o++(YO h i ts).filter fun x=>decide (x∈s))
 | [],i,o,_,_=>by simp [JG,YO]
 | t :: r,i,o,hi,ho=>by
  have hnb:=hg.nb
  simp only [List.length_cons] at hi ho
  unfold JG
  have hlf:=List.length_filter_le (fun x=>decide (x∈s)) (h.Berths.map fun b=>(⟨(i:Int),b.ID⟩:zB))
  rw [List.length_map] at hlf
  rw [zED s hs _ _ _ (by omega),Option.bind_some,w64s' (n:=1000) (by omega) (by omega),zGo hg s hs r (i+1) _ (by omega) (by rw [List.length_append]; omega)]
  simp only [YO,List.filter_append,List.append_assoc]
theorem zFl {α:Type} (q:α→Bool) (d:α):∀ L:List α,((List.range L.length).filter fun k=>q (L.getD k d)).map (fun k=>L.getD k d)=L.filter q
 | []=>rfl
 | a :: r=>by
  have ih:=zFl q d r
  rw [List.length_cons,List.range_succ_eq_map,List.filter_cons,List.filter_map,List.filter_cons]
  have e1:((fun k=>q ((a :: r).getD k d))∘Nat.succ)=fun k=>q (r.getD k d):=by funext k; simp [Function.comp]
  rw [e1]
  by_cases e:q a=true
  ·rw [if_pos (by simpa using e),if_pos e,List.map_cons,List.map_map]
   refine congr (congrArg _ (by simp)) ?_
   rw [← ih]
   exact List.map_congr_left fun k _=>by simp [Function.comp]
  ·rw [if_neg (by simpa using e),if_neg e,List.map_map,← ih]
   exact List.map_congr_left fun k _=>by simp [Function.comp]
def inC (l:List zJ) (ids:List Int) (i:Nat):Bool:=decide (i<l.length∧(l.getD i default).ID∈ids)
theorem zMC {h:zG} {l:List zJ} (hg:QU h l) (ids:List Int) (hv:∀ id∈ids,zIf l id) (hn:ids.length≤1000):Qy h l ids=some (Jj (zR h l) (inC l ids)).Slots:=by
 have hnb:=hg.h.nb; have hnt:=hg.h.nt
 obtain ⟨s,h1,h2,h3⟩:=zGp hg ids hv [] (by simp; omega)
 simp only [List.length_nil,Nat.add_zero] at h2
 unfold Qy
 rw [if_pos (by simp only [decide_eq_true_eq]; omega),h1,Option.bind_some]
 have h4:=zGo hg.h s (by omega) h.Tides 0 [] (by omega) (by simp; omega)
 have e0:((0:Nat):Int)=0:=rfl
 rw [e0] at h4
 rw [h4,List.nil_append]
 unfold Jj nbL
 simp only
 have e1:(List.range (zR h l).slots.length).filter (fun k=>(List.range (zR h l).calls.length).any fun j=>canB (zR h l) j k&&inC l ids j)=(List.range (zR h l).slots.length).filter fun k=>decide ((zR h l).slots.getD k default∈s):=by
  refine List.filter_congr fun k hk=>?_
  rw [List.mem_range] at hk
  rw [Bool.eq_iff_iff,List.any_eq_true,decide_eq_true_eq,h3,getD_lt hk]
  constructor
  ·rintro ⟨j,hj,hj2⟩
   have hj':j<l.length:=List.mem_range.1 hj
   rw [Bool.and_eq_true,inC,decide_eq_true_eq,getD_lt hj'] at hj2
   exact .inr ⟨_,hj2.2.2,j,hj',rfl,(zHD hj' hk).1 hj2.1⟩
  ·rintro (q | ⟨id,q1,j,hj,q2,q3⟩)
   ·cases q
   ·refine ⟨j,List.mem_range.2 hj,?_⟩
    rw [Bool.and_eq_true,inC,decide_eq_true_eq,getD_lt hj]
    exact ⟨(zHD hj hk).2 q3,hj,by rw [q2]; exact q1⟩
 rw [e1]
 have e2:=zFl (fun x=>decide (x∈s)) default (zR h l).slots
 rw [e2]; rfl
theorem zNS {h:zG} {l:List zJ} (hg:QU h l) (ids:List Int):ids=(Jj (zR h l) (inC l ids)).Calls↔(∀ id∈ids,zIf l id)∧ids.Pairwise (· < ·):=by
 have ecl:(zR h l).calls=l:=rfl
 have hs:=zAd (idsL l (inC l ids))
 have hnd:(idsL l (inC l ids)).Nodup:=by
  unfold idsL
  rw [List.nodup_iff_pairwise_ne,List.pairwise_map]
  have:((List.range l.length).filter (inC l ids)).Pairwise (· < ·):=List.Pairwise.sublist List.filter_sublist List.pairwise_lt_range
  refine (List.Pairwise.and_mem.1 this).imp fun {a b} ⟨ha,hb,hab⟩ e=>?_
  have ha':=List.mem_range.1 (List.mem_filter.1 ha).1
  have hb':=List.mem_range.1 (List.mem_filter.1 hb).1
  rw [getD_lt ha',getD_lt hb'] at e
  exact List.pairwise_iff_getElem.1 hg.d a b ha' hb' hab e
 have hmem:∀ x,x∈idsL l (inC l ids)↔x∈ids∧zIf l x:=fun x=>by
  unfold idsL
  rw [List.mem_map]
  constructor
  ·rintro ⟨i,hi,rfl⟩
   obtain ⟨h1,h2⟩:=List.mem_filter.1 hi
   rw [inC,decide_eq_true_eq] at h2
   exact ⟨h2.2,i,h2.1,(congrArg zJ.ID (getD_lt h2.1 default)).symm⟩
  ·rintro ⟨h1,i,hi,rfl⟩
   refine ⟨i,List.mem_filter.2 ⟨List.mem_range.2 hi,?_⟩,by rw [getD_lt hi]⟩
   rw [inC,decide_eq_true_eq,getD_lt hi]
   exact ⟨hi,h1⟩
 show ids=srtI (idsL l (inC l ids))↔_
 constructor
 ·intro e
  have hp:ids.Perm (idsL l (inC l ids)):=by
   have:=hs.1; rw [← e] at this; exact this
  have hso:ids.Pairwise (·≤·):=by
   have:=hs.2; rw [← e] at this; exact this
  refine ⟨fun id hid=>((hmem id).1 (hp.mem_iff.1 hid)).2,?_⟩
  have hn2:=hp.nodup_iff.2 hnd
  rw [List.nodup_iff_pairwise_ne] at hn2
  exact (hso.and hn2).imp fun {a b} ⟨h1,h2⟩=>by omega
 ·rintro ⟨h1,h2⟩
  refine List.Perm.eq_of_pairwise (le:=(·≤·)) (fun a b _ _ h1 h2=>by omega) (h2.imp fun h=>by omega) hs.2 (List.Perm.trans ?_ hs.1.symm)
  refine zDo ?_ hnd fun x=>?_
  ·rw [List.nodup_iff_pairwise_ne]; exact h2.imp fun h=>by omega
  ·rw [hmem]; exact ⟨fun hx=>⟨hx,h1 x hx⟩,fun hx=>hx.1⟩
theorem zEm {h:zG} {l:List zJ} (hh:LenH h) (hl:Len l) (ec:jm h l=0) {x:zZ} (hx:x.Calls.length≤1000) (hx2:x.Slots.length≤1000):jh h l x=some (zFj (zR h l) x):=by
 have hg:=QU.of hh ec
 have ecl:(zR h l).calls=l:=rfl
 have efun:(fun i=>decide (i<(zR h l).calls.length∧((zR h l).calls.getD i default).ID∈x.Calls))=inC l x.Calls:=rfl
 unfold jh
 rw [YH h hh l hl,Option.bind_some,if_neg (by simp [ec])]
 let Ok:Nat→Prop:=fun j=>(∀ id∈x.Calls.take j,zIf l id)∧(x.Calls.take j).Pairwise (· < ·)
 have hci:=zNS hg x.Calls
 obtain ⟨r,h1,h2⟩:=lp_inv' (body:=YS h l x) (s0:=0) (fun j s=>s=(j:Int)∧Ok j) (fun r=>r=zFj (zR h l) x) x.Calls.length (by omega) ⟨rfl,by simp [Ok]⟩ fun j s hj hI=>by
  obtain ⟨rfl,hO1,hO2⟩:=hI
  unfold YS
  by_cases e:j<x.Calls.length
  ·rw [if_pos (by simpa using e),ZY e,Option.bind_some,zKb l hl,Option.bind_some]
   by_cases c1:zIf l x.Calls[j]
   ·have c1':=(not_congr (zJc (l:=l) (id:=x.Calls[j]))).2 (fun q=>q c1)
    rw [decide_eq_false c1']
    cases j with
    | zero =>
     simp only [gb,Bool.not_false,Bool.true_and,Bool.false_or,show decide ((0:Int)<((0:Nat):Int))=false from rfl,Bool.false_eq_true,if_false,Option.bind_some,Bool.false_and]
     refine .inl ⟨e,_,rfl,w64s' e (by omega),fun id hid=>?_,?_⟩
     ·rw [List.take_succ_eq_append_getElem e] at hid
      simp only [List.take_zero,List.nil_append,List.mem_singleton] at hid
      rw [hid]; exact c1
     ·rw [List.take_succ_eq_append_getElem e]; simp
    | succ j =>
     have e':j<x.Calls.length:=by omega
     have e0:decide ((0:Int)<((j+1:Nat):Int))=true:=decide_eq_true (by omega)
     simp only [gb,Bool.not_false,Bool.true_and,Bool.false_or,e0,if_true]
     rw [Option.bind_some,show w64 (((j+1:Nat):Int) - 1)=(j:Int) by rw [zf (by omega) (by omega)]; omega,ZY e',Option.bind_some]
     by_cases c2:x.Calls[j+1]≤x.Calls[j]
     ·rw [if_pos (by simpa using c2)]
      have hne:x.Calls≠(Jj (zR h l) (inC l x.Calls)).Calls:=fun q=>by
       have:=List.pairwise_iff_getElem.1 (hci.1 q).2 j (j+1) e' e (by omega)
       omega
      refine .inr ⟨_,rfl,?_⟩
      unfold zFj
      rw [if_pos (.inr (.inl hne))]
     ·rw [if_neg (by simpa using c2)]
      have hlt:∀ a∈x.Calls.take (j+1),a<x.Calls[j+1]:=fun a ha=>by
       rw [List.take_succ_eq_append_getElem e'] at ha hO2
       rcases List.mem_append.1 ha with ha | ha
       ·have:=(List.pairwise_append.1 hO2).2.2 a ha _ (List.mem_singleton.2 rfl)
        omega
       ·rw [List.mem_singleton] at ha; omega
      refine .inl ⟨e,_,rfl,w64s' e (by omega),fun id hid=>?_,?_⟩
      ·rw [List.take_succ_eq_append_getElem e] at hid
       rcases List.mem_append.1 hid with hid | hid
       ·exact hO1 id hid
       ·rw [List.mem_singleton] at hid; rw [hid]; exact c1
      ·rw [List.take_succ_eq_append_getElem e,List.pairwise_append]
       exact ⟨hO2,by simp,fun a ha b hb=>by rw [List.mem_singleton] at hb; rw [hb]; exact hlt a ha⟩
   ·have c1':=(zJc (l:=l) (id:=x.Calls[j])).2 c1
    rw [decide_eq_true c1']
    simp only [gb,Bool.not_true,Bool.false_and,Bool.false_eq_true,if_false,Option.bind_some,Bool.true_or,if_true]
    refine .inr ⟨_,rfl,?_⟩
    unfold zFj
    rw [if_pos (.inr (.inl fun q=>c1 ((hci.1 q).1 _ (List.getElem_mem e))))]
  ·have ej:j=x.Calls.length:=by omega
   subst ej
   simp only [Ok,List.take_length] at hO1 hO2
   have hq:=hci.2 ⟨hO1,hO2⟩
   rw [if_neg (by simp)]
   refine .inr ⟨_,?_,rfl⟩
   unfold Jz zFj
   rw [efun]
   by_cases c1:x.Calls=[]
   ·rw [if_pos (by simp [c1]),if_pos (.inl c1)]; rfl
   ·rw [if_neg (by simpa using c1),zMC hg x.Calls hO1 hx,Option.bind_some,zNr _ _ (by omega),Option.bind_some]
    by_cases c2:x.Slots=(Jj (zR h l) (inC l x.Calls)).Slots
    ·by_cases c3:x.Calls.length≤x.Slots.length
     ·rw [if_pos (by simp; omega),if_pos (.inr (.inr (.inr c3)))]; rfl
     ·rw [decide_eq_true c2,if_neg (by simp; omega),if_neg (by
       rintro (q | q | q | q)
       ·exact c1 q
       ·exact q hq
       ·exact q c2
       ·exact c3 q),zf (by omega) (by omega)]; rfl
    ·rw [decide_eq_false c2,if_pos (by simp),if_pos (.inr (.inr (.inl c2)))]; rfl
 rw [h1,h2]
theorem zMz (l:List Int) (hl:l.length≤1000000) (hp:l.Pairwise (· < ·)) (n:Int):∃ r,qw l n=some r∧r.Pairwise (· < ·)∧r≠[]∧r.length≤l.length+1∧∀ x,x∈r↔x∈l∨x=n:=by
 unfold qw
 refine lp_inv' (body:=qG l n) (s0:=0) (fun k s=>s=(k:Int)∧k≤l.length∧∀ x∈l.take k,x<n) _ l.length (by omega) ⟨rfl,by omega,by simp⟩ fun k s hk hI=>?_
 obtain ⟨rfl,hkl,hI⟩:=hI
 unfold qG
 by_cases e:k<l.length
 ·have e0:decide ((k:Int)<(l.length:Int))=true:=decide_eq_true (by omega)
  simp only [e0,gb,if_true,Bool.true_and]
  rw [ZY e,Option.bind_some]
  by_cases c:l[k]<n
  ·rw [if_pos (by simpa using c)]
   refine .inl ⟨e,_,rfl,w64s' e (by omega),by omega,fun x hx=>?_⟩
   rw [List.take_succ_eq_append_getElem e] at hx
   rcases List.mem_append.1 hx with hx | hx
   ·exact hI x hx
   ·rw [List.mem_singleton] at hx; rw [hx]; exact c
  ·rw [if_neg (by simpa using c)]
   have hdrop:∀ x∈l.drop k,l[k]≤x:=fun x hx=>by
    rw [List.drop_eq_getElem_cons e] at hx
    rcases List.mem_cons.1 hx with rfl | hx
    ·exact Int.le_refl _
    ·have h1:=List.Pairwise.sublist (List.drop_sublist k l) hp
     rw [List.drop_eq_getElem_cons e,List.pairwise_cons] at h1
     have:=h1.1 x hx; omega
   unfold J8
   simp only [e0,gb,if_true,Bool.true_and]
   rw [ZY e,Option.bind_some]
   by_cases c2:l[k]=n
   ·rw [if_pos (by simpa using c2)]
    refine .inr ⟨l,rfl,hp,fun q=>by rw [q] at e; exact absurd e (by simp),by omega,fun x=>⟨.inl,fun q=>q.elim (fun h=>h) fun h=>by rw [h,← c2]; exact List.getElem_mem e⟩⟩
   ·rw [if_neg (by simpa using c2),zNi hkl,Option.bind_some,j5 (by simp; omega),Option.bind_some,j5 (by simp; omega),Option.bind_some,zKT hkl,Option.bind_some,j5 (by simp; omega),Option.bind_some]
    refine .inr ⟨_,rfl,?_,by simp,by simp; omega,fun x=>?_⟩
    ·rw [List.nil_append,List.append_assoc,List.pairwise_append,List.singleton_append,List.pairwise_cons]
     refine ⟨List.Pairwise.sublist (List.take_sublist k l) hp,⟨fun x hx=>by have:=hdrop x hx; omega,List.Pairwise.sublist (List.drop_sublist k l) hp⟩,fun a ha b hb=>?_⟩
     have:=hI a ha
     rcases List.mem_cons.1 hb with rfl | hb
     ·exact this
     ·have:=hdrop b hb; omega
    ·rw [List.nil_append,List.append_assoc,List.singleton_append,List.mem_append,List.mem_cons]
     conv=>rhs; rw [← List.take_append_drop k l,List.mem_append]
     constructor
     ·rintro (h | h | h)
      ·exact .inl (.inl h)
      ·exact .inr h
      ·exact .inl (.inr h)
     ·rintro ((h | h) | h)
      ·exact .inl h
      ·exact .inr (.inr h)
      ·exact .inr (.inl h)
 ·have ek:k=l.length:=by omega
  subst ek
  have e0:decide (((l.length:Nat):Int)<(l.length:Int))=false:=decide_eq_false (by omega)
  unfold J8
  simp only [e0,gb,Bool.false_and,Bool.false_eq_true,if_false,Option.bind_some]
  rw [zNi (Nat.le_refl _),Option.bind_some,j5 (by simp; omega),Option.bind_some,j5 (by simp; omega),Option.bind_some,zKT (Nat.le_refl _),Option.bind_some,j5 (by simp; omega),Option.bind_some]
  rw [List.take_length] at hI ⊢
  rw [List.drop_length,List.append_nil,List.nil_append]
  refine .inr ⟨_,rfl,?_,by simp,by simp,fun x=>by rw [List.mem_append,List.mem_singleton]⟩
  rw [List.pairwise_append]
  exact ⟨hp,by simp,fun a ha b hb=>by rw [List.mem_singleton] at hb; rw [hb]; exact hI a ha⟩
theorem zOw {h:zG} {l:List zJ} (hh:LenH h) (hl:Len l) (ec:jm h l=0):∃ L,QO h l=some (L,0)∧qN h l=some ⟨L,0⟩∧L.length≤10:=by
 have hg:=QU.of hh ec
 have hn:=hg.n
 have eh:Qj h=0:=by
  unfold jm at ec
  split at ec
  ·assumption
  ·contradiction
 obtain ⟨L,a1,a2,a3,a4,a5⟩:=Sure_eq hh hl ec
 obtain ⟨m,m1,_,_⟩:=Q7 hg
 refine ⟨L,a1,?_,by omega⟩
 unfold qN
 rw [YH h hh l hl,Option.bind_some,if_neg (by simp [ec]),zGV hg,Option.bind_some,zJF hg m1,Option.bind_some,if_pos (by simp; omega)]
 have eln:(choS h l).l.length=l.length:=by simp [choS]
 have key:∀ (k j:Nat) (o:List Int),j+k=l.length→o.length≤j→o.Pairwise (· < ·)→(∀ x,x∈o↔∃ (i:Nat) (hi:i<l.length),i<j∧l[i].ID=x∧zJl h l i)→∃ o',yF (choS h l) (m:Int) (l.drop j) (j:Int) o=some o'∧o'.Pairwise (· < ·)∧∀ x,x∈o'↔∃ (i:Nat) (hi:i<l.length),l[i].ID=x∧zJl h l i:=by
  intro k
  induction k with
  | zero =>
   intro j o hj _ hp hm
   have:j=l.length:=by omega
   subst this
   refine ⟨o,by rw [List.drop_length]; rfl,hp,fun x=>(hm x).trans ⟨?_,?_⟩⟩
   ·rintro ⟨i,hi,_,q⟩; exact ⟨i,hi,q⟩
   ·rintro ⟨i,hi,q⟩; exact ⟨i,hi,hi,q⟩
  | succ k ih =>
   intro j o hj ho hp hm
   have hj':j<l.length:=by omega
   obtain ⟨m',n1,_,_⟩:=Q7 (QU.of hh (zIC hg eh j))
   have hsure:zJl h l j↔m'<m:=⟨fun q=>q m m' m1 n1,fun q a b ha hb=>by rw [← m1.uniq ha,← n1.uniq hb]; exact q⟩
   rw [List.drop_eq_getElem_cons hj']
   unfold yF
   rw [zM3 (fun r hr=>by obtain ⟨c,_,rfl⟩:=List.mem_map.1 hr; have:=zFK hg.h c; omega) (by omega) (by omega),Option.bind_some,zLm hg hj' n1,Option.bind_some,w64s' hj' hl]
   by_cases e:m'<m
   ·obtain ⟨r,r1,r2,r3,r4,r5⟩:=zMz o (by omega) hp l[j].ID
    rw [if_pos (by simp; omega),r1,Option.bind_some,if_neg (by simpa using r3)]
    refine ih (j+1) r (by omega) (by omega) r2 fun x=>(r5 x).trans ?_
    rw [hm x]
    constructor
    ·rintro (⟨i,hi,q1,q2⟩ | rfl)
     ·exact ⟨i,hi,by omega,q2⟩
     ·exact ⟨j,hj',by omega,rfl,hsure.2 e⟩
    ·rintro ⟨i,hi,q1,q2,q3⟩
     by_cases w:i=j
     ·subst w; exact .inr q2.symm
     ·exact .inl ⟨i,hi,by omega,q2,q3⟩
   ·rw [if_neg (by simp; omega)]
    refine ih (j+1) o (by omega) (by omega) hp fun x=>(hm x).trans ⟨?_,?_⟩
    ·rintro ⟨i,hi,q1,q2⟩; exact ⟨i,hi,by omega,q2⟩
    ·rintro ⟨i,hi,q1,q2,q3⟩
     by_cases w:i=j
     ·subst w; exact absurd (hsure.1 q3) e
     ·exact ⟨i,hi,by omega,q2,q3⟩
 obtain ⟨o,b1,b2,b3⟩:=key l.length 0 [] (by omega) (by simp) List.Pairwise.nil fun x=>⟨(fun q=>by cases q),fun ⟨i,hi,q,_⟩=>by omega⟩
 have e0:((0:Nat):Int)=0:=rfl
 rw [List.drop_zero,e0] at b1
 rw [b1,Option.bind_some]
 have:o=L:=List.Perm.eq_of_pairwise (le:=(·≤·)) (fun a b _ _ h1 h2=>by omega) (b2.imp fun h=>by omega) a2 (zDo (by rw [List.nodup_iff_pairwise_ne]; exact b2.imp fun h=>by omega) a3 fun x=>by rw [b3,a5])
 rw [this]
theorem holds_BerthFull {h:zG} {l:List zJ} {x:zZ} (h0:zB3 h) (h1:ok_30 l) (h2:zFU x):Yf h l x=some true:=by
 have hh:=LenH.of h0
 have hl:Len l:=h1.1
 obtain ⟨y,hy⟩:=zLf h hh
 unfold Yf
 rw [hy,Option.bind_some,sanity06]
 split
 ·rfl
 ·rename_i hsm
  simp only [Bool.or_eq_true,decide_eq_true_eq,not_or] at hsm
  obtain ⟨⟨⟨_,z1⟩,z2⟩,z3⟩:=hsm
  by_cases ec:jm h l=0
  ·have hg:=QU.of hh ec
   have hn:=hg.n
   obtain ⟨m,m1,_,m3⟩:=Q7 hg
   obtain ⟨L,s1,s2,s3⟩:=zOw hh hl ec
   have hj1:Z9 h l x=some true:=by
    unfold Z9
    rw [zF3 hh hl ec (by omega) (by omega),Option.bind_some,zEm hh hl ec (by omega) (by omega),Option.bind_some,s1,Option.bind_some,s2,Option.bind_some,sanity06,Option.bind_some]
    simp only [decide_true,Bool.and_true,gb,if_true]
    rw [zHV L (by omega),Option.bind_some]; rfl
   have hm:qO h l=some ⟨(m:Int),0⟩:=by
    unfold qO
    rw [YH h hh l hl,Option.bind_some,if_neg (by simp [ec]),zGV hg,Option.bind_some,zJF hg m1,Option.bind_some]
   rcases zNb hh hl ec m1 with ⟨e1,e2⟩ | ⟨e1,q,e2,e3⟩
   ·rw [e2,Option.bind_some,hm,Option.bind_some]
    simp only
    rw [if_neg (by simp [e1]),if_neg (by simp)]
    exact hj1
   ·obtain ⟨l1,l2⟩:=zIW (zR h l) q
    have ln:=nbL_len (zR h l) q
    have ns:=(zFc hg).ns
    have lf:=List.length_filter_le q (List.range (zR h l).calls.length)
    rw [List.length_range] at lf
    have ecl:(zR h l).calls=l:=rfl
    rw [ecl] at lf l1
    rw [e2,Option.bind_some,hm,Option.bind_some]
    simp only
    rw [if_neg (by simp; omega),if_pos trivial,zEm hh hl ec (by omega) (by omega),Option.bind_some,zF3 hh hl ec (by omega) (by omega),Option.bind_some,zOW hg e1 e3,zf (by omega) (by omega)]
    simp only
    rw [if_neg (by simp)]
    exact hj1
  ·have e1:J2 h l=some (⟨[],[]⟩,false,jm h l):=by
    unfold J2
    rw [Yu h hh l hl,Option.bind_some,if_pos (by simp [ec])]
   have e2:qO h l=some ⟨0,jm h l⟩:=by
    unfold qO
    rw [YH h hh l hl,Option.bind_some,if_pos (by simp [ec])]
   have e3:Zz h l x=some (0,jm h l):=by
    unfold Zz
    rw [Yu h hh l hl,Option.bind_some,if_pos (by simp [ec])]
   have e4:jh h l x=some (0,jm h l):=by
    unfold jh
    rw [YH h hh l hl,Option.bind_some,if_pos (by simp [ec])]
   have e5:QO h l=some ([],jm h l):=by
    unfold QO
    rw [Yu h hh l hl,Option.bind_some,if_pos (by simp [ec])]
   have e6:qN h l=some ⟨[],jm h l⟩:=by
    unfold qN
    rw [YH h hh l hl,Option.bind_some,if_pos (by simp [ec])]
   rw [e1,Option.bind_some,e2,Option.bind_some]
   simp only
   rw [if_neg (by simp [ec]),if_neg (by simp)]
   unfold Z9
   rw [e3,Option.bind_some,e4,Option.bind_some,e5,Option.bind_some,e6,Option.bind_some,sanity06,Option.bind_some]
   simp only [decide_true,Bool.and_true,gb,if_true]
   rw [zHV [] (by simp),Option.bind_some]; rfl
end Go.Mx
