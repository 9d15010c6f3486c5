/- Part of the proof of TopShipsLieClear: plain laws about the functions of M, no program in sight. Conditions: none. -/
import Derived.Test.YtdpifjmggnjagaaGreatLawYg
set_option linter.unusedVariables false
set_option linter.unusedSimpArgs false
namespace Go.Mx
structure BOK (b:zI):Prop where
 nc:b.calls.length≤10
 ns:b.slots.length≤100
 lc:b.can.length=b.calls.length
 lo:b.old.length=b.calls.length
def canB (b:zI) (i k:Nat):Bool:=(za (b.slots.getD k default) (b.can.getD i [])).isSome
def zCQ (b:zI) (i k:Nat):Int:=if k=b.slots.length+i then 0 else if k<b.slots.length∧canB b i k=true then (if gI b.old i=(k:Int) then -1001 else -1000) else 1073741824
theorem zML {α:Type} {P:Prop} [Decidable P] {k q:Nat} (e:P→k≠q) (A B:α):(if k<q∧P then A else B)=if k<q+1∧P then A else B:=by
 by_cases w:k<q∧P
 ·rw [bi w,bi ⟨by omega,w.2⟩]
 ·rw [bg w,bg (fun z=>w ⟨by have:=e z.2; omega,z.2⟩)]
theorem zPD {l:List Int} {n:Nat} {f:Nat→Int} (hl:l.length=n) (h:∀ k,k<n→gI l k=f k):l=(List.range n).map f:=by
 refine List.ext_getElem (by simpa using hl) fun k h1 h2=>?_
 have:=h k (by omega)
 rw [Jb h1] at this
 simpa using this
theorem getD_lt {α:Type} {l:List α} {i:Nat} (h:i<l.length) (d:α):l.getD i d=l[i]:=by simp [List.getD_eq_getElem?_getD,h]
theorem zB5 {α:Type} {l:List α} {i:Nat} (h:i<l.length) (d:α):ix l (i:Int)=some (l.getD i d):=by rw [ZY h,getD_lt h]
theorem zRW {b:zI} (hB:BOK b) {i:Nat} (hi:i<b.calls.length):Je b (i:Int)=some ((List.range (b.slots.length+b.calls.length)).map (zCQ b i)):=by
 have nc:=hB.nc; have ns:=hB.ns
 have e1:w64 ((b.slots.length:Int)+(b.calls.length:Int))=((b.slots.length+b.calls.length:Nat):Int):=by rw [zw (by omega) (by omega)]; omega
 have e2:w64 ((b.slots.length:Int)+(i:Int))=((b.slots.length+i:Nat):Int):=by rw [zw (by omega) (by omega)]; omega
 unfold Je
 rw [zHv (n:=b.slots.length+b.calls.length) (by omega) _ e1,ba]
 obtain ⟨⟨x,l⟩,⟨rfl,h1,h2⟩,h3⟩:=Qz (body:=JU b (i:Int) (List.replicate (b.slots.length+b.calls.length) (0:Int))) (X:=fun s=>jG b (i:Int) s.2) (s0:=(0,List.replicate (b.slots.length+b.calls.length) (0:Int)))
  (fun q s=>s.1=(q:Int)∧s.2.length=b.slots.length+b.calls.length∧∀ k,k<q→gI s.2 k=1073741824) (b.slots.length+b.calls.length) (by omega) ⟨rfl,by simp,fun k h=>by omega⟩
  (fun q s hq hI=>by
   obtain ⟨x,l⟩:=s
   simp only at hI
   obtain ⟨rfl,h1,h2⟩:=hI
   unfold JU
   simp only
   rw [bi (by simp; omega),jU (by omega),ba,zw (by omega) (by omega),jh]
   refine ⟨_,rfl,by simp only; omega,by simp only [List.length_set]; exact h1,fun k hk=>?_⟩
   simp only
   rw [jw (by omega)]
   by_cases e:k=q
   ·rw [bi e]
   ·rw [bg e]; exact h2 k (by omega))
  (fun s hI=>by
   obtain ⟨x,l⟩:=s
   simp only at hI
   obtain ⟨rfl,h1,h2⟩:=hI
   unfold JU
   simp only
   rw [bg (by simp)])
 rw [h3]
 unfold jG
 simp only at h1 h2 ⊢
 obtain ⟨⟨x,l'⟩,⟨rfl,g1,g2⟩,g3⟩:=Qz (body:=JV b (i:Int)) (X:=fun s=>Z7 b (i:Int) s.2) (s0:=(0,l))
  (fun q s=>s.1=(q:Int)∧s.2.length=b.slots.length+b.calls.length∧∀ k,k<b.slots.length+b.calls.length→gI s.2 k=if k<q∧canB b i k=true then (if gI b.old i=(k:Int) then -1001 else -1000) else 1073741824) b.slots.length (by omega) ⟨rfl,h1,fun k h=>by rw [bg (by omega)]; exact h2 k h⟩
  (fun q s hq hI=>by
   obtain ⟨x,l⟩:=s
   simp only at hI
   obtain ⟨rfl,h1,h2⟩:=hI
   have hlo:=hB.lo; have hlc:=hB.lc
   have hj:∀ z,Zw (q:Int) z=some (.inl (((q+1:Nat):Int),z)):=fun z=>by unfold Zw; rw [zw (by omega) (by omega)]; rfl
   unfold JV
   simp only
   rw [bi (by simpa using hq),zB5 (d:=default) hq,ba,zB5 (d:=[]) (by omega),ba]
   have hcb:(za (b.slots.getD q default) (b.can.getD i [])).isSome=canB b i q:=rfl
   rw [hcb]
   by_cases hc:canB b i q=true
   ·rw [bi hc,jU (by omega),ba,jU (by omega),ba,jh]
    by_cases ho:gI b.old i=(q:Int)
    ·rw [bi (by simpa using ho),jU (by rw [List.length_set]; omega),ba,jh,hj]
     refine ⟨_,rfl,rfl,by simp only [List.length_set]; exact h1,fun k hk=>?_⟩
     simp only
     rw [jw (by rw [List.length_set]; omega),jw (by omega)]
     by_cases e:k=q
     ·subst e; rw [bi rfl,bi ⟨by omega,hc⟩,bi ho]
     ·rw [bg e,bg e,h2 k hk]
      exact zML (fun _=>e) _ _
    ·rw [bg (by simpa using ho),hj]
     refine ⟨_,rfl,rfl,by simp only [List.length_set]; exact h1,fun k hk=>?_⟩
     simp only
     rw [jw (by omega)]
     by_cases e:k=q
     ·subst e; rw [bi rfl,bi ⟨by omega,hc⟩,bg ho]
     ·rw [bg e,h2 k hk]
      exact zML (fun _=>e) _ _
   ·rw [bg hc,hj]
    refine ⟨_,rfl,rfl,h1,fun k hk=>?_⟩
    simp only
    rw [h2 k hk]
    exact zML (fun z e=>hc (by rw [← e]; exact z)) _ _)
  (fun s hI=>by
   obtain ⟨x,l⟩:=s
   simp only at hI
   obtain ⟨rfl,h1,h2⟩:=hI
   unfold JV
   simp only
   rw [bg (by simp)])
 replace g1:l'.length=b.slots.length+b.calls.length:=g1
 refine g3.trans ?_
 show Z7 b (i:Int) l'=_
 unfold Z7
 rw [e2,jU (by omega),ba,jh]
 refine congrArg some (zPD (by rw [List.length_set]; exact g1) fun k hk=>?_)
 rw [jw (by omega)]
 unfold zCQ
 by_cases e:k=b.slots.length+i
 ·rw [bi e,bi e]
 ·rw [bg e,bg e]; exact g2 k hk
def fixK (b:zI) (fixed:List Int) (i:Nat):Int:=if gI fixed i<0 then ((b.slots.length+i:Nat):Int) else gI fixed i
def rowF (b:zI) (fixed:List Int) (i k:Nat):Int:=if i<fixed.length∧(k:Int)≠fixK b fixed i then 1073741824 else zCQ b i k
def zF1 (b:zI) (fixed:List Int):List (List Int):=(List.range b.calls.length).map fun i=>(List.range (b.slots.length+b.calls.length)).map (rowF b fixed i)
theorem zIZ (b:zI) (i k:Nat) : -1001≤zCQ b i k∧zCQ b i k≤1073741824:=by
 unfold zCQ
 repeat' split
 all_goals omega
theorem zJK (b:zI) (f:List Int) (i k:Nat) : -1001≤rowF b f i k∧rowF b f i k≤1073741824:=by
 unfold rowF
 have:=zIZ b i k
 split <;> omega
theorem zQY {b:zI} (hB:BOK b) (fixed:List Int):zBe (zF1 b fixed) (b.slots.length+b.calls.length):=by
 have nc:=hB.nc; have ns:=hB.ns
 refine ⟨by simp [zF1],by omega,fun row hr=>?_⟩
 unfold zF1 at hr
 rw [List.mem_map] at hr
 obtain ⟨i,hi,rfl⟩:=hr
 refine ⟨by simp,fun x hx=>?_⟩
 rw [List.mem_map] at hx
 obtain ⟨k,hk,rfl⟩:=hx
 exact zJK b fixed i k
theorem best_eq {b:zI} (hB:BOK b) {fixed:List Int} (hf:fixed.length≤1000):jX b fixed=yj (zF1 b fixed) ((b.slots.length+b.calls.length:Nat):Int):=by
 have nc:=hB.nc; have ns:=hB.ns
 have e1:w64 ((b.slots.length:Int)+(b.calls.length:Int))=((b.slots.length+b.calls.length:Nat):Int):=by rw [zw (by omega) (by omega)]; omega
 unfold jX
 obtain ⟨⟨x,l⟩,⟨rfl,h1⟩,h2⟩:=Qz (body:=yf b fixed) (X:=fun s=>Jg b s.2) (s0:=(0,[]))
  (fun i s=>s.1=(i:Int)∧s.2=(List.range i).map fun i=>(List.range (b.slots.length+b.calls.length)).map (rowF b fixed i)) b.calls.length (by omega) ⟨rfl,rfl⟩
  (fun i s hi hI=>by
   obtain ⟨x,l⟩:=s
   simp only at hI
   obtain ⟨rfl,rfl⟩:=hI
   unfold yf
   simp only
   rw [bi (by simpa using hi),zRW hB hi,ba]
   have hj:∀ (z:List Int),jY (i:Int) ((List.range i).map fun i=>(List.range (b.slots.length+b.calls.length)).map (rowF b fixed i)) z=some (.inl (((i+1:Nat):Int),((List.range i).map fun i=>(List.range (b.slots.length+b.calls.length)).map (rowF b fixed i))++[z])):=fun z=>by
    unfold jY
    rw [Js (by simp; omega),ba,zw (by omega) (by omega)]; rfl
   have hz:∀ (z:List Int),z=(List.range (b.slots.length+b.calls.length)).map (rowF b fixed i)→((List.range i).map fun i=>(List.range (b.slots.length+b.calls.length)).map (rowF b fixed i))++[z]=(List.range (i+1)).map fun i=>(List.range (b.slots.length+b.calls.length)).map (rowF b fixed i):=fun z e=>by
    rw [e,List.range_succ,List.map_append]; rfl
   by_cases hfi:i<fixed.length
   ·have hj4:∀ k:Int,k=fixK b fixed i→∃ s',JC (i:Int) ((List.range i).map fun i=>(List.range (b.slots.length+b.calls.length)).map (rowF b fixed i)) ((List.range (b.slots.length+b.calls.length)).map (zCQ b i)) k=some (.inl s')∧s'.1=((i+1:Nat):Int)∧s'.2=(List.range (i+1)).map fun i=>(List.range (b.slots.length+b.calls.length)).map (rowF b fixed i):=fun k hk=>by
     unfold JC
     obtain ⟨⟨x,l⟩,⟨rfl,g1,g2⟩,g3⟩:=Qz (body:=yc (i:Int) ((List.range i).map fun i=>(List.range (b.slots.length+b.calls.length)).map (rowF b fixed i)) ((List.range (b.slots.length+b.calls.length)).map (zCQ b i)) k) (X:=fun s=>jY (i:Int) ((List.range i).map fun i=>(List.range (b.slots.length+b.calls.length)).map (rowF b fixed i)) s.2) (s0:=(0,(List.range (b.slots.length+b.calls.length)).map (zCQ b i)))
      (fun q s=>s.1=(q:Int)∧s.2.length=b.slots.length+b.calls.length∧∀ j,j<b.slots.length+b.calls.length→gI s.2 j=if j<q∧(j:Int)≠k then 1073741824 else zCQ b i j) (b.slots.length+b.calls.length) (by omega)
      ⟨rfl,by simp,fun j h=>by rw [bg (by omega),Jb (by simpa using h)]; simp⟩
      (fun q s hq hI=>by
       obtain ⟨x,l⟩:=s
       simp only at hI
       obtain ⟨rfl,h1,h2⟩:=hI
       have hj6:∀ z,JB (q:Int) z=some (.inl (((q+1:Nat):Int),z)):=fun z=>by unfold JB; rw [zw (by omega) (by omega)]; rfl
       unfold yc
       simp only
       rw [bi (by simp; omega)]
       by_cases e:(q:Int)=k
       ·rw [bg (by simpa using e),hj6]
        refine ⟨_,rfl,rfl,h1,fun j hj2=>?_⟩
        simp only
        rw [h2 j hj2]
        by_cases w:j<q∧(j:Int)≠k
        ·rw [bi w,bi ⟨by omega,w.2⟩]
        ·rw [bg w,bg (fun z=>w ⟨by omega,z.2⟩)]
       ·rw [bi (by simpa using e),jU (by omega),ba,jh,hj6]
        refine ⟨_,rfl,rfl,by simp only [List.length_set]; exact h1,fun j hj2=>?_⟩
        simp only
        rw [jw (by omega)]
        by_cases w:j=q
        ·subst w; rw [bi rfl,bi ⟨by omega,e⟩]
        ·rw [bg w,h2 j hj2]
         by_cases w:j<q∧(j:Int)≠k
         ·rw [bi w,bi ⟨by omega,w.2⟩]
         ·rw [bg w,bg (fun z=>w ⟨by omega,z.2⟩)])
      (fun s hI=>by
       obtain ⟨x,l⟩:=s
       simp only at hI
       obtain ⟨rfl,h1,h2⟩:=hI
       unfold yc
       simp only
       rw [bg (by simp)])
     rw [g3,hj]
     refine ⟨_,rfl,rfl,hz _ (zPD g1 fun j hj2=>?_)⟩
     rw [g2 j hj2]
     unfold rowF
     rw [← hk]
     by_cases w:(j:Int)≠k
     ·rw [bi ⟨hj2,w⟩,bi ⟨hfi,w⟩]
     ·rw [bg (fun z=>w z.2),bg (fun z=>w z.2)]
    rw [bi (by simpa using hfi),jU hfi,ba]
    by_cases hn:gI fixed i<0
    ·rw [bi (by simpa using hn)]
     refine hj4 _ ?_
     unfold fixK
     rw [bi hn,zw (by omega) (by omega)]; omega
    ·rw [bg (by simpa using hn)]
     refine hj4 _ ?_
     unfold fixK
     rw [bg hn]
   ·rw [bg (by simpa using hfi),hj]
    refine ⟨_,rfl,rfl,hz _ ?_⟩
    refine List.map_congr_left fun k _=>?_
    unfold rowF
    rw [bg (fun z=>hfi z.1)])
  (fun s hI=>by
   obtain ⟨x,l⟩:=s
   simp only at hI
   obtain ⟨rfl,h1⟩:=hI
   unfold yf
   simp only
   rw [bg (by simp)])
 rw [h2]
 unfold Jg
 simp only at h1 ⊢
 rw [e1,h1]
 show Option.bind (yj (zF1 b fixed) _) _=_
 cases yj (zF1 b fixed) ((b.slots.length+b.calls.length:Nat):Int) <;> rfl
def totB (b:zI) (fixed:List Int) (s:Nat→Nat):Int:=((List.range b.calls.length).map fun r=>rowF b fixed r (s r)).sum
abbrev AsgB (b:zI) (s:Nat→Nat):Prop:=Asg b.calls.length (b.slots.length+b.calls.length) s
structure Best (b:zI) (fixed:List Int) (out:List Int) (sum:Int):Prop where
 l:out.length=b.calls.length
 nn:∀ r,r<b.calls.length→0≤gI out r
 a:AsgB b (fun r=>(gI out r).toNat)
 e:sum=totB b fixed (fun r=>(gI out r).toNat)
 m:∀ s,AsgB b s→sum≤totB b fixed s
theorem zEI {b:zI} (hB:BOK b) {fixed:List Int} (hf:fixed.length≤1000):∃ out sum,jX b fixed=some (out,sum)∧Best b fixed out sum:=by
 have hl:(zF1 b fixed).length=b.calls.length:=by simp [zF1]
 have ht:∀ s,AsgB b s→tot (zF1 b fixed) s=totB b fixed s:=fun s hs=>by
  unfold tot totB
  rw [hl]
  refine zBm _ _ fun r hr=>?_
  rw [cd] at hr
  have:=hs.lt r hr
  unfold cC
  rw [Nat.add_sub_cancel,Nat.add_sub_cancel,getD_lt (by omega)]
  simp only [zF1,List.getElem_map,List.getElem_range]
  rw [Jb (by simpa using this)]
  simp
 obtain ⟨out,sum,h1,h2,h3,h4,h5,h6⟩:=zNv (zQY hB fixed)
 rw [hl] at h2 h3 h4 h6
 exact ⟨out,sum,by rw [best_eq hB hf]; exact h1,h2,h3,h4,by rw [h5]; exact ht _ h4,fun s hs=>by rw [← ht s hs]; exact h6 s hs⟩
def OkB (b:zI) (s:Nat→Nat):Prop := ∀ r,r<b.calls.length→s r=b.slots.length+r∨(s r<b.slots.length∧canB b r (s r)=true)
def zKR (b:zI) (fixed:List Int) (s:Nat→Nat):Prop := ∀ r,r<fixed.length→(s r:Int)=fixK b fixed r
theorem zQT {n:Nat} {f:Nat→Int} (hn:n≤10) (h:∀ r,r<n→-1001≤f r) {q:Nat} (hq:q<n) (h2:f q=1073741824):0<((List.range n).map f).sum:=by
 rw [zFl f (List.mem_range.2 hq),h2]
 have:∀ l:List Nat,(∀ r∈l,r<n)→-(1001*(l.length:Int))≤(l.map f).sum:=by
  intro l
  induction l with
  | nil=>intro _; simp
  | cons a l ih =>
   intro hl
   have:=ih fun r hr=>hl r (bq _ hr)
   have:=h a (hl a bp)
   simp only [bt,bw,List.sum_cons]; omega
 have h3:=this ((List.range n).erase q) fun r hr=>List.mem_range.1 (List.mem_of_mem_erase hr)
 rw [List.length_erase_of_mem (List.mem_range.2 hq),List.length_range] at h3
 omega
theorem zQP {b:zI} (hB:BOK b) {fixed:List Int} (hf:fixed.length≤b.calls.length) {s:Nat→Nat} (h:totB b fixed s≤0):OkB b s∧zKR b fixed s:=by
 have key:∀ r,r<b.calls.length→rowF b fixed r (s r)≠1073741824:=fun r hr e=>by
  have:=zQT hB.nc (f:=fun r=>rowF b fixed r (s r)) (fun r _=>(zJK b fixed r (s r)).1) hr e
  unfold totB at h; omega
 constructor
 ·intro r hr
  have:=key r hr
  unfold rowF at this
  split at this
  ·exact absurd rfl this
  ·unfold zCQ at this
   split at this
   ·rename_i e; exact .inl e
   ·split at this
    ·rename_i e; exact .inr e
    ·exact absurd rfl this
 ·intro r hr
  have:=key r (by omega)
  unfold rowF at this
  split at this
  ·exact absurd rfl this
  ·rename_i e
   exact Classical.byContradiction fun w=>e ⟨hr,w⟩
theorem zOz {b:zI} {fixed:List Int} {s:Nat→Nat} (h:zKR b fixed s):totB b fixed s=totB b [] s:=by
 unfold totB
 refine zBm _ _ fun r hr=>?_
 unfold rowF
 rw [bg (fun z=>z.2 (h r z.1)),bg (by simp)]
theorem tot_le (b:zI) (fixed:List Int) (s:Nat→Nat):totB b [] s≤totB b fixed s:=by
 unfold totB
 refine zGO _ _ fun r hr=>?_
 unfold rowF
 rw [bg (fun z:r<([]:List Int).length∧_=>by simp at z)]
 split
 ·exact (zIZ b r (s r)).2
 ·exact Int.le_refl _
theorem zRg (b:zI):AsgB b (fun r=>b.slots.length+r):=⟨fun r hr=>by omega,fun r q _ _ e=>by omega⟩
theorem zQQ (b:zI):totB b [] (fun r=>b.slots.length+r)=0:=by
 unfold totB
 rw [zBm _ (fun _=>0) fun r _=>by unfold rowF zCQ; rw [bg (by simp),bi rfl]]
 generalize List.range b.calls.length=l
 induction l with
 | nil=>rfl
 | cons a l ih=>rw [bw,List.sum_cons,ih]; rfl
theorem zKN {b:zI} (hB:BOK b) {out:List Int} {sum:Int} (h:Best b [] out sum):sum≤0∧OkB b (fun r=>(gI out r).toNat):=by
 have h0:sum≤0:=by have:=h.m _ (zRg b); rwa [zQQ] at this
 exact ⟨h0,(zQP hB (fixed:=[]) (by simp) (by rw [← h.e]; exact h0)).1⟩
theorem zH3 (l:List zV) (hl:Len l) (id:Int):Za l id=some (zCb (fun b=>decide (b.ID=id)) l 0):=by
 unfold Za ZI
 have e:=zJx (body:=zk l id) (fun b=>decide (b.ID=id)) l hl (fun i hi=>by
  unfold zk
  rw [bi (by simpa using hi),ZY hi,ba,w64s' hi hl]
  rfl) (by
  unfold zk
  rw [bg (by simp)]; rfl)
 rw [e]; rfl
def zLc : List zV→List zV→Int
 | _,[]=>0
 | pre,c :: r=>if zEP c=true then (if (pre.any fun x=>decide (x.ID=c.ID))=true then 6 else zLc (pre++[c]) r) else 1
def zB9 (h:zN) (l:List zV):Int:=if zCp h=0 then (if 10<l.length then 2 else zLc [] l) else zCp h
theorem zCF (h:zN) (hh:LenH h) (l:List zV) (hl:Len l):Jr h l=some (zB9 h l):=by
 unfold Jr zB9
 rw [zQM h hh,ba]
 by_cases h0:zCp h=0
 ·rw [bi h0,bg (by simp [h0])]
  by_cases h1:10<l.length
  ·rw [bi h1,bi (by simp; omega)]
  ·rw [bg h1,bg (by simp; omega)]
   refine jK l hl (fun (_:List zV) i=>i) zLc (fun i a=>a=l.take i) (a:=[]) rfl (by simp) (fun a i hi hJ=>?_) (fun a _=>?_)
   ·subst hJ
    unfold Yr
    rw [bi (by simpa using hi),ZY hi]
    simp only [ba,zLc,zPk]
    by_cases hg:zEP l[i]=true
    ·rw [bi hg,zH3 _ hl,ba,bg (by simp [hg])]
     have:=zNY (p:=fun b:zV=>decide (b.ID=l[i].ID)) hi (by simp)
     by_cases hc:((l.take i).any fun x=>decide (x.ID=l[i].ID))=true
     ·right; rw [bi hc,bi (by rw [bj]; exact this.2 hc)]
     ·left
      rw [bg hc,bg (by rw [bj]; exact fun q=>hc (this.1 q)),w64s' hi hl]
      exact ⟨_,rfl,rfl,by rw [List.take_succ_eq_append_getElem hi]⟩
    ·right
     rw [bg hg,bi (by simpa using hg)]
   ·unfold Yr
    rw [bg (by simp)]; rfl
 ·rw [bg h0,bi (by simp [h0])]
theorem zKM : ∀ (l pre:List zV),zLc pre l=0→pre.Pairwise (fun a b=>a.ID≠b.ID)→(∀ b∈l,zEP b=true)∧(pre++l).Pairwise (fun a b=>a.ID≠b.ID)
 | [],pre,h,hp=>⟨fun b hb=>(by cases hb),by simpa using hp⟩
 | b :: r,pre,h,hp=>by
  unfold zLc at h
  split at h
  ·rename_i hg
   split at h
   ·cases h
   ·rename_i hn
    have hp':(pre++[b]).Pairwise (fun a b=>a.ID≠b.ID):=by
     rw [List.pairwise_append]
     refine ⟨hp,List.pairwise_singleton _ _,fun x hx y hy=>?_⟩
     rw [cb] at hy
     subst hy
     intro q
     exact hn (List.any_eq_true.2 ⟨x,hx,by simpa using q⟩)
    obtain ⟨q2,q3⟩:=zKM r (pre++[b]) h hp'
    refine ⟨fun x hx=>?_,by simpa using q3⟩
    rcases List.mem_cons.1 hx with rfl | hx
    ·exact hg
    ·exact q2 x hx
  ·cases h
structure JL (h:zN) (l:List zV):Prop where
 h:zDT h
 n:l.length≤10
 r:∀ c∈l,zEP c=true
 d:l.Pairwise (fun a b=>a.ID≠b.ID)
theorem JL.of {h:zN} {l:List zV} (hh:LenH h) (e:zB9 h l=0):JL h l:=by
 unfold zB9 at e
 split at e
 ·rename_i e1
  split at e
  ·cases e
  ·obtain ⟨q1,q2⟩:=zKM l [] e .nil
   exact ⟨zDT.of hh e1,by omega,q1,by simpa using q2⟩
 ·contradiction
theorem zEX {h:zN} {l:List zV} (hg:JL h l):BOK (zg h l):=by
 have:=hg.h.nb; have:=hg.h.nt
 refine ⟨hg.n,?_,by simp [zg],by simp [zg]⟩
 simp only [zg,zJF]
 have:h.Berths.length*h.Tides.length≤6*12:=Nat.mul_le_mul (by omega) (by omega)
 omega
def zGu (b:zI) (i:Nat) (k:Int):List Zi:=if k<0 then [] else [⟨(b.calls.getD i default).ID,b.slots.getD k.toNat default,(za (b.slots.getD k.toNat default) (b.can.getD i [])).getD ⟨0,0⟩⟩]
def zAx (b:zI):Nat→List Int→List Zi
 | _,[]=>[]
 | i,k :: r=>zGu b i k++zAx b (i+1) r
theorem zGU (b:zI):∀ (f:List Int) (i:Nat) (k:Int),zAx b i (f++[k])=zAx b i f++zGu b (i+f.length) k
 | [],i,k=>by simp [zAx]
 | a :: f,i,k=>by
  simp only [List.cons_append,zAx,zGU b f (i+1) k,List.append_assoc,bt]
  rw [show i+1+f.length=i+(f.length+1) by omega]
theorem zK7 (b:zI):∀ (f:List Int) (i:Nat),(zAx b i f).length≤f.length
 | [],i=>Nat.le_refl _
 | a :: f,i=>by
  have:=zK7 b f (i+1)
  simp only [zAx,List.length_append,bt]
  unfold zGu
  split <;> simp only [List.length_nil,bt] <;> omega
def zIC (b:zI) (want:Int) (fixed:List Int):Prop := ∃ s,AsgB b s∧OkB b s∧zKR b fixed s∧totB b [] s=want
theorem zOo {b:zI} (hB:BOK b) {want:Int} (h0:want≤0) (hm:∀ s,AsgB b s→want≤totB b [] s) {fixed:List Int} (hf:fixed.length≤b.calls.length) {out:List Int} {sum:Int} (h:Best b fixed out sum):sum=want↔zIC b want fixed:=by
 constructor
 ·intro e
  obtain ⟨q1,q2⟩:=zQP hB hf (s:=fun r=>(gI out r).toNat) (by rw [← h.e]; omega)
  exact ⟨_,h.a,q1,q2,by rw [← zOz q2,← h.e]; exact e⟩
 ·rintro ⟨s,q1,q2,q3,q4⟩
  have a:=h.m s q1
  rw [zOz q3,q4] at a
  have b1:=hm _ h.a
  have b2:=tot_le b fixed (fun r=>(gI out r).toNat)
  rw [← h.e] at b2
  omega
structure zGK (b:zI) (want:Int) (i:Nat) (fixed:List Int):Prop where
 l:fixed.length=i
 v:∀ r,r<i→gI fixed r = -1∨∃ k:Nat,gI fixed r=(k:Int)∧k<b.slots.length∧canB b r k=true
 c:zIC b want fixed
 f:∀ r,r<i→∀ k:Nat,k<b.slots.length→canB b r k=true→(gI fixed r = -1∨(k:Int)<gI fixed r)→¬ zIC b want (fixed.take r++[(k:Int)])
theorem zMP {l:List Int} {x:Int} {r:Nat}:gI (l++[x]) r=if r<l.length then gI l r else if r=l.length then x else 0:=by
 unfold gI
 rw [List.getD_eq_getElem?_getD,List.getD_eq_getElem?_getD]
 by_cases h:r<l.length
 ·rw [bi h,List.getElem?_append_left h]
 ·rw [bg h,List.getElem?_append_right (by omega)]
  by_cases e:r=l.length
  ·rw [bi e,e]; simp
  ·rw [bg e,List.getElem?_eq_none (by simp; omega)]; rfl
theorem zGK.snoc {b:zI} {want:Int} {i:Nat} {fixed:List Int} (h:zGK b want i fixed) {x:Int} (hv:x = -1∨∃ k:Nat,x=(k:Int)∧k<b.slots.length∧canB b i k=true) (hc:zIC b want (fixed++[x]))
  (hf:∀ k:Nat,k<b.slots.length→canB b i k=true→(x = -1∨(k:Int)<x)→¬ zIC b want (fixed++[(k:Int)])):zGK b want (i+1) (fixed++[x]):=by
 have hl:=h.l
 refine ⟨by simp [hl],fun r hr=>?_,hc,fun r hr k hk hk2 hk3=>?_⟩
 ·rw [zMP]
  by_cases e:r<fixed.length
  ·rw [bi e]; exact h.v r (by omega)
  ·have e2:r=i:=by omega
   rw [bg e,bi (by omega),e2]; exact hv
 ·rw [zMP] at hk3
  by_cases e:r<fixed.length
  ·rw [bi e] at hk3
   rw [List.take_append_of_le_length (by omega)]
   exact h.f r (by omega) k hk hk2 hk3
  ·have e2:r=i:=by omega
   rw [bg e,bi (by omega)] at hk3
   rw [e2] at hk2 ⊢
   rw [show i=fixed.length by omega,List.take_left]
   exact hf k hk hk2 hk3
theorem zLV {b:zI} {fixed:List Int} {x:Int} {s:Nat→Nat}:zKR b (fixed++[x]) s↔zKR b fixed s∧(s fixed.length:Int)=if x<0 then ((b.slots.length+fixed.length:Nat):Int) else x:=by
 unfold zKR
 have e1:∀ r,r<fixed.length→fixK b (fixed++[x]) r=fixK b fixed r:=fun r hr=>by unfold fixK; rw [zMP,bi hr]
 have e2:fixK b (fixed++[x]) fixed.length=if x<0 then ((b.slots.length+fixed.length:Nat):Int) else x:=by
  have:gI (fixed++[x]) fixed.length=x:=by rw [zMP,bg (by omega),bi rfl]
  unfold fixK
  rw [this]
 constructor
 ·intro h
  refine ⟨fun r hr=>by rw [← e1 r hr]; exact h r (by simp; omega),by rw [← e2]; exact h _ (by simp)⟩
 ·rintro ⟨h1,h2⟩ r hr
  simp only [List.length_append,bt,List.length_nil] at hr
  by_cases e:r<fixed.length
  ·rw [e1 r e]; exact h1 r e
  ·rw [show r=fixed.length by omega,e2]; exact h2
theorem plan_eq {b:zI} (hB:BOK b) {out0:List Int} {want:Int} (h0:Best b [] out0 want) (hb0:jX b []=some (out0,want)):∃ fixed,zGK b want b.calls.length fixed∧Y1 b=some (zAx b 0 fixed):=by
 have nc:=hB.nc; have ns:=hB.ns; have hlc:=hB.lc
 obtain ⟨w0,w1⟩:=zKN hB h0
 have start:zGK b want 0 []:=⟨rfl,fun r hr=>by omega,⟨_,h0.a,w1,fun r hr=>by simp at hr,by rw [h0.e]⟩,fun r hr=>by omega⟩
 unfold Y1
 rw [hb0,ba]
 obtain ⟨⟨x,f,o⟩,⟨rfl,h1,h2⟩,h3⟩:=Qz (body:=yY b (out0,want)) (X:=fun s=>yX s.2.2) (s0:=(0,[],[]))
  (fun i s=>s.1=(i:Int)∧zGK b want i s.2.1∧s.2.2=zAx b 0 s.2.1) b.calls.length (by omega) ⟨rfl,start,rfl⟩
  (fun i s hi hI=>by
   obtain ⟨x,f,o⟩:=s
   simp only at hI
   obtain ⟨rfl,hI,rfl⟩:=hI
   have hfl:=hI.l
   have hol:=zK7 b f 0
   unfold yY
   simp only
   rw [bi (by simpa using hi),zB5 (d:=default) hi,ba]
   have key:=lp_inv' (body:=Yp b (out0,want) (i:Int) f (zAx b 0 f) (b.calls.getD i default)) (s0:=0) (fun q s=>s=(q:Int)∧∀ k:Nat,k<q→canB b i k=true→¬ zIC b want (f++[(k:Int)]))
    (fun r => ∃ s',r = .inl s'∧s'.1=((i+1:Nat):Int)∧zGK b want (i+1) s'.2.1∧s'.2.2=zAx b 0 s'.2.1) b.slots.length (by omega) ⟨rfl,fun k hk=>by omega⟩ (fun q s hq hJ=>by
     obtain ⟨rfl,hJ⟩:=hJ
     have hj6:jy (q:Int)=some (.inl ((q+1:Nat):Int)):=by unfold jy; rw [zw (by omega) (by omega)]; rfl
     have hj3:∀ (z:List Int) (y:List Zi),JA (i:Int) z y=some (.inl (((i+1:Nat):Int),z,y)):=fun z y=>by unfold JA; rw [zw (by omega) (by omega)]; rfl
     unfold Yp
     simp only
     by_cases hqs:q<b.slots.length
     ·rw [bi (by simpa using hqs),zB5 (d:=default) hqs,ba,zB5 (d:=[]) (by omega),ba]
      have hcb:(za (b.slots.getD q default) (b.can.getD i [])).isSome=canB b i q:=rfl
      rw [hcb]
      by_cases hc:canB b i q=true
      ·obtain ⟨out,sum,g1,g2⟩:=zEI hB (fixed:=f++[(q:Int)]) (by simp; omega)
       have hiff:=zOo hB w0 h0.m (by simp; omega) g2
       rw [bg (by simp [hc]),Js (l:=[]) (by simp; omega),ba,Js (by simp; omega),ba,List.nil_append,g1,ba]
       by_cases he:sum=want
       ·rw [bi (by simpa using he),Js (by simp; omega),ba,Js (by simp only [bt,List.length_nil]; omega),ba,hj3]
        refine .inr ⟨_,rfl,_,rfl,rfl,hI.snoc (.inr ⟨q,rfl,hqs,hc⟩) (hiff.1 he) fun k hk hk2 hk3=>hJ k (by omega) hk2,?_⟩
        simp only
        rw [zGU,hfl,Nat.zero_add]
        unfold zGu
        rw [bg (by omega),show ((q:Int)).toNat=q by omega]
       ·rw [bg (by simpa using he),hj6]
        refine .inl ⟨hqs,_,rfl,rfl,fun k hk hk2=>?_⟩
        by_cases e:k=q
        ·subst e; exact fun z=>he (hiff.2 z)
        ·exact hJ k (by omega) hk2
      ·rw [bi (by simpa using hc),hj6]
       refine .inl ⟨hqs,_,rfl,rfl,fun k hk hk2=>?_⟩
       by_cases e:k=q
       ·subst e; exact absurd hk2 hc
       ·exact hJ k (by omega) hk2
     ·have e:q=b.slots.length:=by omega
      subst e
      rw [bg (by simp)]
      unfold yV
      rw [Js (by simp; omega),ba,hj3]
      refine .inr ⟨_,rfl,_,rfl,rfl,hI.snoc (.inl rfl) ?_ fun k hk hk2 _=>hJ k hk hk2,?_⟩
      ·obtain ⟨s,q1,q2,q3,q4⟩:=hI.c
       refine ⟨s,q1,q2,zLV.2 ⟨q3,?_⟩,q4⟩
       rw [bi (by decide),hfl]
       rcases q2 i hi with e | ⟨e1,e2⟩
       ·rw [e]
       ·exact absurd ⟨s,q1,q2,zLV.2 ⟨q3,by rw [bg (by omega),hfl]⟩,q4⟩ (hJ (s i) e1 e2)
      ·simp only
       rw [zGU,zGu,bi (by decide),List.append_nil])
   obtain ⟨r,g1,s',rfl,g2,g3,g4⟩:=key
   exact ⟨s',g1,g2,g3,g4⟩)
  (fun s hI=>by
   obtain ⟨x,f,o⟩:=s
   simp only at hI
   obtain ⟨rfl,_⟩:=hI
   unfold yY
   simp only
   rw [bg (by simp)])
 simp only at h1 h2 h3
 exact ⟨f,h1,by rw [h3,h2]; rfl⟩
theorem zLE {b:zI} {x:Zi}:∀ {f:List Int} {i:Nat},x∈zAx b i f→∃ r,r<f.length∧x∈zGu b (i+r) (gI f r)
 | [],i,h=>by cases h
 | a :: f,i,h=>by
  rw [zAx,List.mem_append] at h
  rcases h with h | h
  ·exact ⟨0,by simp,by simpa [gI] using h⟩
  ·obtain ⟨r,q1,q2⟩:=zLE h
   exact ⟨r+1,by simpa using q1,by rw [show i+(r+1)=i+1+r by omega]; simpa [gI] using q2⟩
end Go.Mx
