/- Part of the proof of BerthFull: plain laws about the functions of M, no program in sight. Conditions: none. -/
import Derived.Test.YtmebbbblomlgdaaGreatLawYg
set_option linter.unusedVariables false
set_option linter.unusedSimpArgs false
namespace Go.Mx
structure BOK (b:zL):Prop where
 nc:b.calls.length≤10
 ns:b.slots.length≤100
 lc:b.can.length=b.calls.length
 lo:b.old.length=b.calls.length
def canB (b:zL) (i k:Nat):Bool:=(ZE (b.slots.getD k default) (b.can.getD i [])).isSome
def zBK (b:zL) (i k:Nat):Int:=if k=b.slots.length+i then 0 else if k<b.slots.length∧canB b i k=true then (if gI b.old i=(k:Int) then -1001 else -1000) else 1073741824
theorem zKC {α:Type} {P:Prop} [Decidable P] {k q:Nat} (e:P→k≠q) (A B:α):(if k<q∧P then A else B)=if k<q+1∧P then A else B:=by
 by_cases w:k<q∧P
 ·rw [if_pos w,if_pos ⟨by omega,w.2⟩]
 ·rw [if_neg w,if_neg (fun z=>w ⟨by have:=e z.2; omega,z.2⟩)]
theorem zJ7 {l:List Int} {n:Nat} {f:Nat→Int} (hl:l.length=n) (h:∀ k,k<n→gI l k=f k):l=(List.range n).map f:=by
 refine List.ext_getElem (by simpa using hl) fun k h1 h2=>?_
 have:=h k (by omega)
 rw [zE7 h1] at this
 simpa using this
theorem getD_lt {α:Type} {l:List α} {i:Nat} (h:i<l.length) (d:α):l.getD i d=l[i]:=by simp [List.getD_eq_getElem?_getD,h]
theorem zBi {α:Type} {l:List α} {i:Nat} (h:i<l.length) (d:α):ix l (i:Int)=some (l.getD i d):=by rw [ZY h,getD_lt h]
theorem zOi {b:zL} (hB:BOK b) {i:Nat} (hi:i<b.calls.length):jd b (i:Int)=some ((List.range (b.slots.length+b.calls.length)).map (zBK b i)):=by
 have nc:=hB.nc; have ns:=hB.ns
 have e1:w64 ((b.slots.length:Int)+(b.calls.length:Int))=((b.slots.length+b.calls.length:Nat):Int):=by rw [zf (by omega) (by omega)]; omega
 have e2:w64 ((b.slots.length:Int)+(i:Int))=((b.slots.length+i:Nat):Int):=by rw [zf (by omega) (by omega)]; omega
 unfold jd
 rw [zGG (n:=b.slots.length+b.calls.length) (by omega) _ e1,Option.bind_some]
 obtain ⟨⟨x,l⟩,⟨rfl,h1,h2⟩,h3⟩:=YU (body:=jW b (i:Int) (List.replicate (b.slots.length+b.calls.length) (0:Int))) (X:=fun s=>Zm b (i:Int) s.2) (s0:=(0,List.replicate (b.slots.length+b.calls.length) (0:Int)))
  (fun q s=>s.1=(q:Int)∧s.2.length=b.slots.length+b.calls.length∧∀ k,k<q→gI s.2 k=1073741824) (b.slots.length+b.calls.length) (by omega) ⟨rfl,by simp,fun k h=>by omega⟩
  (fun q s hq hI=>by
   obtain ⟨x,l⟩:=s
   simp only at hI
   obtain ⟨rfl,h1,h2⟩:=hI
   unfold jW
   simp only
   rw [if_pos (by simp; omega),YD (by omega),Option.bind_some,zf (by omega) (by omega),Y1]
   refine ⟨_,rfl,by simp only; omega,by simp only [List.length_set]; exact h1,fun k hk=>?_⟩
   simp only
   rw [JR (by omega)]
   by_cases e:k=q
   ·rw [if_pos e]
   ·rw [if_neg e]; exact h2 k (by omega))
  (fun s hI=>by
   obtain ⟨x,l⟩:=s
   simp only at hI
   obtain ⟨rfl,h1,h2⟩:=hI
   unfold jW
   simp only
   rw [if_neg (by simp)])
 rw [h3]
 unfold Zm
 simp only at h1 h2 ⊢
 obtain ⟨⟨x,l'⟩,⟨rfl,g1,g2⟩,g3⟩:=YU (body:=jX b (i:Int)) (X:=fun s=>Za b (i:Int) s.2) (s0:=(0,l))
  (fun q s=>s.1=(q:Int)∧s.2.length=b.slots.length+b.calls.length∧∀ k,k<b.slots.length+b.calls.length→gI s.2 k=if k<q∧canB b i k=true then (if gI b.old i=(k:Int) then -1001 else -1000) else 1073741824) b.slots.length (by omega) ⟨rfl,h1,fun k h=>by rw [if_neg (by omega)]; exact h2 k h⟩
  (fun q s hq hI=>by
   obtain ⟨x,l⟩:=s
   simp only at hI
   obtain ⟨rfl,h1,h2⟩:=hI
   have hlo:=hB.lo; have hlc:=hB.lc
   have hj:∀ z,ZU (q:Int) z=some (.inl (((q+1:Nat):Int),z)):=fun z=>by unfold ZU; rw [zf (by omega) (by omega)]; rfl
   unfold jX
   simp only
   rw [if_pos (by simpa using hq),zBi (d:=default) hq,Option.bind_some,zBi (d:=[]) (by omega),Option.bind_some]
   have hcb:(ZE (b.slots.getD q default) (b.can.getD i [])).isSome=canB b i q:=rfl
   rw [hcb]
   by_cases hc:canB b i q=true
   ·rw [if_pos hc,YD (by omega),Option.bind_some,YD (by omega),Option.bind_some,Y1]
    by_cases ho:gI b.old i=(q:Int)
    ·rw [if_pos (by simpa using ho),YD (by rw [List.length_set]; omega),Option.bind_some,Y1,hj]
     refine ⟨_,rfl,rfl,by simp only [List.length_set]; exact h1,fun k hk=>?_⟩
     simp only
     rw [JR (by rw [List.length_set]; omega),JR (by omega)]
     by_cases e:k=q
     ·subst e; rw [if_pos rfl,if_pos ⟨by omega,hc⟩,if_pos ho]
     ·rw [if_neg e,if_neg e,h2 k hk]
      exact zKC (fun _=>e) _ _
    ·rw [if_neg (by simpa using ho),hj]
     refine ⟨_,rfl,rfl,by simp only [List.length_set]; exact h1,fun k hk=>?_⟩
     simp only
     rw [JR (by omega)]
     by_cases e:k=q
     ·subst e; rw [if_pos rfl,if_pos ⟨by omega,hc⟩,if_neg ho]
     ·rw [if_neg e,h2 k hk]
      exact zKC (fun _=>e) _ _
   ·rw [if_neg hc,hj]
    refine ⟨_,rfl,rfl,h1,fun k hk=>?_⟩
    simp only
    rw [h2 k hk]
    exact zKC (fun z e=>hc (by rw [← e]; exact z)) _ _)
  (fun s hI=>by
   obtain ⟨x,l⟩:=s
   simp only at hI
   obtain ⟨rfl,h1,h2⟩:=hI
   unfold jX
   simp only
   rw [if_neg (by simp)])
 replace g1:l'.length=b.slots.length+b.calls.length:=g1
 refine g3.trans ?_
 show Za b (i:Int) l'=_
 unfold Za
 rw [e2,YD (by omega),Option.bind_some,Y1]
 refine congrArg some (zJ7 (by rw [List.length_set]; exact g1) fun k hk=>?_)
 rw [JR (by omega)]
 unfold zBK
 by_cases e:k=b.slots.length+i
 ·rw [if_pos e,if_pos e]
 ·rw [if_neg e,if_neg e]; exact g2 k hk
def fixK (b:zL) (fixed:List Int) (i:Nat):Int:=if gI fixed i<0 then ((b.slots.length+i:Nat):Int) else gI fixed i
def rowF (b:zL) (fixed:List Int) (i k:Nat):Int:=if i<fixed.length∧(k:Int)≠fixK b fixed i then 1073741824 else zBK b i k
def zEa (b:zL) (fixed:List Int):List (List Int):=(List.range b.calls.length).map fun i=>(List.range (b.slots.length+b.calls.length)).map (rowF b fixed i)
theorem zLC (b:zL) (i k:Nat) : -1001≤zBK b i k∧zBK b i k≤1073741824:=by
 unfold zBK
 repeat' split
 all_goals omega
theorem zHT (b:zL) (f:List Int) (i k:Nat) : -1001≤rowF b f i k∧rowF b f i k≤1073741824:=by
 unfold rowF
 have:=zLC b i k
 split <;> omega
theorem zNs {b:zL} (hB:BOK b) (fixed:List Int):zAY (zEa b fixed) (b.slots.length+b.calls.length):=by
 have nc:=hB.nc; have ns:=hB.ns
 refine ⟨by simp [zEa],by omega,fun row hr=>?_⟩
 unfold zEa at hr
 rw [List.mem_map] at hr
 obtain ⟨i,hi,rfl⟩:=hr
 refine ⟨by simp,fun x hx=>?_⟩
 rw [List.mem_map] at hx
 obtain ⟨k,hk,rfl⟩:=hx
 exact zHT b fixed i k
theorem best_eq {b:zL} (hB:BOK b) {fixed:List Int} (hf:fixed.length≤1000):Zt b fixed=Jk (zEa b fixed) ((b.slots.length+b.calls.length:Nat):Int):=by
 have nc:=hB.nc; have ns:=hB.ns
 have e1:w64 ((b.slots.length:Int)+(b.calls.length:Int))=((b.slots.length+b.calls.length:Nat):Int):=by rw [zf (by omega) (by omega)]; omega
 unfold Zt
 obtain ⟨⟨x,l⟩,⟨rfl,h1⟩,h2⟩:=YU (body:=Jg b fixed) (X:=fun s=>jf b s.2) (s0:=(0,[]))
  (fun i s=>s.1=(i:Int)∧s.2=(List.range i).map fun i=>(List.range (b.slots.length+b.calls.length)).map (rowF b fixed i)) b.calls.length (by omega) ⟨rfl,rfl⟩
  (fun i s hi hI=>by
   obtain ⟨x,l⟩:=s
   simp only at hI
   obtain ⟨rfl,rfl⟩:=hI
   unfold Jg
   simp only
   rw [if_pos (by simpa using hi),zOi hB hi,Option.bind_some]
   have hj:∀ (z:List Int),Z5 (i:Int) ((List.range i).map fun i=>(List.range (b.slots.length+b.calls.length)).map (rowF b fixed i)) z=some (.inl (((i+1:Nat):Int),((List.range i).map fun i=>(List.range (b.slots.length+b.calls.length)).map (rowF b fixed i))++[z])):=fun z=>by
    unfold Z5
    rw [j5 (by simp; omega),Option.bind_some,zf (by omega) (by omega)]; rfl
   have hz:∀ (z:List Int),z=(List.range (b.slots.length+b.calls.length)).map (rowF b fixed i)→((List.range i).map fun i=>(List.range (b.slots.length+b.calls.length)).map (rowF b fixed i))++[z]=(List.range (i+1)).map fun i=>(List.range (b.slots.length+b.calls.length)).map (rowF b fixed i):=fun z e=>by
    rw [e,List.range_succ,List.map_append]; rfl
   by_cases hfi:i<fixed.length
   ·have hj4:∀ k:Int,k=fixK b fixed i→∃ s',jL (i:Int) ((List.range i).map fun i=>(List.range (b.slots.length+b.calls.length)).map (rowF b fixed i)) ((List.range (b.slots.length+b.calls.length)).map (zBK b i)) k=some (.inl s')∧s'.1=((i+1:Nat):Int)∧s'.2=(List.range (i+1)).map fun i=>(List.range (b.slots.length+b.calls.length)).map (rowF b fixed i):=fun k hk=>by
     unfold jL
     obtain ⟨⟨x,l⟩,⟨rfl,g1,g2⟩,g3⟩:=YU (body:=Jf (i:Int) ((List.range i).map fun i=>(List.range (b.slots.length+b.calls.length)).map (rowF b fixed i)) ((List.range (b.slots.length+b.calls.length)).map (zBK b i)) k) (X:=fun s=>Z5 (i:Int) ((List.range i).map fun i=>(List.range (b.slots.length+b.calls.length)).map (rowF b fixed i)) s.2) (s0:=(0,(List.range (b.slots.length+b.calls.length)).map (zBK b i)))
      (fun q s=>s.1=(q:Int)∧s.2.length=b.slots.length+b.calls.length∧∀ j,j<b.slots.length+b.calls.length→gI s.2 j=if j<q∧(j:Int)≠k then 1073741824 else zBK b i j) (b.slots.length+b.calls.length) (by omega)
      ⟨rfl,by simp,fun j h=>by rw [if_neg (by omega),zE7 (by simpa using h)]; simp⟩
      (fun q s hq hI=>by
       obtain ⟨x,l⟩:=s
       simp only at hI
       obtain ⟨rfl,h1,h2⟩:=hI
       have hj6:∀ z,jK (q:Int) z=some (.inl (((q+1:Nat):Int),z)):=fun z=>by unfold jK; rw [zf (by omega) (by omega)]; rfl
       unfold Jf
       simp only
       rw [if_pos (by simp; omega)]
       by_cases e:(q:Int)=k
       ·rw [if_neg (by simpa using e),hj6]
        refine ⟨_,rfl,rfl,h1,fun j hj2=>?_⟩
        simp only
        rw [h2 j hj2]
        by_cases w:j<q∧(j:Int)≠k
        ·rw [if_pos w,if_pos ⟨by omega,w.2⟩]
        ·rw [if_neg w,if_neg (fun z=>w ⟨by omega,z.2⟩)]
       ·rw [if_pos (by simpa using e),YD (by omega),Option.bind_some,Y1,hj6]
        refine ⟨_,rfl,rfl,by simp only [List.length_set]; exact h1,fun j hj2=>?_⟩
        simp only
        rw [JR (by omega)]
        by_cases w:j=q
        ·subst w; rw [if_pos rfl,if_pos ⟨by omega,e⟩]
        ·rw [if_neg w,h2 j hj2]
         by_cases w:j<q∧(j:Int)≠k
         ·rw [if_pos w,if_pos ⟨by omega,w.2⟩]
         ·rw [if_neg w,if_neg (fun z=>w ⟨by omega,z.2⟩)])
      (fun s hI=>by
       obtain ⟨x,l⟩:=s
       simp only at hI
       obtain ⟨rfl,h1,h2⟩:=hI
       unfold Jf
       simp only
       rw [if_neg (by simp)])
     rw [g3,hj]
     refine ⟨_,rfl,rfl,hz _ (zJ7 g1 fun j hj2=>?_)⟩
     rw [g2 j hj2]
     unfold rowF
     rw [← hk]
     by_cases w:(j:Int)≠k
     ·rw [if_pos ⟨hj2,w⟩,if_pos ⟨hfi,w⟩]
     ·rw [if_neg (fun z=>w z.2),if_neg (fun z=>w z.2)]
    rw [if_pos (by simpa using hfi),YD hfi,Option.bind_some]
    by_cases hn:gI fixed i<0
    ·rw [if_pos (by simpa using hn)]
     refine hj4 _ ?_
     unfold fixK
     rw [if_pos hn,zf (by omega) (by omega)]; omega
    ·rw [if_neg (by simpa using hn)]
     refine hj4 _ ?_
     unfold fixK
     rw [if_neg hn]
   ·rw [if_neg (by simpa using hfi),hj]
    refine ⟨_,rfl,rfl,hz _ ?_⟩
    refine List.map_congr_left fun k _=>?_
    unfold rowF
    rw [if_neg (fun z=>hfi z.1)])
  (fun s hI=>by
   obtain ⟨x,l⟩:=s
   simp only at hI
   obtain ⟨rfl,h1⟩:=hI
   unfold Jg
   simp only
   rw [if_neg (by simp)])
 rw [h2]
 unfold jf
 simp only at h1 ⊢
 rw [e1,h1]
 show Option.bind (Jk (zEa b fixed) _) _=_
 cases Jk (zEa b fixed) ((b.slots.length+b.calls.length:Nat):Int) <;> rfl
def totB (b:zL) (fixed:List Int) (s:Nat→Nat):Int:=((List.range b.calls.length).map fun r=>rowF b fixed r (s r)).sum
abbrev AsgB (b:zL) (s:Nat→Nat):Prop:=Asg b.calls.length (b.slots.length+b.calls.length) s
structure Best (b:zL) (fixed:List Int) (out:List Int) (sum:Int):Prop where
 l:out.length=b.calls.length
 nn:∀ r,r<b.calls.length→0≤gI out r
 a:AsgB b (fun r=>(gI out r).toNat)
 e:sum=totB b fixed (fun r=>(gI out r).toNat)
 m:∀ s,AsgB b s→sum≤totB b fixed s
theorem zNV {b:zL} (hB:BOK b) {fixed:List Int} (hf:fixed.length≤1000):∃ out sum,Zt b fixed=some (out,sum)∧Best b fixed out sum:=by
 have hl:(zEa b fixed).length=b.calls.length:=by simp [zEa]
 have ht:∀ s,AsgB b s→tot (zEa b fixed) s=totB b fixed s:=fun s hs=>by
  unfold tot totB
  rw [hl]
  refine zBu _ _ fun r hr=>?_
  rw [List.mem_range] at hr
  have:=hs.lt r hr
  unfold cC
  rw [Nat.add_sub_cancel,Nat.add_sub_cancel,getD_lt (by omega)]
  simp only [zEa,List.getElem_map,List.getElem_range]
  rw [zE7 (by simpa using this)]
  simp
 obtain ⟨out,sum,h1,h2,h3,h4,h5,h6⟩:=zLN (zNs hB fixed)
 rw [hl] at h2 h3 h4 h6
 exact ⟨out,sum,by rw [best_eq hB hf]; exact h1,h2,h3,h4,by rw [h5]; exact ht _ h4,fun s hs=>by rw [← ht s hs]; exact h6 s hs⟩
def OkB (b:zL) (s:Nat→Nat):Prop := ∀ r,r<b.calls.length→s r=b.slots.length+r∨(s r<b.slots.length∧canB b r (s r)=true)
def FixOK (b:zL) (fixed:List Int) (s:Nat→Nat):Prop := ∀ r,r<fixed.length→(s r:Int)=fixK b fixed r
theorem zNh {n:Nat} {f:Nat→Int} (hn:n≤10) (h:∀ r,r<n→-1001≤f r) {q:Nat} (hq:q<n) (h2:f q=1073741824):0<((List.range n).map f).sum:=by
 rw [zEN f (List.mem_range.2 hq),h2]
 have:∀ l:List Nat,(∀ r∈l,r<n)→-(1001*(l.length:Int))≤(l.map f).sum:=by
  intro l
  induction l with
  | nil=>intro _; simp
  | cons a l ih =>
   intro hl
   have:=ih fun r hr=>hl r (List.mem_cons_of_mem _ hr)
   have:=h a (hl a List.mem_cons_self)
   simp only [List.length_cons,List.map_cons,List.sum_cons]; omega
 have h3:=this ((List.range n).erase q) fun r hr=>List.mem_range.1 (List.mem_of_mem_erase hr)
 rw [List.length_erase_of_mem (List.mem_range.2 hq),List.length_range] at h3
 omega
theorem tot_ok {b:zL} (hB:BOK b) {fixed:List Int} (hf:fixed.length≤b.calls.length) {s:Nat→Nat} (h:totB b fixed s≤0):OkB b s∧FixOK b fixed s:=by
 have key:∀ r,r<b.calls.length→rowF b fixed r (s r)≠1073741824:=fun r hr e=>by
  have:=zNh hB.nc (f:=fun r=>rowF b fixed r (s r)) (fun r _=>(zHT b fixed r (s r)).1) hr e
  unfold totB at h; omega
 constructor
 ·intro r hr
  have:=key r hr
  unfold rowF at this
  split at this
  ·exact absurd rfl this
  ·unfold zBK at this
   split at this
   ·rename_i e; exact .inl e
   ·split at this
    ·rename_i e; exact .inr e
    ·exact absurd rfl this
 ·intro r hr
  have:=key r (by omega)
  unfold rowF at this
  split at this
  ·exact absurd rfl this
  ·rename_i e
   exact Classical.byContradiction fun w=>e ⟨hr,w⟩
theorem zOq (b:zL):AsgB b (fun r=>b.slots.length+r):=⟨fun r hr=>by omega,fun r q _ _ e=>by omega⟩
theorem zNf (b:zL):totB b [] (fun r=>b.slots.length+r)=0:=by
 unfold totB
 rw [zBu _ (fun _=>0) fun r _=>by unfold rowF zBK; rw [if_neg (by simp),if_pos rfl]]
 generalize List.range b.calls.length=l
 induction l with
 | nil=>rfl
 | cons a l ih=>rw [List.map_cons,List.sum_cons,ih]; rfl
theorem zLL {b:zL} (hB:BOK b) {out:List Int} {sum:Int} (h:Best b [] out sum):sum≤0∧OkB b (fun r=>(gI out r).toNat):=by
 have h0:sum≤0:=by have:=h.m _ (zOq b); rwa [zNf] at this
 exact ⟨h0,(tot_ok hB (fixed:=[]) (by simp) (by rw [← h.e]; exact h0)).1⟩
theorem zGL (l:List zJ) (hl:Len l) (id:Int):zx l id=some (yK (fun b=>decide (b.ID=id)) l 0):=by
 unfold zx zo
 have e:=zE4 (body:=za l id) (fun b=>decide (b.ID=id)) l hl (fun i hi=>by
  unfold za
  rw [if_pos (by simpa using hi),ZY hi,Option.bind_some,w64s' hi hl]
  rfl) (by
  unfold za
  rw [if_neg (by simp)]; rfl)
 rw [e]; rfl
def zEl : List zJ→List zJ→Int
 | _,[]=>0
 | pre,c :: r=>if zBQ c=true then (if (pre.any fun x=>decide (x.ID=c.ID))=true then 6 else zEl (pre++[c]) r) else 1
def jm (h:zG) (l:List zJ):Int:=if Qj h=0 then (if 10<l.length then 2 else zEl [] l) else Qj h
theorem Yu (h:zG) (hh:LenH h) (l:List zJ) (hl:Len l):Z4 h l=some (jm h l):=by
 unfold Z4 jm
 rw [zNc h hh,Option.bind_some]
 by_cases h0:Qj h=0
 ·rw [if_pos h0,if_neg (by simp [h0])]
  by_cases h1:10<l.length
  ·rw [if_pos h1,if_pos (by simp; omega)]
  ·rw [if_neg h1,if_neg (by simp; omega)]
   refine Zw l hl (fun (_:List zJ) i=>i) zEl (fun i a=>a=l.take i) (a:=[]) rfl (by simp) (fun a i hi hJ=>?_) (fun a _=>?_)
   ·subst hJ
    unfold yu
    rw [if_pos (by simpa using hi),ZY hi]
    simp only [Option.bind_some,zEl,zM2]
    by_cases hg:zBQ l[i]=true
    ·rw [if_pos hg,zGL _ hl,Option.bind_some,if_neg (by simp [hg])]
     have:=zK0 (p:=fun b:zJ=>decide (b.ID=l[i].ID)) hi (by simp)
     by_cases hc:((l.take i).any fun x=>decide (x.ID=l[i].ID))=true
     ·right; rw [if_pos hc,if_pos (by rw [decide_eq_true_eq]; exact this.2 hc)]
     ·left
      rw [if_neg hc,if_neg (by rw [decide_eq_true_eq]; exact fun q=>hc (this.1 q)),w64s' hi hl]
      exact ⟨_,rfl,rfl,by rw [List.take_succ_eq_append_getElem hi]⟩
    ·right
     rw [if_neg hg,if_pos (by simpa using hg)]
   ·unfold yu
    rw [if_neg (by simp)]; rfl
 ·rw [if_neg h0,if_pos (by simp [h0])]
theorem zIa : ∀ (l pre:List zJ),zEl pre l=0→pre.Pairwise (fun a b=>a.ID≠b.ID)→(∀ b∈l,zBQ b=true)∧(pre++l).Pairwise (fun a b=>a.ID≠b.ID)
 | [],pre,h,hp=>⟨fun b hb=>(by cases hb),by simpa using hp⟩
 | b :: r,pre,h,hp=>by
  unfold zEl at h
  split at h
  ·rename_i hg
   split at h
   ·cases h
   ·rename_i hn
    have hp':(pre++[b]).Pairwise (fun a b=>a.ID≠b.ID):=by
     rw [List.pairwise_append]
     refine ⟨hp,List.pairwise_singleton _ _,fun x hx y hy=>?_⟩
     rw [List.mem_singleton] at hy
     subst hy
     intro q
     exact hn (List.any_eq_true.2 ⟨x,hx,by simpa using q⟩)
    obtain ⟨q2,q3⟩:=zIa r (pre++[b]) h hp'
    refine ⟨fun x hx=>?_,by simpa using q3⟩
    rcases List.mem_cons.1 hx with rfl | hx
    ·exact hg
    ·exact q2 x hx
  ·cases h
structure QU (h:zG) (l:List zJ):Prop where
 h:Qp h
 n:l.length≤10
 r:∀ c∈l,zBQ c=true
 d:l.Pairwise (fun a b=>a.ID≠b.ID)
theorem QU.of {h:zG} {l:List zJ} (hh:LenH h) (e:jm h l=0):QU h l:=by
 unfold jm at e
 split at e
 ·rename_i e1
  split at e
  ·cases e
  ·obtain ⟨q1,q2⟩:=zIa l [] e .nil
   exact ⟨Qp.of hh e1,by omega,q1,by simpa using q2⟩
 ·contradiction
theorem zFc {h:zG} {l:List zJ} (hg:QU h l):BOK (zR h l):=by
 have:=hg.h.nb; have:=hg.h.nt
 refine ⟨hg.n,?_,by simp [zR],by simp [zR]⟩
 simp only [zR,zEq]
 have:h.Berths.length*h.Tides.length≤6*12:=Nat.mul_le_mul (by omega) (by omega)
 omega
def zO0 (b:zL) (want:Int) (fixed:List Int):Prop := ∃ s,AsgB b s∧OkB b s∧FixOK b fixed s∧totB b [] s=want
structure PlanI (b:zL) (want:Int) (i:Nat) (fixed:List Int):Prop where
 l:fixed.length=i
 v:∀ r,r<i→gI fixed r = -1∨∃ k:Nat,gI fixed r=(k:Int)∧k<b.slots.length∧canB b r k=true
 c:zO0 b want fixed
 f:∀ r,r<i→∀ k:Nat,k<b.slots.length→canB b r k=true→(gI fixed r = -1∨(k:Int)<gI fixed r)→¬ zO0 b want (fixed.take r++[(k:Int)])
end Go.Mx
