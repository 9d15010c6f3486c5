/- Part of the proof of TopShipsLieClear: plain laws about the functions of M, no program in sight. Conditions: none. -/
import Derived.Test.YtdpifjmggnjagaaGreatLawHd
set_option linter.unusedVariables false
set_option linter.unusedSimpArgs false
namespace Go.Mh
open Go.Mx
theorem zME {α β σ ρ:Type} {body:σ→Option (σ ⊕ ρ)} (l:List α) (hl:l.length≤4294967295) (f:α→β) (st:List β→Int→σ) (k:List β→ρ) {s0:σ} (e0:s0=st [] 0)
  (step:∀ acc (i:Nat) (hi:i<l.length),acc=(l.take i).map f→body (st acc (i:Int))=some (.inl (st (acc++[f l[i]]) ((i+1:Nat):Int))))
  (last:body (st (l.map f) (l.length:Int))=some (.inr (k (l.map f)))):Lp body fuel s0=some (k (l.map f)):=by
 have h:=jK (body:=body) l (by omega) st (fun acc r=>k (acc++r.map f)) (fun i acc=>acc=(l.take i).map f) (a:=[]) e0 (by simp) (fun acc i hi hJ=>.inl ⟨acc++[f l[i]],step acc i hi hJ,by simp only [bw,List.append_assoc,List.cons_append,List.nil_append],by rw [hJ,← List.map_singleton,← List.map_append,List.take_append_getElem]⟩) (fun acc hJ=>by
  rw [List.take_length] at hJ
  rw [hJ,last]; simp)
 simpa using h
def zJu (h x:zB):zB:=⟨max 0 (w64 (h.Lo - x.Hi)),w64 (h.Hi - x.Lo)⟩
def zBi (l:zQ) (out:List zB):zQ:=⟨List.zipWith zJu l.Holds out,⟨max 0 (w64 (l.All.Lo - w64 (Jl out))),w64 (l.All.Hi - w64 (Jh out))⟩⟩
def zJT : List zq→List zB→List zB→Bool
 | r :: rs,h :: hs,x :: xs=>zDZ x r.Room && !decide (h.Hi<x.Lo)&&zJT rs hs xs
 | _,_,[]=>true
 | _,_,_=>false
def zHd (s:zH) (l:zQ) (out:List zB):zQ×Int:=if l.All.Hi<w64 (Jh out) then (⟨[],⟨0,0⟩⟩,1) else if zHI s (zBi l out)=0 then (zBi l out,0) else (⟨[],⟨0,0⟩⟩,zHI s (zBi l out))
def zMj (s:zH) (l:zQ) (out:List zB):zQ×Int:=if chkL s l=0 then (if (out.length:Int)=(s.Holds.length:Int) then (if zJT s.Holds l.Holds out=true then zHd s l out else (⟨[],⟨0,0⟩⟩,1)) else (⟨[],⟨0,0⟩⟩,1)) else (⟨[],⟨0,0⟩⟩,chkL s l)
theorem leftW (l:zQ) (out:List zB):zDj (zBi l out):=by
 unfold zDj zBi
 simp only
 refine ⟨zKr _,?_⟩
 have:=w64_rng (l.All.Lo - w64 (Jl out))
 rw [zw (by omega) (by omega)]
theorem zRC (s:zH) (l:zQ) (out:List zB) (hc:chk s=0) (hl:Len s.Holds) (ho:Len out):Yv s l out (List.zipWith zJu l.Holds out)=some (zHd s l out):=by
 unfold Yv zHd
 rw [zNT out ho,ba,zCN]
 by_cases h:l.All.Hi<w64 (Jh out)
 ·rw [bi (by simpa using h),bi h]
 ·rw [bg (by simpa using h),bg h]
  have e:JK s (zBi l out)=some (zHI s (zBi l out)):=by
   rw [zFW s _ hl (leftW l out)]; unfold chkL; rw [bi hc]
  unfold zBi at e ⊢
  rw [e,ba]
  split <;> rename_i h2 <;> simp at h2 <;> simp [h2]
theorem ite_bt {α:Type} {c d:Bool} {A B:α} (h:c=true):(if (c&&d)=true then A else B)=if d=true then A else B:=by subst h; simp
theorem ite_bf {α:Type} {c d:Bool} {A B:α} (h : ¬ c=true):(if (c&&d)=true then A else B)=B:=by rw [Bool.not_eq_true] at h; subst h; simp
theorem zQN {α β γ:Type} (f:α→β→γ) (a:List α) (b:List β) (i:Nat) (h1:i<a.length) (h2:i<b.length):List.zipWith f (a.drop i) (b.drop i)=f a[i] b[i] :: List.zipWith f (a.drop (i+1)) (b.drop (i+1)):=by
 rw [List.drop_eq_getElem_cons h1,List.drop_eq_getElem_cons h2,List.zipWith_cons_cons]
theorem zOc (s:zH) (l:zQ) (out:List zB) (hl:Len s.Holds) (hw:zDj l) (ho:out.length≤4294967295):zA2 s l out=some (zMj s l out):=by
 unfold zA2 zMj
 rw [zFW s l hl hw,ba]
 by_cases h:chkL s l=0
 ·rw [bg (by simp [h]),bi h]
  have hg:=JL.of h
  have hc:chk s=0:=by unfold chkL at h; split at h <;> assumption
  by_cases h2:(out.length:Int)=(s.Holds.length:Int)
  ·rw [bg (by have:=hg.len; simp; omega),bi h2]
   have hol:out.length=l.Holds.length:=by have:=hg.len; omega
   refine (jK (body:=qJ s l out) (s0:=(0,[])) out (by omega) (fun (acc:List zB) i=>(i,acc)) (fun acc r=>if zJT (s.Holds.drop acc.length) (l.Holds.drop acc.length) r=true then zHd s l out else (⟨[],⟨0,0⟩⟩,1)) (fun i acc=>acc.length=i∧acc++List.zipWith zJu (l.Holds.drop i) (out.drop i)=List.zipWith zJu l.Holds out) (a:=[]) rfl ⟨rfl,by simp⟩ (fun acc i hi hJ=>?_) (fun acc hJ=>?_)).trans rfl
   ·have hi2:i<l.Holds.length:=by omega
    have hi3:i<s.Holds.length:=by omega
    unfold qJ
    simp only
    rw [bi (by simpa using hi),ZY hi,ba,ZY hi2,ba,w64s' hi (by omega),ZY hi3,hJ.1,List.drop_eq_getElem_cons hi2,List.drop_eq_getElem_cons hi3]
    simp only [zJT]
    by_cases hb:(zDZ out[i] s.Holds[i].Room && !decide (l.Holds[i].Hi<out[i].Lo))=true
    ·left
     have hb2:=hb
     simp only [zDZ,bn,bj,Bool.not_eq_true',decide_eq_false_iff_not] at hb2
     have e:(!(decide (out[i].Lo<0)||decide (out[i].Hi<out[i].Lo)))=true:=by simp; omega
     rw [e]
     simp only [gb,if_true,ba]
     rw [bg (by simp only [Bool.or_eq_true,bj]; omega),Js (by simp; omega),ba,zCN]
     refine ⟨acc++[zJu l.Holds[i] out[i]],rfl,?_,by simp [hJ.1],?_⟩
     ·simp only [List.length_append,List.length_singleton,hJ.1]
      exact ite_bt hb
     ·rw [← hJ.2,zQN _ _ _ _ hi2 hi,List.append_assoc]; rfl
    ·right
     have hb2:=hb
     simp only [zDZ,bn,bj,Bool.not_eq_true',decide_eq_false_iff_not] at hb2
     refine Eq.trans ?_ (congrArg (fun z=>some (Sum.inr z)) (ite_bf hb).symm)
     by_cases h1:out[i].Lo<0∨out[i].Hi<out[i].Lo
     ·have e:(decide (out[i].Lo<0)||decide (out[i].Hi<out[i].Lo))=true:=by simp; omega
      simp only [e,gb,Bool.not_true,Bool.false_eq_true,if_false,ba,Bool.true_or,if_true]
     ·have e:(decide (out[i].Lo<0)||decide (out[i].Hi<out[i].Lo))=false:=by simp; omega
      simp only [e,gb,Bool.not_false,if_true,ba,Bool.false_or]
      rw [bi (by rw [Bool.or_eq_true,bj,bj]; omega)]
   ·unfold qJ
    simp only
    have e:acc=List.zipWith zJu l.Holds out:=by rw [← hJ.2]; simp
    rw [bg (by simp),e,zRC s l out hc hl (by unfold Len; omega)]
    simp [zJT]
  ·rw [bi (by have:=hg.len; simp; omega),bg h2]
 ·rw [bi (by simp [h]),bg h]
theorem zDj.ok {l:zQ} (h:zFM l):zDj l:=⟨zw h.2.1.2.1.1 h.2.1.2.1.2,zw h.2.1.1.1 h.2.1.1.2⟩
theorem zLn : ∀ (l:List Int) (i:Nat) (h:i<l.length) (n:Int),(l.set i n).sum=l.sum - l[i]+n
 | [],i,h,n=>by simp at h
 | x :: r,0,h,n=>by simp only [List.set_cons_zero,List.sum_cons,List.getElem_cons_zero]; omega
 | x :: r,i+1,h,n=>by
  have:=zLn r i (by simpa using h) n
  simp only [List.set_cons_succ,List.sum_cons,List.getElem_cons_succ]; omega
theorem zO5 {a b:Int} (h0:0≤a) (h1:a≤65535) (hb:1≤b):∃ q,rem (w64 a) b=some q∧0≤q∧q<b:=by
 rw [zw (by omega) (by omega)]
 refine ⟨a.tmod b,by unfold rem; rw [bg (by omega)],?_,Int.tmod_lt_of_pos a (by omega)⟩
 rw [Int.tmod_eq_emod_of_nonneg h0]; exact Int.emod_nonneg _ (by omega)
theorem jh {α:Type} (l:List α) (i:Nat) (x:α):put l (i:Int) x=l.set i x:=by unfold put; simp
theorem Zm {a:Int} (h : -4611686018427387904≤a∧a≤4611686018427387904):w64 a=a:=zw (by omega) (by omega)
theorem sum_bd8 (l:List Int):∀ (n:Nat),l.length≤n→(∀ x∈l,0≤x∧x≤65536)→0≤l.sum∧l.sum≤65536*n:=by
 induction l with
 | nil=>intro n h _; simp only [List.sum_nil]; omega
 | cons x r ih =>
  intro n h hh
  obtain ⟨m,rfl⟩:∃ m,n=m+1:=⟨n - 1,by simp at h; omega⟩
  have h1:=hh x bp
  have h2:=ih m (by simpa using h) fun y hy=>hh y (bq _ hy)
  simp only [List.sum_cons]; omega
def InS (l:List zB) (x:List Int):Prop:=x.length=l.length∧∀ i (h1:i<x.length) (h2:i<l.length),l[i].Lo≤x[i]∧x[i]≤l[i].Hi
theorem InS.sum {l:List zB} {x:List Int} (h:InS l x):Jh l≤x.sum∧x.sum≤Jl l:=zFk l x h.1 h.2
theorem InS.zQs {l:List zB} {x:List Int} (h:InS l x) (hh:∀ i (h1:i<x.length) (h2:i<l.length),x[i]=l[i].Hi):x.sum=Jl l:=by
 have e:x=l.map (·.Hi):=List.ext_getElem (by simp [h.1]) fun i h1 h2=>by rw [List.getElem_map]; exact hh i h1 (by simpa using h2)
 rw [e]; rfl
theorem InS.of_all' {l:List zB} {x:List Int} (h:InS l x) (hh:∀ i (h1:i<x.length) (h2:i<l.length),x[i]=l[i].Lo):x.sum=Jh l:=by
 have e:x=l.map (·.Lo):=List.ext_getElem (by simp [h.1]) fun i h1 h2=>by rw [List.getElem_map]; exact hh i h1 (by simpa using h2)
 rw [e]; rfl
theorem zIS {s:zH} {l:zQ} (hg:JL s l) (by_:List Int) (hb:zHF by_):∃ x,QK l by_=some (x,true)∧Fit l x:=by
 have hn:=hg.lenL
 have ht:=hg.tot
 have hal:=hg.all
 have hm:∀ i (h:i<l.Holds.length),0≤l.Holds[i].Lo∧l.Holds[i].Lo≤l.Holds[i].Hi∧l.Holds[i].Hi≤65536:=fun i h=>hg.mem _ (bz h)
 -- the second loop
 have h2:∀ x,InS l.Holds x→∃ r,YI l x.sum x=some r∧∃ y,r=(y,true)∧Fit l y:=fun x hx=>by
  unfold YI
  refine lp_inv' (fun i s=>s.2.1=(i:Int)∧InS l.Holds s.2.2∧s.1=s.2.2.sum∧(s.1<l.All.Lo→∀ j (h1:j<s.2.2.length) (h2:j<l.Holds.length),j<i→s.2.2[j]=l.Holds[j].Hi)∧(l.All.Hi<s.1→∀ j (h1:j<s.2.2.length) (h2:j<l.Holds.length),j<i→s.2.2[j]=l.Holds[j].Lo)) _ l.Holds.length (by omega) ⟨rfl,hx,rfl,fun _ j _ _ h=>by omega,fun _ j _ _ h=>by omega⟩ fun i st hi hI=>?_
  obtain ⟨all,ix4,y⟩:=st
  obtain ⟨e1,hy,e2,hlo,hhi⟩:=hI
  simp only at e1 e2 hy hlo hhi
  subst e1 e2
  unfold zCZ
  simp only
  have hys:=hy.sum
  by_cases h:i<l.Holds.length
  ·left
   have hi':i<y.length:=by rw [hy.1]; exact h
   have hmi:=hm i h
   have hyi:=hy.2 i hi' h
   rw [bi (by simpa using h),ZY h,ba,ZY hi',ba,ba,ba,w64s' h (by omega),jh]
   rw [Zm (a:=l.All.Lo - y.sum) (by omega),Zm (a:=y.sum - l.All.Hi) (by omega),Zm (a:=y[i]+max 0 (l.All.Lo - y.sum)) (by omega),Zm (a:=y[i]+max 0 (l.All.Lo - y.sum) - max 0 (y.sum - l.All.Hi)) (by omega)]
   generalize hnn:max l.Holds[i].Lo (min l.Holds[i].Hi (y[i]+max 0 (l.All.Lo - y.sum) - max 0 (y.sum - l.All.Hi)))=n
   have hnr:l.Holds[i].Lo≤n∧n≤l.Holds[i].Hi:=by omega
   have hss:=zLn y i hi' n
   rw [Zm (a:=y.sum+n) (by omega),Zm (by omega)]
   have hin:InS l.Holds (y.set i n):=⟨by simp [hy.1],fun j q1 q2=>by
    rw [List.getElem_set]
    split
    ·rename_i e; subst e; exact hnr
    ·exact hy.2 j (by simpa using q1) q2⟩
   refine ⟨h,_,rfl,rfl,hin,by simp only; omega,fun hc j q1 q2 q3=>?_,fun hc j q1 q2 q3=>?_⟩
   ·simp only at hc ⊢
    rw [List.getElem_set]
    split
    ·rename_i e; subst e; omega
    ·exact hlo (by omega) j (by simpa using q1) q2 (by omega)
   ·simp only at hc ⊢
    rw [List.getElem_set]
    split
    ·rename_i e; subst e; omega
    ·exact hhi (by omega) j (by simpa using q1) q2 (by omega)
  ·right
   have e:i=l.Holds.length:=by omega
   subst e
   rw [bg (by simp)]
   unfold QU
   have h3:l.All.Lo≤y.sum:=by
    rcases Int.lt_or_le y.sum l.All.Lo with hc | hc
    ·have:=hy.zQs fun j q1 q2=>hlo hc j q1 q2 q2
     omega
    ·exact hc
   have h4:y.sum≤l.All.Hi:=by
    rcases Int.lt_or_le l.All.Hi y.sum with hc | hc
    ·have:=hy.of_all' fun j q1 q2=>hhi hc j q1 q2 q2
     omega
    ·exact hc
   have e3:(decide (l.All.Lo≤y.sum)&&decide (y.sum≤l.All.Hi))=true:=by simp [h3,h4]
   refine ⟨_,rfl,y,?_,hy.1,hy.2,h3,h4⟩
   simp [h3,h4]
 -- the first loop
 suffices h:∃ r,QK l by_=some r∧∃ y,r=(y,true)∧Fit l y by obtain ⟨r,h,y,rfl,hf⟩:=h; exact ⟨y,h,hf⟩
 unfold QK
 refine lp_inv' (fun i s=>s.2.1=(i:Int)∧InS (l.Holds.take i) s.2.2∧s.1=s.2.2.sum) _ l.Holds.length (by omega) ⟨rfl,⟨rfl,fun j h=>by simp at h⟩,rfl⟩ fun i st hi hI=>?_
 obtain ⟨all,ix4,y⟩:=st
 obtain ⟨e1,hy,e2⟩:=hI
 simp only at e1 e2 hy
 subst e1 e2
 unfold zCY
 simp only
 have hyl:y.length=i:=by have:=hy.1; rw [List.length_take] at this; omega
 have hyb:=sum_bd8 y i (by omega) fun v hv=>by
  obtain ⟨j,hj,rfl⟩:=List.getElem_of_mem hv
  have q:=hy.2 j hj (by rw [List.length_take]; omega)
  have:=hm j (by omega)
  simp only [List.getElem_take] at q
  omega
 by_cases h:i<l.Holds.length
 ·left
  have hmi:=hm i h
  rw [bi (by simpa using h),ZY h,ba]
  have key:∀ n,l.Holds[i].Lo≤n→n≤l.Holds[i].Hi→i<l.Holds.length∧∃ s',yP y.sum (i:Int) y n=some (Sum.inl s')∧s'.2.1=((i+1:Nat):Int)∧InS (l.Holds.take (i+1)) s'.2.2∧s'.1=s'.2.2.sum:=fun n q1 q2=>by
   refine ⟨h,⟨y.sum+n,((i+1:Nat):Int),y++[n]⟩,?_,rfl,⟨?_,fun j p1 p2=>?_⟩,by simp⟩
   ·unfold yP
    rw [Js (by simp; omega),ba,w64s' h (by omega),Zm (by omega)]
   ·simp [List.length_take]; omega
   ·simp only [List.getElem_take]
    by_cases e:j<y.length
    ·rw [List.getElem_append_left e]
     have:=hy.2 j e (by rw [List.length_take]; omega)
     simpa only [List.getElem_take] using this
    ·have:j=i:=by simp at p1; omega
     subst this
     rw [List.getElem_append_right (by omega)]
     simp only [List.getElem_singleton]
     exact ⟨q1,q2⟩
  by_cases hby:i<by_.length
  ·rw [bi (by simpa using hby),ZY hby,ba]
   have hbv:=hb.2 _ (bz hby)
   have e:w64 (w64 (l.Holds[i].Hi - l.Holds[i].Lo)+1)=l.Holds[i].Hi - l.Holds[i].Lo+1:=by rw [Zm (a:=l.Holds[i].Hi - l.Holds[i].Lo) (by omega),Zm (by omega)]
   have hbv':0≤by_[i]∧by_[i]≤65535:=hbv
   obtain ⟨q,r1,r2,r3⟩:=zO5 (b:=l.Holds[i].Hi - l.Holds[i].Lo+1) hbv'.1 hbv'.2 (by omega)
   rw [e,r1,ba,Zm (by omega)]
   exact key _ (by omega) (by omega)
  ·rw [bg (by simpa using hby)]
   exact key _ (by omega) (by omega)
 ·right
  have e:i=l.Holds.length:=by omega
  subst e
  rw [bg (by simp)]
  rw [List.take_length] at hy
  obtain ⟨r,q1,q2⟩:=h2 y hy
  rw [q1]
  exact ⟨r,rfl,q2⟩
end Go.Mh
