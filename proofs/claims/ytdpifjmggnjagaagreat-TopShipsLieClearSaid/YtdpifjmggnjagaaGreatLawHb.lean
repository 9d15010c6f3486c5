/- Part of the proof of TopShipsLieClear: plain laws about the functions of M, no program in sight. Conditions: none. -/
import Derived.Test.YtdpifjmggnjagaaGreatM
import Derived.Test.YtdpifjmggnjagaaGreatOkp
set_option linter.unusedVariables false
set_option linter.unusedSimpArgs false
namespace Go.Mh
open Go.Mx
theorem lp_inv' {σ ρ:Type} {body:σ→Option (σ ⊕ ρ)} {s0:σ} (I:Nat→σ→Prop) (P:ρ→Prop) (n:Nat) (hn:n<18446744073709551615) (h0:I 0 s0) (step:∀ i s,i≤n→I i s→(i<n∧∃ s',body s=some (.inl s')∧I (i+1) s')∨∃ r,body s=some (.inr r)∧P r):∃ r,Lp body fuel s0=some r∧P r:=by
 have key:∀ (m i:Nat) (s:σ),n<i+m→i≤n→I i s→∃ r,Lp body m s=some r∧P r:=by
  intro m
  induction m with
  | zero=>intro i s h h' hI; omega
  | succ m ih =>
   intro i s h h' hI
   rcases step i s h' hI with ⟨h1,s',h2,h3⟩ | ⟨r,h1,h2⟩
   ·rw [zEV m h2]; exact ih (i+1) s' (by omega) (by omega) h3
   ·rw [zDc m h1]; exact ⟨r,rfl,h2⟩
 exact key fuel 0 s0 (by unfold fuel; omega) (Nat.zero_le _) h0
theorem ZY {α:Type} {l:List α} {i:Nat} (h:i<l.length):ix l (i:Int)=some (l[i]'h):=by
 unfold ix
 rw [bi (by omega)]
 simp [h]
def Len {α:Type} (l:List α):Prop:=l.length≤9223372036854775807
theorem w64s (i:Nat) (h:i+1≤9223372036854775807):w64 ((i:Int)+1)=((i+1:Nat):Int):=by rw [zw (by omega) (by omega)]; omega
theorem w64s' {i n:Nat} (h:i<n) (hn:n≤9223372036854775807):w64 ((i:Int)+1)=((i+1:Nat):Int):=w64s i (by omega)
theorem jK {α τ σ ρ:Type} {body:σ→Option (σ ⊕ ρ)} (l:List α) (hl:l.length≤9223372036854775807) (st:τ→Int→σ) (F:τ→List α→ρ) (J:Nat→τ→Prop) {a:τ} {s0:σ} (e0:s0=st a 0) (h0:J 0 a)
  (step:∀ a (i:Nat) (hi:i<l.length),J i a→(∃ a',body (st a (i:Int))=some (.inl (st a' ((i+1:Nat):Int)))∧F a (l[i] :: l.drop (i+1))=F a' (l.drop (i+1))∧J (i+1) a')∨body (st a (i:Int))=some (.inr (F a (l[i] :: l.drop (i+1)))))
  (last:∀ a,J l.length a→body (st a (l.length:Int))=some (.inr (F a []))):Lp body fuel s0=some (F a l):=by
 suffices h:∃ r,Lp body fuel s0=some r∧r=F a l by obtain ⟨r,h,rfl⟩:=h; exact h
 refine lp_inv' (fun i s => ∃ b,s=st b (i:Int)∧F a l=F b (l.drop i)∧J i b) _ l.length (by omega) ⟨a,by simpa using e0,by simp,h0⟩ fun i s hi hI=>?_
 obtain ⟨b,rfl,h1,h2⟩:=hI
 by_cases h:i<l.length
 ·have hd:=List.drop_eq_getElem_cons h
  rcases step b i h h2 with ⟨a',q1,q2,q3⟩ | q1
  ·exact .inl ⟨h,_,q1,a',rfl,by rw [h1,hd,q2],q3⟩
  ·exact .inr ⟨_,q1,by rw [h1,hd]⟩
 ·have e:i=l.length:=by omega
  subst e
  exact .inr ⟨_,last b h2,by rw [h1,List.drop_length]⟩
theorem zIv {α:Type} {l:List α} {i:Nat} (h:i≤l.length):sub l 0 (i:Int)=some (l.take i):=by
 unfold sub
 rw [bi ⟨by omega,by omega,by omega⟩]
 simp
theorem Js {α:Type} {l r:List α} (h:l.length+r.length≤4294967296):app l r=some (l++r):=by unfold app; rw [bi h]
theorem zKr (a:Int):w64 (w64 a)=w64 a:=by unfold w64; omega
theorem w64_add' (a b:Int):w64 (a+w64 b)=w64 (a+b):=by unfold w64; omega
theorem w64_sub' (a b:Int):w64 (a - w64 b)=w64 (a - b):=by unfold w64; omega
theorem w64_rng (n:Int) : -9223372036854775808≤w64 n∧w64 n≤9223372036854775807:=by unfold w64; omega
theorem zGd {a b A B:Int} (h1 : -A≤a) (h2:a≤A) (h3 : -B≤b) (h4:b≤B) : -(A*B)≤a*b∧a*b≤A*B:=by
 have hA:0≤A:=by omega
 have hB:0≤B:=by omega
 rcases Int.le_total 0 a with ha | ha
 ·have e1:a*b≤a*B:=Int.mul_le_mul_of_nonneg_left h4 ha
  have e2:a*B≤A*B:=Int.mul_le_mul_of_nonneg_right h2 hB
  have e3:a * -B≤a*b:=Int.mul_le_mul_of_nonneg_left h3 ha
  rw [Int.mul_neg] at e3
  omega
 ·have e1:a*B≤a*b:=Int.mul_le_mul_of_nonpos_left ha h4
  have e2:a*b≤a * -B:=Int.mul_le_mul_of_nonpos_left ha h3
  have e3 : -A*B≤a*B:=Int.mul_le_mul_of_nonneg_right h1 hB
  rw [Int.neg_mul] at e3
  rw [Int.mul_neg] at e2
  omega
theorem zMM (x:List Int) (hl:Len x):zBM x=some (w64 x.sum):=by
 have h:=jK (body:=zCL x) (s0:=(0,0)) x hl (fun n i=>(n,i)) (fun n l=>w64 (n+l.sum)) (fun i n=>w64 n=n) (a:=0) rfl rfl (fun a i hi hJ=>?_) (fun a hJ=>?_)
 ·unfold zBM; rw [h]; simp
 ·left
  refine ⟨w64 (a+x[i]),?_,?_,zKr _⟩
  ·unfold zCL; simp only; rw [bi (by simpa using hi),ZY hi,ba,w64s' hi hl]
  ·rw [List.sum_cons,zDV]; congr 1; omega
 ·unfold zCL; simp only; rw [bg (by simp)]; simp [zCK,hJ]
def JD (l:List zq):Int:=(l.map (·.Room)).sum
theorem zLQ (s:zH) (hl:Len s.Holds):zBq s=some (w64 (s.Light+JD s.Holds))∨w64 s.Light≠s.Light:=by
 by_cases h0:w64 s.Light=s.Light
 ·left
  have h:=jK (body:=zAT s) (s0:=(s.Light,0)) s.Holds hl (fun n i=>(n,i)) (fun n l=>w64 (n+JD l)) (fun i n=>w64 n=n) (a:=s.Light) rfl h0 (fun a i hi hJ=>?_) (fun a hJ=>?_)
  ·exact h
  ·left
   refine ⟨w64 (a+s.Holds[i].Room),?_,?_,zKr _⟩
   ·unfold zAT; simp only; rw [bi (by simpa using hi),ZY hi,ba,w64s' hi hl]
   ·simp only [JD,bw,List.sum_cons]; rw [zDV]; congr 1; omega
  ·unfold zAT; simp only; rw [bg (by simp)]; simp [zAS,hJ,JD]
 ·exact .inr h0
def Jh (l:List zB):Int:=(l.map (·.Lo)).sum
def Jl (l:List zB):Int:=(l.map (·.Hi)).sum
theorem zNT (l:List zB) (hl:Len l):zCt l=some ⟨w64 (Jh l),w64 (Jl l)⟩:=by
 have h:=jK (body:=zBL l) (s0:=(0,0,0)) l hl (fun (n:Int×Int) i=>(i,n.1,n.2)) (fun n l=>(⟨w64 (n.1+Jh l),w64 (n.2+Jl l)⟩:zB)) (fun i n=>w64 n.1=n.1∧w64 n.2=n.2) (a:=(0,0)) rfl ⟨rfl,rfl⟩ (fun a i hi hJ=>?_) (fun a hJ=>?_)
 ·unfold zCt; rw [h]; simp
 ·left
  refine ⟨(w64 (a.1+l[i].Lo),w64 (a.2+l[i].Hi)),?_,?_,zKr _,zKr _⟩
  ·unfold zBL; simp only; rw [bi (by simpa using hi),ZY hi,ba,w64s' hi hl]
  ·simp only [Jh,Jl,bw,List.sum_cons]; rw [zDV,zDV]; congr 2 <;> omega
 ·unfold zBL; simp only; rw [bg (by simp)]; simp [zBK,hJ,Jh,Jl]
def zNM (last:Int) (k:zf):Bool:=decide (last+1≤k.X)&&decide (k.X≤2000)&&(decide (-65536≤k.Y)&&decide (k.Y≤65536))
def zHw : Int→List zf→Int
 | _,[]=>0
 | last,k :: r=>if zNM last k=true then zHw k.X r else 1
def cchk (c:ZX):Int:=if 40<(c.Knots.length:Int) then 2 else if (c.Knots.length:Int)=0∨c.Err<0∨4000<c.Err then 1 else zHw (-1) c.Knots
theorem zGJ (c:ZX):zA5 c=some (cchk c):=by
 unfold zA5 cchk
 by_cases h1:40<(c.Knots.length:Int)
 ·rw [bi (by simpa using h1),bi h1]
 ·rw [bg (by simpa using h1),bg h1]
  by_cases h2:(c.Knots.length:Int)=0∨c.Err<0∨4000<c.Err
  ·rw [bi,bi h2]
   simp only [jc,Bool.or_eq_true,bj,Bool.not_eq_true',Bool.and_eq_false_iff,decide_eq_false_iff_not]
   omega
  ·rw [bg,bg h2]
   ·have hl:c.Knots.length≤9223372036854775807:=by omega
    refine jK (body:=qM c) c.Knots hl (fun last i=>(last,i)) zHw (fun _ last => -1≤last∧last≤2000) rfl ⟨by omega,by omega⟩ (fun a i hi hJ=>?_) (fun a hJ=>?_)
    ·unfold qM
     simp only
     rw [bi (by simpa using hi),ZY hi,ba,w64s' hi hl,zw (n:=a+1) (by omega) (by omega)]
     simp only [zHw]
     by_cases hk:zNM a c.Knots[i]=true
     ·left
      have hk2:=hk
      simp only [zNM,bn,bj] at hk2
      rw [bg (by simp [jc]; omega),bi hk]
      exact ⟨_,rfl,rfl,by omega,by omega⟩
     ·right
      have hk2:=hk
      simp only [zNM,bn,bj] at hk2
      rw [bi (by simp [jc]; omega),bg hk]
    ·unfold qM; simp only; rw [bg (by simp)]; rfl
   ·simp only [jc,Bool.or_eq_true,bj,Bool.not_eq_true',Bool.and_eq_false_iff,decide_eq_false_iff_not]
    omega
structure zCV (c:ZX):Prop where
 n0:0<c.Knots.length
 n1:c.Knots.length≤40
 e0:0≤c.Err
 e1:c.Err≤4000
 xy:∀ i (h:i<c.Knots.length),0≤c.Knots[i].X∧c.Knots[i].X≤2000∧-65536≤c.Knots[i].Y∧c.Knots[i].Y≤65536
 up:∀ i (h:i+1<c.Knots.length),c.Knots[i].X<c.Knots[i+1].X
theorem zIR : ∀ (l:List zf) (last:Int),-1≤last→zHw last l=0→(∀ i (h:i<l.length),last<l[i].X∧l[i].X≤2000∧-65536≤l[i].Y∧l[i].Y≤65536)∧∀ i (h:i+1<l.length),l[i].X<l[i+1].X
 | [],last,h0,_=>⟨fun i h=>by simp at h,fun i h=>by simp at h⟩
 | k :: r,last,h0,h=>by
  unfold zHw at h
  split at h
  ·rename_i hk
   simp only [zNM,bn,bj] at hk
   obtain ⟨q1,q2⟩:=zIR r k.X (by omega) h
   refine ⟨fun i hi=>?_,fun i hi=>?_⟩
   ·cases i with
    | zero=>simp only [List.getElem_cons_zero]; omega
    | succ i=>have:=q1 i (by simpa using hi); simp only [List.getElem_cons_succ]; omega
   ·cases i with
    | zero=>have:=q1 0 (by simpa using hi); simp only [List.getElem_cons_zero,List.getElem_cons_succ]; omega
    | succ i=>simpa using q2 i (by simpa using hi)
  ·omega
theorem zEH {c:ZX} (h:cchk c=0):zCV c:=by
 unfold cchk at h
 split at h
 ·omega
 ·split at h
  ·omega
  ·rename_i h1 h2
   obtain ⟨q1,q2⟩:=zIR _ _ (by omega) h
   exact ⟨by omega,by omega,by omega,by omega,fun i hi=>by have:=q1 i hi; omega,q2⟩
def zEO : List zf→Bool
 | a :: b :: r=>decide (a.Y<b.Y)&&zEO (b :: r)
 | _=>true
theorem zOF (c:ZX) (hg:zCV c):∃ n,zBU c=some n∧(n=1↔zEO c.Knots=true):=by
 unfold zBU
 have hn:=hg.n1
 have h0:=hg.n0
 have htl:c.Knots.tail.length=c.Knots.length - 1:=by simp
 have hd0:c.Knots=c.Knots[0] :: c.Knots.tail:=by
  have:∀ (l:List zf) (h:0<l.length),l=l[0] :: l.tail:=fun l h=>by
   cases l with
   | nil=>simp at h
   | cons a r=>rfl
  exact this _ h0
 have h:=jK (body:=Qe c) (s0:=(1,true,true)) c.Knots.tail (by omega) (fun (s:zf×Bool×Bool) i=>(i+1,s.2.1,s.2.2)) (fun s l=>if (s.2.1&&zEO (s.1 :: l))=true then (1:Int) else (if (s.2.2&&zEO ((s.1 :: l).map fun k=>⟨k.X,-k.Y⟩))=true then -1 else 0)) (fun i s=>s.1=c.Knots.getD i default) (a:=(c.Knots[0],true,true)) rfl (by simp [List.getD_eq_getElem?_getD,h0]) (fun a i hi hJ=>?_) (fun a hJ=>?_)
 ·refine ⟨_,h,?_⟩
  simp only [Bool.true_and]
  rw [← hd0]
  split
  ·rename_i h; simp [h]
  ·rename_i h
   split <;> simp [h]
 ·left
  have hi1:i+1<c.Knots.length:=by omega
  have hi0:i<c.Knots.length:=by omega
  have ht:c.Knots.tail[i]=c.Knots[i+1]:=by simp
  have b1:=hg.xy i hi0
  have b2:=hg.xy (i+1) hi1
  have ea:a.1=c.Knots[i]:=by rw [hJ]; simp [List.getD_eq_getElem?_getD,hi0]
  have er:ZG ⟨c.Knots[i],c.Knots[i+1]⟩=c.Knots[i+1].Y - c.Knots[i].Y:=by unfold ZG; exact zw (by simp only; omega) (by simp only; omega)
  refine ⟨(c.Knots[i+1],a.2.1&&decide (c.Knots[i].Y<c.Knots[i+1].Y),a.2.2&&decide (c.Knots[i+1].Y<c.Knots[i].Y)),?_,?_,?_⟩
  ·unfold Qe jv
   simp only
   rw [bi (by rw [bj]; omega),show w64 ((i:Int)+1 - 1)=(i:Int) by rw [zw (by omega) (by omega)]; omega,ZY hi0,ba,show (i:Int)+1=((i+1:Nat):Int) by omega,ZY hi1,ba,er,w64s' hi1 (by omega)]
   have e1:decide (0<c.Knots[i+1].Y - c.Knots[i].Y)=decide (c.Knots[i].Y<c.Knots[i+1].Y):=by simp only [decide_eq_decide]; omega
   have e2:decide (c.Knots[i+1].Y - c.Knots[i].Y<0)=decide (c.Knots[i+1].Y<c.Knots[i].Y):=by simp only [decide_eq_decide]; omega
   rw [e1,e2]
   rfl
  ·rw [ht,ea]
   simp only [zEO,bw,Bool.and_assoc]
   have e3:decide (-c.Knots[i].Y < -c.Knots[i+1].Y)=decide (c.Knots[i+1].Y<c.Knots[i].Y):=by simp only [decide_eq_decide]; omega
   rw [e3]
  ·simp [List.getD_eq_getElem?_getD,hi1]
 ·unfold Qe jv
  simp only
  rw [bg (by rw [bj]; omega)]
  obtain ⟨k,up,down⟩:=a
  simp only [zEO,Bool.and_true,bw,List.map_nil]
  cases up <;> cases down <;> rfl
theorem zOv (c:ZX) (hg:cchk c=0):∃ n,zBV c=some (n,0)∧(n=1↔zEO c.Knots=true):=by
 obtain ⟨n,h1,h2⟩:=zOF c (zEH hg)
 refine ⟨n,?_,h2⟩
 unfold zBV
 rw [zGJ,ba,bg (by simp [hg]),h1]
 rfl
theorem zMK (l:List zf) (hl:Len l):∃ b,Ze l=some b∧b=l.any fun k=>decide (k.Y<0):=by
 have h:∃ r,Zl l=some r∧(if 0≤r then (l.any fun k=>decide (k.Y<0))=true else (l.any fun k=>decide (k.Y<0))=false):=by
  unfold Zl
  unfold Len at hl
  refine lp_inv' (fun i s=>s=(i:Int)∧∀ j (hj:j<l.length),j<i→¬ l[j].Y<0) _ l.length (by omega) ⟨rfl,fun j _ h=>by omega⟩ fun i s hi hI=>?_
  obtain ⟨rfl,hI⟩:=hI
  unfold jP
  by_cases h:i<l.length
  ·rw [bi (by simpa using h),ZY h]
   simp only [ba]
   by_cases hr:l[i].Y<0
   ·rw [bi (by simpa [Qm] using hr)]
    refine .inr ⟨_,rfl,?_⟩
    rw [bi (by omega),List.any_eq_true]
    exact ⟨_,bz h,by simpa using hr⟩
   ·rw [bg (by simpa [Qm] using hr)]
    refine .inl ⟨h,_,rfl,w64s i (by omega),fun j hj hji=>?_⟩
    by_cases hj':j=i
    ·subst hj'; exact hr
    ·exact hI j hj (by omega)
  ·rw [bg (by simpa using h)]
   refine .inr ⟨-1,rfl,?_⟩
   rw [bg (by omega),List.any_eq_false]
   intro x hx
   obtain ⟨j,hj,rfl⟩:=List.getElem_of_mem hx
   simpa using hI j hj (by omega)
 obtain ⟨r,h1,h2⟩:=h
 refine ⟨decide (0≤r),by unfold Ze; rw [h1]; rfl,?_⟩
 split at h2
 ·rename_i h; rw [h2]; simpa using h
 ·rename_i h; rw [h2]; simpa using h
def tabB (s:zH) (c:ZX):Bool:=decide ((c.Knots.getD 0 default).X*40≤s.Light)&&decide (w64 (s.Light+JD s.Holds)≤(c.Knots.getD (c.Knots.length - 1) default).X*40) && !(c.Knots.any fun k=>decide (k.Y<0))
end Go.Mh
