/- Part of the proof of BerthFull: plain laws about the functions of M, no program in sight. Conditions: none. -/
import Derived.Test.YtmebbbblomlgdaaGreatLawU
set_option linter.unusedVariables false
namespace Go.Mx
theorem Zw {α τ σ ρ:Type} {body:σ→Option (σ ⊕ ρ)} (l:List α) (hl:l.length≤9223372036854775807) (st:τ→Int→σ) (F:τ→List α→ρ) (J:Nat→τ→Prop) {a:τ} {s0:σ} (e0:s0=st a 0) (h0:J 0 a)
  (step:∀ a (i:Nat) (hi:i<l.length),J i a→(∃ a',body (st a (i:Int))=some (.inl (st a' ((i+1:Nat):Int)))∧F a (l[i] :: l.drop (i+1))=F a' (l.drop (i+1))∧J (i+1) a')∨body (st a (i:Int))=some (.inr (F a (l[i] :: l.drop (i+1)))))
  (last:∀ a,J l.length a→body (st a (l.length:Int))=some (.inr (F a []))):Lp body fuel s0=some (F a l):=by
 suffices h:∃ r,Lp body fuel s0=some r∧r=F a l by obtain ⟨r,h,rfl⟩:=h; exact h
 refine lp_inv' (fun i s => ∃ b,s=st b (i:Int)∧F a l=F b (l.drop i)∧J i b) _ l.length (by omega) ⟨a,by simpa using e0,by simp,h0⟩ fun i s hi hI=>?_
 obtain ⟨b,rfl,h1,h2⟩:=hI
 by_cases h:i<l.length
 ·have hd:=List.drop_eq_getElem_cons h
  rcases step b i h h2 with ⟨a',q1,q2,q3⟩ | q1
  ·exact .inl ⟨h,_,q1,a',rfl,by rw [h1,hd,q2],q3⟩
  ·exact .inr ⟨_,q1,by rw [h1,hd]⟩
 ·have e:i=l.length:=by omega
  subst e
  exact .inr ⟨_,last b h2,by rw [h1,List.drop_length]⟩
theorem w64s' {i n:Nat} (h:i<n) (hn:n≤9223372036854775807):w64 ((i:Int)+1)=((i+1:Nat):Int):=w64s i (by omega)
def zIF (c:zX):Bool:=((((zb c.ID 1 1099511627776)&&(jg c.Begin))&&(zb c.Every 1 120))&&(zb (c.Heights.length:Int) 1 60))
def zIG (c:zX):Bool:=zIF c&&c.Heights.all fun h=>Zn h
theorem right_eq (c:zX) (hl:Len c.Heights):qL c=some (zIG c):=by
 unfold qL
 obtain ⟨r,h1,h2⟩:=zGi c.Heights hl
 have h3:ZC c.Heights=some (decide (0≤r)):=by unfold ZC; rw [h1]; rfl
 rw [h3]
 unfold zIG
 change gb (zIF c) _ (fun y=>some (zIF c && !y))=_
 cases zIF c with
 | false=>rfl
 | true =>
  simp only [gb,if_true,Option.bind_some,Bool.true_and,Option.some.injEq]
  rcases h2 with ⟨h2,x,hx,hr⟩ | ⟨rfl,h2⟩
  ·have:(c.Heights.all fun h=>Zn h)=false:=by
    rw [List.all_eq_false]; exact ⟨x,hx,by simpa [jb] using hr⟩
   rw [this]; simp [h2]
  ·have:(c.Heights.all fun h=>Zn h)=true:=by
    rw [List.all_eq_true]; intro x hx; simpa [jb] using h2 x hx
   rw [this]; simp
theorem refwithin (n lo hi:Int):zt n lo hi=zb n lo hi:=rfl
theorem zOv (c:zX) (hl:Len c.Heights):zBB c=some (zIG c):=by
 unfold zBB zIG
 have e:(((!zt c.ID 1 1099511627776 || !zt c.Begin 0 1048576) || !zt c.Every 1 120) || !zt (c.Heights.length:Int) 1 60) = !zIF c:=by
  simp [zIF,jg,refwithin]
 rw [e]
 cases hb:zIF c with
 | false=>simp
 | true =>
  rw [if_neg (by simp)]
  simp only [Bool.true_and]
  refine Zw c.Heights hl (fun (_:Unit) i=>i) (fun _ l=>l.all fun h=>Zn h) (fun _ _=>True) (a:=()) rfl trivial (fun a i hi _=>?_) (fun a _=>?_)
  ·unfold zAE
   rw [if_pos (by simpa using hi),ZY hi]
   simp only [Option.bind_some]
   by_cases h:zt c.Heights[i] (-4000) 4000=true
   ·left
    rw [if_neg (by simp [h]),w64s' hi hl]
    exact ⟨(),rfl,by simp only [List.all_cons,Zn,← refwithin,h,Bool.true_and],trivial⟩
   ·right
    rw [if_pos (by simp [h])]
    rw [Bool.not_eq_true] at h
    simp only [List.all_cons,Zn,← refwithin,h,Bool.false_and]
  ·unfold zAE
   rw [if_neg (by simp)]; rfl
theorem zKz {a b:Int} (h0:0<b) (ha : -1152921504606846976≤a) (hb:a≤1152921504606846976):qZ a b=some (a / b):=by
 have e1:rem a b=some (a.tmod b):=by unfold rem; rw [if_neg (by omega)]
 have hd:=Int.mul_tdiv_add_tmod a b
 have hm:=Int.emod_add_mul_ediv a b
 have m0:=Int.emod_nonneg a (show b≠0 by omega)
 have m1:=Int.emod_lt_of_pos a h0
 have k1:a / b≤1152921504606846976:=Int.le_trans (Int.ediv_le_ediv h0 hb) (Int.ediv_le_self _ (by omega))
 have k2 : -1152921504606846976≤a / b:=by
  rw [Int.le_ediv_iff_mul_le h0]
  have:(-1152921504606846976:Int)*b≤-1152921504606846976*1:=Int.mul_le_mul_of_nonpos_left (by omega) (by omega)
  omega
 have l1:a.tmod b<b:=Int.tmod_lt_of_pos a h0
 have l2 : -b<a.tmod b:=by have:=Int.lt_tmod_of_pos a h0; omega
 unfold qZ
 by_cases hn:a.tmod b<0
 ·have e:a.tdiv b=a / b+1:=by
   have h3:b*(a.tdiv b - a / b - 1)+(a.tmod b+b - a % b)=0:=by
    rw [Int.mul_sub,Int.mul_sub]; omega
   have h4:a.tmod b+b - a % b=b*(a / b+1 - a.tdiv b):=by
    rw [Int.mul_sub,Int.mul_add]; omega
   have h5:a.tmod b+b<b+b*1:=by omega
   rcases Int.lt_trichotomy (a / b+1 - a.tdiv b) 0 with h | h | h
   ·have:b*(a / b+1 - a.tdiv b)≤b*(-1):=Int.mul_le_mul_of_nonneg_left (by omega) (by omega)
    omega
   ·omega
   ·have:b*1≤b*(a / b+1 - a.tdiv b):=Int.mul_le_mul_of_nonneg_left (by omega) (by omega)
    omega
  have e2:quo a b=some (a / b+1):=by unfold quo; rw [if_neg (by omega),e,zf (by omega) (by omega)]
  rw [e2,e1]
  simp only [Option.bind_some]
  rw [if_pos (by simpa using hn)]
  unfold YA
  rw [zf (by omega) (by omega)]
  congr 1; omega
 ·have e:a.tdiv b=a / b:=by
   have h4:a.tmod b - a % b=b*(a / b - a.tdiv b):=by
    rw [Int.mul_sub]; omega
   rcases Int.lt_trichotomy (a / b - a.tdiv b) 0 with h | h | h
   ·have:b*(a / b - a.tdiv b)≤b*(-1):=Int.mul_le_mul_of_nonneg_left (by omega) (by omega)
    omega
   ·omega
   ·have:b*1≤b*(a / b - a.tdiv b):=Int.mul_le_mul_of_nonneg_left (by omega) (by omega)
    omega
  have e2:quo a b=some (a / b):=by unfold quo; rw [if_neg (by omega),e,zf (by omega) (by omega)]
  rw [e2,e1]
  simp only [Option.bind_some]
  rw [if_neg (by simpa using hn)]
  rfl
theorem Of_eq {c:zX} (hg:Good c) {t:Int} (h0 : -1099511627776≤t) (h1:t≤1099511627776):zDk c t=some (val c t):=by
 have g:=hg
 obtain ⟨b0,b1,e0,e1,l0,l1,i0,i1,hs⟩:=g
 unfold zDk
 rw [zf (by omega) (by omega),zKz (by omega) (by omega) (by omega),Option.bind_some]
 have k1:(t - c.Begin) / c.Every≤1099511627776:=Int.le_trans (Int.ediv_le_ediv (c:=c.Every) (by omega) (show t - c.Begin≤1099511627776 by omega)) (Int.ediv_le_self _ (by omega))
 have k2 : -1099513724928≤(t - c.Begin) / c.Every:=by
  rw [Int.le_ediv_iff_mul_le (by omega)]
  have:(-1099513724928:Int)*c.Every≤-1099513724928*1:=Int.mul_le_mul_of_nonpos_left (by omega) (by omega)
  omega
 rw [zKz (by omega) (by omega) (by omega),Option.bind_some]
 have m0:=Int.emod_nonneg ((t - c.Begin) / c.Every) (show (c.Heights.length:Int)≠0 by omega)
 have m1:=Int.emod_lt_of_pos ((t - c.Begin) / c.Every) (show 0<(c.Heights.length:Int) by omega)
 have hm:=Int.emod_add_mul_ediv ((t - c.Begin) / c.Every) c.Heights.length
 have e2:(t - c.Begin) / c.Every / c.Heights.length*c.Heights.length=c.Heights.length*((t - c.Begin) / c.Every / c.Heights.length):=Int.mul_comm _ _
 rw [zf (n:=(t - c.Begin) / c.Every / c.Heights.length*c.Heights.length) (by omega) (by omega),zf (by omega) (by omega)]
 rw [show (t - c.Begin) / c.Every - (t - c.Begin) / c.Every / c.Heights.length*c.Heights.length=(t - c.Begin) / c.Every % c.Heights.length by omega]
 unfold ix val
 rw [if_pos m0,List.getElem?_eq_getElem (by omega),List.getD_eq_getElem?_getD,List.getElem?_eq_getElem (by omega)]
 rfl
def zCT : Int→List jP→Int
 | _,[]=>0
 | last,s :: r=>if last+1≤s.From∧s.From≤s.To∧s.To≤728∧-4000≤s.Add∧s.Add≤4000 then zCT s.To r else 1
theorem zLE (w:zO) (hl:Len w.Shifts):Jm w=some (zCT (-1) w.Shifts):=by
 unfold Jm
 refine Zw w.Shifts hl (fun (last:Int) i=>(last,i)) zCT (fun _ last => -1≤last∧last≤728) rfl ⟨by omega,by omega⟩ (fun a i hi hJ=>?_) (fun a _=>?_)
 ·unfold Qw
  simp only
  rw [if_pos (by simpa using hi),ZY hi]
  simp only [Option.bind_some,zCT]
  rw [zf (n:=a+1) (by omega) (by omega)]
  by_cases h:a+1≤w.Shifts[i].From∧w.Shifts[i].From≤w.Shifts[i].To∧w.Shifts[i].To≤728∧-4000≤w.Shifts[i].Add∧w.Shifts[i].Add≤4000
  ·left
   rw [if_neg (by simp [zb,Zn]; omega),w64s' hi hl,if_pos h]
   exact ⟨_,rfl,rfl,by omega,by omega⟩
  ·right
   rw [if_pos (by simp [zb,Zn]; omega),if_neg h]
 ·unfold Qw
  simp only
  rw [if_neg (by simp)]; rfl
def zHb (l:List jP) (i:Nat):Int:=if i=0 then -1 else (l.getD (i - 1) default).To
theorem zLi (l:List jP) (hl:Len l):Qz l=some (zCT (-1) l):=by
 unfold Qz
 refine Zw l hl (fun (last:Int) i=>i) zCT (fun i last => -1≤last∧last≤728∧last=zHb l i) (a := -1) rfl ⟨by omega,by omega,rfl⟩ (fun a i hi hJ=>?_) (fun a _=>?_)
 ·unfold QZ
  obtain ⟨j0,j1,j2⟩:=hJ
  rw [if_pos (by simpa using hi),ZY hi]
  simp only [Option.bind_some,zCT]
  have hgb:∀ {β:Type} (x:Bool) (k:jP→Option β),(x=false→k default=k l[i])→gb x (some l[i]) k=k l[i]:=by
   intro β x k hk
   cases x with
   | true=>rfl
   | false=>simpa [gb] using hk rfl
  rw [hgb _ _ (by intro hx; simp at hx; simp [hx])]
  rw [hgb _ _ (by intro hx; simp at hx; simp [hx])]
  rw [hgb _ _ (by intro hx; simp only [Bool.not_eq_eq_eq_not,Bool.not_false] at hx; rw [hx]; simp)]
  by_cases h:0≤l[i].From∧l[i].From≤l[i].To∧l[i].To≤728∧-4000≤l[i].Add∧l[i].Add≤4000
  ·rw [if_neg (by simp [zt]; omega)]
   cases i with
   | zero =>
    left
    have e:decide ((0:Int)<((0:Nat):Int))=false:=by simp
    simp only [e,gb,Bool.false_and]
    simp only [Bool.false_eq_true,if_false,Option.bind_some]
    rw [w64s' hi hl]
    refine ⟨l[0].To,rfl,?_,by omega,by omega,?_⟩
    ·simp [zHb] at j2
     rw [if_pos (by omega)]
    ·simp [zHb,List.getD_eq_getElem?_getD,hi]
   | succ k =>
    have hk:k<l.length:=by omega
    have e:decide ((0:Int)<((k+1:Nat):Int))=true:=by rw [decide_eq_true_eq]; omega
    have e2:max 0 (w64 (((k+1:Nat):Int) - 1))=(k:Int):=by
     unfold Len at hl
     rw [zf (by omega) (by omega)]; omega
    simp only [e,e2,ZY hk,gb,if_true,Option.bind_some,Bool.true_and]
    have hp:a=l[k].To:=by rw [j2]; simp [zHb,List.getD_eq_getElem?_getD,hk]
    by_cases h2:l[k+1].From≤l[k].To
    ·right
     rw [if_pos (by simpa using h2),if_neg (by omega)]
    ·left
     rw [if_neg (by simpa using h2),w64s' hi hl]
     refine ⟨l[k+1].To,rfl,?_,by omega,by omega,?_⟩
     ·rw [if_pos (by omega)]
     ·simp [zHb,List.getD_eq_getElem?_getD,hi]
  ·right
   rw [if_pos (by simp [zt]; omega),if_neg (by omega)]
 ·unfold QZ
  rw [if_neg (by simp)]; rfl
theorem zLD (l:List zX) (c:zX) (hl:Len l):zy l c=some (l.any fun x=>decide (x.ID=c.ID)):=by
 unfold zy
 have h:∃ r,zq l c=some r∧decide (0≤r)=l.any fun x=>decide (x.ID=c.ID):=by
  unfold zq
  refine lp_inv' (fun i s=>s=(i:Int)∧∀ j (hj:j<l.length),j<i→¬ l[j].ID=c.ID) _ l.length (by unfold Len at hl; omega) ⟨rfl,fun j _ h=>by omega⟩ fun i s hi hI=>?_
  obtain ⟨rfl,hI⟩:=hI
  unfold ZJ
  by_cases h:i<l.length
  ·rw [if_pos (by simpa using h),ZY h]
   simp only [Option.bind_some]
   by_cases hr:l[i].ID=c.ID
   ·rw [if_pos (by simpa [YL] using hr)]
    refine .inr ⟨_,rfl,?_⟩
    rw [show decide ((0:Int)≤(i:Int))=true by simp]
    symm
    rw [List.any_eq_true]
    exact ⟨_,List.getElem_mem h,by simpa using hr⟩
   ·rw [if_neg (by simpa [YL] using hr)]
    refine .inl ⟨h,_,rfl,w64s' h hl,fun j hj hji=>?_⟩
    by_cases hj':j=i
    ·subst hj'; exact hr
    ·exact hI j hj (by omega)
  ·rw [if_neg (by simpa using h)]
   refine .inr ⟨-1,rfl,?_⟩
   symm
   rw [show decide ((0:Int)≤-1)=false by decide,List.any_eq_false]
   intro x hx
   obtain ⟨j,hj,rfl⟩:=List.getElem_of_mem hx
   simpa using hI j hj (by omega)
 obtain ⟨r,h1,h2⟩:=h
 rw [h1,Option.bind_some,h2]
def zGP (e:Int):List zX→List zX→Int
 | _,[]=>e
 | pre,c :: r=>if zIG c=true then (if (pre.any fun x=>decide (x.ID=c.ID))=true then 6 else zGP e (pre++[c]) r) else 1
def qR (w:zO):Int :=
 if -4000≤w.Level∧w.Level≤4000 then (if 6<w.Cycles.length∨20<w.Shifts.length then 2 else zGP (zCT (-1) w.Shifts) [] w.Cycles) else 1
theorem zIg (w:zO) (hw:LenW w):YM w=some (qR w):=by
 unfold YM qR
 by_cases h1 : -4000≤w.Level∧w.Level≤4000
 ·rw [if_pos h1,if_neg (by simp [Zn,zb,h1])]
  by_cases h2:6<w.Cycles.length∨20<w.Shifts.length
  ·rw [if_pos h2,if_pos (by simp; omega)]
  ·rw [if_neg h2,if_neg (by simp; omega)]
   refine Zw w.Cycles hw.c (fun (_:List zX) i=>i) (zGP (zCT (-1) w.Shifts)) (fun i a=>a=w.Cycles.take i) (a:=[]) rfl (by simp) (fun a i hi hJ=>?_) (fun a _=>?_)
   ·subst hJ
    unfold Qv
    rw [if_pos (by simpa using hi),ZY hi]
    simp only [Option.bind_some,zGP]
    rw [right_eq _ (hw.h _ (List.getElem_mem hi))]
    simp only [Option.bind_some]
    by_cases hg:zIG w.Cycles[i]=true
    ·rw [if_neg (by simp [hg]),zMP (by omega),if_pos hg]
     simp only [Option.bind_some]
     rw [zLD _ _ (by unfold Len; simp; omega)]
     simp only [Option.bind_some]
     by_cases ha:((w.Cycles.take i).any fun x=>decide (x.ID=w.Cycles[i].ID))=true
     ·right; rw [if_pos ha,if_pos ha]
     ·left
      rw [if_neg ha,if_neg ha,w64s' hi hw.c]
      exact ⟨_,rfl,rfl,by rw [List.take_add_one,List.getElem?_eq_getElem hi]; rfl⟩
    ·right
     rw [if_pos (by simp [hg]),if_neg hg]
   ·unfold Qv
    rw [if_neg (by simp),zLE w hw.s]; rfl
 ·rw [if_neg h1,if_pos (by simp [Zn,zb]; omega)]
theorem zNZ (w:zO) (hw:LenW w):zBC w=some (qR w):=by
 unfold zBC qR
 by_cases h1 : -4000≤w.Level∧w.Level≤4000
 ·rw [if_pos h1,if_neg (by simp [zt,h1])]
  by_cases h2:6<w.Cycles.length∨20<w.Shifts.length
  ·rw [if_pos h2,if_pos (by simp; omega)]
  ·rw [if_neg h2,if_neg (by simp; omega)]
   refine Zw w.Cycles hw.c (fun (_:List zX) i=>i) (zGP (zCT (-1) w.Shifts)) (fun i a=>a=w.Cycles.take i) (a:=[]) rfl (by simp) (fun a i hi hJ=>?_) (fun a _=>?_)
   ·subst hJ
    unfold zAF
    rw [if_pos (by simpa using hi),ZY hi]
    simp only [Option.bind_some,zGP]
    rw [zOv _ (hw.h _ (List.getElem_mem hi))]
    simp only [Option.bind_some]
    by_cases hg:zIG w.Cycles[i]=true
    ·rw [if_neg (by simp [hg]),if_pos hg]
     have hin:Lp (QG w i) fuel 0=some (if ((w.Cycles.take i).any fun x=>decide (x.ID=w.Cycles[i].ID))=true then Sum.inr 6 else Sum.inl ((i+1:Nat):Int)):=by
      refine Zw (w.Cycles.take i) (by simp; omega) (fun (_:Unit) k=>k) (fun _ l=>if (l.any fun x=>decide (x.ID=w.Cycles[i].ID))=true then Sum.inr 6 else Sum.inl ((i+1:Nat):Int)) (fun _ _=>True) (a:=()) rfl trivial (fun a k hk _=>?_) (fun a _=>?_)
      ·have hk2:k<i:=by simp at hk; omega
       unfold QG
       rw [if_pos (by simpa using hk2),ZY (show k<w.Cycles.length by omega),ZY hi]
       simp only [Option.bind_some,List.getElem_take,List.any_cons]
       by_cases he:w.Cycles[k].ID=w.Cycles[i].ID
       ·right
        simp [he]
       ·left
        rw [if_neg (by simpa using he),w64s' (n:=i) hk2 (by omega)]
        exact ⟨(),rfl,by simp [he],trivial⟩
      ·unfold QG
       have e:(w.Cycles.take i).length=i:=by simp; omega
       rw [e,if_neg (by simp)]
       unfold QE
       rw [w64s' hi hw.c]
       rfl
     rw [hin]
     by_cases ha:((w.Cycles.take i).any fun x=>decide (x.ID=w.Cycles[i].ID))=true
     ·right; rw [if_pos ha,if_pos ha]
     ·left
      rw [if_neg ha,if_neg ha]
      exact ⟨_,rfl,rfl,by rw [List.take_add_one,List.getElem?_eq_getElem hi]; rfl⟩
    ·right
     rw [if_pos (by simp [hg]),if_neg hg]
   ·unfold zAF
    rw [if_neg (by simp)]
    unfold QF
    rw [zLi w.Shifts hw.s]; rfl
 ·rw [if_neg h1,if_pos (by simp [zt]; omega)]
theorem zGs {w:zO} (hw:LenW w) (h:qR w=0):zF2 w:=by
 obtain ⟨e,h1,h2⟩:=zMD w hw
 rw [zIg w hw,Option.some.injEq] at h1
 exact h2 (h1▸h)
theorem zId (w:zO) (hn:Len w.Shifts) (t:Int) (h0:0≤t) (h1:t≤1099511627776):YB w t=some (corr w.Shifts t):=by
 unfold YB
 have hq:quo t 1440=some (t / 1440):=by
  unfold quo
  rw [if_neg (by omega),Int.tdiv_eq_ediv_of_nonneg h0,zf (by omega) (by omega)]
 rw [hq,Option.bind_some]
 refine Zw w.Shifts hn (fun (_:Unit) i=>i) (fun _ l=>corr l t) (fun _ _=>True) (a:=()) rfl trivial (fun a i hi _=>?_) (fun a _=>?_)
 ·unfold yc
  rw [if_pos (by simpa using hi),ZY hi]
  simp only [Option.bind_some,corr]
  have hgb:∀ {β:Type} (x:Bool) (k:jP→Option β),(x=false→k default=k w.Shifts[i])→gb x (some w.Shifts[i]) k=k w.Shifts[i]:=by
   intro β x k hk
   cases x with
   | true=>rfl
   | false=>simpa [gb] using hk rfl
  rw [hgb _ _ (by intro hx; rw [hx]; simp)]
  by_cases hr:w.Shifts[i].From≤t / 1440∧t / 1440≤w.Shifts[i].To
  ·right
   rw [if_pos (by simpa using hr),if_pos hr]
  ·left
   rw [if_neg (by simpa using hr),w64s' hi hn]
   exact ⟨(),rfl,by rw [if_neg hr],trivial⟩
 ·unfold yc
  rw [if_neg (by simp)]; rfl
theorem rest_eq {w:zO} (hw:zF2 w) {t:Int} (h0:0≤t) (h1:t≤1099511627776):zBz w t=some (corr w.Shifts t+(w.Cycles.map fun c=>val c t).sum):=by
 unfold zBz
 have nc:=hw.nc
 have ns:=hw.ns
 rw [zId w (by unfold Len; omega) t h0 h1,Option.bind_some]
 have b1:=zDI w.Shifts t hw.ss
 refine Zw w.Cycles (by omega) (fun (h:Int) i=>(h,i)) (fun h l=>h+(l.map fun c=>val c t).sum) (fun i h => -4000 - 4000*i≤h∧h≤4000+4000*i) rfl ⟨by omega,by omega⟩ (fun a i hi hJ=>?_) (fun a _=>?_)
 ·left
  unfold zAr
  simp only
  have hg:=hw.cs _ (List.getElem_mem hi)
  rw [if_pos (by simpa using hi),ZY hi,Option.bind_some,Of_eq hg (by omega) h1,Option.bind_some]
  have b3:=zF6 hg t
  rw [w64s' hi (by omega),zf (n:=a+val w.Cycles[i] t) (by omega) (by omega)]
  refine ⟨_,rfl,?_,by omega,by omega⟩
  simp only [List.map_cons,List.sum_cons]; omega
 ·unfold zAr
  simp only
  rw [if_neg (by simp)]
  simp [Q0]
theorem At_eq {w:zO} (hw:zF2 w) {t:Int} (h0:0≤t) (h1:t≤1099511627776):zDl w t=some (hgt w t):=by
 unfold zDl
 rw [rest_eq hw h0 h1,Option.bind_some]
 have b:=zJZ hw t
 have e:w.Level+(corr w.Shifts t+(w.Cycles.map fun c=>val c t).sum)=hgt w t:=by unfold hgt; omega
 rw [e,zf (by omega) (by omega)]
theorem zKD {w:zO} (hw:zF2 w):QV w=some (w,w):=by
 unfold QV zC1
 rw [if_pos (by have:=hw.nc; omega)]; rfl
end Go.Mx
