/- Part of the proof of TopShipsLieClear: plain laws about the functions of M, no program in sight. Conditions: none. -/
import Derived.Test.YtdpifjmggnjagaaGreatLawU
set_option linter.unusedVariables false
namespace Go.Mx
theorem jK {α τ σ ρ:Type} {body:σ→Option (σ ⊕ ρ)} (l:List α) (hl:l.length≤9223372036854775807) (st:τ→Int→σ) (F:τ→List α→ρ) (J:Nat→τ→Prop) {a:τ} {s0:σ} (e0:s0=st a 0) (h0:J 0 a)
  (step:∀ a (i:Nat) (hi:i<l.length),J i a→(∃ a',body (st a (i:Int))=some (.inl (st a' ((i+1:Nat):Int)))∧F a (l[i] :: l.drop (i+1))=F a' (l.drop (i+1))∧J (i+1) a')∨body (st a (i:Int))=some (.inr (F a (l[i] :: l.drop (i+1)))))
  (last:∀ a,J l.length a→body (st a (l.length:Int))=some (.inr (F a []))):Lp body fuel s0=some (F a l):=by
 suffices h:∃ r,Lp body fuel s0=some r∧r=F a l by obtain ⟨r,h,rfl⟩:=h; exact h
 refine lp_inv' (fun i s => ∃ b,s=st b (i:Int)∧F a l=F b (l.drop i)∧J i b) _ l.length (by omega) ⟨a,by simpa using e0,by simp,h0⟩ fun i s hi hI=>?_
 obtain ⟨b,rfl,h1,h2⟩:=hI
 by_cases h:i<l.length
 ·have hd:=List.drop_eq_getElem_cons h
  rcases step b i h h2 with ⟨a',q1,q2,q3⟩ | q1
  ·exact .inl ⟨h,_,q1,a',rfl,by rw [h1,hd,q2],q3⟩
  ·exact .inr ⟨_,q1,by rw [h1,hd]⟩
 ·have e:i=l.length:=by omega
  subst e
  exact .inr ⟨_,last b h2,by rw [h1,List.drop_length]⟩
theorem w64s' {i n:Nat} (h:i<n) (hn:n≤9223372036854775807):w64 ((i:Int)+1)=((i+1:Nat):Int):=w64s i (by omega)
def zEE (c:zz):Bool:=((((zu c.ID 1 1099511627776)&&(ji c.Begin))&&(zu c.Every 1 120))&&(zu (c.Heights.length:Int) 1 60))
def zPK (c:zz):Bool:=zEE c&&c.Heights.all fun h=>jZ h
theorem right_eq (c:zz) (hl:Len c.Heights):zAk c=some (zPK c):=by
 unfold zAk
 obtain ⟨r,h1,h2⟩:=zIU c.Heights hl
 have h3:ZR c.Heights=some (decide (0≤r)):=by unfold ZR; rw [h1]; rfl
 rw [h3]
 unfold zPK
 change gb (zEE c) _ (fun y=>some (zEE c && !y))=_
 cases zEE c with
 | false=>rfl
 | true =>
  simp only [gb,if_true,ba,Bool.true_and,Option.some.injEq]
  rcases h2 with ⟨h2,x,hx,hr⟩ | ⟨rfl,h2⟩
  ·have:(c.Heights.all fun h=>jZ h)=false:=by
    rw [List.all_eq_false]; exact ⟨x,hx,by simpa [Ja] using hr⟩
   rw [this]; simp [h2]
  ·have:(c.Heights.all fun h=>jZ h)=true:=by
    rw [List.all_eq_true]; intro x hx; simpa [Ja] using h2 x hx
   rw [this]; simp
def zHo : Int→List Y4→Int
 | _,[]=>0
 | last,s :: r=>if last+1≤s.From∧s.From≤s.To∧s.To≤728∧-4000≤s.Add∧s.Add≤4000 then zHo s.To r else 1
theorem zNl (w:zW) (hl:Len w.Shifts):ym w=some (zHo (-1) w.Shifts):=by
 unfold ym
 refine jK w.Shifts hl (fun (last:Int) i=>(last,i)) zHo (fun _ last => -1≤last∧last≤728) rfl ⟨by omega,by omega⟩ (fun a i hi hJ=>?_) (fun a _=>?_)
 ·unfold zAL
  simp only
  rw [bi (by simpa using hi),ZY hi]
  simp only [ba,zHo]
  rw [zw (n:=a+1) (by omega) (by omega)]
  by_cases h:a+1≤w.Shifts[i].From∧w.Shifts[i].From≤w.Shifts[i].To∧w.Shifts[i].To≤728∧-4000≤w.Shifts[i].Add∧w.Shifts[i].Add≤4000
  ·left
   rw [bg (by simp [zu,jZ]; omega),w64s' hi hl,bi h]
   exact ⟨_,rfl,rfl,by omega,by omega⟩
  ·right
   rw [bi (by simp [zu,jZ]; omega),bg h]
 ·unfold zAL
  simp only
  rw [bg (by simp)]; rfl
theorem zFd (l:List zz) (c:zz) (hl:Len l):ZP l c=some (l.any fun x=>decide (x.ID=c.ID)):=by
 unfold ZP
 have h:∃ r,ZJ l c=some r∧decide (0≤r)=l.any fun x=>decide (x.ID=c.ID):=by
  unfold ZJ
  refine lp_inv' (fun i s=>s=(i:Int)∧∀ j (hj:j<l.length),j<i→¬ l[j].ID=c.ID) _ l.length (by unfold Len at hl; omega) ⟨rfl,fun j _ h=>by omega⟩ fun i s hi hI=>?_
  obtain ⟨rfl,hI⟩:=hI
  unfold Zd
  by_cases h:i<l.length
  ·rw [bi (by simpa using h),ZY h]
   simp only [ba]
   by_cases hr:l[i].ID=c.ID
   ·rw [bi (by simpa [QH] using hr)]
    refine .inr ⟨_,rfl,?_⟩
    rw [show decide ((0:Int)≤(i:Int))=true by simp]
    symm
    rw [List.any_eq_true]
    exact ⟨_,bz h,by simpa using hr⟩
   ·rw [bg (by simpa [QH] using hr)]
    refine .inl ⟨h,_,rfl,w64s' h hl,fun j hj hji=>?_⟩
    by_cases hj':j=i
    ·subst hj'; exact hr
    ·exact hI j hj (by omega)
  ·rw [bg (by simpa using h)]
   refine .inr ⟨-1,rfl,?_⟩
   symm
   rw [show decide ((0:Int)≤-1)=false by decide,List.any_eq_false]
   intro x hx
   obtain ⟨j,hj,rfl⟩:=List.getElem_of_mem hx
   simpa using hI j hj (by omega)
 obtain ⟨r,h1,h2⟩:=h
 rw [h1,ba,h2]
def zMf (e:Int):List zz→List zz→Int
 | _,[]=>e
 | pre,c :: r=>if zPK c=true then (if (pre.any fun x=>decide (x.ID=c.ID))=true then 6 else zMf e (pre++[c]) r) else 1
def zAq (w:zW):Int :=
 if -4000≤w.Level∧w.Level≤4000 then (if 6<w.Cycles.length∨20<w.Shifts.length then 2 else zMf (zHo (-1) w.Shifts) [] w.Cycles) else 1
theorem zHi (w:zW) (hw:LenW w):QI w=some (zAq w):=by
 unfold QI zAq
 by_cases h1 : -4000≤w.Level∧w.Level≤4000
 ·rw [bi h1,bg (by simp [jZ,zu,h1])]
  by_cases h2:6<w.Cycles.length∨20<w.Shifts.length
  ·rw [bi h2,bi (by simp; omega)]
  ·rw [bg h2,bg (by simp; omega)]
   refine jK w.Cycles hw.c (fun (_:List zz) i=>i) (zMf (zHo (-1) w.Shifts)) (fun i a=>a=w.Cycles.take i) (a:=[]) rfl (by simp) (fun a i hi hJ=>?_) (fun a _=>?_)
   ·subst hJ
    unfold zAK
    rw [bi (by simpa using hi),ZY hi]
    simp only [ba,zMf]
    rw [right_eq _ (hw.h _ (bz hi))]
    simp only [ba]
    by_cases hg:zPK w.Cycles[i]=true
    ·rw [bg (by simp [hg]),zIv (by omega),bi hg]
     simp only [ba]
     rw [zFd _ _ (by unfold Len; simp; omega)]
     simp only [ba]
     by_cases ha:((w.Cycles.take i).any fun x=>decide (x.ID=w.Cycles[i].ID))=true
     ·right; rw [bi ha,bi ha]
     ·left
      rw [bg ha,bg ha,w64s' hi hw.c]
      exact ⟨_,rfl,rfl,by rw [List.take_add_one,List.getElem?_eq_getElem hi]; rfl⟩
    ·right
     rw [bi (by simp [hg]),bg hg]
   ·unfold zAK
    rw [bg (by simp),zNl w hw.s]; rfl
 ·rw [bg h1,bi (by simp [jZ,zu]; omega)]
theorem zFe {w:zW} (hw:LenW w) (h:zAq w=0):zKQ w:=by
 obtain ⟨e,h1,h2⟩:=zOn w hw
 rw [zHi w hw,Option.some.injEq] at h1
 exact h2 (h1▸h)
theorem zHP {w:zW} (hw:zKQ w):qY w=some (w,w):=by
 unfold qY zEN
 rw [bi (by have:=hw.nc; omega)]; rfl
def zMN (w:zW) (t:Int):Int×Int:=if zAq w=0 then (if 0≤t∧t≤1048576 then (hgt w t,0) else (0,1)) else (0,zAq w)
theorem zQL (w:zW) (hw:LenW w) (t:Int):zAu w t=some (zMN w t):=by
 unfold zAu zMN
 rw [zHi w hw,ba]
 by_cases he:zAq w=0
 ·have hg:=zFe hw he
  rw [bi he,bg (by simp [he])]
  by_cases hm:0≤t∧t≤1048576
  ·have:ji t=true:=by simp [ji,zu,hm]
   rw [this,bg (by simp),zHP hg,ba,zDJ hg hm.1 (by omega),bi hm]
   rfl
  ·have:ji t=false:=by simp [ji,zu]; omega
   rw [this,bi (by simp),bg hm]
 ·rw [bg he,bi (by simp [he])]
end Go.Mx
