/- Part of the proof of TopShipsLieClear: plain laws about the functions of M, no program in sight. Conditions: none. -/
import Derived.Test.YtdpifjmggnjagaaGreatLawHi
set_option linter.unusedVariables false
set_option linter.unusedSimpArgs false
namespace Go.Mh
open Go.Mx
def gI (x:List Int) (i:Nat):Int:=x.getD i 0
def gS (l:List zB) (i:Nat):zB:=l.getD i default
theorem Jb {x:List Int} {i:Nat} (h:i<x.length):gI x i=x[i]:=by simp [gI,List.getD_eq_getElem?_getD,h]
theorem zDL {x:List zB} {i:Nat} (h:i<x.length):gS x i=x[i]:=by simp [gS,List.getD_eq_getElem?_getD,h]
theorem jU {x:List Int} {i:Nat} (h:i<x.length):ix x (i:Int)=some (gI x i):=by rw [ZY h,Jb h]
theorem ix_gS {x:List zB} {i:Nat} (h:i<x.length):ix x (i:Int)=some (gS x i):=by rw [ZY h,zDL h]
theorem jw {x:List Int} {k:Nat} (h:k<x.length) (v:Int) (i:Nat):gI (x.set k v) i=if i=k then v else gI x i:=by
 unfold gI
 rw [List.getD_eq_getElem?_getD,List.getD_eq_getElem?_getD,List.getElem?_set]
 by_cases e:k=i
 ·subst e; simp [h]
 ·rw [bg e,bg fun h=>e h.symm]
theorem InS.g {l:List zB} {x:List Int} (h:InS l x) (i:Nat) (hi:i<l.length):(gS l i).Lo≤gI x i∧gI x i≤(gS l i).Hi:=by
 have hx:i<x.length:=by rw [h.1]; exact hi
 rw [zDL hi,Jb hx]; exact h.2 i hx hi
theorem InS.of_g {l:List zB} {x:List Int} (h1:x.length=l.length) (h:∀ i,i<l.length→(gS l i).Lo≤gI x i∧gI x i≤(gS l i).Hi):InS l x:=⟨h1,fun i q1 q2=>by have:=h i q2; rw [zDL q2,Jb q1] at this; exact this⟩
theorem zDD {x y:List Int} (h:x.length=y.length) (hh:∀ i,i<x.length→gI x i=gI y i):x=y:=List.ext_getElem h fun i h1 h2=>by have:=hh i h1; rw [Jb h1,Jb h2] at this; exact this
def dot : List Int→List Int→Int
 | w :: ws,x :: xs=>w*x+dot ws xs
 | _,_=>0
def bnd (p:Int):List Int→List zB→Int
 | w :: ws,h :: hs=>max ((w - p)*h.Lo) ((w - p)*h.Hi)+bnd p ws hs
 | _,_=>0
theorem zIM {c lo x hi:Int} (h1:lo≤x) (h2:x≤hi):c*x≤max (c*lo) (c*hi):=by
 rcases Int.le_total 0 c with h | h
 ·have:=Int.mul_le_mul_of_nonneg_left h2 h; omega
 ·have:=Int.mul_le_mul_of_nonpos_left h h1; omega
theorem weak (p:Int):∀ (w:List Int) (l:List zB) (x:List Int),w.length=l.length→x.length=l.length→(∀ i,i<l.length→(gS l i).Lo≤gI x i∧gI x i≤(gS l i).Hi)→dot w x≤p*x.sum+bnd p w l
 | [],[],[],_,_,_=>by simp [dot,bnd]
 | [],[],_ :: _,_,h,_=>by simp at h
 | [],_ :: _,_,h,_,_=>by simp at h
 | _ :: _,[],_,h,_,_=>by simp at h
 | _ :: _,_ :: _,[],_,h,_=>by simp at h
 | w :: ws,h :: hs,x :: xs,h1,h2,hh=>by
  have ih:=weak p ws hs xs (by simpa using h1) (by simpa using h2) fun i hi=>hh (i+1) (by simpa using hi)
  have h0:h.Lo≤x∧x≤h.Hi:=hh 0 (by simp)
  have hm:=zIM (c:=w - p) h0.1 h0.2
  simp only [dot,bnd,List.sum_cons,Int.mul_add]
  have e:(w - p)*x=w*x - p*x:=Int.sub_mul _ _ _
  omega
theorem tight (p:Int):∀ (w:List Int) (l:List zB) (x:List Int),w.length=l.length→x.length=l.length→(∀ i,i<l.length→(gS l i).Lo≤gI x i∧gI x i≤(gS l i).Hi)→(∀ i,i<l.length→(p<gI w i→gI x i=(gS l i).Hi)∧(gI w i<p→gI x i=(gS l i).Lo))→dot w x=p*x.sum+bnd p w l
 | [],[],[],_,_,_,_=>by simp [dot,bnd]
 | [],[],_ :: _,_,h,_,_=>by simp at h
 | [],_ :: _,_,h,_,_,_=>by simp at h
 | _ :: _,[],_,h,_,_,_=>by simp at h
 | _ :: _,_ :: _,[],_,h,_,_=>by simp at h
 | w :: ws,h :: hs,x :: xs,h1,h2,hh,hk=>by
  have ih:=tight p ws hs xs (by simpa using h1) (by simpa using h2) (fun i hi=>hh (i+1) (by simpa using hi)) (fun i hi=>hk (i+1) (by simpa using hi))
  have h0:h.Lo≤x∧x≤h.Hi:=hh 0 (by simp)
  have hk0:(p<w→x=h.Hi)∧(w<p→x=h.Lo):=hk 0 (by simp)
  simp only [dot,bnd,List.sum_cons,Int.mul_add]
  have e:(w - p)*x=w*x - p*x:=Int.sub_mul _ _ _
  have e2:max ((w - p)*h.Lo) ((w - p)*h.Hi)=(w - p)*x:=by
   have hm:=zIM (c:=w - p) h0.1 h0.2
   rcases Int.lt_trichotomy w p with hc | hc | hc
   ·have e3:=hk0.2 hc
    have:=Int.mul_le_mul_of_nonpos_left (show w - p≤0 by omega) (show h.Lo≤h.Hi by omega)
    rw [e3] at hm ⊢; omega
   ·have:w - p=0:=by omega
    rw [this]; simp
   ·have e3:=hk0.1 hc
    have:=Int.mul_le_mul_of_nonneg_left (show h.Lo≤h.Hi by omega) (show 0≤w - p by omega)
    rw [e3] at hm ⊢; omega
  omega
theorem zGi (f:Nat→Int) (P:Nat→Prop):∀ n,(∃ i,i<n∧P i)→∃ i,i<n∧P i∧∀ j,j<n→P j→f j≤f i
 | 0,⟨i,h,_⟩=>by omega
 | n+1,⟨i,h,hp⟩=>by
  by_cases hn:∃ i,i<n∧P i
  ·obtain ⟨k,h1,h2,h3⟩:=zGi f P n hn
   by_cases hc:P n∧f k<f n
   ·refine ⟨n,by omega,hc.1,fun j hj hpj=>?_⟩
    by_cases e:j=n
    ·subst e; exact Int.le_refl _
    ·have:=h3 j (by omega) hpj; omega
   ·refine ⟨k,by omega,h2,fun j hj hpj=>?_⟩
    by_cases e:j=n
    ·subst e
     rcases Int.lt_or_le (f k) (f j) with h | h
     ·exact absurd ⟨hpj,h⟩ hc
     ·exact h
    ·exact h3 j (by omega) hpj
  ·have e:i=n:=by
    rcases Nat.lt_or_ge i n with h1 | h1
    ·exact absurd ⟨i,h1,hp⟩ hn
    ·omega
   subst e
   refine ⟨i,by omega,hp,fun j hj hpj=>?_⟩
   by_cases e:j=i
   ·subst e; exact Int.le_refl _
   ·exact absurd ⟨j,by omega,hpj⟩ hn
def Pri (w:List Int) (i j:Nat):Prop:=gI w j<gI w i∨(gI w i=gI w j∧i<j)
structure Greedy (l:List zB) (w:List Int) (t:Int) (x:List Int):Prop where
 ins:InS l x
 sum:x.sum=t
 pri:∀ i j,i<l.length→j<l.length→Pri w i j→gI x i<(gS l i).Hi→gI x j=(gS l j).Lo
theorem zKv : ∀ (x y:List Int),x.length=y.length→x.sum=y.sum→(∃ i,i<x.length∧gI x i<gI y i)→∃ j,j<x.length∧gI y j<gI x j:=fun x y h1 h2 ⟨i,hi,hlt⟩=>by
 have key:∀ (x y:List Int),x.length=y.length→(∀ j,j<x.length→gI x j≤gI y j)→x.sum≤y.sum∧((∃ i,i<x.length∧gI x i<gI y i)→x.sum<y.sum):=by
  intro x
  induction x with
  | nil=>intro y h _; cases y with
   | nil=>exact ⟨Int.le_refl _,fun ⟨i,h,_⟩=>by simp at h⟩
   | cons b r=>simp at h
  | cons a r ih =>
   intro y h hh
   cases y with
   | nil=>simp at h
   | cons b s =>
    obtain ⟨q1,q2⟩:=ih s (by simpa using h) fun j hj=>hh (j+1) (by simpa using hj)
    have h0:a≤b:=hh 0 (by simp)
    simp only [List.sum_cons]
    refine ⟨by omega,fun ⟨i,hi,hl⟩=>?_⟩
    cases i with
    | zero=>have:a<b:=hl; omega
    | succ i=>have:=q2 ⟨i,by simpa using hi,hl⟩; omega
 rcases Classical.em (∃ j,j<x.length∧gI y j<gI x j) with h | h
 ·exact h
 ·have:=(key x y h1 fun j hj=>by
   rcases Int.lt_or_le (gI y j) (gI x j) with h3 | h3
   ·exact absurd ⟨j,hj,h3⟩ h
   ·exact h3).2 ⟨i,hi,hlt⟩
  omega
theorem Greedy.uniq {l:List zB} {w:List Int} {t:Int} {x y:List Int} (hx:Greedy l w t x) (hy:Greedy l w t y):x=y:=by
 have key:∀ {x y:List Int},Greedy l w t x→Greedy l w t y→∀ i,i<x.length→¬ gI x i<gI y i:=fun {x y} hx hy i hi hlt=>by
  obtain ⟨j,hj,hlt2⟩:=zKv x y (by rw [hx.ins.1,hy.ins.1]) (by rw [hx.sum,hy.sum]) ⟨i,hi,hlt⟩
  have hil:i<l.length:=by rw [← hx.ins.1]; exact hi
  have hjl:j<l.length:=by rw [← hx.ins.1]; exact hj
  have b1:=hx.ins.g i hil
  have b2:=hy.ins.g i hil
  have b3:=hx.ins.g j hjl
  have b4:=hy.ins.g j hjl
  have hne:i≠j:=fun e=>by subst e; omega
  rcases Int.lt_trichotomy (gI w i) (gI w j) with hc | hc | hc
  ·have:=hy.pri j i hjl hil (.inl hc) (by omega); omega
  ·rcases Nat.lt_or_gt_of_ne hne with h | h
   ·have:=hx.pri i j hil hjl (.inr ⟨hc,h⟩) (by omega); omega
   ·have:=hy.pri j i hjl hil (.inr ⟨hc.symm,h⟩) (by omega); omega
  ·have:=hx.pri i j hil hjl (.inl hc) (by omega); omega
 refine zDD (by rw [hx.ins.1,hy.ins.1]) fun i hi=>?_
 have h1:=key hx hy i hi
 have h2:=key hy hx i (by rw [hy.ins.1,← hx.ins.1]; exact hi)
 omega
def Kkt (l:List zB) (w:List Int) (p:Int) (x:List Int):Prop := ∀ i,i<l.length→(p<gI w i→gI x i=(gS l i).Hi)∧(gI w i<p→gI x i=(gS l i).Lo)
theorem Greedy.kkt {l:List zB} {w:List Int} {t:Int} {x:List Int} (hx:Greedy l w t x) (hn:0<l.length):∃ k,k<l.length∧Kkt l w (gI w k) x∧((∃ i,i<l.length∧gI x i<(gS l i).Hi)→gI x k<(gS l k).Hi∧∀ i,i<l.length→gI x i<(gS l i).Hi→gI w i≤gI w k)∧((∀ i,i<l.length→¬ gI x i<(gS l i).Hi)→∀ i,i<l.length→gI w k≤gI w i):=by
 by_cases he:∃ i,i<l.length∧gI x i<(gS l i).Hi
 ·obtain ⟨k,h1,h2,h3⟩:=zGi (gI w) (fun i=>gI x i<(gS l i).Hi) l.length he
  refine ⟨k,h1,fun i hi=>⟨fun h=>?_,fun h=>hx.pri k i h1 hi (.inl h) h2⟩,fun _=>⟨h2,h3⟩,fun h=>absurd h2 (h k h1)⟩
  have b:=hx.ins.g i hi
  rcases Int.lt_or_le (gI x i) (gS l i).Hi with hc | hc
  ·have:=h3 i hi hc; omega
  ·omega
 ·obtain ⟨k,h1,h2,h3⟩:=zGi (fun i => - gI w i) (fun _=>True) l.length ⟨0,hn,trivial⟩
  have hf:∀ i,i<l.length→¬ gI x i<(gS l i).Hi:=fun i hi hc=>he ⟨i,hi,hc⟩
  refine ⟨k,h1,fun i hi=>⟨fun h=>?_,fun h=>?_⟩,fun h=>absurd h he,fun _ i hi=>by have:=h3 i hi trivial; omega⟩
  ·have b:=hx.ins.g i hi
   have:=hf i hi
   omega
  ·have:=h3 i hi trivial; omega
structure Spn (l:List zB):Prop where
 n:l.length≤8
 b:∀ i,i<l.length→0≤(gS l i).Lo∧(gS l i).Lo≤(gS l i).Hi∧(gS l i).Hi≤65536
theorem JL.spn {s:zH} {l:zQ} (h:JL s l):Spn l.Holds:=⟨h.lenL,fun i hi=>by rw [zDL hi]; exact h.mem _ (bz hi)⟩
theorem Spn.sums {l:List zB} (h:Spn l):0≤Jh l∧Jh l≤Jl l∧Jl l≤524288:=by
 have h1:=zLm l fun x hx=>by obtain ⟨j,hj,rfl⟩:=List.getElem_of_mem hx; have:=h.b j hj; rw [zDL hj] at this; exact this
 have:=h.n
 omega
theorem InS.lo {l:List zB} (h:Spn l):InS l (l.map (·.Lo)):=InS.of_g (by simp) fun i hi=>by
 have e:gI (l.map (·.Lo)) i=(gS l i).Lo:=by rw [Jb (by simpa using hi),zDL hi,List.getElem_map]
 rw [e]; have:=h.b i hi; omega
theorem gI_lo {l:List zB} {i:Nat} (hi:i<l.length):gI (l.map (·.Lo)) i=(gS l i).Lo:=by rw [Jb (by simpa using hi),zDL hi,List.getElem_map]
theorem zJB {x:List Int} {k:Nat} (h:k<x.length) (v:Int):(x.set k v).sum=x.sum - gI x k+v:=by rw [zLn x k h,Jb h]
theorem InS.full {l:List zB} {x:List Int} (h:InS l x) (hh:∀ i,i<l.length→¬ gI x i<(gS l i).Hi):x.sum=Jl l:=h.zQs fun i h1 h2=>by
 have:=h.2 i h1 h2
 have:=hh i h2
 rw [Jb h1,zDL h2] at this
 omega
end Go.Mh
