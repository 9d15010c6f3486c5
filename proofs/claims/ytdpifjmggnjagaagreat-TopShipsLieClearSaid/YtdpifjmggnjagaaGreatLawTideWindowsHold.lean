/- Part of the proof of TopShipsLieClear: plain laws about the functions of M, no program in sight. Conditions: none. -/
import Derived.Test.YtdpifjmggnjagaaGreatLawN
set_option linter.unusedVariables false
namespace Go.Mx
def zGB (long:Int):List zB→zB×Int
 | []=>(⟨0,0⟩,5)
 | x :: r=>if long≤x.Hi - x.Lo+1 then (x,0) else zGB long r
def zGA (w:zW) (s:zB) (height long:Int):zB×Int :=
 if (YQ w s height).2=0 then (if long<1 then (⟨0,0⟩,1) else zGB long (YQ w s height).1) else (⟨0,0⟩,(YQ w s height).2)
theorem Next_eq (w:zW) (hw:LenW w) (s:zB) (height long:Int) (hl:OkI .i64 long):zDz w s height long=some (zGA w s height long):=by
 unfold zDz zGA
 rw [zOu w hw,ba]
 obtain ⟨h1,h2⟩:=zIE w hw s height
 have hl2:=hl.i64
 generalize YQ w s height=y at *
 obtain ⟨l,e⟩:=y
 simp only at h1 h2 ⊢
 by_cases he:e=0
 ·rw [bg (by simp [he]),bi he]
  by_cases hn:long<1
  ·rw [bi (by simpa using hn),bi hn]
  ·rw [bg (by simpa using hn),bg hn]
   refine jK l (by omega) (fun (_:Unit) i=>i) (fun _ l=>zGB long l) (fun _ _=>True) (a:=()) rfl trivial (fun _ i hi _=>?_) (fun _ _=>?_)
   ·have hx:=h2 l[i] (bz hi)
    unfold zCh
    simp only
    rw [bi (by simpa using hi),ZY hi,ba,zw (n:=long - 1) (by omega) (by omega),zw (n:=l[i].Hi - l[i].Lo) (by omega) (by omega)]
    simp only [zGB]
    by_cases hc:long≤l[i].Hi - l[i].Lo+1
    ·right; rw [bi (by simp; omega),bi hc]
    ·left; rw [bg (by simp; omega),bg hc,w64s' hi (by omega)]; exact ⟨(),rfl,rfl,trivial⟩
   ·unfold zCh
    simp only
    rw [bg (by simp)]; rfl
 ·rw [bi (by simp [he]),bg he]
structure WinP (H:Int→Int) (height lo t:Int) (l:List zB):Prop where
 gap:l.Pairwise (fun x y=>x.Hi+1<y.Lo)
 ins:∀ x∈l,lo≤x.Lo∧x.Lo≤x.Hi∧x.Hi<t∧∀ m,x.Lo≤m→m≤x.Hi→height≤H m
 all:∀ m,lo≤m→m<t→height≤H m→∃ x∈l,x.Lo≤m∧m≤x.Hi
theorem WinP.skip {H:Int→Int} {height lo t:Int} {l:List zB} (h:WinP H height lo t l) (ht:H t<height):WinP H height lo (t+1) l:=by
 refine ⟨h.gap,fun x hx=>?_,fun m h0 h1 h2=>h.all m h0 ?_ h2⟩
 ·obtain ⟨a,b,c,d⟩:=h.ins x hx
  exact ⟨a,b,by omega,d⟩
 ·by_cases e:m=t
  ·subst e; omega
  ·omega
theorem WinP.add {H:Int→Int} {height lo t:Int} {l:List zB} (h:WinP H height lo t l) (hlo:lo≤t) (ht:height≤H t):WinP H height lo (t+1) (addW l t t):=by
 obtain ⟨g,i,a⟩:=h
 have one:∀ m,t≤m→m≤t→height≤H m:=fun m h0 h1=>by rw [show m=t by omega]; exact ht
 rcases zC2 l with rfl | ⟨p,x,rfl⟩
 ·rw [zFf]
  refine ⟨List.pairwise_singleton _ _,fun y hy=>?_,fun m h0 h1 h2=>?_⟩
  ·simp only [cb] at hy; subst hy
   exact ⟨hlo,Int.le_refl _,by simp only; omega,one⟩
  ·by_cases e:m=t
   ·exact ⟨⟨t,t⟩,by simp,by simp only; omega,by simp only; omega⟩
   ·obtain ⟨y,hy,_⟩:=a m h0 (by omega) h2; cases hy
 ·rw [qy]
  have hx:=i x (by simp)
  have hg:=List.pairwise_append.1 g
  by_cases e:x.Hi+1=t
  ·rw [bi e]
   refine ⟨List.pairwise_append.2 ⟨hg.1,List.pairwise_singleton _ _,fun u hu v hv=>?_⟩,fun y hy=>?_,fun m h0 h1 h2=>?_⟩
   ·simp only [cb] at hv; subst hv
    exact hg.2.2 u hu x (by simp)
   ·rw [List.mem_append,cb] at hy
    rcases hy with hy | rfl
    ·obtain ⟨q0,q1,q2,q3⟩:=i y (by simp [hy])
     exact ⟨q0,q1,by omega,q3⟩
    ·refine ⟨hx.1,by simp only; omega,by simp only; omega,fun m h0 h1=>?_⟩
     simp only at h0 h1
     by_cases e2:m=t
     ·exact one m (by omega) (by omega)
     ·exact hx.2.2.2 m h0 (by omega)
   ·by_cases e2:m=t
    ·exact ⟨⟨x.Lo,t⟩,by simp,by simp only; omega,by simp only; omega⟩
    ·obtain ⟨y,hy,q0,q1⟩:=a m h0 (by omega) h2
     rw [List.mem_append,cb] at hy
     rcases hy with hy | rfl
     ·exact ⟨y,by simp [hy],q0,q1⟩
     ·exact ⟨⟨y.Lo,t⟩,by simp,q0,by simp only; omega⟩
  ·rw [bg e]
   refine ⟨List.pairwise_append.2 ⟨g,List.pairwise_singleton _ _,fun u hu v hv=>?_⟩,fun y hy=>?_,fun m h0 h1 h2=>?_⟩
   ·simp only [cb] at hv; subst hv
    rw [List.mem_append,cb] at hu
    rcases hu with hu | rfl
    ·have:=hg.2.2 u hu x (by simp)
     simp only; omega
    ·simp only; omega
   ·rw [List.mem_append,cb] at hy
    rcases hy with hy | rfl
    ·obtain ⟨q0,q1,q2,q3⟩:=i y hy
     exact ⟨q0,q1,by omega,q3⟩
    ·exact ⟨hlo,Int.le_refl _,by simp only; omega,one⟩
   ·by_cases e2:m=t
    ·exact ⟨⟨t,t⟩,by simp,by simp only; omega,by simp only; omega⟩
    ·obtain ⟨y,hy,q0,q1⟩:=a m h0 (by omega) h2
     exact ⟨y,List.mem_append_left _ hy,q0,q1⟩
theorem zN6 {H:Int→Int} {height lo:Int}:∀ (n:Nat) (t:Int) (l:List zB),lo≤t→WinP H height lo t l→WinP H height lo (t+n) (winS H height n t l)
 | 0,t,l,_,h=>by simpa [winS] using h
 | n+1,t,l,h0,h=>by
  unfold winS
  rw [show t+((n+1:Nat):Int)=t+1+n by omega]
  by_cases e:H t<height
  ·rw [bi e]; exact zN6 n (t+1) l (by omega) (h.skip e)
  ·rw [bg e]; exact zN6 n (t+1) _ (by omega) (h.add h0 (by omega))
theorem win_all {w:zW} {s:zB} (h:Ask w s) (height:Int):WinP (hgt w) height s.Lo (s.Hi+1) (winS (hgt w) height (left s.Hi s.Lo) s.Lo []):=by
 have:=zN6 (H:=hgt w) (height:=height) (lo:=s.Lo) (left s.Hi s.Lo) s.Lo [] (Int.le_refl _) ⟨.nil,by simp,fun m h0 h1=>by omega⟩
 have e:s.Lo+(left s.Hi s.Lo:Nat)=s.Hi+1:=by have:=h.l1; unfold left; omega
 rwa [e] at this
theorem WinP.one {H:Int→Int} {height lo t:Int} {l:List zB} (h:WinP H height lo t l) {y z:zB} {m:Int} (hy:y∈l) (hz:z∈l) (h1:m=y.Hi+1) (h2:z.Lo≤m) (h3:m≤z.Hi):False:=by
 obtain ⟨i,hi,rfl⟩:=List.getElem_of_mem hy
 obtain ⟨j,hj,rfl⟩:=List.getElem_of_mem hz
 have g:=List.pairwise_iff_getElem.1 h.gap
 have a:=h.ins _ (bz hi)
 have b:=h.ins _ (bz hj)
 rcases Nat.lt_trichotomy i j with e | e | e
 ·have:=g i j hi hj e; omega
 ·subst e; omega
 ·have:=g j i hj hi e; omega
end Go.Mx
