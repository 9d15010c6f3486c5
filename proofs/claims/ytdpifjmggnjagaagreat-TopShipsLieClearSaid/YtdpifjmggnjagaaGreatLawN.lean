/- Part of the proof of TopShipsLieClear: plain laws about the functions of M, no program in sight. Conditions: none. -/
import Derived.Test.YtdpifjmggnjagaaGreatLawW
set_option linter.unusedVariables false
namespace Go.Mx
def left (hi t:Int):Nat:=(hi+1 - t).toNat
theorem zLL {hi t:Int} (h:t≤hi):left hi t=left hi (t+1)+1:=by unfold left; omega
theorem zQ0 (hi:Int):left hi (hi+1)=0:=by unfold left; omega
theorem zPC {τ σ ρ:Type} {body:σ→Option (σ ⊕ ρ)} {lo hi:Int} (h1:lo≤hi+1) (h2:hi - lo≤4611686018427387904) (st:τ→Int→σ) (F:τ→Int→ρ) (J:Int→τ→Prop) {a:τ} {s0:σ} (e0:s0=st a lo) (h0:J lo a)
  (step:∀ a t,lo≤t→t≤hi→J t a→∃ a',body (st a t)=some (.inl (st a' (t+1)))∧F a t=F a' (t+1)∧J (t+1) a')
  (last:∀ a,J (hi+1) a→body (st a (hi+1))=some (.inr (F a (hi+1)))):Lp body fuel s0=some (F a lo):=by
 suffices h:∃ r,Lp body fuel s0=some r∧r=F a lo by obtain ⟨r,h,rfl⟩:=h; exact h
 refine lp_inv' (fun i s => ∃ b,s=st b (lo+i)∧F a lo=F b (lo+i)∧J (lo+i) b) _ (hi+1 - lo).toNat (by omega) ⟨a,by simpa using e0,by simp,by simpa using h0⟩ fun i s hi' hI=>?_
 obtain ⟨b,rfl,q1,q2⟩:=hI
 by_cases h:lo+i≤hi
 ·obtain ⟨a',p1,p2,p3⟩:=step b (lo+i) (by omega) h q2
  refine .inl ⟨by omega,_,p1,a',?_,?_,?_⟩
  ·congr 1; omega
  ·rw [q1,p2]; congr 1; omega
  ·rw [show lo+((i+1:Nat):Int)=lo+i+1 by omega]; exact p3
 ·have e:lo+(i:Int)=hi+1:=by omega
  rw [e] at q1 q2 ⊢
  exact .inr ⟨_,last b q2,q1.symm⟩
def askS (w:zW) (s:zB):Int:=if zAq w=0 then (if 0≤s.Lo∧s.Lo≤s.Hi∧s.Hi≤1048576 then (if 10080≤s.Hi - s.Lo then 2 else 0) else 1) else zAq w
theorem zRf (w:zW) (hw:LenW w) (s:zB):zC0 w s=some (askS w s):=by
 unfold zC0 askS
 rw [zHi w hw,ba]
 by_cases he:zAq w=0
 ·rw [bi he,bg (by simp [he])]
  unfold zBA
  by_cases h:0≤s.Lo∧s.Lo≤s.Hi∧s.Hi≤1048576
  ·rw [bi h,bg (by simp; omega),zw (by omega) (by omega)]
   simp
  ·rw [bg h,bi (by simp; omega)]
 ·rw [bg he,bi (by simp [he])]
structure Ask (w:zW) (s:zB):Prop where
 g:zKQ w
 l0:0≤s.Lo
 l1:s.Lo≤s.Hi
 l2:s.Hi≤1048576
 l3:s.Hi - s.Lo<10080
theorem zOs {w:zW} {s:zB} (hw:LenW w) (h:askS w s=0):Ask w s:=by
 unfold askS at h
 split at h
 ·split at h
  ·split at h
   ·cases h
   ·exact ⟨zFe hw (by assumption),by omega,by omega,by omega,by omega⟩
  ·cases h
 ·contradiction
theorem zPX {α:Type} {l:List α} {x:α} (h:l.length≤1000000):app l [x]=some (l++[x]):=by
 unfold app
 rw [bi (by simp; omega)]
theorem ix_last {α:Type} {l:List α} {x:α}:ix (l++[x]) (l.length:Int)=some x:=by
 unfold ix
 rw [bi (by omega)]
 simp
theorem zQd {α:Type} {l:List α} {x y:α}:put (l++[x]) (l.length:Int) y=l++[y]:=by
 unfold put
 simp
theorem zQy {α:Type} {l:List α} {x:α} (h:l.length≤1000000):w64 (((l++[x]).length:Int) - 1)=(l.length:Int):=by
 simp only [List.length_append,bt,List.length_nil]
 rw [zw (by omega) (by omega)]; omega
def addW (l:List zB) (lo hi:Int):List zB:=match l.getLast? with
 | some x=>if x.Hi+1=lo then l.dropLast++[⟨x.Lo,hi⟩] else l++[⟨lo,hi⟩]
 | none=>l++[⟨lo,hi⟩]
theorem zFf (lo hi:Int):addW [] lo hi=[⟨lo,hi⟩]:=rfl
theorem qy (p:List zB) (x:zB) (lo hi:Int):addW (p++[x]) lo hi=if x.Hi+1=lo then p++[⟨x.Lo,hi⟩] else (p++[x])++[⟨lo,hi⟩]:=by
 unfold addW
 simp
theorem zC2 {α:Type} (l:List α):l=[]∨∃ p x,l=p++[x]:=by
 rcases List.eq_nil_or_concat l with h | ⟨p,x,h⟩
 ·exact .inl h
 ·exact .inr ⟨p,x,by rw [h,List.concat_eq_append]⟩
theorem zQI (l:List zB) (lo hi hi':Int):addW (addW l lo hi) (hi+1) hi'=addW l lo hi':=by
 rcases zC2 l with rfl | ⟨p,x,rfl⟩
 ·rw [zFf,zFf,show [(⟨lo,hi⟩:zB)]=[]++[⟨lo,hi⟩] from rfl,qy]
  simp
 ·rw [qy,qy]
  by_cases h:x.Hi+1=lo
  ·rw [bi h,bi h,qy]; simp
  ·rw [bg h,bg h,qy]; simp
theorem zRk (l:List zB) (lo hi:Int):(addW l lo hi).length≤l.length+1:=by
 rcases zC2 l with rfl | ⟨p,x,rfl⟩
 ·simp [zFf]
 ·rw [qy]; split <;> simp
theorem zRj {l:List zB} {lo hi:Int} {P:zB→Prop} (h1:∀ x∈l,P x) (h2:P ⟨lo,hi⟩) (h3:∀ x,P x→x.Hi+1=lo→P ⟨x.Lo,hi⟩):∀ x∈addW l lo hi,P x:=by
 rcases zC2 l with rfl | ⟨p,y,rfl⟩
 ·intro x hx; simp only [zFf,cb] at hx; subst hx; exact h2
 ·rw [qy]
  intro x hx
  split at hx
  ·simp only [List.mem_append,cb] at hx
   rcases hx with hx | rfl
   ·exact h1 x (by simp [hx])
   ·exact h3 y (h1 y (by simp)) (by assumption)
  ·rw [List.mem_append,cb] at hx
   rcases hx with hx | rfl
   ·exact h1 x hx
   ·exact h2
theorem zPJ {β:Type} {l:List zB} {lo hi:Int} (hlen:l.length≤1000000) (K:List zB→Option β) (cond:zB→Bool) (hc:∀ x∈l,cond x=decide (x.Hi+1=lo)) :
  (gb (decide (0<(l.length:Int))) (ix l (w64 ((l.length:Int) - 1))) fun x =>
   if (decide (0<(l.length:Int))&&cond x)=true then
    Option.bind (ix l (w64 ((l.length:Int) - 1))) fun x1=>K (put l (w64 ((l.length:Int) - 1)) ⟨x1.Lo,hi⟩)
   else Option.bind (app l [⟨lo,hi⟩]) fun l1=>K l1)=K (addW l lo hi):=by
 rcases zC2 l with rfl | ⟨p,x,rfl⟩
 ·simp only [List.length_nil,Int.natCast_zero,Int.lt_irrefl,decide_false,gb,Bool.false_eq_true,if_false,ba,Bool.false_and]
  rw [zPX (by simp),ba]
  rfl
 ·have e0:decide ((0:Int)<((p++[x]).length:Int))=true:=by rw [bj,List.length_append]; simp only [bt]; omega
  have hp:p.length≤1000000:=by simp at hlen; omega
  rw [zQy hp,ix_last,e0]
  simp only [gb,if_true,ba,Bool.true_and]
  rw [hc x (by simp),qy]
  by_cases h:x.Hi+1=lo
  ·rw [bi (by simpa using h),bi h,zQd]
  ·rw [bg (by simpa using h),bg h,zPX hlen,ba]
def winS (H:Int→Int) (height:Int):Nat→Int→List zB→List zB
 | 0,_,l=>l
 | n+1,t,l=>winS H height n (t+1) (if H t<height then l else addW l t t)
def YQ (w:zW) (s:zB) (height:Int):List zB×Int:=if askS w s=0 then (winS (hgt w) height (left s.Hi s.Lo) s.Lo [],0) else ([],askS w s)
def zHe (s:zB) (t:Int) (l:List zB):Prop:=l.length≤(t - s.Lo).toNat∧∀ x∈l,s.Lo≤x.Lo∧x.Lo≤x.Hi∧x.Hi<t
theorem zHe.add {s:zB} {t lo:Int} {l:List zB} {u:Int} (h:zHe s lo l) (h0:s.Lo≤lo) (h1:lo≤u) (ht:u<t):zHe s t (addW l lo u):=by
 obtain ⟨a,b⟩:=h
 refine ⟨?_,zRj (fun x hx=>?_) ?_ (fun x hx e=>?_)⟩
 ·have:=zRk l lo u; omega
 ·have:=b x hx; omega
 ·simp only; omega
 ·simp only; omega
theorem zHe.mono {s:zB} {t t':Int} {l:List zB} (h:zHe s t l) (ht:t≤t'):zHe s t' l:=⟨by have:=h.1; omega,fun x hx=>by have:=h.2 x hx; omega⟩
theorem zLi {H:Int→Int} {height:Int} {s:zB}:∀ (n:Nat) (t:Int) (l:List zB),s.Lo≤t→zHe s t l→zHe s (t+n) (winS H height n t l)
 | 0,t,l,_,h=>by simpa [winS] using h
 | n+1,t,l,h0,h=>by
  unfold winS
  rw [show t+((n+1:Nat):Int)=t+1+n by omega]
  split
  ·exact zLi n (t+1) l (by omega) (h.mono (by omega))
  ·exact zLi n (t+1) _ (by omega) (h.add h0 (Int.le_refl _) (by omega))
structure SpanH where
 Span:zB
 Height:Int
theorem zOu (w:zW) (hw:LenW w) (s:zB) (height:Int):zBB w s height=some (YQ w s height):=by
 unfold zBB YQ
 rw [zRf w hw,ba]
 by_cases h:askS w s=0
 ·rw [bg (by simp [h]),bi h]
  obtain ⟨g,l0,l1,l2,l3⟩:=zOs hw h
  simp only [Zc]
  rw [zHP g,ba,zDJ g l0 (by omega),ba,zw (by omega) (by omega)]
  have e0:winS (hgt w) height (left s.Hi s.Lo) s.Lo []=winS (hgt w) height (left s.Hi (s.Lo+1)) (s.Lo+1) (if hgt w s.Lo<height then [] else addW [] s.Lo (s.Lo+1 - 1)):=by
   rw [zLL l1,Int.add_sub_cancel]
   simp only [winS]
  rw [e0]
  refine zPC (τ:=SpanH×List zB) (lo:=s.Lo+1) (hi:=s.Hi) (by omega) (by omega) (fun a t=>(t,a.1.Span.Lo,a.1.Span.Hi,a.1.Height,a.2)) (fun a t=>(winS (hgt w) height (left s.Hi t) t (if a.1.Height<height then a.2 else addW a.2 a.1.Span.Lo (t - 1)),0)) (fun t a=>a.1.Span.Hi=t - 1∧s.Lo≤a.1.Span.Lo∧a.1.Span.Lo≤t - 1∧zHe s a.1.Span.Lo a.2) (a:=(⟨⟨s.Lo,s.Lo⟩,hgt w s.Lo⟩,[])) rfl ⟨by simp only; omega,by simp only; omega,by simp only; omega,by simp,by simp⟩ (fun a t ht0 ht1 hJ=>?_) (fun a hJ=>?_)
  ·obtain ⟨⟨⟨lo,hi⟩,h⟩,l⟩:=a
   simp only at hJ ⊢
   obtain ⟨rfl,j0,j1,j2⟩:=hJ
   have jl:=j2.1
   unfold zAd
   simp only
   rw [show (Zc w s).2.Hi=s.Hi from rfl,bi (decide_eq_true ht1),zDJ g (by omega) (by omega),ba,zLL ht1]
   simp only [winS]
   have hj3:∀ (a b:Int) (z:List zB),jo t a b z=some (.inl (t+1,a,t,b,z)):=by
    intro a b z
    unfold jo
    rw [zw (by omega) (by omega)]
   by_cases e:hgt w t=h
   ·rw [bi (by simpa using e),hj3]
    refine ⟨(⟨⟨lo,t⟩,h⟩,l),rfl,?_,by simp only; omega,j0,by simp only; omega,j2⟩
    simp only
    rw [e,Int.add_sub_cancel]
    by_cases hh:h<height
    ·simp only [bi hh]
    ·simp only [bg hh]
     have:=zQI l lo (t - 1) t
     rw [Int.sub_add_cancel] at this
     rw [this]
   ·rw [bg (by simpa using e)]
    by_cases hh:h<height
    ·rw [bi (by simpa using hh),hj3]
     refine ⟨(⟨⟨t,t⟩,hgt w t⟩,l),rfl,?_,by simp only; omega,by simp only; omega,by simp only; omega,j2.mono (by simp only; omega)⟩
     simp only [bi hh,Int.add_sub_cancel]
    ·rw [bg (by simpa using hh)]
     rw [zPJ (lo:=lo) (hi:=t - 1) (by omega) (fun z=>jo t t (hgt w t) z) (fun x=>decide (w64 (x.Hi+1)=lo)) (fun x hx=>by have:=j2.2 x hx; rw [zw (by omega) (by omega)])]
     rw [hj3]
     refine ⟨(⟨⟨t,t⟩,hgt w t⟩,addW l lo (t - 1)),rfl,?_,by simp only; omega,by simp only; omega,by simp only; omega,j2.add j0 j1 (by simp only; omega)⟩
     simp only [bg hh,Int.add_sub_cancel]
  ·obtain ⟨⟨⟨lo,hi⟩,h⟩,l⟩:=a
   simp only at hJ ⊢
   obtain ⟨rfl,j0,j1,j2⟩:=hJ
   have jl:=j2.1
   unfold zAd
   simp only
   rw [show (Zc w s).2.Hi=s.Hi from rfl,bg (show ¬ decide (s.Hi+1≤s.Hi)=true by rw [bj]; omega),zQ0]
   simp only [winS]
   unfold QR
   by_cases hh:h<height
   ·rw [bi (by simpa using hh),bi hh]; rfl
   ·rw [bg (by simpa using hh),bg hh]
    rw [zPJ (lo:=lo) (hi:=s.Hi+1 - 1) (by omega) (fun z=>some (z,(0:Int))) (fun x=>decide (w64 (x.Hi+1)=lo)) (fun x hx=>by have:=j2.2 x hx; rw [zw (by omega) (by omega)])]
    rfl
 ·rw [bi (by simp [h]),bg h]
theorem zIE (w:zW) (hw:LenW w) (s:zB) (height:Int):(YQ w s height).1.length≤10081∧∀ x∈(YQ w s height).1,0≤x.Lo∧x.Lo≤x.Hi∧x.Hi≤1048576:=by
 unfold YQ
 split
 ·rename_i h
  obtain ⟨g,l0,l1,l2,l3⟩:=zOs hw h
  have:=zLi (H:=hgt w) (height:=height) (s:=s) (left s.Hi s.Lo) s.Lo [] (Int.le_refl _) ⟨by simp,by simp⟩
  have e:s.Lo+(left s.Hi s.Lo:Nat)=s.Hi+1:=by unfold left; omega
  rw [e] at this
  refine ⟨by have:=this.1; simp only; omega,fun x hx=>?_⟩
  have:=this.2 x hx
  omega
 ·simp
end Go.Mx
