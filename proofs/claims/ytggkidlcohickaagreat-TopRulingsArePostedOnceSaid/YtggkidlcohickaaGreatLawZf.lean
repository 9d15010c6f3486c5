/- Part of the proof of TopRulingsArePostedOnce: plain laws about the functions of M, no program in sight. Conditions: none. -/
import Derived.Test.YtggkidlcohickaaGreatLawZe
set_option linter.unusedVariables false
set_option linter.unusedSimpArgs false
namespace Go.Mx
theorem jF {y z:zA}:Zl y=Zl z↔y.Case=z.Case∧y.Kind=z.Kind∧y.Round=z.Round∧y.From=z.From∧y.Voted=z.Voted∧y.Finding=z.Finding:=by
 unfold Zl
 simp
theorem zBf (y z:zA):Jj y z=decide (Zl y=Zl z):=by
 unfold Jj
 rw [Bool.eq_iff_iff,decide_eq_true_eq,jF]
 simp [and_assoc]
def ddF (k:Int) (D:List zA) (x:zA):List zA:=if x.Case=k∧D.any (fun y=>decide (Zl y=Zl x))=false then D++[x] else D
def dd (k:Int) (P:List zA):List zA:=P.foldl (ddF k) []
theorem Yj (l:List zA) (x:zA) (a k:Int):YZ (l++[x]) a k=zEL a k (YZ l a k) x:=by simp [YZ,List.foldl_append]
theorem zIj {l:List zA} {a k:Int}:0≤(YZ l a k).1∧∀ y∈l,y.Kind=4→y.Case=k→y.From=a→y.Round≤(YZ l a k).1:=by
 refine yT (motive:=fun l=>0≤(YZ l a k).1∧∀ y∈l,y.Kind=4→y.Case=k→y.From=a→y.Round≤(YZ l a k).1) ⟨by simp [YZ],fun y hy=>by cases hy⟩ (fun l x ih=>?_) l
 rw [Yj]
 unfold zEL
 split
 ·rename_i hc
  refine ⟨by have:=ih.1; simp only; omega,fun y hy q1 q2 q3=>?_⟩
  rcases List.mem_append.1 hy with hy | hy
  ·have:=ih.2 y hy q1 q2 q3; simp only; omega
  ·rw [List.mem_singleton] at hy; subst hy; exact Int.le_refl _
 ·rename_i hc
  refine ⟨ih.1,fun y hy q1 q2 q3=>?_⟩
  rcases List.mem_append.1 hy with hy | hy
  ·exact ih.2 y hy q1 q2 q3
  ·rw [List.mem_singleton] at hy; subst hy
   rcases Int.lt_or_le (YZ l a k).1 y.Round with h | h
   ·exact absurd ⟨q1,q2,q3,h⟩ hc
   ·exact h
theorem zJo (l:List zA) (a k:Int):YZ l a k=(0,0)∨∃ y∈l,y.Kind=4∧y.Case=k∧y.From=a∧y.Round=(YZ l a k).1∧y.Finding=(YZ l a k).2∧0<y.Round:=by
 refine yT (motive:=fun l=>YZ l a k=(0,0)∨∃ y∈l,y.Kind=4∧y.Case=k∧y.From=a∧y.Round=(YZ l a k).1∧y.Finding=(YZ l a k).2∧0<y.Round) (.inl rfl) (fun l x ih=>?_) l
 rw [Yj]
 have h0:=(zIj (l:=l) (a:=a) (k:=k)).1
 unfold zEL
 split
 ·rename_i hc
  exact .inr ⟨x,by simp,hc.1,hc.2.1,hc.2.2.1,rfl,rfl,by omega⟩
 ·rcases ih with ih | ⟨y,h1,h2⟩
  ·exact .inl ih
  ·exact .inr ⟨y,List.mem_append_left _ h1,h2⟩
theorem zIM (l:List zA) (a k r:Int) (hr:0<r):spkS l a k<r↔∀ y∈l,wrdS a k y=true→y.Round<r:=by
 refine yT (motive:=fun l=>spkS l a k<r↔∀ y∈l,wrdS a k y=true→y.Round<r) (by simp [spkS,hr]) (fun l x ih=>?_) l
 have e:spkS (l++[x]) a k=spkF a k (spkS l a k) x:=by simp [spkS,List.foldl_append]
 rw [e]
 unfold spkF
 simp only [List.forall_mem_append,List.forall_mem_singleton]
 split
 ·rename_i hw
  rw [← ih]
  constructor
  ·intro h; exact ⟨by omega,fun _=>by omega⟩
  ·rintro ⟨h1,h2⟩; have:=h2 hw; omega
 ·rename_i hw
  rw [← ih]
  exact ⟨fun h=>⟨h,fun h2=>absurd h2 hw⟩,fun h=>h.1⟩
theorem mem_prm {c:zD} {l:List zA} {k r:Int} (hf:∀ y∈l,0≤y.From∧y.From<c.Arbiters) (y:zA):y∈prmS c l k r↔l.find? (isP k r y.From)=some y:=by
 unfold prmS
 rw [List.mem_filterMap]
 constructor
 ·rintro ⟨a,h1,h2⟩
  have h3:=List.find?_some h2
  simp only [isP,Bool.and_eq_true,decide_eq_true_eq] at h3
  rw [h3.2]; exact h2
 ·intro h
  obtain ⟨q1,q2⟩:=hf y (List.mem_of_find?_eq_some h)
  exact ⟨y.From.toNat,by rw [List.mem_range]; omega,by rw [show ((y.From.toNat:Nat):Int)=y.From by omega]; exact h⟩
def Qs (c:zD) (l:List zA):Prop := ∀ i (h:i<l.length),lawS c (l.take i) l[i]=true
theorem zAE {c:zD} {P:List zA} {x:zA}:Qs c (P++[x])↔Qs c P∧lawS c P x=true:=by
 constructor
 ·intro h
  refine ⟨fun i hi=>?_,?_⟩
  ·have:=h i (by simp; omega)
   rw [List.getElem_append_left hi,List.take_append_of_le_length (by omega)] at this
   exact this
  ·have:=h P.length (by simp)
   simpa using this
 ·rintro ⟨h1,h2⟩ i hi
  by_cases c:i<P.length
  ·rw [List.getElem_append_left c,List.take_append_of_le_length (by omega)]
   exact h1 i c
  ·have e:i=P.length:=by simp at hi; omega
   subst e
   simpa using h2
structure Fm (c:zD) (x:zA):Prop where
 from_:0≤x.From∧x.From<c.Arbiters
 round:1≤x.Round∧x.Round≤1048576
 case:1≤x.Case
 kind:x.Kind=1∨x.Kind=2∨x.Kind=3∨x.Kind=4
 voted:x.Kind=2→0≤x.Voted∧x.Voted<x.Round
theorem zFl {c:zD} {x:zA} (h:fmB c x=true):Fm c x:=by
 unfold fmB at h
 simp only [Bool.and_eq_true] at h
 obtain ⟨⟨⟨⟨⟨⟨⟨h0,h1⟩,h2⟩,h3⟩,h4⟩,h5⟩,h6⟩,h7⟩:=h
 have g1:=jQ.1 h1
 have g2:=jQ.1 h2
 have g3:=jQ.1 h3
 refine ⟨⟨g3.1,by omega⟩,g2,g1.1,?_,fun k=>?_⟩
 ·unfold kdB at h7
  by_cases k1:x.Kind=1
  ·exact .inl k1
  ·by_cases k2:x.Kind=2
   ·exact .inr (.inl k2)
   ·by_cases k3:x.Kind=3
    ·exact .inr (.inr (.inl k3))
    ·rw [if_neg k1,if_neg k2,if_neg k3] at h7
     simp only [Bool.and_eq_true,decide_eq_true_eq] at h7
     exact .inr (.inr (.inr h7.1))
 ·unfold kdB at h7
  rw [if_neg (by omega),if_pos k] at h7
  simp only [Bool.and_eq_true] at h7
  have:=jQ.1 h7.1.2
  omega
theorem zCo {c:zD} {P:List zA}:Qs c P→∀ {y z:zA} {k r:Int},y∈P→z∈P→isK 3 k r y=true→isK 3 k r z=true→y.Finding=z.Finding:=by
 refine yT (motive:=fun P=>Qs c P→∀ {y z:zA} {k r:Int},y∈P→z∈P→isK 3 k r y=true→isK 3 k r z=true→y.Finding=z.Finding) (fun _ y z k r h=>by cases h) (fun P x ih=>?_) P
 intro hL y z k r hy hz ky kz
 obtain ⟨hL1,hL2⟩:=zAE.1 hL
 -- what stands for the new letter
 have key:∀ w,w∈P→isK 3 k r w=true→isK 3 k r x=true→w.Finding=x.Finding:=by
  intro w hw kw kx
  unfold lawS at hL2
  have hx:x.Kind=3∧x.Case=k∧x.Round=r:=by simpa [isK,and_assoc] using kx
  split at hL2
  ·rename_i ha
   obtain ⟨v,v1,v2⟩:=List.any_eq_true.1 ha
   rw [zBf] at v2
   have h3:=jF.1 (by simpa using v2:Zl v=Zl x)
   have kv:isK 3 k r v=true:=by simp [isK,h3.1,h3.2.1,h3.2.2.1,hx.1,hx.2.1,hx.2.2]
   exact (ih hL1 hw v1 kw kv).trans h3.2.2.2.2.2
  ·rw [if_neg (by omega),if_neg (by omega),if_pos hx.1] at hL2
   simp only [Bool.and_eq_true,Bool.not_eq_true'] at hL2
   have:=List.any_eq_false.1 hL2.1 w hw
   rw [hx.2.1,hx.2.2] at this
   exact absurd kw this
 rcases List.mem_append.1 hy with y1 | y1
 ·rcases List.mem_append.1 hz with z1 | z1
  ·exact ih hL1 y1 z1 ky kz
  ·rw [List.mem_singleton.1 z1] at kz ⊢; exact key y y1 ky kz
 ·rcases List.mem_append.1 hz with z1 | z1
  ·rw [List.mem_singleton.1 y1] at ky ⊢; exact (key z z1 kz ky).symm
  ·rw [List.mem_singleton.1 y1,List.mem_singleton.1 z1]
end Go.Mx
