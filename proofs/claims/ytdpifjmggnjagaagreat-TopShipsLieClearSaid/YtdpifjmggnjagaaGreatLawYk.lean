/- Part of the proof of TopShipsLieClear: plain laws about the functions of M, no program in sight. Conditions: none. -/
import Derived.Test.YtdpifjmggnjagaaGreatLawYi
set_option linter.unusedVariables false
set_option linter.unusedSimpArgs false
namespace Go.Mx
theorem zQx {α ρ:Type} (l:List α) (hl:l.length≤9223372036854775807) {body:Int→Option (Int ⊕ ρ)} (r:ρ) (step:∀ (i:Nat) (hi:i<l.length),body (i:Int)=some (.inl ((i+1:Nat):Int))) (last:body (l.length:Int)=some (.inr r)):Lp body fuel 0=some r :=
 jK l hl (fun (_:Unit) i=>i) (fun _ _=>r) (fun _ _=>True) (a:=()) rfl trivial (fun _ i hi _=>.inl ⟨(),step i hi,rfl,trivial⟩) fun _ _=>last
theorem zOr {h:zN} (hg:zDT h) {a b:zy} (ha:a∈h.Berths) (hb:b∈h.Berths) (e:a.ID=b.ID):a=b:=by
 obtain ⟨p,hp,rfl⟩:=List.getElem_of_mem ha
 obtain ⟨q,hq,rfl⟩:=List.getElem_of_mem hb
 rcases Nat.lt_trichotomy p q with w | w | w
 ·exact absurd e (List.pairwise_iff_getElem.1 hg.bd p q hp hq w)
 ·subst w; rfl
 ·exact absurd e.symm (List.pairwise_iff_getElem.1 hg.bd q p hq hp w)
theorem zQK {h:zN} (hg:zDT h) {n:Int} (h0:0≤n) (h1:n≤1048576):zAu h.Water n=some (hgt h.Water n,0):=by
 rw [zQL _ hg.lw]
 unfold zMN
 rw [bi hg.c,bi ⟨h0,h1⟩]
structure Mat (b:zI) (μ:Nat→Option Nat):Prop where
 c:∀ r k,μ r=some k→r<b.calls.length∧k<b.slots.length∧canB b r k=true
 i:∀ r q k,μ r=some k→μ q=some k→r=q
def dom (b:zI) (μ:Nat→Option Nat):List Nat:=(List.range b.calls.length).filter fun r=>(μ r).isSome
theorem zLa (b:zI) (μ:Nat→Option Nat):(dom b μ).Nodup:=List.Nodup.sublist List.filter_sublist List.nodup_range
theorem zIw {b:zI} {μ:Nat→Option Nat} {r:Nat}:r∈dom b μ↔r<b.calls.length∧(μ r).isSome=true:=by unfold dom; rw [List.mem_filter,cd]
def muOf (b:zI) (s:Nat→Nat):Nat→Option Nat:=fun r=>if r<b.calls.length∧s r<b.slots.length then some (s r) else none
def sOf (b:zI) (μ:Nat→Option Nat):Nat→Nat:=fun r=>(μ r).getD (b.slots.length+r)
theorem zFr {b:zI} {s:Nat→Nat} {r k:Nat}:muOf b s r=some k↔r<b.calls.length∧k<b.slots.length∧s r=k:=by
 unfold muOf
 by_cases h:r<b.calls.length∧s r<b.slots.length
 ·rw [bi h]
  constructor
  ·intro e; cases e; exact ⟨h.1,h.2,rfl⟩
  ·rintro ⟨_,_,e⟩; rw [e]
 ·rw [bg h]
  constructor
  ·intro e; cases e
  ·rintro ⟨a,c,e⟩; exact absurd ⟨a,by rw [e]; exact c⟩ h
theorem zOT {b:zI} {s:Nat→Nat} (h:AsgB b s) (hs:OkB b s):Mat b (muOf b s):=by
 refine ⟨fun r k e=>?_,fun r q k e1 e2=>?_⟩
 ·obtain ⟨h1,h2,rfl⟩:=zFr.1 e
  rcases hs r h1 with e | ⟨_,e⟩
  ·omega
  ·exact ⟨h1,h2,e⟩
 ·obtain ⟨h1,h2,h3⟩:=zFr.1 e1
  obtain ⟨h4,h5,h6⟩:=zFr.1 e2
  exact h.inj r q h1 h4 (by rw [h3,h6])
theorem zD1 {b:zI} {μ:Nat→Option Nat} (h:Mat b μ) (r:Nat):(μ r=none∧sOf b μ r=b.slots.length+r)∨∃ k,μ r=some k∧sOf b μ r=k∧k<b.slots.length:=by
 unfold sOf
 cases e:μ r with
 | none=>exact .inl ⟨rfl,rfl⟩
 | some k=>exact .inr ⟨k,rfl,rfl,(h.c r k e).2.1⟩
theorem asg_of {b:zI} {μ:Nat→Option Nat} (h:Mat b μ):AsgB b (sOf b μ)∧OkB b (sOf b μ):=by
 refine ⟨⟨fun r hr=>?_,fun r q hr hq e=>?_⟩,fun r hr=>?_⟩
 ·rcases zD1 h r with ⟨_,e⟩ | ⟨k,_,e,hk⟩ <;> omega
 ·rcases zD1 h r with ⟨a1,a2⟩ | ⟨k,a1,a2,a3⟩ <;> rcases zD1 h q with ⟨c1,c2⟩ | ⟨m,c1,c2,c3⟩
  ·omega
  ·omega
  ·omega
  ·exact h.i r q k a1 (by rw [c1]; congr 1; omega)
 ·rcases zD1 h r with ⟨a1,a2⟩ | ⟨k,a1,a2,a3⟩
  ·exact .inl a2
  ·exact .inr (by rw [a2]; exact ⟨a3,(h.c r k a1).2.2⟩)
theorem dom_sOf {b:zI} {μ:Nat→Option Nat} (h:Mat b μ):dom b (muOf b (sOf b μ))=dom b μ:=by
 unfold dom
 refine List.filter_congr fun r hr=>?_
 rw [cd] at hr
 rcases zD1 h r with ⟨a1,a2⟩ | ⟨k,a1,a2,a3⟩
 ·unfold muOf; rw [bg (by omega),a1]
 ·unfold muOf; rw [bi ⟨hr,by omega⟩,a1]; rfl
def zHg (b:zI):Prop := ∀ r,r<b.calls.length→gI b.old r = -1
theorem zJC (f:Nat→Int) (p:Nat→Bool):∀ R:List Nat,(∀ r∈R,f r=if p r=true then -1000 else 0)→(R.map f).sum = -1000*((R.filter p).length:Int)
 | [],_=>by simp
 | a :: R,h=>by
  have ih:=zJC f p R fun r hr=>h r (bq _ hr)
  rw [bw,List.sum_cons,ih,h a bp,List.filter_cons]
  by_cases e:p a=true
  ·rw [bi e,bi e,bt]; omega
  ·rw [bg e,bg e]; omega
theorem zLj {b:zI} (ho:zHg b) {s:Nat→Nat} (hs:OkB b s):totB b [] s = -1000*((dom b (muOf b s)).length:Int):=by
 unfold totB dom
 refine zJC _ _ _ fun r hr=>?_
 rw [cd] at hr
 have:=ho r hr
 have e0:rowF b [] r (s r)=zCQ b r (s r):=by unfold rowF; rw [bg (fun z:r<([]:List Int).length∧_=>by simp at z)]
 rw [e0]
 rcases hs r hr with e | ⟨e1,e2⟩
 ·have e3:muOf b s r=none:=by unfold muOf; rw [bg (by omega)]
  have e4:zCQ b r (s r)=0:=by unfold zCQ; rw [bi e]
  rw [e3,e4]; rfl
 ·have e3:muOf b s r=some (s r):=by unfold muOf; rw [bi ⟨hr,e1⟩]
  have e4:zCQ b r (s r) = -1000:=by unfold zCQ; rw [bg (by omega),bi ⟨e1,e2⟩,bg (by omega)]
  rw [e3,e4]; rfl
structure MaxM (b:zI) (m:Nat):Prop where
 e:∃ μ,Mat b μ∧(dom b μ).length=m
 m:∀ μ,Mat b μ→(dom b μ).length≤m
theorem MaxM.uniq {b:zI} {m n:Nat} (h:MaxM b m) (g:MaxM b n):m=n:=by
 obtain ⟨μ,a1,a2⟩:=h.e
 obtain ⟨ν,c1,c2⟩:=g.e
 have:=h.m ν c1; have:=g.m μ a1; omega
theorem zNt {b:zI} (hB:BOK b) (ho:zHg b) {out:List Int} {want:Int} (h:Best b [] out want):MaxM b (dom b (muOf b (fun r=>(gI out r).toNat))).length∧want = -1000*((dom b (muOf b (fun r=>(gI out r).toNat))).length:Int):=by
 obtain ⟨w0,w1⟩:=zKN hB h
 have e:=zLj ho w1
 refine ⟨⟨⟨_,zOT h.a w1,rfl⟩,fun μ hμ=>?_⟩,by rw [h.e]; exact e⟩
 obtain ⟨a1,a2⟩:=asg_of hμ
 have:=h.m _ a1
 rw [h.e,e,zLj ho a2,dom_sOf hμ] at this
 omega
theorem zQw {b:zI} (hB:BOK b) (ho:zHg b):∃ (m:Nat) (out:List Int) (want:Int),jX b []=some (out,want)∧Best b [] out want∧MaxM b m∧want = -1000*(m:Int)∧m=(dom b (muOf b (fun r=>(gI out r).toNat))).length:=by
 obtain ⟨out,want,b1,b2⟩:=zEI hB (fixed:=[]) (by simp)
 obtain ⟨m1,m2⟩:=zNt hB ho b2
 exact ⟨_,out,want,b1,b2,m1,m2,rfl⟩
def muF (f:List Int):Nat→Option Nat:=fun r=>if r<f.length∧0≤gI f r then some (gI f r).toNat else none
theorem zII (b:zI):∀ (f:List Int) (i:Nat),(zAx b i f).length=((List.range f.length).filter fun r=>(muF f r).isSome).length
 | [],i=>rfl
 | a :: f,i=>by
  rw [zAx,List.length_append,zII b f (i+1),bt,List.range_succ_eq_map,List.filter_cons,List.filter_map]
  have e0:(muF (a :: f) 0).isSome=decide (0≤a):=by
   have eg:gI (a :: f) 0=a:=rfl
   unfold muF
   rw [eg]
   by_cases h:0≤a
   ·rw [bi ⟨by simp,h⟩]; simp [h]
   ·rw [bg (fun z=>h z.2)]; simp [h]
  have e1:((fun r=>(muF (a :: f) r).isSome)∘Nat.succ)=fun r=>(muF f r).isSome:=by
   funext r
   have eg:gI (a :: f) (r+1)=gI f r:=rfl
   simp only [Function.comp,muF,bt,Nat.succ_eq_add_one]
   rw [eg]
   by_cases h:r<f.length∧0≤gI f r
   ·rw [bi (show r+1<f.length+1∧_ from ⟨by omega,h.2⟩),bi h]
   ·rw [bg (fun z:r+1<f.length+1∧_=>h ⟨by omega,z.2⟩),bg h]
  rw [e0,e1]
  unfold zGu
  by_cases h:a<0
  ·rw [bi h,bg (by simp; omega)]; simp
  ·rw [bg h,bi (by simp; omega)]; simp; omega
theorem zQe {b:zI} {want:Int} {f:List Int} (h:zGK b want b.calls.length f):∃ s,AsgB b s∧OkB b s∧zKR b f s∧totB b [] s=want∧muOf b s=muF f∧Mat b (muF f):=by
 obtain ⟨s,q1,q2,q3,q4⟩:=h.c
 have hl:=h.l
 have e:muOf b s=muF f:=by
  funext r
  unfold muOf muF
  by_cases hr:r<b.calls.length
  ·have hs:=q3 r (by omega)
   unfold fixK at hs
   rcases h.v r hr with w | ⟨k,w1,w2,w3⟩
   ·rw [bi (by omega)] at hs
    rw [bg (by omega),bg (by omega)]
   ·rw [bg (by omega)] at hs
    rw [bi ⟨hr,by omega⟩,bi ⟨by omega,by omega⟩]
    congr 1; omega
  ·rw [bg (fun z=>hr z.1),bg (fun z=>hr (by omega))]
 exact ⟨s,q1,q2,q3,q4,e,by rw [← e]; exact zOT q1 q2⟩
theorem zQf {b:zI} (ho:zHg b) {m:Nat} {f:List Int} (h:zGK b (-1000*(m:Int)) b.calls.length f):(zAx b 0 f).length=m∧(dom b (muF f)).length=m:=by
 obtain ⟨s,q1,q2,q3,q4,q5,q6⟩:=zQe h
 have e:=zLj ho q2
 rw [q4,q5] at e
 have e2:=zII b f 0
 rw [h.l] at e2
 have e3:(dom b (muF f)).length=((List.range b.calls.length).filter fun r=>(muF f r).isSome).length:=rfl
 omega
theorem zJv (h:zN) (l:List zV):zHg (zg h l):=by
 intro r hr
 have hr':r<l.length:=hr
 rw [Jb (by simpa [zg] using hr')]
 simp [zg]
theorem Plan_eq {h:zN} {l:List zV} (hh:LenH h) (hl:Len l) (ec:zB9 h l=0):∃ (m:Nat) (f:List Int),qP h l=some (zAx (zg h l) 0 f,0)∧MaxM (zg h l) m∧zGK (zg h l) (-1000*(m:Int)) l.length f:=by
 have hg:=JL.of hh ec
 obtain ⟨out,want,b1,b2⟩:=zEI (zEX hg) (fixed:=[]) (by simp)
 obtain ⟨b4,b5⟩:=zNt (zEX hg) (zJv h l) b2
 obtain ⟨f,p1,p2⟩:=plan_eq (zEX hg) b2 b1
 refine ⟨_,f,?_,b4,by rw [← b5]; exact p1⟩
 unfold qP
 rw [zCF h hh l hl,ba,bg (by simp [ec]),zMI hg.h hg.n (fun c hc=>zCV.of (hg.r c hc)),ba,p2]; rfl
end Go.Mx
