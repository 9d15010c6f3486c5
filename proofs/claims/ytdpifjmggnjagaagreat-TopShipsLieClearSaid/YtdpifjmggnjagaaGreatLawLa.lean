/- Part of the proof of TopShipsLieClear: plain laws about the functions of M, no program in sight. Conditions: none. -/
import Derived.Test.YtdpifjmggnjagaaGreatLawHr
import Derived.Test.YtdpifjmggnjagaaGreatLawHw
set_option linter.unusedVariables false
set_option linter.unusedSimpArgs false
namespace Go.Mh
open Go.Mx
structure Guested (g:ZO):Prop where
 l:Len g.Ship.Holds
 w:zDj g.Load
theorem Guested.of {g:ZO} (h:zER g):Guested g:=⟨h.1.2.2.2.2.1.1,zDj.ok h.2.1⟩
def zRo (g:ZO) (n:Int):Prop:=chkL g.Ship g.Load=0∧∃ x,yh g.Ship g.Load=some (n,x,0)
def Called (l:List ZO) (c:List zV):Prop:=c.length=l.length∧∀ i (hi:i<l.length) (hc:i<c.length),∃ n,n≤8000∧zRo l[i] n∧c[i]=⟨((i+1:Nat):Int),max 0 n,l[i].From,l[i].To,l[i].Long⟩
theorem zMi {l:List ZO} (hl:l.length≤3) (hg:∀ g∈l,Guested g):∃ r,zAt l=some r∧(r.2=true→Called l r.1):=by
 unfold zAt
 refine lp_inv' (fun i s=>s.1=(i:Int)∧s.2.length=i∧∀ j (hj:j<l.length) (hc:j<s.2.length),∃ n,n≤8000∧zRo l[j] n∧s.2[j]=⟨((j+1:Nat):Int),max 0 n,l[j].From,l[j].To,l[j].Long⟩) _ l.length (by omega) ⟨rfl,rfl,fun j hj hc=>by simp at hc⟩ fun i s hi hI=>?_
 obtain ⟨x1,l3⟩:=s
 simp only at hI
 obtain ⟨rfl,h2,h3⟩:=hI
 unfold zCy
 simp only
 by_cases hip:i<l.length
 ·have hG:=hg _ (bz hip)
  rw [bi (by simpa using hip),ZY hip,ba]
  by_cases hs:Q7 l[i].Ship l[i].Load=true
  ·rw [hs]
   simp only [Bool.not_true,Bool.not_false,gb,if_true,Bool.false_or]
   rw [zFW _ _ hG.l hG.w,ba]
   by_cases hk:chkL l[i].Ship l[i].Load=0
   ·obtain ⟨n,x,d1,d2,d3,d4,_⟩:=zGq hG.l hG.w hk
    rw [bg (by simp [hk]),d1,ba]
    by_cases hn:n≤8000
    ·rw [bg (by simp; omega),Js (by simp; omega),ba,w64s i (by omega)]
     refine .inl ⟨hip,_,rfl,rfl,by simp [h2],?_⟩
     intro j hj hc
     simp only at hc ⊢
     by_cases e:j<l3.length
     ·rw [List.getElem_append_left e]; exact h3 j hj e
     ·have ej:j=i:=by simp at hc; omega
      subst ej
      refine ⟨n,hn,⟨hk,x,d1⟩,?_⟩
      rw [List.getElem_append_right (by omega)]
      simp
    ·rw [bi (by simp; omega)]
     exact .inr ⟨_,rfl,fun q=>by cases q⟩
   ·rw [bi (by simp [hk])]
    exact .inr ⟨_,rfl,fun q=>by cases q⟩
  ·rw [Bool.not_eq_true] at hs
   rw [hs]
   simp only [Bool.not_false,Bool.not_true,gb,Bool.false_eq_true,if_false,Bool.true_or,if_true]
   exact .inr ⟨([],false),rfl,fun q=>by cases q⟩
 ·rw [bg (by simpa using hip)]
  exact .inr ⟨(l3,true),rfl,fun _=>⟨by simp only; omega,fun j hj hc=>h3 j hj hc⟩⟩
theorem zRX {s:zH} {l:zQ} {n:Int} {x:List Int} (h:yh s l=some (n,x,0)) (hb : -30000000000000000≤n∧n≤30000000000000000) {depth keel:Int} (h1:0≤depth∧depth≤65536) (h2:0≤keel∧keel≤5000):zDH s l depth keel=some (decide (n+keel≤depth),0):=by
 unfold zDH
 rw [h,ba,bg (by simp),bg (by simp [zT]; omega)]
 simp only
 rw [Zm (by omega)]
def outL (x t:List Int):List zB:=(List.range x.length).map fun i=>⟨0,gI x i - gI t i⟩
theorem zLo : ∀ (a b:List Int),a.length=b.length→(∀ i,i<a.length→gI a i≤gI b i)→a.sum≤b.sum
 | [],[],_,_=>by simp
 | [],_ :: _,h,_=>by simp at h
 | _ :: _,[],h,_=>by simp at h
 | x :: a,y :: b,h,hh=>by
  have h0:x≤y:=hh 0 (by simp)
  have h1:=zLo a b (by simpa using h) fun i hi=>hh (i+1) (by simpa using hi)
  simp only [List.sum_cons]; omega
theorem zQi : ∀ (x t:List Int),t.length=x.length→Jh (outL x t)=0∧Jl (outL x t)=x.sum - t.sum:=by
 have key:∀ (x t:List Int),t.length=x.length→Jh (List.zipWith (fun a b=>(⟨0,a - b⟩:zB)) x t)=0∧Jl (List.zipWith (fun a b=>(⟨0,a - b⟩:zB)) x t)=x.sum - t.sum:=by
  intro x
  induction x with
  | nil =>
      intro t h; cases t with
      | nil=>exact ⟨rfl,rfl⟩
      | cons b r=>simp at h
  | cons a x ih =>
          intro t h; cases t with
          | nil=>simp at h
          | cons b t =>
           have:=ih t (by simpa using h)
           simp only [Jh,Jl,List.zipWith_cons_cons,bw,List.sum_cons] at *
           omega
 intro x t h
 have e:outL x t=List.zipWith (fun a b=>(⟨0,a - b⟩:zB)) x t:=by
  refine List.ext_getElem (by simp [outL,h]) fun i h1 h2=>?_
  have hx:i<x.length:=by simpa [outL] using h1
  simp [outL,Jb hx,Jb (show i<t.length by omega)]
 rw [e]; exact key x t h
theorem zM9 : ∀ (rs:List zq) (hs:List zB) (os:List zB),rs.length=hs.length→os.length=hs.length→(∀ i (h1:i<rs.length) (h2:i<hs.length) (h3:i<os.length),0≤os[i].Lo∧os[i].Lo≤os[i].Hi∧os[i].Hi≤rs[i].Room∧os[i].Lo≤hs[i].Hi)→zJT rs hs os=true
 | [],[],[],_,_,_=>rfl
 | [],[],_ :: _,_,h,_=>by simp at h
 | [],_ :: _,_,h,_,_=>by simp at h
 | _ :: _,[],_,h,_,_=>by simp at h
 | _ :: _,_ :: _,[],_,h,_=>by simp at h
 | r :: rs,h :: hs,o :: os,e1,e2,hh=>by
  have h0:=hh 0 (by simp) (by simp) (by simp)
  simp only [List.getElem_cons_zero] at h0
  have ih:=zM9 rs hs os (by simpa using e1) (by simpa using e2) fun i q1 q2 q3=>hh (i+1) (Nat.succ_lt_succ q1) (Nat.succ_lt_succ q2) (Nat.succ_lt_succ q3)
  simp only [zJT,zDZ,ih,Bool.and_true,bn,bj,Bool.not_eq_true',decide_eq_false_iff_not]
  omega
theorem zKz {rest:Int}:∀ (hs:List zq) (l:List zB),l.length=hs.length→(∀ i (h1:i<l.length) (h2:i<hs.length),zDZ l[i] hs[i].Room=true)→zDl rest hs l=rest
 | [],[],_,_=>rfl
 | [],_ :: _,h,_=>by simp at h
 | _ :: _,[],h,_=>by simp at h
 | h :: hs,x :: l,e,hh=>by
  have h0:=hh 0 (by simp) (by simp)
  simp only [List.getElem_cons_zero] at h0
  simp only [zDl,h0,if_true]
  exact zKz hs l (by simpa using e) fun i q1 q2=>hh (i+1) (Nat.succ_lt_succ q1) (Nat.succ_lt_succ q2)
theorem zQG {s:zH} {l:zQ} {x t:List Int} (hk:chkL s l=0) (hl:Len s.Holds) (hw:zDj l) (hx:Fit l x) (ht:t.length=x.length) (hb:∀ i,i<x.length→0≤gI t i∧gI t i≤gI x i) :
  ∃ b e,zA2 s l (outL x t)=some (b,e)∧(e=2∨(e=0∧chkL s b=0∧zDj b∧b.Holds.length=x.length∧∀ z:List Int,z.length=x.length→(∀ i,i<x.length→gI t i≤gI z i∧gI z i≤gI x i)→Fit b z)):=by
 have hg:=JL.of hk
 have hcs:chk s=0:=by unfold chkL at hk; split at hk <;> assumption
 have hn:=hg.lenL
 have hxl:=hx.len
 have hsl:=hg.len
 have hol:(outL x t).length=x.length:=by simp [outL]
 obtain ⟨o1,o2⟩:=zQi x t ht
 have hr:=hx.rms hg
 have x65:∀ i,i<x.length→gI x i≤65536:=fun i hi=>by have:=hr.x65 hg.ship i (by omega); omega
 have hxs:=hr.sum
 have hms:=hr.mass hg.ship
 have hlt:=hg.ship.light
 have hall:=hg.all
 have xall:=hx.all
 have htx:=zLo t x ht fun i hi=>(hb i (by omega)).2
 have ht0:0≤t.sum:=(zN9 t fun i hi=>(hb i (by omega)).1).1
 have eW:w64 (Jl (outL x t))=x.sum - t.sum:=by rw [o2,Zm (by omega)]
 have eL:w64 (Jh (outL x t))=0:=by rw [o1]; rfl
 have hBl:(zBi l (outL x t)).Holds.length=x.length:=by simp [zBi,hol]; omega
 have hoi:∀ i (h:i<(outL x t).length),(outL x t)[i]=⟨0,gI x i - gI t i⟩:=fun i h=>by simp [outL]
 have hBi:∀ i (h:i<(zBi l (outL x t)).Holds.length) (h2:i<l.Holds.length),(zBi l (outL x t)).Holds[i]=⟨max 0 (l.Holds[i].Lo - (gI x i - gI t i)),l.Holds[i].Hi⟩:=fun i h h2=>by
  have hi:i<x.length:=by omega
  have hs:=hx.span i hi h2
  have hh:=hb i hi
  have h65:=x65 i hi
  have hsp:=hg.spans i h2 _ _ (List.getElem?_eq_getElem h2) (List.getElem?_eq_getElem (show i<s.Holds.length by omega))
  have hroom:=(hg.ship.hold _ (bz (show i<s.Holds.length by omega))).1
  simp only [zBi,List.getElem_zipWith,zJu,hoi]
  rw [Zm (by omega),Zm (by omega)]
  simp
 have hBa:(zBi l (outL x t)).All=⟨max 0 (l.All.Lo - (x.sum - t.sum)),l.All.Hi⟩:=by
  simp only [zBi,eW,eL]
  rw [Zm (by omega),Zm (by omega)]
  simp
 have hfit:∀ z:List Int,z.length=x.length→(∀ i,i<x.length→gI t i≤gI z i∧gI z i≤gI x i)→Fit (zBi l (outL x t)) z:=fun z hz hh=>by
  have z1:=zLo t z (by omega) fun i hi=>(hh i (by omega)).1
  have z2:=zLo z x hz fun i hi=>(hh i (by omega)).2
  refine ⟨by omega,fun i h1 h2=>?_,by rw [hBa]; simp only; omega⟩
  have hi:i<x.length:=by omega
  have hs:=hx.span i hi (by omega)
  have hb':=hb i hi
  have hh':=hh i hi
  rw [hBi i h2 (by omega),← Jb h1]
  rw [← Jb hi] at hs
  simp only; omega
 have hft:=hfit t ht fun i hi=>⟨Int.le_refl _,(hb i hi).2⟩
 obtain ⟨s1,s2⟩:=zFk _ _ hft.len hft.span
 have hfa:=hft.all
 have hload:zHI s (zBi l (outL x t))=0∨zHI s (zBi l (outL x t))=2:=by
  unfold zHI
  rw [bi (by rw [hBl]; omega),zKz _ _ (by omega) fun i h1 h2=>?_]
  ·unfold allE
   rw [hBa] at hfa ⊢
   simp only at hfa ⊢
   rw [bg (by omega)]
   split
   ·exact .inr rfl
   ·rw [bg (by omega)]; exact .inl rfl
  ·have hi:i<x.length:=by omega
   rw [hBi i h1 (by omega)]
   have hs:=hx.span i hi (by omega)
   rw [← Jb hi] at hs
   have hh:=hb i hi
   have hsp:=hg.spans i (by omega) _ _ (List.getElem?_eq_getElem (show i<l.Holds.length by omega)) (List.getElem?_eq_getElem h2)
   simp only [zDZ,bn,bj]
   omega
 rw [zOc s l _ hl hw (by omega)]
 unfold zMj
 rw [bi hk,bi (by omega),bi (zM9 _ _ _ (by omega) (by omega) fun i h1 h2 h3=>?_)]
 ·unfold zHd
  rw [eL,bg (by omega)]
  rcases hload with h | h
  ·rw [bi h]
   exact ⟨_,_,rfl,.inr ⟨rfl,by unfold chkL; rw [bi hcs]; exact h,leftW l _,hBl,hfit⟩⟩
  ·rw [bg (by omega),h]
   exact ⟨_,_,rfl,.inl rfl⟩
 ·have hi:i<x.length:=by omega
  rw [hoi]
  have hh:=hb i hi
  have hrb:=hr.b i h1
  rw [zMQ h1] at hrb
  have hs:=hx.span i hi h2
  rw [← Jb hi] at hs
  have hsp:=hg.spans i h2 _ _ (List.getElem?_eq_getElem h2) (List.getElem?_eq_getElem h1)
  simp only; omega
theorem zNj {g:ZO} {y1:List ZH×Int} {b:zQ} {en:zA} {t x:List Int} (hG:Guested g) (hu:Unl ⟨g.Ship,x,t,50⟩) (he:End ⟨g.Ship,x,t,50⟩ en) (hl:y1.1.length≤60) (ht:Trail ⟨g.Ship,x,t,50⟩ en yl y1.1)
  (hk:chkL g.Ship b=0) (hW:zDj b) (hbl:b.Holds.length=x.length) (hf:∀ z:List Int,z.length=x.length→(∀ i,i<x.length→gI t i≤gI z i∧gI z i≤gI x i)→Fit b z):Lp (qW g y1 (b,0)) fuel (0,x)=some true:=by
 have hn:=hu.n
 simp only at hn
 have hgb:=JL.of hk
 have hcs:=hu.chk
 simp only at hcs
 obtain ⟨n,w,d1,d2,d3,d4,_⟩:=zGq hG.l hW hk
 have e0:x=bhL ⟨g.Ship,x,t,50⟩ yl:=(zPV hu).symm
 refine (jK (body:=qW g y1 (b,0)) (s0:=(0,x)) y1.1 (by omega) (fun (d:zA) i=>(i,bhL ⟨g.Ship,x,t,50⟩ d)) (fun _ _=>true) (fun i d=>Val en d∧Trail ⟨g.Ship,x,t,50⟩ en d (y1.1.drop i)) (a:=yl) (by rw [← e0]) ⟨Val.zero he,ht⟩ (fun d i hi hJ=>?_) fun d _=>?_)
 ·left
  obtain ⟨hv,ht⟩:=hJ
  rw [List.drop_eq_getElem_cons hi] at ht
  obtain ⟨k,k1,k2,k3,k4,k5,k6⟩:=ht
  simp only at k1
  have hv2:=hv.inc (show k<8 by omega) k3
  have hb2:=zEk hu (hv2.small he) k k1
  have hb1:=zEk hu (hv.small he) k k1
  have hr:=hu.rng k k1
  have hkb:k<(bhL ⟨g.Ship,x,t,50⟩ d).length:=by rw [qw]; exact k1
  have hrm:=zOq hu (hv2.small he)
  have hzl:(bhL ⟨g.Ship,x,t,50⟩ (incD d k)).length=x.length:=qw _ _
  have hz:=hf _ hzl fun i hi=>by
   rw [zDw _ _ i hi]
   have:=zEk hu (hv2.small he) i hi
   exact ⟨this.1,this.2.1⟩
  have hdz:=d4 _ hz
  unfold qW
  simp only
  have e1:w64 (bh ⟨g.Ship,x,t,50⟩ d k - y1.1[i].Mass)=bh ⟨g.Ship,x,t,50⟩ (incD d k) k:=by rw [k4,Zm (by omega)]; omega
  rw [bi (by simpa using hi),ZY hi,ba,k2,bg (by simp; omega),jU hkb,zDw _ d k k1,ba,ba,e1,jh,zPW d k1 (by omega),zRD _ _ _ hG.l hW (by unfold Len; omega) (by unfold Len; omega),ba,(zRG hgb _).2 hz,bg (by simp [hk]),zJ1 hcs hrm,ba,d1,ba,bg ?_,w64s' hi (by omega)]
  ·exact ⟨incD d k,rfl,trivial,hv2,k6⟩
  ·simp only [decide_true,Bool.not_true,Bool.or_self,Bool.false_or,bj]
   unfold Qd at hdz
   omega
 ·unfold qW zA8
  simp only
  rw [bg (by simp)]; rfl
theorem zRR {g:ZO} {t x:List Int} (hG:Guested g) (hk:chkL g.Ship g.Load=0) (hx:Fit g.Load x) (ht:t.length=x.length) (hb:∀ i,i<x.length→0≤gI t i∧gI t i≤gI x i):qV g (x,true) t=some true:=by
 have hg:=JL.of hk
 have hcs:chk g.Ship=0:=by unfold chkL at hk; split at hk <;> assumption
 have hn:=hg.lenL
 have hxl:=hx.len
 have hr:=hx.rms hg
 have hrt:Rms g.Ship t:=⟨by rw [ht,hr.len],fun i hi=>by
  have h1:=hr.b i hi
  have h2:=hb i (by rw [hr.len]; exact hi)
  omega⟩
 have x65:∀ i,i<x.length→gI x i≤65536:=fun i hi=>by have:=hr.x65 hg.ship i (by rw [← hr.len]; exact hi); omega
 obtain ⟨r,q1,q2⟩:=zOO (s:=g.Ship) (from_:=x) (to:=t) (step:=50) hG.l
 have hld:zB3 g.Ship [x,t]=0:=by
  unfold zB3
  rw [bi hcs,bi (by simp only [List.all_cons,List.all_nil,Bool.and_true,bn]; exact ⟨(zG2 _ _).2 hr,(zG2 _ _).2 hrt⟩)]
 have hle:leB x t=true:=(zIz x t).2 fun i hi=>(hb i hi).2
 unfold qV
 simp only
 rw [q1,ba]
 rcases q2 with ⟨e1,rfl⟩ | ⟨_,hu,he,hsum,hprod,hs1,hs2,⟨e2,htr⟩ | ⟨rfl,_⟩⟩
 ·have:ordE g.Ship x t 50=2∨ordE g.Ship x t 50=4:=by
   unfold ordE at e1 ⊢
   rw [bi hld,bi ⟨hle,by decide,by decide⟩] at e1 ⊢
   split
   ·rename_i h1
    rw [bi h1] at e1
    split
    ·rename_i h2; rw [bi h2] at e1; exact absurd rfl e1
    ·exact .inr rfl
   ·exact .inl rfl
  rw [bi (by simpa using e1)]
  rcases this with h | h <;> rw [h] <;> rfl
 ·have hlen:(r.1.length:Int)=sumD (endK ⟨g.Ship,x,t,50⟩ x.length):=by
   have:=htr.len hu.n
   rw [zHm] at this; omega
  have hco:YM g.Ship x r.1=some (t,-1,0):=zH7 hu he r.1 (by omega) htr
  rw [bg (by simp [e2]),hco,ba,bg (by simp)]
  obtain ⟨b,e,b1,b2⟩:=zQG hk hG.l hG.w hx ht hb
  have hj:qU g (x,true) r (outL x t)=some true:=by
   unfold qU
   rw [b1,ba]
   rcases b2 with rfl | ⟨rfl,c1,c2,c3,c4⟩
   ·rfl
   ·rw [bg (by simp),Js (by simp; omega),ba,List.nil_append]
    exact zNj hG hu he (by omega) htr c1 c2 c3 c4
  suffices hq:∃ q,Lp (zCd g (x,true) t r) fuel (0,[])=some q∧q=true by obtain ⟨q,hq,rfl⟩:=hq; exact hq
  refine lp_inv' (fun i s=>s=((i:Int),(outL x t).take i)) _ x.length (by omega) (by simp) fun i s hi hI=>?_
  subst hI
  unfold zCd
  simp only
  by_cases hip:i<x.length
  ·have hb':=hb i hip
   have h65:=x65 i hip
   have hol:i<(outL x t).length:=by simpa [outL] using hip
   rw [bi (by simpa using hip),jU hip,ba,jU (show i<t.length by omega),ba,Js (by simp; omega),ba,Zm (a:=gI x i - gI t i) (by omega),w64s i (by omega)]
   refine .inl ⟨hip,_,rfl,?_⟩
   rw [← List.take_append_getElem hol]
   simp [outL]
  ·have ei:i=x.length:=by omega
   subst ei
   rw [bg (by simp),List.take_of_length_le (by simp [outL]),hj]
   exact .inr ⟨true,rfl,rfl⟩
 ·rw [bi (by simp)]; rfl
theorem zOl {g:ZO} {by_ out:List Int} (hG:Guested g) (hk:chkL g.Ship g.Load=0) (h1:zHF by_) (h2:zHF out):zDy g by_ out=some true:=by
 have hg:=JL.of hk
 obtain ⟨x,x1,x2⟩:=zIS hg by_ h1
 have hn:=hg.lenL
 have hxl:=x2.len
 have hr:=x2.rms hg
 have x65:∀ i,i<x.length→0≤gI x i∧gI x i≤65536:=fun i hi=>by
  have h0:=hr.b i (by rw [← hr.len]; exact hi)
  have:=hr.x65 hg.ship i (by rw [← hr.len]; exact hi); omega
 have hol:=h2.1
 unfold zDy
 rw [x1,ba,bg (by simp),Js (by simp; omega),ba,List.nil_append]
 suffices hq:∃ q,Lp (zCc g out (x,true) x) fuel (0,x)=some q∧q=true by obtain ⟨q,hq,rfl⟩:=hq; exact hq
 refine lp_inv' (fun i s=>s.1=(i:Int)∧s.2.length=x.length∧∀ j,j<x.length→0≤gI s.2 j∧gI s.2 j≤gI x j) _ x.length (by omega) ⟨rfl,rfl,fun j hj=>⟨(x65 j hj).1,Int.le_refl _⟩⟩ fun i s hi hI=>?_
 obtain ⟨x11,l8⟩:=s
 simp only at hI
 obtain ⟨rfl,c1,c2⟩:=hI
 unfold zCc
 simp only
 by_cases hip:i<x.length
 ·have hj7:∀ z,QE (i:Int) z=some (.inl (((i+1:Nat):Int),z)):=fun z=>by unfold QE; rw [w64s i (by omega)]
  rw [bi (by simpa using hip)]
  by_cases hio:i<out.length
  ·have hu:=h2.2 _ (bz hio)
   have hu0:0≤out[i]∧out[i]≤65535:=hu
   have ci:=c2 i hip
   have h65:=x65 i hip
   obtain ⟨q,r1,r2,r3⟩:=zO5 hu0.1 hu0.2 (show 1≤gI l8 i+1 by omega)
   have il:i<l8.length:=by omega
   rw [bi (by simpa using hio),jU il,ba,ZY hio,ba,ba,Zm (a:=gI l8 i+1) (by omega),r1,ba,ba,Zm (by omega),jh,hj7]
   refine .inl ⟨hip,_,rfl,rfl,by simp [c1],fun j hj=>?_⟩
   simp only
   rw [jw il]
   split
   ·rename_i e; subst e; omega
   ·exact c2 j hj
  ·rw [bg (by simpa using hio),hj7]
   exact .inl ⟨hip,_,rfl,rfl,c1,c2⟩
 ·rw [bg (by simpa using hip),zRR hG hk x2 c1 c2]
  exact .inr ⟨true,rfl,rfl⟩
end Go.Mh
