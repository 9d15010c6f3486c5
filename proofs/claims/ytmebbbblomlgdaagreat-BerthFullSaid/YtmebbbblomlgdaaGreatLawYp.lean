/- Part of the proof of BerthFull: plain laws about the functions of M, no program in sight. Conditions: none. -/
import Derived.Test.YtmebbbblomlgdaaGreatLawYi
set_option linter.unusedVariables false
set_option linter.unusedSimpArgs false
namespace Go.Mx
theorem zOG {α ρ:Type} (l:List α) (p:α→Bool) {i:Nat} (hi:i≤l.length) (hl:Len l) {body:Int→Option (Int ⊕ ρ)} (x y:ρ) (step:∀ (k:Nat) (hk:k<i),body (k:Int)=if p (l[k]'(by omega))=true then some (.inr x) else some (.inl ((k+1:Nat):Int))) (last:body (i:Int)=some (.inr y)):Lp body fuel 0=some (if (l.take i).any p=true then x else y):=by
 obtain ⟨r,h1,h2⟩:=lp_inv' (body:=body) (s0:=0) (fun k s=>s=(k:Int)∧(l.take k).any p=false) (fun r=>r=if (l.take i).any p=true then x else y) i (by unfold Len at hl; omega) ⟨rfl,by simp⟩ fun k s hk hI=>by
  obtain ⟨rfl,hI⟩:=hI
  by_cases e:k<i
  ·have hkl:k<l.length:=by omega
   by_cases c:p l[k]=true
   ·refine .inr ⟨x,by rw [step k e,if_pos c],?_⟩
    rw [if_pos]
    rw [List.any_eq_true]
    exact ⟨l[k],List.mem_take_iff_getElem.2 ⟨k,by omega,rfl⟩,c⟩
   ·refine .inl ⟨e,_,by rw [step k e,if_neg c],rfl,?_⟩
    rw [List.take_succ_eq_append_getElem hkl,List.any_append,hI]
    simpa using c
  ·have e2:k=i:=by omega
   subst e2
   exact .inr ⟨y,last,by rw [if_neg (by rw [hI]; simp)]⟩
 rw [h1,h2]
theorem zNq (s:zC):yI s=zBP s:=(show yI s=JI s from rfl).trans (zKS s)
theorem zMJ (h:zG) (hh:LenH h):zBA h=some (Qj h):=by
 unfold zBA Qj
 rw [zNZ _ hh.w,Option.bind_some]
 by_cases h0:qR h.Water=0
 ·rw [if_pos h0,if_neg (by simp [h0])]
  by_cases h1:6<h.Berths.length∨12<h.Tides.length
  ·rw [if_pos h1,if_pos (by simp; omega)]
  ·rw [if_neg h1,if_neg (by simp; omega)]
   refine Zw h.Berths hh.b (fun (_:List zT) i=>i) (zEF (zBs (zD6 h) (-1) h.Tides)) (fun i a=>a=h.Berths.take i) (a:=[]) rfl (by simp) (fun a i hi hJ=>?_) (fun a _=>?_)
   ·subst hJ
    unfold zAB
    rw [if_pos (by simpa using hi),ZY hi]
    simp only [Option.bind_some,zEF]
    by_cases hg:zDE h.Berths[i]=true
    ·rw [if_pos hg]
     have hg2:=hg
     simp only [zDE,decide_eq_true_eq] at hg2
     have e1:ZT h.Berths[i].ID 1 1099511627776=true:=by simp [ZT]; omega
     have e2:ZT h.Berths[i].Depth 0 8000=true:=by simp [ZT]; omega
     simp only [gb,e1,Bool.not_true,Bool.not_false,if_true,Option.bind_some,e2,Bool.or_false,Bool.false_eq_true,if_false]
     rw [zOG h.Berths (fun x=>decide (x.ID=h.Berths[i].ID)) (Nat.le_of_lt hi) hh.b (.inr 6) (.inl ((i+1:Nat):Int)) (fun k hk=>by
      unfold zAA
      rw [if_pos (by simpa using hk),ZY (by omega),Option.bind_some,ZY hi,Option.bind_some]
      by_cases c:(h.Berths[k]'(by omega)).ID=h.Berths[i].ID
      ·rw [if_pos (by simpa using c),if_pos (by simpa using c)]
      ·rw [if_neg (by simpa using c),if_neg (by simpa using c),w64s' (show k<h.Berths.length by omega) hh.b]) (by
      unfold zAA QB
      rw [if_neg (by simp),w64s' hi hh.b]; rfl)]
     by_cases hc:((h.Berths.take i).any fun x=>decide (x.ID=h.Berths[i].ID))=true
     ·right; rw [if_pos hc,if_pos hc]
     ·left
      rw [if_neg hc,if_neg hc]
      exact ⟨_,rfl,rfl,by rw [List.take_succ_eq_append_getElem hi]⟩
    ·right
     rw [if_neg hg]
     simp only [zDE,decide_eq_true_eq] at hg
     by_cases e1:ZT h.Berths[i].ID 1 1099511627776=true
     ·have e2:ZT h.Berths[i].Depth 0 8000=false:=by
       simp [ZT] at e1 ⊢; omega
      simp only [gb,e1,Bool.not_true,Bool.not_false,if_true,Option.bind_some,e2,Bool.or_true]
     ·have e1':ZT h.Berths[i].ID 1 1099511627776=false:=by simpa using e1
      simp [gb,e1']
   ·unfold zAB
    rw [if_neg (by simp)]
    unfold QD
    rw [Zw h.Tides hh.t (fun (_:Int) i=>i) (zBs (zD6 h)) (fun i a=>a=if i=0 then -1 else (h.Tides.getD (i - 1) default).Hi) (a := -1) rfl rfl (fun a i hi hJ=>?_) (fun a _=>?_)]
    ·rfl
    ·unfold zAC
     rw [if_pos (by simpa using hi),ZY hi,Option.bind_some,zNq]
     simp only [zBs]
     by_cases ht:zBP h.Tides[i]=true
     ·have ht2:=ht
      simp only [zBP,decide_eq_true_eq] at ht2
      by_cases i0:i=0
      ·left
       subst i0
       rw [if_pos rfl] at hJ
       rw [if_pos ⟨ht,by omega⟩]
       simp only [gb,ht]
       refine ⟨_,?_,rfl,?_⟩
       ·rw [if_neg (by simp)]; simp; rw [zf (by omega) (by omega)] <;> rfl
       ·rw [if_neg (by omega),Nat.add_sub_cancel,getD_lt hi]
      ·rw [if_neg i0] at hJ
       have ei:(0:Int)<(i:Int):=by omega
       have hp:ix h.Tides (w64 ((i:Int) - 1))=some (h.Tides.getD (i - 1) default):=by
        have hlt:=hh.t
        unfold Len at hlt
        rw [zf (by omega) (by omega),show (i:Int) - 1=((i - 1:Nat):Int) by omega,zBi (d:=default) (by omega)]
       simp only [gb,ht,ei,decide_true,Bool.not_true,Bool.not_false,Bool.true_and,if_true,Option.bind_some,Bool.false_or]
       rw [hp,Option.bind_some,← hJ]
       by_cases c:a<h.Tides[i].Lo
       ·left
        have rr:(if True∧a<h.Tides[i].Lo then zBs (zD6 h) h.Tides[i].Hi (h.Tides.drop (i+1)) else 1)=zBs (zD6 h) h.Tides[i].Hi (h.Tides.drop (i+1)):=if_pos ⟨trivial,c⟩
        rw [rr,if_neg (by simp; omega),w64s' hi hh.t]
        exact ⟨_,rfl,rfl,by rw [if_neg (by omega),Nat.add_sub_cancel,getD_lt hi]⟩
       ·right
        have rr:(if True∧a<h.Tides[i].Lo then zBs (zD6 h) h.Tides[i].Hi (h.Tides.drop (i+1)) else 1)=1:=if_neg fun z=>c z.2
        rw [rr,if_pos (by simp; omega)]
     ·right
      have ht':zBP h.Tides[i]=false:=by simpa using ht
      rw [if_neg (fun z=>ht z.1)]
      simp [gb,ht']
    ·unfold zAC
     rw [if_neg (by simp)]
     unfold QC zD6
     simp only [zBs]
     by_cases hk:0≤h.Keel∧h.Keel≤8000
     ·rw [if_pos hk,if_neg (by simp [ZT]; omega)]; rfl
     ·rw [if_neg hk,if_pos (by simp [ZT]; omega)]; rfl
 ·rw [if_neg h0,if_pos (by simp [h0])]
theorem valid_eq (c:zJ):qX c=zBQ c:=by
 unfold qX zBQ ZT
 rw [Bool.eq_iff_iff]
 simp only [Bool.and_eq_true,decide_eq_true_eq]
 constructor <;> intro h <;> omega
theorem YH (h:zG) (hh:LenH h) (l:List zJ) (hl:Len l):jq h l=some (jm h l):=by
 unfold jq jm
 rw [zMJ h hh,Option.bind_some]
 by_cases h0:Qj h=0
 ·rw [if_pos h0,if_neg (by simp [h0])]
  by_cases h1:10<l.length
  ·rw [if_pos h1,if_pos (by simp; omega)]
  ·rw [if_neg h1,if_neg (by simp; omega)]
   refine Zw l hl (fun (_:List zJ) i=>i) zEl (fun i a=>a=l.take i) (a:=[]) rfl (by simp) (fun a i hi hJ=>?_) (fun a _=>?_)
   ·subst hJ
    unfold yY
    rw [if_pos (by simpa using hi),ZY hi]
    simp only [Option.bind_some,zEl,valid_eq]
    by_cases hg:zBQ l[i]=true
    ·rw [if_pos hg,if_neg (by simp [hg]),zOG l (fun x=>decide (x.ID=l[i].ID)) (Nat.le_of_lt hi) hl (.inr 6) (.inl ((i+1:Nat):Int)) (fun k hk=>by
      unfold yX
      rw [if_pos (by simpa using hk),ZY (by omega),Option.bind_some,ZY hi,Option.bind_some]
      by_cases c:(l[k]'(by omega)).ID=l[i].ID
      ·rw [if_pos (by simpa using c),if_pos (by simpa using c)]
      ·rw [if_neg (by simpa using c),if_neg (by simpa using c),w64s' (show k<l.length by omega) hl]) (by
      unfold yX JY
      rw [if_neg (by simp),w64s' hi hl]; rfl)]
     by_cases hc:((l.take i).any fun x=>decide (x.ID=l[i].ID))=true
     ·right; rw [if_pos hc,if_pos hc]
     ·left
      rw [if_neg hc,if_neg hc]
      exact ⟨_,rfl,rfl,by rw [List.take_succ_eq_append_getElem hi]⟩
    ·right
     rw [if_neg hg,if_pos (by simpa using hg)]
   ·unfold yY
    rw [if_neg (by simp)]; rfl
 ·rw [if_neg h0,if_pos (by simp [h0])]
theorem zM4 (h:zG) (hl:Len h.Berths) (id:Int):zA8 h id=some (yK (fun b=>decide (b.ID=id)) h.Berths 0):=by
 unfold zA8
 exact zE4 (body:=Y8 h id) (fun b=>decide (b.ID=id)) h.Berths hl (fun i hi=>by
  unfold Y8
  rw [if_pos (by simpa using hi),ZY hi,Option.bind_some,w64s' hi hl]) (by
  unfold Y8
  rw [if_neg (by simp)]; rfl)
theorem zOe {h:zG} (hg:Qp h) {i:Nat} {b:zT} (hb:ix h.Berths (i:Int)=some b) (hbm:b∈h.Berths) {t:Int} (t0:0≤t) (t1:t≤1048576):zA7 h (i:Int) t=some (b.Depth+hgt h.Water t):=by
 obtain ⟨b0,b1,b2,b3⟩:=hg.bs b hbm
 have:=zJZ hg.g t
 unfold zA7
 rw [hb,Option.bind_some,At_eq hg.g t0 (by omega),Option.bind_some,zf (by omega) (by omega)]
theorem zLf (h:zG) (hh:LenH h):∃ y,zBF h=some y:=by
 unfold zBF
 obtain ⟨r,h1,_⟩:=lp_inv' (body:=zAN h) (s0:=0) (fun i s=>s=(i:Int)) (fun _=>True) h.Tides.length (by have:=hh.t; unfold Len at this; omega) rfl fun i s hi hI=>by
  subst hI
  unfold zAN
  by_cases e:i<h.Tides.length
  ·rw [if_pos (by simpa using e),ZY e,Option.bind_some,Option.bind_some]
   split
   ·exact .inr ⟨_,rfl,trivial⟩
   ·exact .inl ⟨e,_,rfl,w64s' e hh.t⟩
  ·rw [if_neg (by simpa using e)]
   exact .inr ⟨_,rfl,trivial⟩
 exact ⟨r,h1⟩
theorem zMF {h:zG} (hg:Qp h) {a b:zT} (ha:a∈h.Berths) (hb:b∈h.Berths) (e:a.ID=b.ID):a=b:=by
 obtain ⟨p,hp,rfl⟩:=List.getElem_of_mem ha
 obtain ⟨q,hq,rfl⟩:=List.getElem_of_mem hb
 rcases Nat.lt_trichotomy p q with w | w | w
 ·exact absurd e (List.pairwise_iff_getElem.1 hg.bd p q hp hq w)
 ·subst w; rfl
 ·exact absurd e.symm (List.pairwise_iff_getElem.1 hg.bd q p hq hp w)
theorem zHI (h:zG) (c:zJ):∀ (ts:List zC) (i:Nat),(jc h c i ts).length≤h.Berths.length*ts.length
 | [],i=>by simp [jc]
 | t :: r,i=>by
  have:=zHI h c r (i+1)
  have:=zDb h c i t h.Berths
  simp only [jc,List.length_append,List.length_cons,Nat.mul_succ]; omega
theorem zMx {h:zG} (hg:Qp h) (c:zJ):(jc h c 0 h.Tides).length≤72:=by
 have:=zHI h c h.Tides 0
 have:h.Berths.length*h.Tides.length≤6*12:=Nat.mul_le_mul hg.nb hg.nt
 omega
theorem zOE {h:zG} {c:zJ} {x:zB}:x∈(jc h c 0 h.Tides).map (·.1)↔∃ (j:Nat) (hj:j<h.Tides.length),∃ b∈h.Berths,x=⟨(j:Int),b.ID⟩∧(qi h c h.Tides[j] b).2=true:=by
 rw [List.mem_map]
 constructor
 ·rintro ⟨⟨y,s⟩,hy,rfl⟩
  obtain ⟨j,hj,b,hb,q1,q2,_⟩:=zEz.1 hy
  exact ⟨j,hj,b,hb,by simpa using q1,q2⟩
 ·rintro ⟨j,hj,b,hb,rfl,q⟩
  exact ⟨(_,_),zEz.2 ⟨j,hj,b,hb,by simp,q,rfl⟩,rfl⟩
def zLS (H:Int→Int) (nd lo hi long a:Int):Prop:=lo≤a∧a+long - 1≤hi∧∀ m,a≤m→m≤a+long - 1→nd≤H m
def zEL (H:Int→Int) (nd lo hi long:Int) (r:zC×Bool):Prop:=(∃ a,zLS H nd lo hi long a∧(∀ a',zLS H nd lo hi long a'→a≤a')∧r=(⟨a,a+long - 1⟩,true))∨((∀ a,¬ zLS H nd lo hi long a)∧r=(⟨0,0⟩,false))
theorem zEL.uniq {H:Int→Int} {nd lo hi long:Int} {r r':zC×Bool} (h:zEL H nd lo hi long r) (h':zEL H nd lo hi long r'):r=r':=by
 rcases h with ⟨a,h1,h2,rfl⟩ | ⟨h1,rfl⟩
 ·rcases h' with ⟨b,h3,h4,rfl⟩ | ⟨h3,rfl⟩
  ·have:=h2 b h3
   have:=h4 a h1
   have e:a=b:=by omega
   rw [e]
  ·exact absurd h1 (h3 a)
 ·rcases h' with ⟨b,h3,h4,rfl⟩ | ⟨h3,rfl⟩
  ·exact absurd h3 (h1 b)
  ·rfl
theorem zGa (long:Int):∀ l:List zC,(∃ x pre post,l=pre++x :: post∧zCn long l=(x,0)∧long≤x.Hi - x.Lo+1∧∀ y∈pre,y.Hi - y.Lo+1<long)∨((zCn long l).2=5∧∀ x∈l,x.Hi - x.Lo+1<long)
 | []=>.inr ⟨rfl,fun x hx=>by cases hx⟩
 | x :: r=>by
  unfold zCn
  by_cases hc:long≤x.Hi - x.Lo+1
  ·rw [if_pos hc]; exact .inl ⟨x,[],r,rfl,rfl,hc,fun y hy=>by cases hy⟩
  ·rw [if_neg hc]
   rcases zGa long r with ⟨y,pre,post,h1,h2,h3,h4⟩ | ⟨h1,h2⟩
   ·refine .inl ⟨y,x :: pre,post,by rw [h1]; rfl,h2,h3,fun z hz=>?_⟩
    rcases List.mem_cons.1 hz with rfl | hz
    ·omega
    ·exact h4 z hz
   ·refine .inr ⟨h1,fun y hy=>?_⟩
    rcases List.mem_cons.1 hy with rfl | hy
    ·omega
    ·exact h2 y hy
theorem zLY {h:zG} (hg:Qp h) {c:zJ} {t:zC} {b:zT} (ht:t∈h.Tides) (hF:0≤c.From) (hL:1≤c.Long):zEL (hgt h.Water) (need h b c.Draught) (max t.Lo c.From) (min t.Hi c.To) c.Long (qi h c t b):=by
 obtain ⟨t0,t1,t2,t3⟩:=hg.ts t ht
 unfold qi
 by_cases hs:min t.Hi c.To<max t.Lo c.From
 ·rw [if_pos hs]
  exact .inr ⟨fun a h=>by have:=h.1; have:=h.2.1; omega,rfl⟩
 ·rw [if_neg hs]
  obtain ⟨w1,w2⟩:=zIi (s:=⟨max t.Lo c.From,min t.Hi c.To⟩) hg.lw hg.c (need h b c.Draught) (by simp only; omega) (by simp only; omega) (by simp only; omega) (by simp only; omega)
  unfold zEe
  rw [if_pos w1,if_neg (show ¬ c.Long<1 by omega)]
  generalize (yD h.Water ⟨max t.Lo c.From,min t.Hi c.To⟩ (need h b c.Draught)).1=l at *
  have hblk:∀ a,zLS (hgt h.Water) (need h b c.Draught) (max t.Lo c.From) (min t.Hi c.To) c.Long a→∃ x∈l,x.Lo≤a∧a+c.Long - 1≤x.Hi:=fun a ⟨r1,r2,r3⟩=>by
   obtain ⟨x,hx,x1,x2⟩:=w2.block (a:=a) r1 (c.Long - 1).toNat (by simp only; omega) (fun m q0 q1=>r3 m q0 (by omega))
   exact ⟨x,hx,x1,by omega⟩
  rcases zGa c.Long l with ⟨x,pre,post,n1,n2,n3,n4⟩ | ⟨n1,n2⟩
  ·rw [n2,if_pos rfl]
   have hxl:x∈l:=by rw [n1]; simp
   obtain ⟨p1,p2,p3,p4⟩:=w2.ins _ hxl
   simp only at p1 p3
   refine .inl ⟨x.Lo,⟨p1,by omega,fun m h0 h1=>p4 m h0 (by omega)⟩,fun a' hr=>?_,rfl⟩
   obtain ⟨y,hy,y1,y2⟩:=hblk a' hr
   rw [n1] at hy
   rcases List.mem_append.1 hy with hy | hy
   ·have:=n4 y hy; omega
   ·rcases List.mem_cons.1 hy with rfl | hy
    ·exact y1
    ·have hp:=w2.gap
     rw [n1] at hp
     have:=(List.pairwise_cons.1 (List.pairwise_append.1 hp).2.1).1 y hy
     omega
  ·rw [if_neg (by omega)]
   refine .inr ⟨fun a hr=>?_,rfl⟩
   obtain ⟨y,hy,y1,y2⟩:=hblk a hr
   have:=n2 y hy
   omega
theorem zLj {h:zG} (hg:Qp h) {c:zJ} {t:zC} {b:zT} (ht:t∈h.Tides) (hb:b∈h.Berths) {k:Nat} (hk:ix h.Berths (k:Int)=some b) (h0:0≤c.Draught) (h1:c.Draught≤8000) (hF:0≤c.From) (hL:1≤c.Long) (hL2:c.Long≤1440):Lp (Qx h c t (k:Int)) fuel (0,max t.Lo c.From)=some (qi h c t b):=by
 obtain ⟨t0,t1,t2,t3⟩:=hg.ts t ht
 obtain ⟨b0,b1,b2,b3⟩:=hg.bs b hb
 have k0:=hg.k0; have k1:=hg.k1
 have hw:=zLY hg (b:=b) ht hF hL
 have hcmp:∀ n:Int,decide (b.Depth+hgt h.Water n<w64 (c.Draught+h.Keel))=decide (hgt h.Water n<need h b c.Draught):=fun n=>by
  rw [zf (by omega) (by omega)]
  unfold need
  rw [Bool.eq_iff_iff,decide_eq_true_eq,decide_eq_true_eq]
  omega
 obtain ⟨r,q1,q2⟩:=lp_inv' (body:=Qx h c t (k:Int)) (s0:=(0,max t.Lo c.From)) (fun (i:Nat) (s:Int×Int) => ∃ run n,s=(run,n)∧n=max t.Lo c.From+(i:Int)∧0≤run∧run<c.Long∧run≤(i:Int)∧(∀ m,n - run≤m→m<n→need h b c.Draught≤hgt h.Water m)∧(run=(i:Int)∨hgt h.Water (n - run - 1)<need h b c.Draught)∧∀ a,zLS (hgt h.Water) (need h b c.Draught) (max t.Lo c.From) (min t.Hi c.To) c.Long a→n≤a+c.Long - 1)
  (fun r=>zEL (hgt h.Water) (need h b c.Draught) (max t.Lo c.From) (min t.Hi c.To) c.Long r) (min t.Hi c.To+1 - max t.Lo c.From).toNat (by omega) ⟨0,_,rfl,by simp,Int.le_refl _,by omega,Int.le_refl _,fun m _ _=>by omega,.inl rfl,fun a ha=>by have:=ha.1; omega⟩ fun i s hi hI=>by
   obtain ⟨run,n,rfl,e,i1,i2,i3,i4,i5,i6⟩:=hI
   unfold Qx
   by_cases hle:n≤min t.Hi c.To
   ·simp only [hle,decide_true,if_true]
    rw [show max 0 (k:Int)=(k:Int) by omega,zOe hg hk hb (by omega) (by omega),Option.bind_some,hcmp]
    unfold Yn
    by_cases hlow:hgt h.Water n<need h b c.Draught
    ·have nl : ¬ (0:Int)=c.Long:=by omega
     simp only [hlow,decide_true,if_true,nl,decide_false,Bool.false_eq_true,if_false]
     refine .inl ⟨by omega,_,rfl,0,_,rfl,by rw [zf (by omega) (by omega)]; omega,Int.le_refl _,by omega,by omega,fun m h0 h1=>?_,.inr ?_,fun a ha=>?_⟩
     ·rw [zf (by omega) (by omega)] at h0 h1; omega
     ·rw [zf (by omega) (by omega)]
      rw [show n+1 - 0 - 1=n by omega]; exact hlow
     ·rw [zf (by omega) (by omega)]
      have:=i6 a ha
      by_cases ee:n=a+c.Long - 1
      ·have:=ha.2.2 n (by omega) (by omega); omega
      ·omega
    ·simp only [hlow,decide_false,Bool.false_eq_true,if_false]
     rw [zf (n:=run+1) (by omega) (by omega),zf (n:=n - c.Long) (by omega) (by omega),zf (n:=n - c.Long+1) (by omega) (by omega),zf (n:=n+1) (by omega) (by omega)]
     by_cases hfull:run+1=c.Long
     ·simp only [hfull,decide_true,if_true]
      refine .inr ⟨_,rfl,.inl ⟨n - c.Long+1,⟨by omega,by omega,fun m h0 h1=>?_⟩,fun a' ha=>?_,?_⟩⟩
      ·by_cases em:m=n
       ·rw [em]; omega
       ·exact i4 m (by omega) (by omega)
      ·have:=i6 a' ha; omega
      ·rw [show n - c.Long+1+c.Long - 1=n by omega]
     ·simp only [hfull,decide_false,Bool.false_eq_true,if_false]
      refine .inl ⟨by omega,_,rfl,run+1,n+1,rfl,by omega,by omega,by omega,by omega,fun m h0 h1=>?_,?_,fun a ha=>?_⟩
      ·by_cases em:m=n
       ·rw [em]; omega
       ·exact i4 m (by omega) (by omega)
      ·rcases i5 with i5 | i5
       ·left; omega
       ·right
        rw [show n+1 - (run+1) - 1=n - run - 1 by omega]; exact i5
      ·have:=i6 a ha
       by_cases ee:n=a+c.Long - 1
       ·have g1:=ha.1
        rcases i5 with i5 | i5
        ·omega
        ·have:=ha.2.2 (n - run - 1) (by omega) (by omega)
         omega
       ·omega
   ·simp only [hle,decide_false,Bool.false_eq_true,if_false]
    refine .inr ⟨(⟨0,0⟩,false),rfl,.inr ⟨fun a ha=>?_,rfl⟩⟩
    have:=i6 a ha
    have:=ha.2.1
    omega
 rw [q1,hw.uniq q2]
theorem findI {h:zG} (id:Int):(yK (fun b:zT=>decide (b.ID=id)) h.Berths 0 = -1∧h.Berths.find? (fun b=>decide (b.ID=id))=none)∨∃ (i:Nat) (hi:i<h.Berths.length),yK (fun b:zT=>decide (b.ID=id)) h.Berths 0=(i:Int)∧h.Berths.find? (fun b=>decide (b.ID=id))=some h.Berths[i]:=by
 rcases qg (fun b:zT=>decide (b.ID=id)) h.Berths 0 with ⟨h1,h2⟩ | ⟨i,h1,h2,h3,h4⟩
 ·left
  exact ⟨h1,List.find?_eq_none.2 fun x hx=>by rw [h2 x hx]; simp⟩
 ·right
  refine ⟨i,h2,by rw [show (0:Int)=((0:Nat):Int) from rfl,h1,Nat.zero_add],?_⟩
  rw [List.find?_eq_some_iff_getElem]
  exact ⟨h3,i,h2,rfl,fun j hj=>by simpa using h4 j hj⟩
theorem zNp {h:zG} (hg:Qp h) {c:zJ} {x:zB} {t:zC} {b:zT} (ht:ix h.Tides x.Tide=some t) (hb:b∈h.Berths) (hid:b.ID=x.Berth) (h0:0≤c.Draught) (h1:c.Draught≤8000) (hF:0≤c.From) (hL:1≤c.Long) (hL2:c.Long≤1440):zBx h c x=some (qi h c t b):=by
 have htm:t∈h.Tides:=by
  unfold ix at ht
  split at ht
  ·exact List.mem_of_getElem? ht
  ·cases ht
 have hnb:=hg.nb
 unfold zBx
 rw [ht,Option.bind_some,zM4 h (by unfold Len; omega),Option.bind_some]
 rcases findI (h:=h) x.Berth with ⟨_,h2⟩ | ⟨i,hi,q1,q2⟩
 ·have:=List.find?_eq_none.1 h2 b hb
  simp [hid] at this
 ·rw [q1]
  have e:h.Berths[i]=b:=zMF hg (List.getElem_mem hi) hb (by rw [hid]; simpa using List.find?_some q2)
  exact zLj hg htm hb (by rw [ZY hi,e]) h0 h1 hF hL hL2
theorem zIj (h:zG) (c:zJ) (i:Nat) (t:zC) (b:zT) (bs:List zT):(J3 h c i t (b :: bs)).map (·.1)=(if (qi h c t b).2=true then [(⟨(i:Int),b.ID⟩:zB)] else [])++(J3 h c i t bs).map (·.1):=by
 rw [zFE,List.map_append]
 split <;> rfl
theorem zLk {h:zG} (hg:Qp h) {c:zJ} (hc:zDX c) {i:Nat} (hi:i<h.Tides.length) (acc:List zB) (ha:acc.length≤1000):Lp (yx h c (i:Int)) fuel (0,acc)=some (.inl (((i+1:Nat):Int),acc++(J3 h c i h.Tides[i] h.Berths).map (·.1))):=by
 obtain ⟨d0,d1,f0,l0,l1⟩:=hc
 have hnb:=hg.nb; have hnt:=hg.nt
 refine Zw (body:=yx h c (i:Int)) h.Berths (by omega) (fun (a:List zB) k=>(k,a)) (fun a r=>.inl (((i+1:Nat):Int),a++(J3 h c i h.Tides[i] r).map (·.1))) (fun k a=>a.length≤1000+k) (a:=acc) rfl (by omega) (fun a k hk hJ=>?_) (fun a hJ=>?_)
 ·left
  unfold yx
  dsimp only
  rw [if_pos (by simpa using hk),ZY hk,Option.bind_some,zNp (t:=h.Tides[i]) (b:=h.Berths[k]) hg (by rw [ZY hi]) (List.getElem_mem hk) rfl d0 d1 f0 l0 l1,Option.bind_some,zIj]
  unfold yw
  rw [w64s' hk (by omega)]
  by_cases q:(qi h c h.Tides[i] h.Berths[k]).2=true
  ·rw [if_pos q,if_pos q,j5 (by simp; omega),Option.bind_some]
   exact ⟨_,rfl,by simp,by simp; omega⟩
  ·rw [if_neg q,if_neg q]
   exact ⟨_,rfl,by simp,by omega⟩
 ·unfold yx
  dsimp only
  rw [if_neg (by simp)]
  unfold Y5
  rw [w64s' hi (by omega)]
  simp [J3]
theorem zJD {h:zG} (hg:Qp h) {c:zJ} (hc:zDX c):qY h c=some ((jc h c 0 h.Tides).map (·.1)):=by
 have hnt:=hg.nt
 have hnb:=hg.nb
 unfold qY
 have key:=Zw (body:=Y7 h c) h.Tides (by omega) (fun (a:Nat×List zB) k=>(k,a.2)) (fun a r=>a.2++(jc h c a.1 r).map (·.1)) (fun k a=>a.1=k∧a.2.length≤6*k) (a:=(0,[])) (s0:=(0,[])) rfl ⟨rfl,Nat.le_refl _⟩ (fun a k hk hJ=>by
  obtain ⟨j1,j2⟩:=hJ
  left
  unfold Y7
  dsimp only
  rw [if_pos (by simpa using hk)]
  refine ⟨(k+1,a.2++(J3 h c k h.Tides[k] h.Berths).map (·.1)),zLk hg hc hk a.2 (by omega),?_,rfl,?_⟩
  ·rw [j1]
   simp only [jc,List.map_append,List.append_assoc]
  ·have:=zDb h c k h.Tides[k] h.Berths
   simp only [List.length_append,List.length_map]
   omega) (fun a hJ=>by
  unfold Y7
  dsimp only
  rw [if_neg (by simp)]
  simp [Y6,jc])
 rw [key]; simp
end Go.Mx
