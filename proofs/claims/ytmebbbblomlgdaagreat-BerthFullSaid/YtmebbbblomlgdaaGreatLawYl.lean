/- Part of the proof of BerthFull: plain laws about the functions of M, no program in sight. Conditions: none. -/
import Derived.Test.YtmebbbblomlgdaaGreatLawYi
set_option linter.unusedVariables false
set_option linter.unusedSimpArgs false
namespace Go.Mx
structure Mat (b:zL) (μ:Nat→Option Nat):Prop where
 c:∀ r k,μ r=some k→r<b.calls.length∧k<b.slots.length∧canB b r k=true
 i:∀ r q k,μ r=some k→μ q=some k→r=q
def dom (b:zL) (μ:Nat→Option Nat):List Nat:=(List.range b.calls.length).filter fun r=>(μ r).isSome
theorem zCw (b:zL) (μ:Nat→Option Nat):(dom b μ).Nodup:=List.Nodup.sublist List.filter_sublist List.nodup_range
theorem zCK {b:zL} {μ:Nat→Option Nat} {r:Nat}:r∈dom b μ↔r<b.calls.length∧(μ r).isSome=true:=by unfold dom; rw [List.mem_filter,List.mem_range]
def muOf (b:zL) (s:Nat→Nat):Nat→Option Nat:=fun r=>if r<b.calls.length∧s r<b.slots.length then some (s r) else none
def sOf (b:zL) (μ:Nat→Option Nat):Nat→Nat:=fun r=>(μ r).getD (b.slots.length+r)
theorem zEQ {b:zL} {s:Nat→Nat} {r k:Nat}:muOf b s r=some k↔r<b.calls.length∧k<b.slots.length∧s r=k:=by
 unfold muOf
 by_cases h:r<b.calls.length∧s r<b.slots.length
 ·rw [if_pos h]
  constructor
  ·intro e; cases e; exact ⟨h.1,h.2,rfl⟩
  ·rintro ⟨_,_,e⟩; rw [e]
 ·rw [if_neg h]
  constructor
  ·intro e; cases e
  ·rintro ⟨a,c,e⟩; exact absurd ⟨a,by rw [e]; exact c⟩ h
theorem zOF {b:zL} {s:Nat→Nat} (h:AsgB b s) (hs:OkB b s):Mat b (muOf b s):=by
 refine ⟨fun r k e=>?_,fun r q k e1 e2=>?_⟩
 ·obtain ⟨h1,h2,rfl⟩:=zEQ.1 e
  rcases hs r h1 with e | ⟨_,e⟩
  ·omega
  ·exact ⟨h1,h2,e⟩
 ·obtain ⟨h1,h2,h3⟩:=zEQ.1 e1
  obtain ⟨h4,h5,h6⟩:=zEQ.1 e2
  exact h.inj r q h1 h4 (by rw [h3,h6])
theorem zCg {b:zL} {μ:Nat→Option Nat} (h:Mat b μ) (r:Nat):(μ r=none∧sOf b μ r=b.slots.length+r)∨∃ k,μ r=some k∧sOf b μ r=k∧k<b.slots.length:=by
 unfold sOf
 cases e:μ r with
 | none=>exact .inl ⟨rfl,rfl⟩
 | some k=>exact .inr ⟨k,rfl,rfl,(h.c r k e).2.1⟩
theorem asg_of {b:zL} {μ:Nat→Option Nat} (h:Mat b μ):AsgB b (sOf b μ)∧OkB b (sOf b μ):=by
 refine ⟨⟨fun r hr=>?_,fun r q hr hq e=>?_⟩,fun r hr=>?_⟩
 ·rcases zCg h r with ⟨_,e⟩ | ⟨k,_,e,hk⟩ <;> omega
 ·rcases zCg h r with ⟨a1,a2⟩ | ⟨k,a1,a2,a3⟩ <;> rcases zCg h q with ⟨c1,c2⟩ | ⟨m,c1,c2,c3⟩
  ·omega
  ·omega
  ·omega
  ·exact h.i r q k a1 (by rw [c1]; congr 1; omega)
 ·rcases zCg h r with ⟨a1,a2⟩ | ⟨k,a1,a2,a3⟩
  ·exact .inl a2
  ·exact .inr (by rw [a2]; exact ⟨a3,(h.c r k a1).2.2⟩)
theorem dom_sOf {b:zL} {μ:Nat→Option Nat} (h:Mat b μ):dom b (muOf b (sOf b μ))=dom b μ:=by
 unfold dom
 refine List.filter_congr fun r hr=>?_
 rw [List.mem_range] at hr
 rcases zCg h r with ⟨a1,a2⟩ | ⟨k,a1,a2,a3⟩
 ·unfold muOf; rw [if_neg (by omega),a1]
 ·unfold muOf; rw [if_pos ⟨hr,by omega⟩,a1]; rfl
def zHF (b:zL):Prop := ∀ r,r<b.calls.length→gI b.old r = -1
theorem zHL (f:Nat→Int) (p:Nat→Bool):∀ R:List Nat,(∀ r∈R,f r=if p r=true then -1000 else 0)→(R.map f).sum = -1000*((R.filter p).length:Int)
 | [],_=>by simp
 | a :: R,h=>by
  have ih:=zHL f p R fun r hr=>h r (List.mem_cons_of_mem _ hr)
  rw [List.map_cons,List.sum_cons,ih,h a List.mem_cons_self,List.filter_cons]
  by_cases e:p a=true
  ·rw [if_pos e,if_pos e,List.length_cons]; omega
  ·rw [if_neg e,if_neg e]; omega
theorem zMN {b:zL} (ho:zHF b) {s:Nat→Nat} (hs:OkB b s):totB b [] s = -1000*((dom b (muOf b s)).length:Int):=by
 unfold totB dom
 refine zHL _ _ _ fun r hr=>?_
 rw [List.mem_range] at hr
 have:=ho r hr
 have e0:rowF b [] r (s r)=zBK b r (s r):=by unfold rowF; rw [if_neg (fun z:r<([]:List Int).length∧_=>by simp at z)]
 rw [e0]
 rcases hs r hr with e | ⟨e1,e2⟩
 ·have e3:muOf b s r=none:=by unfold muOf; rw [if_neg (by omega)]
  have e4:zBK b r (s r)=0:=by unfold zBK; rw [if_pos e]
  rw [e3,e4]; rfl
 ·have e3:muOf b s r=some (s r):=by unfold muOf; rw [if_pos ⟨hr,e1⟩]
  have e4:zBK b r (s r) = -1000:=by unfold zBK; rw [if_neg (by omega),if_pos ⟨e1,e2⟩,if_neg (by omega)]
  rw [e3,e4]; rfl
structure MaxM (b:zL) (m:Nat):Prop where
 e:∃ μ,Mat b μ∧(dom b μ).length=m
 m:∀ μ,Mat b μ→(dom b μ).length≤m
theorem MaxM.uniq {b:zL} {m n:Nat} (h:MaxM b m) (g:MaxM b n):m=n:=by
 obtain ⟨μ,a1,a2⟩:=h.e
 obtain ⟨ν,c1,c2⟩:=g.e
 have:=h.m ν c1; have:=g.m μ a1; omega
theorem zOm {b:zL} (hB:BOK b) (ho:zHF b) {out:List Int} {want:Int} (h:Best b [] out want):MaxM b (dom b (muOf b (fun r=>(gI out r).toNat))).length∧want = -1000*((dom b (muOf b (fun r=>(gI out r).toNat))).length:Int):=by
 obtain ⟨w0,w1⟩:=zLL hB h
 have e:=zMN ho w1
 refine ⟨⟨⟨_,zOF h.a w1,rfl⟩,fun μ hμ=>?_⟩,by rw [h.e]; exact e⟩
 obtain ⟨a1,a2⟩:=asg_of hμ
 have:=h.m _ a1
 rw [h.e,e,zMN ho a2,dom_sOf hμ] at this
 omega
theorem zJJ {out:List Int} {n:Nat} (h:out.length=n):out=(List.range n).map (gI out):=zJ7 h fun _ _=>rfl
theorem zMa {b:zL} (hB:BOK b) (ho:zHF b):∃ (m:Nat) (out:List Int) (want:Int),Zt b []=some (out,want)∧Best b [] out want∧jr b=some (m:Int)∧MaxM b m∧want = -1000*(m:Int)∧m=(dom b (muOf b (fun r=>(gI out r).toNat))).length∧m≤b.calls.length:=by
 have nc:=hB.nc; have ns:=hB.ns
 obtain ⟨out,want,b1,b2⟩:=zNV hB (fixed:=[]) (by simp)
 obtain ⟨m1,m2⟩:=zOm hB ho b2
 have hl:=b2.l
 have hle:(dom b (muOf b (fun r=>(gI out r).toNat))).length≤b.calls.length:=by
  unfold dom
  have:=List.length_filter_le (fun r=>(muOf b (fun r=>(gI out r).toNat) r).isSome) (List.range b.calls.length)
  simpa using this
 have hc:(out.countP fun x=>decide (x<(b.slots.length:Int)))=(dom b (muOf b (fun r=>(gI out r).toNat))).length:=by
  rw [zJJ hl,List.countP_map,dom,← List.countP_eq_length_filter]
  rw [← zJJ hl]
  refine List.countP_congr fun r hr=>?_
  rw [List.mem_range] at hr
  have:=b2.nn r hr
  simp only [Function.comp,muOf]
  by_cases e:gI out r<(b.slots.length:Int)
  ·rw [if_pos ⟨hr,by omega⟩]; simp [e]
  ·rw [if_neg (by omega)]; simp [e]
 refine ⟨_,out,want,b1,b2,?_,m1,m2,rfl,hle⟩
 unfold jr
 rw [b1,Option.bind_some,← hc]
 refine (Zw out (by omega) (fun (n:Int) i=>(n,i)) (fun n r=>n+((r.countP fun x=>decide (x<(b.slots.length:Int)):Nat):Int)) (fun i n=>0≤n∧n≤i) (a:=0) rfl ⟨Int.le_refl _,by omega⟩ (fun n i hi hJ=>?_) fun n _=>?_).trans (by simp)
 ·left
  have hj:∀ z,jJ (i:Int) z=some (.inl (z,((i+1:Nat):Int))):=fun z=>by unfold jJ; rw [w64s' hi (by omega)]
  unfold ym
  simp only
  rw [if_pos (by simpa using hi),ZY hi,Option.bind_some]
  by_cases e:out[i]<(b.slots.length:Int)
  ·rw [if_pos (by simpa using e),hj,zf (by omega) (by omega)]
   refine ⟨_,rfl,?_,by omega,by omega⟩
   rw [List.countP_cons_of_pos (by simpa using e)]; omega
  ·rw [if_neg (by simpa using e),hj]
   refine ⟨_,rfl,?_,by omega,by omega⟩
   rw [List.countP_cons_of_neg (by simpa using e)]
 ·unfold ym Jd
  simp only
  rw [if_neg (by simp)]
  simp
theorem zKu (h:zG) (l:List zJ):zHF (zR h l):=by
 intro r hr
 have hr':r<l.length:=hr
 rw [zE7 (by simpa [zR] using hr')]
 simp [zR]
theorem zFd {h:zG} {l:List zJ} {r:Nat} (hr:r<l.length):(zR h l).can.getD r []=jc h l[r] 0 h.Tides:=by
 rw [getD_lt (by simpa [zR] using hr)]; simp [zR]
theorem zK1 {l:List zJ} (hd:l.Pairwise (fun a b=>a.ID≠b.ID)) {j:Nat} (hj:j<l.length):yK (fun b:zJ=>decide (b.ID=l[j].ID)) l 0=(j:Int):=by
 rcases qg (fun b:zJ=>decide (b.ID=l[j].ID)) l 0 with ⟨h1,h2⟩ | ⟨i,h1,h2,h3,h4⟩
 ·have:=h2 _ (List.getElem_mem hj); simp at this
 ·rw [show (0:Int)=((0:Nat):Int) from rfl,h1,Nat.zero_add]
  have e:l[i].ID=l[j].ID:=by simpa using h3
  rcases Nat.lt_trichotomy i j with c | c | c
  ·exact absurd e (List.pairwise_iff_getElem.1 hd i j h2 hj c)
  ·rw [c]
  ·exact absurd e.symm (List.pairwise_iff_getElem.1 hd j i hj h2 c)
def inM (m:List (Int×Bool)) (i:Nat):Bool:=(ZE (i:Int) m).getD false
def idsL (l:List zJ) (p:Nat→Bool):List Int:=((List.range l.length).filter p).map fun i=>(l.getD i default).ID
def nbL (b:zL) (p:Nat→Bool):List Nat:=(List.range b.slots.length).filter fun k=>(List.range b.calls.length).any fun j=>canB b j k&&p j
def Jj (b:zL) (p:Nat→Bool):zZ:=⟨srtI (idsL b.calls p),(nbL b p).map fun k=>b.slots.getD k default⟩
theorem zOU (l:List zJ) (p:Nat→Bool):(idsL l p).length≤l.length:=by
 unfold idsL
 rw [List.length_map]
 have:=List.length_filter_le p (List.range l.length)
 simpa using this
theorem nbL_len (b:zL) (p:Nat→Bool):(nbL b p).length≤b.slots.length:=by
 unfold nbL
 have:=List.length_filter_le (fun k=>(List.range b.calls.length).any fun j=>canB b j k&&p j) (List.range b.slots.length)
 simpa using this
theorem zCN (p:Nat→Bool) (n:Nat):(List.range (n+1)).filter p=(List.range n).filter p++if p n=true then [n] else []:=by
 rw [List.range_succ,List.filter_append,List.filter_cons]
 simp
theorem zIX {h:zG} {l:List zJ} (hg:QU h l) (ships:List (Int×Bool)):jM (zR h l) ships=some (Jj (zR h l) (inM ships)):=by
 have hn:=hg.n
 have hB:=zFc hg
 have ns:=hB.ns
 have ec:(zR h l).calls=l:=rfl
 have contains:∀ k,k<(zR h l).slots.length→ZB l (zR h l) ((zR h l).slots.getD k default) ships=some ((List.range l.length).any fun j=>canB (zR h l) j k&&inM ships j):=fun k hk=>by
  unfold ZB
  have hc1:∀ j (hj:j<l.length),Je l[j] (zR h l) ((zR h l).slots.getD k default) ships=some (canB (zR h l) j k&&inM ships j):=fun j hj=>by
   unfold Je
   rw [ec,zGL l (by unfold Len; omega),zK1 hg.d hj,Option.bind_some,zBi (d:=[]) (by simpa [zR] using hj),Option.bind_some]
   rfl
  obtain ⟨r,h1,h2⟩:∃ r,ZH l (zR h l) ((zR h l).slots.getD k default) ships=some r∧decide (0≤r)=(List.range l.length).any fun j=>canB (zR h l) j k&&inM ships j:=by
   unfold ZH
   refine lp_inv' (fun i s=>s=(i:Int)∧∀ j,j<i→(canB (zR h l) j k&&inM ships j)=false) _ l.length (by omega) ⟨rfl,fun j hj=>by omega⟩ fun i s hi hI=>?_
   obtain ⟨rfl,hI⟩:=hI
   unfold Zd
   by_cases e:i<l.length
   ·rw [if_pos (by simpa using e),ZY e,Option.bind_some,hc1 i e,Option.bind_some]
    by_cases c:(canB (zR h l) i k&&inM ships i)=true
    ·rw [if_pos c]
     refine .inr ⟨_,rfl,?_⟩
     rw [show decide ((0:Int)≤(i:Int))=true by simp]
     symm
     rw [List.any_eq_true]
     exact ⟨i,List.mem_range.2 e,c⟩
    ·rw [if_neg c]
     refine .inl ⟨e,_,rfl,w64s' e (by omega),fun j hj=>?_⟩
     by_cases w:j=i
     ·subst w; simpa using c
     ·exact hI j (by omega)
   ·rw [if_neg (by simpa using e)]
    refine .inr ⟨-1,rfl,?_⟩
    symm
    rw [show decide ((0:Int)≤-1)=false by decide,List.any_eq_false]
    intro x hx
    rw [hI x (by rw [List.mem_range] at hx; omega)]; simp
  rw [h1,Option.bind_some,h2]
 unfold jM
 obtain ⟨⟨x,ids⟩,⟨rfl,h1⟩,h2⟩:=YU (body:=jC (zR h l) ships) (X:=fun s=>Zu (zR h l) ships s.2) (s0:=(0,[]))
  (fun j s=>s.1=(j:Int)∧s.2=((List.range j).filter (inM ships)).map fun i=>(l.getD i default).ID) l.length (by omega) ⟨rfl,rfl⟩
  (fun j s hj hI=>by
   obtain ⟨x,ids⟩:=s
   simp only at hI
   obtain ⟨rfl,rfl⟩:=hI
   have hlen:((List.range j).filter (inM ships)).length≤j:=by have:=List.length_filter_le (inM ships) (List.range j); simpa using this
   have hj6:∀ z,Zl (j:Int) z=some (.inl (((j+1:Nat):Int),z)):=fun z=>by unfold Zl; rw [w64s' hj (by omega)]
   unfold jC
   simp only [ec]
   rw [if_pos (by simpa using hj),zBi (d:=default) hj,Option.bind_some,show (ZE (j:Int) ships).getD false=inM ships j from rfl]
   by_cases c:inM ships j=true
   ·rw [if_pos c,j5 (by simp; omega),Option.bind_some,hj6]
    exact ⟨_,rfl,rfl,by simp only; rw [zCN,if_pos c,List.map_append]; rfl⟩
   ·rw [if_neg c,hj6]
    exact ⟨_,rfl,rfl,by simp only; rw [zCN,if_neg c,List.append_nil]⟩)
  (fun s hI=>by
   obtain ⟨x,ids⟩:=s
   simp only at hI
   obtain ⟨rfl,_⟩:=hI
   unfold jC
   simp only [ec]
   rw [if_neg (by simp)])
 simp only at h1 h2
 have hids:ids=idsL l (inM ships):=h1
 have hil:=zOU l (inM ships)
 rw [h2,hids]
 unfold Zu srtO
 rw [if_pos (by omega),Option.bind_some]
 obtain ⟨⟨x,sl⟩,⟨rfl,g1⟩,g2⟩:=YU (body:=jV (zR h l) ships (srtI (idsL l (inM ships)))) (X:=fun s=>JJ (srtI (idsL l (inM ships))) s.2) (s0:=(0,[]))
  (fun q s=>s.1=(q:Int)∧s.2=((List.range q).filter fun k=>(List.range l.length).any fun j=>canB (zR h l) j k&&inM ships j).map fun k=>(zR h l).slots.getD k default) (zR h l).slots.length (by omega) ⟨rfl,rfl⟩
  (fun q s hq hI=>by
   obtain ⟨x,sl⟩:=s
   simp only at hI
   obtain ⟨rfl,rfl⟩:=hI
   have hlen:((List.range q).filter fun k=>(List.range l.length).any fun j=>canB (zR h l) j k&&inM ships j).length≤q:=by have:=List.length_filter_le (fun k=>(List.range l.length).any fun j=>canB (zR h l) j k&&inM ships j) (List.range q); simpa using this
   have hj4:∀ z,jB (q:Int) z=some (.inl (((q+1:Nat):Int),z)):=fun z=>by unfold jB; rw [w64s' hq (by omega)]
   unfold jV
   simp only
   rw [if_pos (by simpa using hq),zBi (d:=default) hq,Option.bind_some,ec,contains q hq,Option.bind_some]
   by_cases c:((List.range l.length).any fun j=>canB (zR h l) j q&&inM ships j)=true
   ·rw [if_pos c,j5 (by simp; omega),Option.bind_some,hj4]
    exact ⟨_,rfl,rfl,by simp only; rw [zCN,if_pos c,List.map_append]; rfl⟩
   ·rw [if_neg c,hj4]
    exact ⟨_,rfl,rfl,by simp only; rw [zCN,if_neg c,List.append_nil]⟩)
  (fun s hI=>by
   obtain ⟨x,sl⟩:=s
   simp only at hI
   obtain ⟨rfl,_⟩:=hI
   unfold jV
   simp only
   rw [if_neg (by simp)])
 simp only at g1 g2
 rw [g2,g1]; rfl
theorem eqI (a b:List Int) (ha:a.length≤1000000):slices_Equal_int a b=some (decide (a=b)):=by
 unfold slices_Equal_int
 by_cases e:a.length=b.length
 ·rw [if_neg (by simp [e])]
  refine (Zw a (by omega) (fun (_:Unit) i=>i) (fun _ r=>decide (r=b.drop (a.length - r.length))) (fun _ _=>True) (a:=()) rfl trivial (fun _ i hi _=>?_) fun _ _=>?_).trans (by simp)
  ·have e1:a.length - (a[i] :: a.drop (i+1)).length=i:=by simp only [List.length_cons,List.length_drop]; omega
   have e2:a.length - (a.drop (i+1)).length=i+1:=by simp only [List.length_drop]; omega
   rw [e1,e2,List.drop_eq_getElem_cons (l:=b) (i:=i) (by omega)]
   unfold yU
   rw [if_pos (by simpa using hi),ZY hi,Option.bind_some,ZY (by omega),Option.bind_some]
   by_cases c:a[i]=b[i]
   ·left; rw [if_neg (by simp [c]),w64s' hi (by omega)]; exact ⟨(),rfl,by simp only [List.cons.injEq,c,true_and],trivial⟩
   ·right; rw [if_pos (by simp [c])]; simp only [List.cons.injEq,c,false_and,decide_false]
  ·unfold yU JX
   rw [if_neg (by simp)]
   simp; omega
 ·rw [if_pos (by simp; omega),decide_eq_false (fun q=>e (by rw [q]))]
theorem eqS (a b:List zB) (ha:a.length≤1000000):jO a b=some (decide (a=b)):=by
 unfold jO
 by_cases e:a.length=b.length
 ·rw [if_neg (by simp [e])]
  refine (Zw a (by omega) (fun (_:Unit) i=>i) (fun _ r=>decide (r=b.drop (a.length - r.length))) (fun _ _=>True) (a:=()) rfl trivial (fun _ i hi _=>?_) fun _ _=>?_).trans (by simp)
  ·have e1:a.length - (a[i] :: a.drop (i+1)).length=i:=by simp only [List.length_cons,List.length_drop]; omega
   have e2:a.length - (a.drop (i+1)).length=i+1:=by simp only [List.length_drop]; omega
   rw [e1,e2,List.drop_eq_getElem_cons (l:=b) (i:=i) (by omega)]
   unfold JC
   rw [if_pos (by simpa using hi),ZY hi,Option.bind_some,ZY (by omega),Option.bind_some]
   by_cases c:a[i]=b[i]
   ·left; rw [if_neg (by simp [c]),w64s' hi (by omega)]; exact ⟨(),rfl,by simp only [List.cons.injEq,c,true_and],trivial⟩
   ·right; rw [if_pos (by simp [c])]; simp only [List.cons.injEq,c,false_and,decide_false]
  ·unfold JC jQ
   rw [if_neg (by simp)]
   simp; omega
 ·rw [if_pos (by simp; omega),decide_eq_false (fun q=>e (by rw [q]))]
def zFj (b:zL) (x:zZ):Int×Int :=
 if x.Calls=[]∨x.Calls≠(Jj b fun i=>decide (i<b.calls.length∧(b.calls.getD i default).ID∈x.Calls)).Calls∨x.Slots≠(Jj b fun i=>decide (i<b.calls.length∧(b.calls.getD i default).ID∈x.Calls)).Slots∨x.Calls.length≤x.Slots.length then (0,8) else ((x.Calls.length:Int) - (x.Slots.length:Int),0)
theorem zFs {b:zL} {p q:Nat→Bool} (h:∀ i,i<b.calls.length→p i=q i):Jj b p=Jj b q:=by
 unfold Jj idsL nbL
 have e1:(List.range b.calls.length).filter p=(List.range b.calls.length).filter q:=List.filter_congr fun i hi=>h i (List.mem_range.1 hi)
 have e2:(fun k=>(List.range b.calls.length).any fun j=>canB b j k&&p j)=fun k=>(List.range b.calls.length).any fun j=>canB b j k&&q j:=by
  funext k
  rw [Bool.eq_iff_iff,List.any_eq_true,List.any_eq_true]
  constructor <;> rintro ⟨j,hj,hj2⟩ <;> refine ⟨j,hj,?_⟩
  ·rw [← h j (List.mem_range.1 hj)]; exact hj2
  ·rw [h j (List.mem_range.1 hj)]; exact hj2
 rw [e1,e2]
theorem zF3 {h:zG} {l:List zJ} (hh:LenH h) (hl:Len l) (ec:jm h l=0) {x:zZ} (hx:x.Calls.length≤1000) (hx2:x.Slots.length≤1000):Zz h l x=some (zFj (zR h l) x):=by
 have hg:=QU.of hh ec
 have hn:=hg.n
 have ecl:(zR h l).calls=l:=rfl
 unfold Zz
 rw [Yu h hh l hl,Option.bind_some,if_neg (by simp [ec])]
 obtain ⟨⟨q,m⟩,⟨rfl,h1⟩,h2⟩:=YU (body:=jU h l x) (X:=fun s=>jD h l x s.2) (s0:=(0,[]))
  (fun j s=>s.1=(j:Int)∧∀ (i:Nat) (hi:i<l.length),inM s.2 i=decide (l[i].ID∈x.Calls.take j)) x.Calls.length (by omega) ⟨rfl,fun i hi=>by simp [inM,ZE]⟩
  (fun j s hj hI=>by
   obtain ⟨q,m⟩:=s
   simp only at hI
   obtain ⟨rfl,hI⟩:=hI
   have hj3:∀ z,Zx (j:Int) z=some (.inl (((j+1:Nat):Int),z)):=fun z=>by unfold Zx; rw [w64s' hj (by omega)]
   unfold jU
   simp only
   rw [if_pos (by simpa using hj),ZY hj,Option.bind_some,zGL l hl,Option.bind_some]
   rcases qg (fun b:zJ=>decide (b.ID=x.Calls[j])) l 0 with ⟨a1,a2⟩ | ⟨r,a1,a2,a3,a4⟩
   ·rw [show (0:Int)=((0:Nat):Int) from rfl,a1,if_neg (by decide),hj3]
    refine ⟨_,rfl,rfl,fun i hi=>?_⟩
    simp only
    rw [hI i hi,List.take_succ_eq_append_getElem hj,decide_eq_decide,List.mem_append,List.mem_singleton]
    have:=a2 _ (List.getElem_mem hi)
    simp only [decide_eq_false_iff_not] at this
    simp [this]
   ·rw [show (0:Int)=((0:Nat):Int) from rfl,a1,Nat.zero_add,if_pos (by simp),hj3]
    refine ⟨_,rfl,rfl,fun i hi=>?_⟩
    simp only
    have e3:l[r].ID=x.Calls[j]:=by simpa using a3
    unfold inM
    rw [zES,List.take_succ_eq_append_getElem hj]
    by_cases c:i=r
    ·subst c
     rw [if_pos rfl,decide_eq_true (List.mem_append_right _ (by rw [e3]; exact List.mem_singleton.2 rfl))]; rfl
    ·rw [if_neg (by omega)]
     have:=hI i hi
     unfold inM at this
     rw [this,decide_eq_decide,List.mem_append,List.mem_singleton]
     have hne:l[i].ID≠x.Calls[j]:=fun e=>by
      rw [← e3] at e
      rcases Nat.lt_trichotomy i r with w | w | w
      ·exact List.pairwise_iff_getElem.1 hg.d i r hi a2 w e
      ·exact c w
      ·exact List.pairwise_iff_getElem.1 hg.d r i a2 hi w e.symm
     simp [hne])
  (fun s hI=>by
   obtain ⟨q,m⟩:=s
   simp only at hI
   obtain ⟨rfl,_⟩:=hI
   unfold jU
   simp only
   rw [if_neg (by simp)])
 simp only at h1 h2
 rw [h2]
 unfold jD
 have hcr:Jj (zR h l) (inM m)=Jj (zR h l) fun i=>decide (i<(zR h l).calls.length∧((zR h l).calls.getD i default).ID∈x.Calls):=zFs fun i hi=>by
  have hi':i<l.length:=hi
  rw [h1 i hi',List.take_length,ecl,getD_lt hi',decide_eq_decide]
  simp [hi']
 rw [zJ8 hg.h hg.n (fun c hc=>zDX.of (hg.r c hc)),Option.bind_some,zIX hg,Option.bind_some,hcr]
 unfold zFj
 generalize Jj (zR h l) (fun i=>decide (i<(zR h l).calls.length∧((zR h l).calls.getD i default).ID∈x.Calls))=y
 by_cases c0:x.Calls=[]
 ·rw [if_pos (.inl c0)]
  simp [gb,c0]
 ·have cl : ¬ ((x.Calls.length:Int)=0):=by
   have:0<x.Calls.length:=List.length_pos_iff.2 c0
   omega
  simp only [gb,cl,decide_false,Bool.not_false,if_true,Bool.false_or]
  rw [eqI _ _ (by omega),Option.bind_some]
  by_cases c1:x.Calls=y.Calls
  ·rw [decide_eq_true c1]
   simp only [Bool.not_true,Bool.not_false,if_true,Bool.false_or]
   rw [eqS _ _ (by omega),Option.bind_some]
   by_cases c2:x.Slots=y.Slots
   ·rw [decide_eq_true c2]
    simp only [Bool.not_true,Bool.false_or,decide_eq_true_eq]
    by_cases c3:x.Calls.length≤x.Slots.length
    ·have r1:(if x.Calls=[]∨x.Calls≠y.Calls∨x.Slots≠y.Slots∨x.Calls.length≤x.Slots.length then ((0:Int),(8:Int)) else ((x.Calls.length:Int) - (x.Slots.length:Int),0))=(0,8):=if_pos (.inr (.inr (.inr c3)))
     rw [r1,if_pos (by omega)]
    ·have r1:(if x.Calls=[]∨x.Calls≠y.Calls∨x.Slots≠y.Slots∨x.Calls.length≤x.Slots.length then ((0:Int),(8:Int)) else ((x.Calls.length:Int) - (x.Slots.length:Int),0))=((x.Calls.length:Int) - (x.Slots.length:Int),0):=if_neg (by
      rintro (z | z | z | z)
      ·exact c0 z
      ·exact z c1
      ·exact z c2
      ·exact c3 z)
     rw [r1,if_neg (by omega),zf (by omega) (by omega)]
   ·have r1:(if x.Calls=[]∨x.Calls≠y.Calls∨x.Slots≠y.Slots∨x.Calls.length≤x.Slots.length then ((0:Int),(8:Int)) else ((x.Calls.length:Int) - (x.Slots.length:Int),0))=(0,8):=if_pos (.inr (.inr (.inl c2)))
    rw [r1,decide_eq_false c2]; rfl
  ·have r1:(if x.Calls=[]∨x.Calls≠y.Calls∨x.Slots≠y.Slots∨x.Calls.length≤x.Slots.length then ((0:Int),(8:Int)) else ((x.Calls.length:Int) - (x.Slots.length:Int),0))=(0,8):=if_pos (.inr (.inl c1))
   rw [r1,decide_eq_false c1]; rfl
end Go.Mx
