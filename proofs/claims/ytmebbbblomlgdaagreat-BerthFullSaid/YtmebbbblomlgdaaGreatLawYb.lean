/- Part of the proof of BerthFull: plain laws about the functions of M, no program in sight. Conditions: none. -/
import Derived.Test.YtmebbbblomlgdaaGreatLawTideWindowsHold
set_option linter.unusedVariables false
set_option linter.unusedSimpArgs false
namespace Go.Mx
theorem lp_meas {σ ρ:Type} {body:σ→Option (σ ⊕ ρ)} {s0:σ} (I:σ→Prop) (μ:σ→Nat) (P:ρ→Prop) (hn:μ s0<18446744073709551615) (h0:I s0) (step:∀ s,I s→(∃ s',body s=some (.inl s')∧I s'∧μ s'<μ s)∨∃ r,body s=some (.inr r)∧P r):∃ r,Lp body fuel s0=some r∧P r:=by
 have key:∀ (m:Nat) (s:σ),μ s<m→I s→∃ r,Lp body m s=some r∧P r:=by
  intro m
  induction m with
  | zero=>intro s h hI; omega
  | succ m ih =>
   intro s h hI
   rcases step s hI with ⟨s',h2,h3,h4⟩ | ⟨r,h1,h2⟩
   ·rw [zFZ m h2]; exact ih s' (by omega) h3
   ·rw [zFa m h1]; exact ⟨r,rfl,h2⟩
 exact key fuel s0 (by unfold fuel; omega) h0
theorem zNi {α:Type} {l:List α} {k:Nat} (h:k≤l.length):sub l 0 (k:Int)=some (l.take k):=by unfold sub; rw [if_pos ⟨by omega,by omega,by omega⟩]; simp
theorem zKT {α:Type} {l:List α} {k:Nat} (h:k≤l.length):sub l (k:Int) (l.length:Int)=some (l.drop k):=by unfold sub; rw [if_pos ⟨by omega,by omega,by omega⟩]; simp
theorem j5 {α:Type} {l r:List α} (h:l.length+r.length≤4294967296):app l r=some (l++r):=by unfold app; rw [if_pos h]
theorem Y1 {α:Type} (l:List α) (i:Nat) (x:α):put l (i:Int) x=l.set i x:=rfl
def gI (l:List Int) (i:Nat):Int:=l.getD i 0
theorem zE7 {l:List Int} {i:Nat} (h:i<l.length):gI l i=l[i]:=by simp [gI,List.getD_eq_getElem?_getD,h]
theorem YD {l:List Int} {i:Nat} (h:i<l.length):ix l (i:Int)=some (gI l i):=by rw [ZY h,zE7 h]
theorem JR {l:List Int} {i:Nat} (h:i<l.length) (v:Int) (j:Nat):gI (l.set i v) j=if j=i then v else gI l j:=by
 unfold gI
 rw [List.getD_eq_getElem?_getD,List.getD_eq_getElem?_getD,List.getElem?_set]
 by_cases e:j=i
 ·subst e; simp [h]
 ·rw [if_neg (fun q=>e q.symm),if_neg e]
theorem JB {α:Type} [DecidableEq α]:∀ {l r:List α},l.Nodup→(∀ x∈l,x∈r)→l.length≤r.length
 | [],r,_,_=>Nat.zero_le _
 | a :: l,r,hn,hs=>by
  rw [List.nodup_cons] at hn
  have ha:=hs a List.mem_cons_self
  have:=JB (l:=l) (r:=r.erase a) hn.2 fun x hx=>(List.mem_erase_of_ne (fun e:x=a=>hn.1 (by rw [← e]; exact hx))).2 (hs x (List.mem_cons_of_mem _ hx))
  rw [List.length_erase_of_mem ha] at this
  have:0<r.length:=List.length_pos_of_mem ha
  simp only [List.length_cons]; omega
theorem zJS {α β:Type} [DecidableEq α] (k k':α) (v:β):∀ (l:List (α×β)) (i:Nat),zBX k l=some i→ZE k' (l.set i (k,v))=if k'=k then some v else ZE k' l
 | [],i,h=>by cases h
 | p :: r,i,h=>by
  unfold zBX at h
  by_cases e:k=p.1
  ·rw [if_pos e] at h
   cases h
   simp only [List.set_cons_zero,ZE]
   by_cases e2:k'=k
   ·simp [e2]
   ·rw [if_neg e2,if_neg e2,if_neg (fun q=>e2 (q.trans e.symm))]
  ·rw [if_neg e] at h
   cases hf:zBX k r with
   | none=>rw [hf] at h; cases h
   | some j =>
    rw [hf] at h
    cases h
    simp only [List.set_cons_succ,ZE]
    by_cases e2:k'=p.1
    ·rw [if_pos e2,if_pos e2,if_neg (fun q=>e (q.symm.trans e2))]
    ·rw [if_neg e2,if_neg e2]; exact zJS k k' v r j hf
theorem zH9 {α β:Type} [DecidableEq α] (k k':α) (v:β):∀ (l:List (α×β)) (n:Nat),ZE k l=none→ZE k' (insL l n (k,v))=if k'=k then some v else ZE k' l
 | [],0,_=>by simp [insL,ZE]
 | [],n+1,_=>by simp [insL,ZE]
 | p :: r,0,h=>by simp [insL,ZE]
 | p :: r,n+1,h=>by
  simp only [ZE] at h
  split at h
  ·cases h
  ·rename_i e
   simp only [insL,ZE]
   rw [zH9 k k' v r n h]
   by_cases e2:k'=p.1
   ·rw [if_pos e2,if_pos e2,if_neg (fun q=>e (q.symm.trans e2))]
   ·rw [if_neg e2,if_neg e2]
theorem zES {α β:Type} [DecidableEq α] (pos:α→List α→Nat) (k k':α) (v:β) (l:List (α×β)):ZE k' (putM pos l k v)=if k'=k then some v else ZE k' l:=by
 unfold putM
 cases hf:zBX k l with
 | some i=>exact zJS k k' v l i hf
 | none =>
  have:=zCC (k:=k) (l:=l)
  rw [hf] at this
  exact zH9 k k' v l _ this.1
def yK {α:Type} (p:α→Bool):List α→Int→Int
 | [],_ => -1
 | x :: r,i=>if p x=true then i else yK p r (i+1)
theorem qg {α:Type} (p:α→Bool):∀ (l:List α) (k:Nat),(yK p l k = -1∧∀ x∈l,p x=false)∨∃ i:Nat,yK p l k=((k+i:Nat):Int)∧∃ h:i<l.length,p l[i]=true∧∀ (j:Nat) (hj:j<i),p (l[j]'(by omega))=false
 | [],k=>.inl ⟨rfl,fun x hx=>by cases hx⟩
 | x :: r,k=>by
  unfold yK
  by_cases hp:p x=true
  ·rw [if_pos hp]
   exact .inr ⟨0,rfl,Nat.zero_lt_succ _,hp,fun j hj=>absurd hj (Nat.not_lt_zero _)⟩
  ·rw [if_neg hp]
   have hp':p x=false:=by simpa using hp
   have ih:=qg p r (k+1)
   rw [show ((k+1:Nat):Int)=(k:Int)+1 by omega] at ih
   rcases ih with ⟨h1,h2⟩ | ⟨i,h1,h2,h3,h4⟩
   ·exact .inl ⟨h1,fun y hy=>by
     rcases List.mem_cons.1 hy with rfl | hy
     ·exact hp'
     ·exact h2 y hy⟩
   ·refine .inr ⟨i+1,by rw [h1]; congr 1; omega,by simp only [List.length_cons]; omega,by simpa using h3,fun j hj=>?_⟩
    cases j with
    | zero=>simpa using hp'
    | succ j=>simpa using h4 j (by omega)
theorem zE4 {α:Type} (p:α→Bool) (l:List α) (hl:Len l) {body:Int→Option (Int ⊕ Int)}
  (step:∀ (i:Nat) (h:i<l.length),body (i:Int)=if p l[i]=true then some (.inr (i:Int)) else some (.inl ((i+1:Nat):Int))) (last:body (l.length:Int)=some (.inr (-1))):Lp body fuel 0=some (yK p l 0):=by
 refine Zw l hl (fun (_:Unit) i=>i) (fun (_:Unit) r=>yK p r ((l.length - r.length:Nat):Int)) (fun _ _=>True) (a:=()) rfl trivial (fun a i hi _=>?_) (fun a _=>?_) |>.trans ?_
 ·have e:l.length - (l[i] :: l.drop (i+1)).length=i:=by simp only [List.length_cons,List.length_drop]; omega
  have e2:l.length - (l.drop (i+1)).length=i+1:=by simp only [List.length_drop]; omega
  rw [step i hi]
  by_cases hp:p l[i]=true
  ·right; rw [if_pos hp,e]; unfold yK; rw [if_pos hp]
  ·left; refine ⟨(),by rw [if_neg hp],?_,trivial⟩
   rw [e,e2,yK,if_neg hp]; rfl
 ·rw [last]; rfl
 ·simp
def zBP (s:zC):Bool:=decide (0≤s.Lo∧s.Lo≤s.Hi∧s.Hi≤1048576∧s.Hi - s.Lo<1440)
theorem zKS (s:zC):JI s=zBP s:=by
 unfold JI zBP
 by_cases h:0≤s.Lo∧s.Lo≤s.Hi∧s.Hi≤1048576
 ·rw [zf (by omega) (by omega)]
  rw [Bool.eq_iff_iff]
  simp [and_assoc]
 ·rw [Bool.eq_iff_iff]
  simp only [Bool.and_eq_true,decide_eq_true_eq]
  constructor
  ·intro q; exact absurd ⟨q.1.1.1,q.1.1.2,q.1.2⟩ h
  ·intro q; exact absurd ⟨q.1,q.2.1,q.2.2.1⟩ h
def zDE (b:zT):Bool:=decide (1≤b.ID∧b.ID≤1099511627776∧0≤b.Depth∧b.Depth≤8000)
def zEF (e:Int):List zT→List zT→Int
 | _,[]=>e
 | pre,b :: r=>if zDE b=true then (if (pre.any fun x=>decide (x.ID=b.ID))=true then 6 else zEF e (pre++[b]) r) else 1
def zBs (e:Int):Int→List zC→Int
 | _,[]=>e
 | last,t :: r=>if zBP t=true∧last<t.Lo then zBs e t.Hi r else 1
def zD6 (h:zG):Int:=if 0≤h.Keel∧h.Keel≤8000 then 0 else 1
def Qj (h:zG):Int :=
 if qR h.Water=0 then (if 6<h.Berths.length∨12<h.Tides.length then 2 else zEF (zBs (zD6 h) (-1) h.Tides) [] h.Berths) else qR h.Water
structure LenH (h:zG):Prop where
 w:LenW h.Water
 b:Len h.Berths
 t:Len h.Tides
theorem LenH.of {h:zG} (q:zB3 h):LenH h:=⟨LenW.of q.1,q.2.1.1,q.2.2.1.1⟩
theorem zNP (l:List zT) (hl:Len l) (id:Int):zn l id=some (yK (fun b=>decide (b.ID=id)) l 0):=by
 unfold zn zi
 have e:=zE4 (body:=zW l id) (fun b=>decide (b.ID=id)) l hl (fun i hi=>by
  unfold zW
  rw [if_pos (by simpa using hi),ZY hi,Option.bind_some,w64s' hi hl]
  rfl) (by
  unfold zW
  rw [if_neg (by simp)]; rfl)
 rw [e]; rfl
theorem zK0 {α:Type} {p:α→Bool} {l:List α} {i:Nat} (hi:i<l.length) (hp:p l[i]=true):yK p l 0<(i:Int)↔(l.take i).any p=true:=by
 rcases qg p l 0 with ⟨h1,h2⟩ | ⟨k,h1,h2,h3,h4⟩
 ·rw [h2 _ (List.getElem_mem hi)] at hp; cases hp
 ·rw [show ((0:Nat):Int)=0 from rfl] at h1
  rw [h1,List.any_eq_true]
  constructor
  ·intro h
   refine ⟨l[k],?_,h3⟩
   rw [List.mem_take_iff_getElem]
   exact ⟨k,by omega,rfl⟩
  ·rintro ⟨x,hx,hx2⟩
   rw [List.mem_take_iff_getElem] at hx
   obtain ⟨j,hj,rfl⟩:=hx
   by_cases e:j<k
   ·rw [h4 j e] at hx2; cases hx2
   ·omega
theorem zNc (h:zG) (hh:LenH h):yG h=some (Qj h):=by
 unfold yG Qj
 rw [zIg _ hh.w,Option.bind_some]
 by_cases h0:qR h.Water=0
 ·rw [if_pos h0,if_neg (by simp [h0])]
  by_cases h1:6<h.Berths.length∨12<h.Tides.length
  ·rw [if_pos h1,if_pos (by simp; omega)]
  ·rw [if_neg h1,if_neg (by simp; omega)]
   refine Zw h.Berths hh.b (fun (_:List zT) i=>i) (zEF (zBs (zD6 h) (-1) h.Tides)) (fun i a=>a=h.Berths.take i) (a:=[]) rfl (by simp) (fun a i hi hJ=>?_) (fun a _=>?_)
   ·subst hJ
    unfold zAS
    rw [if_pos (by simpa using hi),ZY hi]
    simp only [Option.bind_some,zEF]
    by_cases hg:zDE h.Berths[i]=true
    ·rw [if_pos hg,zNP _ hh.b,Option.bind_some,if_neg (by simp only [zDE,decide_eq_true_eq] at hg; simp [zu]; omega)]
     have:=zK0 (p:=fun b=>decide (b.ID=h.Berths[i].ID)) hi (by simp)
     by_cases hc:((h.Berths.take i).any fun x=>decide (x.ID=h.Berths[i].ID))=true
     ·right; rw [if_pos hc,if_pos (by rw [decide_eq_true_eq]; exact this.2 hc)]
     ·left
      rw [if_neg hc,if_neg (by rw [decide_eq_true_eq]; exact fun q=>hc (this.1 q)),w64s' hi hh.b]
      exact ⟨_,rfl,rfl,by rw [List.take_succ_eq_append_getElem hi]⟩
    ·right
     rw [if_neg hg,if_pos]
     simp only [zDE,decide_eq_true_eq] at hg
     simp [zu]; omega
   ·unfold zAS
    rw [if_neg (by simp)]
    unfold QQ
    rw [Zw h.Tides hh.t (fun (a:Int) i=>(a,i)) (zBs (zD6 h)) (fun _ _=>True) (a := -1) rfl trivial (fun a i hi _=>?_) (fun a _=>?_)]
    ·rfl
    ·unfold zAT
     simp only
     rw [if_pos (by simpa using hi),ZY hi,Option.bind_some,zKS]
     simp only [zBs]
     by_cases hc:zBP h.Tides[i]=true∧a<h.Tides[i].Lo
     ·left
      rw [if_pos hc,if_neg (by simp [hc.1]; omega),w64s' hi hh.t]
      exact ⟨_,rfl,rfl,trivial⟩
     ·right
      rw [if_neg hc,if_pos]
      rw [Bool.or_eq_true,Bool.not_eq_true',decide_eq_true_eq]
      by_cases ht:zBP h.Tides[i]=true
      ·right
       have : ¬ a<h.Tides[i].Lo:=fun q=>hc ⟨ht,q⟩
       omega
      ·left; simpa using ht
    ·unfold zAT
     simp only
     rw [if_neg (by simp)]
     unfold QP zD6
     simp only [zBs]
     by_cases hk:0≤h.Keel∧h.Keel≤8000
     ·rw [if_pos hk,if_neg (by simp [zu]; omega)]; rfl
     ·rw [if_neg hk,if_pos (by simp [zu]; omega)]; rfl
 ·rw [if_neg h0,if_pos (by simp [h0])]
structure Qp (h:zG):Prop where
 c:qR h.Water=0
 g:zF2 h.Water
 lw:LenW h.Water
 nb:h.Berths.length≤6
 nt:h.Tides.length≤12
 bs:∀ b∈h.Berths,1≤b.ID∧b.ID≤1099511627776∧0≤b.Depth∧b.Depth≤8000
 bd:h.Berths.Pairwise (fun a b=>a.ID≠b.ID)
 ts:∀ t∈h.Tides,0≤t.Lo∧t.Lo≤t.Hi∧t.Hi≤1048576∧t.Hi - t.Lo<1440
 tp:h.Tides.Pairwise (fun a b=>a.Hi<b.Lo)
 k0:0≤h.Keel
 k1:h.Keel≤8000
theorem zGt (e:Int):∀ (l pre:List zT),zEF e pre l=0→pre.Pairwise (fun a b=>a.ID≠b.ID)→e=0∧(∀ b∈l,zDE b=true)∧(pre++l).Pairwise (fun a b=>a.ID≠b.ID)
 | [],pre,h,hp=>⟨h,fun b hb=>(by cases hb),by simpa using hp⟩
 | b :: r,pre,h,hp=>by
  unfold zEF at h
  split at h
  ·rename_i hg
   split at h
   ·cases h
   ·rename_i hn
    have hp':(pre++[b]).Pairwise (fun a b=>a.ID≠b.ID):=by
     rw [List.pairwise_append]
     refine ⟨hp,List.pairwise_singleton _ _,fun x hx y hy=>?_⟩
     rw [List.mem_singleton] at hy
     subst hy
     intro q
     exact hn (List.any_eq_true.2 ⟨x,hx,by simpa using q⟩)
    obtain ⟨q1,q2,q3⟩:=zGt e r (pre++[b]) h hp'
    refine ⟨q1,fun x hx=>?_,by simpa using q3⟩
    rcases List.mem_cons.1 hx with rfl | hx
    ·exact hg
    ·exact q2 x hx
  ·cases h
theorem zHH (e:Int):∀ (l:List zC) (last:Int),zBs e last l=0→e=0∧(∀ t∈l,zBP t=true∧last<t.Lo)∧l.Pairwise (fun a b=>a.Hi<b.Lo)
 | [],last,h=>⟨h,fun b hb=>(by cases hb),.nil⟩
 | t :: r,last,h=>by
  unfold zBs at h
  split at h
  ·rename_i hg
   obtain ⟨q1,q2,q3⟩:=zHH e r t.Hi h
   have ht:=hg.1
   simp only [zBP,decide_eq_true_eq] at ht
   refine ⟨q1,fun x hx=>?_,List.pairwise_cons.2 ⟨fun x hx=>(q2 x hx).2,q3⟩⟩
   rcases List.mem_cons.1 hx with rfl | hx
   ·exact hg
   ·have:=q2 x hx
    exact ⟨this.1,by omega⟩
  ·cases h
theorem Qp.of {h:zG} (hh:LenH h) (h0:Qj h=0):Qp h:=by
 unfold Qj at h0
 split at h0
 ·rename_i hc
  split at h0
  ·cases h0
  ·rename_i hn
   obtain ⟨q1,q2,q3⟩:=zGt _ _ _ h0 .nil
   obtain ⟨r1,r2,r3⟩:=zHH _ _ _ q1
   have hk:0≤h.Keel∧h.Keel≤8000:=by
    unfold zD6 at r1
    split at r1
    ·assumption
    ·cases r1
   exact ⟨hc,zGs hh.w hc,hh.w,by omega,by omega,fun b hb=>by simpa [zDE] using q2 b hb,by simpa using q3,fun t ht=>by simpa [zBP] using (r2 t ht).1,r3,hk.1,hk.2⟩
 ·contradiction
def need (h:zG) (b:zT) (d:Int):Int:=d+h.Keel - b.Depth
def qi (h:zG) (c:zJ) (t:zC) (b:zT):zC×Bool :=
 if min t.Hi c.To<max t.Lo c.From then (⟨0,0⟩,false) else
  if (zEe h.Water ⟨max t.Lo c.From,min t.Hi c.To⟩ (need h b c.Draught) c.Long).2=0 then
   (⟨(zEe h.Water ⟨max t.Lo c.From,min t.Hi c.To⟩ (need h b c.Draught) c.Long).1.Lo,(zEe h.Water ⟨max t.Lo c.From,min t.Hi c.To⟩ (need h b c.Draught) c.Long).1.Lo+c.Long - 1⟩,true)
  else (⟨0,0⟩,false)
theorem zHu (long:Int):∀ l:List zC,((zCn long l).2=0∧(zCn long l).1∈l∧long≤(zCn long l).1.Hi - (zCn long l).1.Lo+1)∨((zCn long l).2=5∧∀ x∈l,x.Hi - x.Lo+1<long)
 | []=>.inr ⟨rfl,fun x hx=>by cases hx⟩
 | x :: r=>by
  unfold zCn
  by_cases hc:long≤x.Hi - x.Lo+1
  ·rw [if_pos hc]; exact .inl ⟨rfl,List.mem_cons_self,hc⟩
  ·rw [if_neg hc]
   rcases zHu long r with ⟨h1,h2,h3⟩ | ⟨h1,h2⟩
   ·exact .inl ⟨h1,List.mem_cons_of_mem _ h2,h3⟩
   ·refine .inr ⟨h1,fun y hy=>?_⟩
    rcases List.mem_cons.1 hy with rfl | hy
    ·omega
    ·exact h2 y hy
theorem WinP.block {H:Int→Int} {height lo t:Int} {l:List zC} (h:WinP H height lo t l) {a:Int} (ha:lo≤a):∀ n:Nat,a+n<t→(∀ m,a≤m→m≤a+n→height≤H m)→∃ x∈l,x.Lo≤a∧a+n≤x.Hi
 | 0,ht,hm=>by
  obtain ⟨x,hx,q1,q2⟩:=h.all a ha (by omega) (hm a (by omega) (by omega))
  exact ⟨x,hx,q1,by omega⟩
 | n+1,ht,hm=>by
  obtain ⟨x,hx,q1,q2⟩:=WinP.block h ha n (by omega) (fun m h0 h1=>hm m h0 (by omega))
  by_cases e:a+((n+1:Nat):Int)≤x.Hi
  ·exact ⟨x,hx,q1,e⟩
  ·obtain ⟨z,hz,q3,q4⟩:=h.all (a+((n+1:Nat):Int)) (by omega) ht (hm _ (by omega) (by omega))
   exact (h.one hx hz (by omega) q3 q4).elim
theorem zNW {w:zO} {s:zC} (hc:qR w=0) (h0:0≤s.Lo) (h1:s.Lo≤s.Hi) (h2:s.Hi≤1048576) (h3:s.Hi - s.Lo<10080):askS w s=0:=by
 unfold askS
 rw [if_pos hc,if_pos ⟨h0,h1,h2⟩,if_neg (by omega)]
theorem zIi {w:zO} {s:zC} (hw:LenW w) (hc:qR w=0) (height:Int) (h0:0≤s.Lo) (h1:s.Lo≤s.Hi) (h2:s.Hi≤1048576) (h3:s.Hi - s.Lo<10080):(yD w s height).2=0∧WinP (hgt w) height s.Lo (s.Hi+1) (yD w s height).1:=by
 have:=zNW hc h0 h1 h2 h3
 unfold yD
 rw [if_pos this]
 exact ⟨rfl,win_all (zMG hw this) height⟩
theorem zND {h:zG} (hg:Qp h) {b:zT} (hb:b∈h.Berths) {d:Int} (h0:0≤d) (h1:d≤8000):YX h b d=need h b d:=by
 obtain ⟨b0,b1,b2,b3⟩:=hg.bs b hb
 have:=hg.k0; have:=hg.k1
 unfold YX need
 rw [zf (n:=d+h.Keel) (by omega) (by omega),zf (by omega) (by omega)]
theorem when_eq {h:zG} (hg:Qp h) {c:zJ} {x:zB} {t:zC} {b:zT} (ht:ix h.Tides x.Tide=some t) (hb:b∈h.Berths) (h0:0≤c.Draught) (h1:c.Draught≤8000) (hF:0≤c.From) (hL:1≤c.Long) (hL2:c.Long≤1440):qU h c x b=some (qi h c t b):=by
 have htm:t∈h.Tides:=by
  unfold ix at ht
  split at ht
  ·exact List.mem_of_getElem? ht
  ·cases ht
 obtain ⟨t0,t1,t2,t3⟩:=hg.ts t htm
 unfold qU qi
 rw [ht,Option.bind_some]
 by_cases hc:min t.Hi c.To<max t.Lo c.From
 ·rw [if_pos (by simpa using hc),if_pos hc]
 ·rw [if_neg (by simpa using hc),if_neg hc,zND hg hb h0 h1,Next_eq _ hg.lw _ _ _ (show (-9223372036854775808:Int)≤c.Long∧c.Long≤9223372036854775807 from ⟨by omega,by omega⟩),Option.bind_some]
  by_cases hn:(zEe h.Water ⟨max t.Lo c.From,min t.Hi c.To⟩ (need h b c.Draught) c.Long).2=0
  ·rw [if_neg (by simp [hn]),if_pos hn]
   have hq:0≤(zEe h.Water ⟨max t.Lo c.From,min t.Hi c.To⟩ (need h b c.Draught) c.Long).1.Lo∧(zEe h.Water ⟨max t.Lo c.From,min t.Hi c.To⟩ (need h b c.Draught) c.Long).1.Lo≤1048576:=by
    obtain ⟨w1,w2⟩:=zGU h.Water hg.lw ⟨max t.Lo c.From,min t.Hi c.To⟩ (need h b c.Draught)
    unfold zEe at hn ⊢
    split at hn
    ·rename_i e1
     rw [if_pos e1]
     rw [if_neg (by omega)] at hn ⊢
     rcases zHu c.Long (yD h.Water ⟨max t.Lo c.From,min t.Hi c.To⟩ (need h b c.Draught)).1 with ⟨n1,n2,n3⟩ | ⟨n1,n2⟩
     ·have:=w2 _ n2; omega
     ·rw [n1] at hn; cases hn
    ·rename_i e1; exact absurd hn e1
   rw [zf (n:=_+c.Long) (by omega) (by omega),zf (by omega) (by omega)]
  ·rw [if_pos (by simp [hn]),if_neg hn]
end Go.Mx
