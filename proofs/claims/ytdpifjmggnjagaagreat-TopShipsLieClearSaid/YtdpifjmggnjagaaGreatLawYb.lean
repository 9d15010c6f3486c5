/- Part of the proof of TopShipsLieClear: plain laws about the functions of M, no program in sight. Conditions: none. -/
import Derived.Test.YtdpifjmggnjagaaGreatLawTideWindowsHold
set_option linter.unusedVariables false
set_option linter.unusedSimpArgs false
namespace Go.Mx
theorem lp_meas {σ ρ:Type} {body:σ→Option (σ ⊕ ρ)} {s0:σ} (I:σ→Prop) (μ:σ→Nat) (P:ρ→Prop) (hn:μ s0<18446744073709551615) (h0:I s0) (step:∀ s,I s→(∃ s',body s=some (.inl s')∧I s'∧μ s'<μ s)∨∃ r,body s=some (.inr r)∧P r):∃ r,Lp body fuel s0=some r∧P r:=by
 have key:∀ (m:Nat) (s:σ),μ s<m→I s→∃ r,Lp body m s=some r∧P r:=by
  intro m
  induction m with
  | zero=>intro s h hI; omega
  | succ m ih =>
   intro s h hI
   rcases step s hI with ⟨s',h2,h3,h4⟩ | ⟨r,h1,h2⟩
   ·rw [zEV m h2]; exact ih s' (by omega) h3
   ·rw [zDc m h1]; exact ⟨r,rfl,h2⟩
 exact key fuel s0 (by unfold fuel; omega) h0
theorem zMD {σ ρ:Type} {body:σ→Option (σ ⊕ ρ)} {s:σ} {r:ρ} (h:body s=some (.inr r)):Lp body fuel s=some r:=by
 obtain ⟨y,h1,h2⟩:=lp_inv' (body:=body) (s0:=s) (fun _ s' => s'=s) (fun y=>y=r) 0 (by omega) rfl fun i s' _ hI=>.inr ⟨r,by rw [hI,h],rfl⟩
 rw [h1,h2]
theorem Js {α:Type} {l r:List α} (h:l.length+r.length≤4294967296):app l r=some (l++r):=by unfold app; rw [bi h]
theorem jh {α:Type} (l:List α) (i:Nat) (x:α):put l (i:Int) x=l.set i x:=rfl
def gI (l:List Int) (i:Nat):Int:=l.getD i 0
theorem Jb {l:List Int} {i:Nat} (h:i<l.length):gI l i=l[i]:=by simp [gI,List.getD_eq_getElem?_getD,h]
theorem jU {l:List Int} {i:Nat} (h:i<l.length):ix l (i:Int)=some (gI l i):=by rw [ZY h,Jb h]
theorem jw {l:List Int} {i:Nat} (h:i<l.length) (v:Int) (j:Nat):gI (l.set i v) j=if j=i then v else gI l j:=by
 unfold gI
 rw [List.getD_eq_getElem?_getD,List.getD_eq_getElem?_getD,List.getElem?_set]
 by_cases e:j=i
 ·subst e; simp [h]
 ·rw [bg (fun q=>e q.symm),bg e]
theorem zBC {α:Type} [DecidableEq α]:∀ {l r:List α},l.Nodup→(∀ x∈l,x∈r)→l.length≤r.length
 | [],r,_,_=>Nat.zero_le _
 | a :: l,r,hn,hs=>by
  rw [List.nodup_cons] at hn
  have ha:=hs a bp
  have:=zBC (l:=l) (r:=r.erase a) hn.2 fun x hx=>(List.mem_erase_of_ne (fun e:x=a=>hn.1 (by rw [← e]; exact hx))).2 (hs x (bq _ hx))
  rw [List.length_erase_of_mem ha] at this
  have:0<r.length:=List.length_pos_of_mem ha
  simp only [bt]; omega
theorem zLI {α β:Type} [DecidableEq α] (k k':α) (v:β):∀ (l:List (α×β)) (i:Nat),zBj k l=some i→za k' (l.set i (k,v))=if k'=k then some v else za k' l
 | [],i,h=>by cases h
 | p :: r,i,h=>by
  unfold zBj at h
  by_cases e:k=p.1
  ·rw [bi e] at h
   cases h
   simp only [List.set_cons_zero,za]
   by_cases e2:k'=k
   ·simp [e2]
   ·rw [bg e2,bg e2,bg (fun q=>e2 (q.trans e.symm))]
  ·rw [bg e] at h
   cases hf:zBj k r with
   | none=>rw [hf] at h; cases h
   | some j =>
    rw [hf] at h
    cases h
    simp only [List.set_cons_succ,za]
    by_cases e2:k'=p.1
    ·rw [bi e2,bi e2,bg (fun q=>e (q.symm.trans e2))]
    ·rw [bg e2,bg e2]; exact zLI k k' v r j hf
theorem zJr {α β:Type} [DecidableEq α] (k k':α) (v:β):∀ (l:List (α×β)) (n:Nat),za k l=none→za k' (insL l n (k,v))=if k'=k then some v else za k' l
 | [],0,_=>by simp [insL,za]
 | [],n+1,_=>by simp [insL,za]
 | p :: r,0,h=>by simp [insL,za]
 | p :: r,n+1,h=>by
  simp only [za] at h
  split at h
  ·cases h
  ·rename_i e
   simp only [insL,za]
   rw [zJr k k' v r n h]
   by_cases e2:k'=p.1
   ·rw [bi e2,bi e2,bg (fun q=>e (q.symm.trans e2))]
   ·rw [bg e2,bg e2]
theorem zFu {α β:Type} [DecidableEq α] (pos:α→List α→Nat) (k k':α) (v:β) (l:List (α×β)):za k' (putM pos l k v)=if k'=k then some v else za k' l:=by
 unfold putM
 cases hf:zBj k l with
 | some i=>exact zLI k k' v l i hf
 | none =>
  have:=zAp (k:=k) (l:=l)
  rw [hf] at this
  exact zJr k k' v l _ this.1
theorem zPH {α:Type} (P R:List α) (u v:α):ix (P++u :: v :: R) (P.length:Int)=some u:=by
 have h:P.length<(P++u :: v :: R).length:=by simp
 rw [ZY h]; simp
theorem zPG {α:Type} (P R:List α) (u v:α):ix (P++u :: v :: R) ((P.length+1:Nat):Int)=some v:=by
 have h:P.length+1<(P++u :: v :: R).length:=by simp
 rw [ZY h]; simp
theorem zMw {α:Type} (P R:List α) (u v:α):((P++u :: v :: R).set (P.length+1) u).set P.length v=P++v :: u :: R:=by simp
def zCb {α:Type} (p:α→Bool):List α→Int→Int
 | [],_ => -1
 | x :: r,i=>if p x=true then i else zCb p r (i+1)
theorem zDf {α:Type} (p:α→Bool):∀ (l:List α) (k:Nat),(zCb p l k = -1∧∀ x∈l,p x=false)∨∃ i:Nat,zCb p l k=((k+i:Nat):Int)∧∃ h:i<l.length,p l[i]=true∧∀ (j:Nat) (hj:j<i),p (l[j]'(by omega))=false
 | [],k=>.inl ⟨rfl,fun x hx=>by cases hx⟩
 | x :: r,k=>by
  unfold zCb
  by_cases hp:p x=true
  ·rw [bi hp]
   exact .inr ⟨0,rfl,Nat.zero_lt_succ _,hp,fun j hj=>absurd hj (Nat.not_lt_zero _)⟩
  ·rw [bg hp]
   have hp':p x=false:=by simpa using hp
   have ih:=zDf p r (k+1)
   rw [show ((k+1:Nat):Int)=(k:Int)+1 by omega] at ih
   rcases ih with ⟨h1,h2⟩ | ⟨i,h1,h2,h3,h4⟩
   ·exact .inl ⟨h1,fun y hy=>by
     rcases List.mem_cons.1 hy with rfl | hy
     ·exact hp'
     ·exact h2 y hy⟩
   ·refine .inr ⟨i+1,by rw [h1]; congr 1; omega,by simp only [bt]; omega,by simpa using h3,fun j hj=>?_⟩
    cases j with
    | zero=>simpa using hp'
    | succ j=>simpa using h4 j (by omega)
theorem zJx {α:Type} (p:α→Bool) (l:List α) (hl:Len l) {body:Int→Option (Int ⊕ Int)}
  (step:∀ (i:Nat) (h:i<l.length),body (i:Int)=if p l[i]=true then some (.inr (i:Int)) else some (.inl ((i+1:Nat):Int))) (last:body (l.length:Int)=some (.inr (-1))):Lp body fuel 0=some (zCb p l 0):=by
 refine jK l hl (fun (_:Unit) i=>i) (fun (_:Unit) r=>zCb p r ((l.length - r.length:Nat):Int)) (fun _ _=>True) (a:=()) rfl trivial (fun a i hi _=>?_) (fun a _=>?_) |>.trans ?_
 ·have e:l.length - (l[i] :: l.drop (i+1)).length=i:=by simp only [bt,List.length_drop]; omega
  have e2:l.length - (l.drop (i+1)).length=i+1:=by simp only [List.length_drop]; omega
  rw [step i hi]
  by_cases hp:p l[i]=true
  ·right; rw [bi hp,e]; unfold zCb; rw [bi hp]
  ·left; refine ⟨(),by rw [bg hp],?_,trivial⟩
   rw [e,e2,zCb,bg hp]; rfl
 ·rw [last]; rfl
 ·simp
def zEu (s:zB):Bool:=decide (0≤s.Lo∧s.Lo≤s.Hi∧s.Hi≤1048576∧s.Hi - s.Lo<1440)
theorem zQR (s:zB):QD s=zEu s:=by
 unfold QD zEu
 by_cases h:0≤s.Lo∧s.Lo≤s.Hi∧s.Hi≤1048576
 ·rw [zw (by omega) (by omega)]
  rw [Bool.eq_iff_iff]
  simp [and_assoc]
 ·rw [Bool.eq_iff_iff]
  simp only [bn,bj]
  constructor
  ·intro q; exact absurd ⟨q.1.1.1,q.1.1.2,q.1.2⟩ h
  ·intro q; exact absurd ⟨q.1,q.2.1,q.2.2.1⟩ h
def zH0 (b:zy):Bool:=decide (1≤b.ID∧b.ID≤1099511627776∧0≤b.Depth∧b.Depth≤8000)
def zH9 (e:Int):List zy→List zy→Int
 | _,[]=>e
 | pre,b :: r=>if zH0 b=true then (if (pre.any fun x=>decide (x.ID=b.ID))=true then 6 else zH9 e (pre++[b]) r) else 1
def zIF (e:Int):Int→List zB→Int
 | _,[]=>e
 | last,t :: r=>if zEu t=true∧last<t.Lo then zIF e t.Hi r else 1
def zNO (h:zN):Int:=if 0≤h.Keel∧h.Keel≤8000 then 0 else 1
def zCp (h:zN):Int :=
 if zAq h.Water=0 then (if 6<h.Berths.length∨12<h.Tides.length then 2 else zH9 (zIF (zNO h) (-1) h.Tides) [] h.Berths) else zAq h.Water
structure LenH (h:zN):Prop where
 w:LenW h.Water
 b:Len h.Berths
 t:Len h.Tides
theorem LenH.of {h:zN} (q:zC8 h):LenH h:=⟨LenW.of q.1,q.2.1.1,q.2.2.1.1⟩
theorem zQA (l:List zy) (hl:Len l) (id:Int):Z5 l id=some (zCb (fun b=>decide (b.ID=id)) l 0):=by
 unfold Z5 ZF
 have e:=zJx (body:=zh l id) (fun b=>decide (b.ID=id)) l hl (fun i hi=>by
  unfold zh
  rw [bi (by simpa using hi),ZY hi,ba,w64s' hi hl]
  rfl) (by
  unfold zh
  rw [bg (by simp)]; rfl)
 rw [e]; rfl
theorem zNY {α:Type} {p:α→Bool} {l:List α} {i:Nat} (hi:i<l.length) (hp:p l[i]=true):zCb p l 0<(i:Int)↔(l.take i).any p=true:=by
 rcases zDf p l 0 with ⟨h1,h2⟩ | ⟨k,h1,h2,h3,h4⟩
 ·rw [h2 _ (bz hi)] at hp; cases hp
 ·rw [show ((0:Nat):Int)=0 from rfl] at h1
  rw [h1,List.any_eq_true]
  constructor
  ·intro h
   refine ⟨l[k],?_,h3⟩
   rw [List.mem_take_iff_getElem]
   exact ⟨k,by omega,rfl⟩
  ·rintro ⟨x,hx,hx2⟩
   rw [List.mem_take_iff_getElem] at hx
   obtain ⟨j,hj,rfl⟩:=hx
   by_cases e:j<k
   ·rw [h4 j e] at hx2; cases hx2
   ·omega
theorem zQM (h:zN) (hh:LenH h):zCT h=some (zCp h):=by
 unfold zCT zCp
 rw [zHi _ hh.w,ba]
 by_cases h0:zAq h.Water=0
 ·rw [bi h0,bg (by simp [h0])]
  by_cases h1:6<h.Berths.length∨12<h.Tides.length
  ·rw [bi h1,bi (by simp; omega)]
  ·rw [bg h1,bg (by simp; omega)]
   refine jK h.Berths hh.b (fun (_:List zy) i=>i) (zH9 (zIF (zNO h) (-1) h.Tides)) (fun i a=>a=h.Berths.take i) (a:=[]) rfl (by simp) (fun a i hi hJ=>?_) (fun a _=>?_)
   ·subst hJ
    unfold zBa
    rw [bi (by simpa using hi),ZY hi]
    simp only [ba,zH9]
    by_cases hg:zH0 h.Berths[i]=true
    ·rw [bi hg,zQA _ hh.b,ba,bg (by simp only [zH0,bj] at hg; simp [Zk]; omega)]
     have:=zNY (p:=fun b=>decide (b.ID=h.Berths[i].ID)) hi (by simp)
     by_cases hc:((h.Berths.take i).any fun x=>decide (x.ID=h.Berths[i].ID))=true
     ·right; rw [bi hc,bi (by rw [bj]; exact this.2 hc)]
     ·left
      rw [bg hc,bg (by rw [bj]; exact fun q=>hc (this.1 q)),w64s' hi hh.b]
      exact ⟨_,rfl,rfl,by rw [List.take_succ_eq_append_getElem hi]⟩
    ·right
     rw [bg hg,bi]
     simp only [zH0,bj] at hg
     simp [Zk]; omega
   ·unfold zBa
    rw [bg (by simp)]
    unfold qR
    rw [jK h.Tides hh.t (fun (a:Int) i=>(a,i)) (zIF (zNO h)) (fun _ _=>True) (a := -1) rfl trivial (fun a i hi _=>?_) (fun a _=>?_)]
    ·rfl
    ·unfold zBb
     simp only
     rw [bi (by simpa using hi),ZY hi,ba,zQR]
     simp only [zIF]
     by_cases hc:zEu h.Tides[i]=true∧a<h.Tides[i].Lo
     ·left
      rw [bi hc,bg (by simp [hc.1]; omega),w64s' hi hh.t]
      exact ⟨_,rfl,rfl,trivial⟩
     ·right
      rw [bg hc,bi]
      rw [Bool.or_eq_true,Bool.not_eq_true',bj]
      by_cases ht:zEu h.Tides[i]=true
      ·right
       have : ¬ a<h.Tides[i].Lo:=fun q=>hc ⟨ht,q⟩
       omega
      ·left; simpa using ht
    ·unfold zBb
     simp only
     rw [bg (by simp)]
     unfold qQ zNO
     simp only [zIF]
     by_cases hk:0≤h.Keel∧h.Keel≤8000
     ·rw [bi hk,bg (by simp [Zk]; omega)]; rfl
     ·rw [bg hk,bi (by simp [Zk]; omega)]; rfl
 ·rw [bg h0,bi (by simp [h0])]
structure zDT (h:zN):Prop where
 c:zAq h.Water=0
 g:zKQ h.Water
 lw:LenW h.Water
 nb:h.Berths.length≤6
 nt:h.Tides.length≤12
 bs:∀ b∈h.Berths,1≤b.ID∧b.ID≤1099511627776∧0≤b.Depth∧b.Depth≤8000
 bd:h.Berths.Pairwise (fun a b=>a.ID≠b.ID)
 ts:∀ t∈h.Tides,0≤t.Lo∧t.Lo≤t.Hi∧t.Hi≤1048576∧t.Hi - t.Lo<1440
 tp:h.Tides.Pairwise (fun a b=>a.Hi<b.Lo)
 k0:0≤h.Keel
 k1:h.Keel≤8000
theorem zId (e:Int):∀ (l pre:List zy),zH9 e pre l=0→pre.Pairwise (fun a b=>a.ID≠b.ID)→e=0∧(∀ b∈l,zH0 b=true)∧(pre++l).Pairwise (fun a b=>a.ID≠b.ID)
 | [],pre,h,hp=>⟨h,fun b hb=>(by cases hb),by simpa using hp⟩
 | b :: r,pre,h,hp=>by
  unfold zH9 at h
  split at h
  ·rename_i hg
   split at h
   ·cases h
   ·rename_i hn
    have hp':(pre++[b]).Pairwise (fun a b=>a.ID≠b.ID):=by
     rw [List.pairwise_append]
     refine ⟨hp,List.pairwise_singleton _ _,fun x hx y hy=>?_⟩
     rw [cb] at hy
     subst hy
     intro q
     exact hn (List.any_eq_true.2 ⟨x,hx,by simpa using q⟩)
    obtain ⟨q1,q2,q3⟩:=zId e r (pre++[b]) h hp'
    refine ⟨q1,fun x hx=>?_,by simpa using q3⟩
    rcases List.mem_cons.1 hx with rfl | hx
    ·exact hg
    ·exact q2 x hx
  ·cases h
theorem zI8 (e:Int):∀ (l:List zB) (last:Int),zIF e last l=0→e=0∧(∀ t∈l,zEu t=true∧last<t.Lo)∧l.Pairwise (fun a b=>a.Hi<b.Lo)
 | [],last,h=>⟨h,fun b hb=>(by cases hb),.nil⟩
 | t :: r,last,h=>by
  unfold zIF at h
  split at h
  ·rename_i hg
   obtain ⟨q1,q2,q3⟩:=zI8 e r t.Hi h
   have ht:=hg.1
   simp only [zEu,bj] at ht
   refine ⟨q1,fun x hx=>?_,List.pairwise_cons.2 ⟨fun x hx=>(q2 x hx).2,q3⟩⟩
   rcases List.mem_cons.1 hx with rfl | hx
   ·exact hg
   ·have:=q2 x hx
    exact ⟨this.1,by omega⟩
  ·cases h
theorem zDT.of {h:zN} (hh:LenH h) (h0:zCp h=0):zDT h:=by
 unfold zCp at h0
 split at h0
 ·rename_i hc
  split at h0
  ·cases h0
  ·rename_i hn
   obtain ⟨q1,q2,q3⟩:=zId _ _ _ h0 .nil
   obtain ⟨r1,r2,r3⟩:=zI8 _ _ _ q1
   have hk:0≤h.Keel∧h.Keel≤8000:=by
    unfold zNO at r1
    split at r1
    ·assumption
    ·cases r1
   exact ⟨hc,zFe hh.w hc,hh.w,by omega,by omega,fun b hb=>by simpa [zH0] using q2 b hb,by simpa using q3,fun t ht=>by simpa [zEu] using (r2 t ht).1,r3,hk.1,hk.2⟩
 ·contradiction
def need (h:zN) (b:zy) (d:Int):Int:=d+h.Keel - b.Depth
def Y7 (h:zN) (c:zV) (t:zB) (b:zy):zB×Bool :=
 if min t.Hi c.To<max t.Lo c.From then (⟨0,0⟩,false) else
  if (zGA h.Water ⟨max t.Lo c.From,min t.Hi c.To⟩ (need h b c.Draught) c.Long).2=0 then
   (⟨(zGA h.Water ⟨max t.Lo c.From,min t.Hi c.To⟩ (need h b c.Draught) c.Long).1.Lo,(zGA h.Water ⟨max t.Lo c.From,min t.Hi c.To⟩ (need h b c.Draught) c.Long).1.Lo+c.Long - 1⟩,true)
  else (⟨0,0⟩,false)
theorem zGc (long:Int):∀ l:List zB,((zGB long l).2=0∧(zGB long l).1∈l∧long≤(zGB long l).1.Hi - (zGB long l).1.Lo+1)∨((zGB long l).2=5∧∀ x∈l,x.Hi - x.Lo+1<long)
 | []=>.inr ⟨rfl,fun x hx=>by cases hx⟩
 | x :: r=>by
  unfold zGB
  by_cases hc:long≤x.Hi - x.Lo+1
  ·rw [bi hc]; exact .inl ⟨rfl,bp,hc⟩
  ·rw [bg hc]
   rcases zGc long r with ⟨h1,h2,h3⟩ | ⟨h1,h2⟩
   ·exact .inl ⟨h1,bq _ h2,h3⟩
   ·refine .inr ⟨h1,fun y hy=>?_⟩
    rcases List.mem_cons.1 hy with rfl | hy
    ·omega
    ·exact h2 y hy
theorem WinP.block {H:Int→Int} {height lo t:Int} {l:List zB} (h:WinP H height lo t l) {a:Int} (ha:lo≤a):∀ n:Nat,a+n<t→(∀ m,a≤m→m≤a+n→height≤H m)→∃ x∈l,x.Lo≤a∧a+n≤x.Hi
 | 0,ht,hm=>by
  obtain ⟨x,hx,q1,q2⟩:=h.all a ha (by omega) (hm a (by omega) (by omega))
  exact ⟨x,hx,q1,by omega⟩
 | n+1,ht,hm=>by
  obtain ⟨x,hx,q1,q2⟩:=WinP.block h ha n (by omega) (fun m h0 h1=>hm m h0 (by omega))
  by_cases e:a+((n+1:Nat):Int)≤x.Hi
  ·exact ⟨x,hx,q1,e⟩
  ·obtain ⟨z,hz,q3,q4⟩:=h.all (a+((n+1:Nat):Int)) (by omega) ht (hm _ (by omega) (by omega))
   exact (h.one hx hz (by omega) q3 q4).elim
theorem zQH {w:zW} {s:zB} (hc:zAq w=0) (h0:0≤s.Lo) (h1:s.Lo≤s.Hi) (h2:s.Hi≤1048576) (h3:s.Hi - s.Lo<10080):askS w s=0:=by
 unfold askS
 rw [bi hc,bi ⟨h0,h1,h2⟩,bg (by omega)]
theorem zKU {w:zW} {s:zB} (hw:LenW w) (hc:zAq w=0) (height:Int) (h0:0≤s.Lo) (h1:s.Lo≤s.Hi) (h2:s.Hi≤1048576) (h3:s.Hi - s.Lo<10080):(YQ w s height).2=0∧WinP (hgt w) height s.Lo (s.Hi+1) (YQ w s height).1:=by
 have:=zQH hc h0 h1 h2 h3
 unfold YQ
 rw [bi this]
 exact ⟨rfl,win_all (zOs hw this) height⟩
theorem zPc {h:zN} (hg:zDT h) {c:zV} {t:zB} {b:zy} (ht:t∈h.Tides) (hF:0≤c.From) (hL:1≤c.Long) (q:(Y7 h c t b).2=true) :
  max t.Lo c.From≤(Y7 h c t b).1.Lo∧(Y7 h c t b).1.Hi≤min t.Hi c.To∧(Y7 h c t b).1.Hi=(Y7 h c t b).1.Lo+c.Long - 1∧∀ m,(Y7 h c t b).1.Lo≤m→m≤(Y7 h c t b).1.Hi→need h b c.Draught≤hgt h.Water m:=by
 obtain ⟨t0,t1,t2,t3⟩:=hg.ts t ht
 unfold Y7 at q ⊢
 split at q
 ·cases q
 ·rename_i hs
  split at q
  ·rename_i hn
   rw [bg hs,bi hn]
   obtain ⟨w1,w2⟩:=zKU (s:=⟨max t.Lo c.From,min t.Hi c.To⟩) hg.lw hg.c (need h b c.Draught) (by simp only; omega) (by simp only; omega) (by simp only; omega) (by simp only; omega)
   unfold zGA at hn ⊢
   rw [bi w1,bg (by omega)] at hn ⊢
   generalize (YQ h.Water ⟨max t.Lo c.From,min t.Hi c.To⟩ (need h b c.Draught)).1=l at *
   rcases zGc c.Long l with ⟨n1,n2,n3⟩ | ⟨n1,n2⟩
   ·obtain ⟨p1,p2,p3,p4⟩:=w2.ins _ n2
    simp only at p1 p3 ⊢
    exact ⟨by omega,by omega,trivial,fun m h0 h1=>p4 m h0 (by omega)⟩
   ·rw [n1] at hn; cases hn
  ·cases q
theorem zPu {h:zN} (hg:zDT h) {b:zy} (hb:b∈h.Berths) {d:Int} (h0:0≤d) (h1:d≤8000):qx h b d=need h b d:=by
 obtain ⟨b0,b1,b2,b3⟩:=hg.bs b hb
 have:=hg.k0; have:=hg.k1
 unfold qx need
 rw [zw (n:=d+h.Keel) (by omega) (by omega),zw (by omega) (by omega)]
theorem when_eq {h:zN} (hg:zDT h) {c:zV} {x:zK} {t:zB} {b:zy} (ht:ix h.Tides x.Tide=some t) (hb:b∈h.Berths) (h0:0≤c.Draught) (h1:c.Draught≤8000) (hF:0≤c.From) (hL:1≤c.Long) (hL2:c.Long≤1440):zDS h c x b=some (Y7 h c t b):=by
 have htm:t∈h.Tides:=by
  unfold ix at ht
  split at ht
  ·exact List.mem_of_getElem? ht
  ·cases ht
 obtain ⟨t0,t1,t2,t3⟩:=hg.ts t htm
 unfold zDS Y7
 rw [ht,ba]
 by_cases hc:min t.Hi c.To<max t.Lo c.From
 ·rw [bi (by simpa using hc),bi hc]
 ·rw [bg (by simpa using hc),bg hc,zPu hg hb h0 h1,Next_eq _ hg.lw _ _ _ (show (-9223372036854775808:Int)≤c.Long∧c.Long≤9223372036854775807 from ⟨by omega,by omega⟩),ba]
  by_cases hn:(zGA h.Water ⟨max t.Lo c.From,min t.Hi c.To⟩ (need h b c.Draught) c.Long).2=0
  ·rw [bg (by simp [hn]),bi hn]
   have hq:0≤(zGA h.Water ⟨max t.Lo c.From,min t.Hi c.To⟩ (need h b c.Draught) c.Long).1.Lo∧(zGA h.Water ⟨max t.Lo c.From,min t.Hi c.To⟩ (need h b c.Draught) c.Long).1.Lo≤1048576:=by
    obtain ⟨w1,w2⟩:=zIE h.Water hg.lw ⟨max t.Lo c.From,min t.Hi c.To⟩ (need h b c.Draught)
    unfold zGA at hn ⊢
    split at hn
    ·rename_i e1
     rw [bi e1]
     rw [bg (by omega)] at hn ⊢
     rcases zGc c.Long (YQ h.Water ⟨max t.Lo c.From,min t.Hi c.To⟩ (need h b c.Draught)).1 with ⟨n1,n2,n3⟩ | ⟨n1,n2⟩
     ·have:=w2 _ n2; omega
     ·rw [n1] at hn; cases hn
    ·rename_i e1; exact absurd hn e1
   rw [zw (n:=_+c.Long) (by omega) (by omega),zw (by omega) (by omega)]
  ·rw [bi (by simp [hn]),bg hn]
end Go.Mx
