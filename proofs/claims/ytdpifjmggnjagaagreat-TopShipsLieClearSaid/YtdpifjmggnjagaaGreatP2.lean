/- The program's functions compute the plain ones. Conditions: none. Printed by a program (wip/tools/xg.py). -/
import Derived.Test.YtdpifjmggnjagaaGreatP1
import Derived.Test.YtdpifjmggnjagaaGreatAu
set_option linter.unusedVariables false
set_option linter.unusedSimpArgs false
set_option maxRecDepth 4000
namespace Go.Proofs.YtdpifjmggnjagaaGreat
open Go Go.Am Go.Proofs Go.Mx X
open List (map)
theorem zJb (c:zV):Ct Tryz.prog 41 [zL c] (V.b (zA6 c)):=by
 refine zP zn rfl ?_
 generalize M:zA6 c=r
 unfold zA6 at M
 refine au 5 ?_
 refine X.mid [(2,V.b ((((((Zk c.ID 1 1099511627776)&&(Zk c.Draught 0 8000))&&(decide (0≤c.From)))&&(decide (c.From≤c.To)))&&(decide (c.To≤1048576)))&&(Zk c.Long 1 1440)))] ?_ ?_
 ·intro hg
  refine X.split (Zk c.ID 1 1099511627776) (fun h_1=>?_) (fun h_1=>?_)
  ·refine X.split (Zk c.Draught 0 8000) (fun h_2=>?_) (fun h_2=>?_)
   ·refine X.split (decide (0≤c.From)) (fun h_3=>?_) (fun h_3=>?_)
    ·refine X.split (decide (c.From≤c.To)) (fun h_4=>?_) (fun h_4=>?_)
     ·refine X.split (decide (c.To≤1048576)) (fun h_5=>?_) (fun h_5=>?_)
      ·refine au 2 ?_
       refine ca (Zo c.ID 1 1099511627776) (au 3 ?_)
       refine ca (Zo c.Draught 0 8000) (au 21 ?_)
       refine ca (Zo c.Long 1 1440) (au 3 ?_)
       exact ng hg rfl (by simp only [h_1,h_2,h_3,h_4,h_5,bb])
      refine au 2 ?_
      refine ca (Zo c.ID 1 1099511627776) (au 3 ?_)
      refine ca (Zo c.Draught 0 8000) (au 25 ?_)
      exact ng hg rfl (by simp only [h_1,h_2,h_3,h_4,h_5,bb])
     refine au 2 ?_
     refine ca (Zo c.ID 1 1099511627776) (au 3 ?_)
     refine ca (Zo c.Draught 0 8000) (au 25 ?_)
     exact ng hg rfl (by simp only [h_1,h_2,h_3,h_4,bb])
    refine au 2 ?_
    refine ca (Zo c.ID 1 1099511627776) (au 3 ?_)
    refine ca (Zo c.Draught 0 8000) (au 25 ?_)
    exact ng hg rfl (by simp only [h_1,h_2,h_3,bb])
   refine au 2 ?_
   refine ca (Zo c.ID 1 1099511627776) (au 3 ?_)
   refine ca (Zo c.Draught 0 8000) (au 25 ?_)
   exact ng hg rfl (by simp only [h_1,h_2,bb])
  refine au 2 ?_
  refine ca (Zo c.ID 1 1099511627776) (au 29 ?_)
  exact ng hg rfl (by simp only [h_1,bb])
 subst M
 exact X.rt
theorem zIs (c:zV):Ct Tryz.prog 26 [zL c] (V.i (zBZ c)):=by
 refine zP zn rfl ?_
 generalize M:zBZ c=r
 unfold zBZ at M
 refine au 9 ?_
 subst M
 exact X.rt
theorem Q5 (x:zV) (c:Int):Ct Tryz.prog 56 [zL x,V.fptr [V.fn 26 []] 0 0,V.fptr [V.i c] 0 0] (V.b (jM x c)):=by
 refine zP zn rfl ?_
 generalize M:jM x c=r
 unfold jM at M
 refine au 8 ?_
 refine cca (zIs x) (au 4 ?_)
 refine X.norm [(4,V.b (decide ((zBZ x)=c)))] ?_ rfl (sr rfl)
 subst M
 exact X.rt
theorem JM {s:(List zV)} {c:Int} {r:Int} (M:ZI s c=some r):Ct Tryz.prog 55 [V.sl (map zL s),V.fn 56 [V.fptr [V.fn 26 []] 0 0,V.fptr [V.i c] 0 0]] (V.i r):=by
 refine zP zn rfl ?_
 unfold ZI at M
 refine au 9 ?_
 refine X.join (τ:=Unit) (fun v=>ZE=some r) (fun v=>⟨[],[],0,none,19⟩) ?_ ?_
 ·intro _ M
  replace M:ZE=some r:=M
  unfold ZE at M
  refine au 3 ?_
  cases M
  exact X.rt
 intro hj_1
 refine au 1 ?_
 refine gx [] (X.loop (σ:=Int) (fun v=>⟨[(0,V.sl (map zL s)),(1,V.fn 56 [V.fptr [V.fn 26 []] 0 0,V.fptr [V.i c] 0 0]),(7,(V.i (s.length:Int))),(8,V.i v)],[],0,none,19⟩) M ?_ rfl)
 intro x1 b_1 M hc_2 hr_1
 rw [zk] at M
 refine au 3 ?_
 refine GS.seq ?_
 refine cm M (fun h_1 M=>?_) (fun h_1 M=>?_)
 ·obtain ⟨x,h_2,M⟩:=zC M
  refine au 13 ?_
  refine ca (Q5 x c) ?_
  refine GS.ZT ?_
  refine cm M (fun h_3 M=>?_) (fun h_3 M=>?_)
  ·refine au 4 ?_
   have hE:=bf M
   replace hE:=hr_1 _ hE.symm
   subst hE
   exact X.rt
  refine au 6 ?_
  have hE:=bf M
  exact gx [] (hc_2 (w64 (x1+1)) hE.symm)
 obtain ⟨y_1,M,hy⟩:=zt M
 rw [hr_1 _ hy.symm] at M
 refine au 1 ?_
 exact gx [] (hj_1 () M)
theorem jr {l:(List zV)} {id:Int} {r:Int} (M:Za l id=some r):Ct Tryz.prog 25 [V.sl (map zL l),V.i id,V.fn 26 []] (V.i r):=by
 refine zP zn rfl ?_
 unfold Za at M
 obtain ⟨y,h_1,M⟩:=zC M
 refine au 8 ?_
 refine X.zBk (JM h_1) rfl rfl rfl (m:=9) rfl (.cons (.shut (n:=9) rfl) (.cons (FR.arg ⟨30,rfl⟩) .nil)) (au 2 ?_)
 cases M
 exact X.rt
set_option maxHeartbeats 4000000 in
theorem zAG {h:zN} {l:(List zV)} {r:Int} (M:Jr h l=some r):Ct Tryz.prog 16 [zJ h,V.sl (map zL l)] (V.i r):=by
 refine zP zn rfl ?_
 unfold Jr at M
 obtain ⟨y,h_1,M⟩:=zC M
 refine au 7 ?_
 refine ca (zJc h_1) (au 6 ?_)
 refine cm M (fun h_2 M=>?_) (fun h_2 M=>?_)
 ·refine au 4 ?_
  cases M
  exact X.rt
 refine au 7 ?_
 refine cm M (fun h_3 M=>?_) (fun h_3 M=>?_)
 ·refine au 3 ?_
  cases M
  exact X.rt
 refine au 7 ?_
 refine X.join (τ:=Unit) (fun v=>Yq=some r) (fun v=>⟨[],[],0,none,33⟩) ?_ ?_
 ·intro _ M
  replace M:Yq=some r:=M
  unfold Yq at M
  refine au 3 ?_
  cases M
  exact X.rt
 intro hj_1
 refine au 1 ?_
 refine gx [] (X.loop (σ:=Int) (fun v=>⟨[(1,V.sl (map zL l)),(16,V.sl (map zL l)),(17,(V.i (l.length:Int))),(18,V.i v)],[],0,none,33⟩) M ?_ rfl)
 intro x1 b_1 M hc_2 hr_1
 rw [Yr] at M
 refine au 3 ?_
 refine GS.seq ?_
 refine cm M (fun h_4 M=>?_) (fun h_4 M=>?_)
 ·obtain ⟨x,h_5,M⟩:=zC M
  refine au 9 ?_
  refine X.op0W rfl rfl rfl (au 4 ?_)
  refine ca (zJb x) (au 2 ?_)
  refine cm M (fun h_6 M=>?_) (fun h_6 M=>?_)
  ·refine au 3 ?_
   have hE:=bf M
   replace hE:=hr_1 _ hE.symm
   subst hE
   exact X.rt
  obtain ⟨y1,h_7,M⟩:=zC M
  refine au 5 ?_
  refine ca (jr h_7) (au 3 ?_)
  refine cm M (fun h_8 M=>?_) (fun h_8 M=>?_)
  ·refine au 3 ?_
   have hE:=bf M
   replace hE:=hr_1 _ hE.symm
   subst hE
   exact X.rt
  refine au 6 ?_
  have hE:=bf M
  exact gx [] (hc_2 (w64 (x1+1)) hE.symm)
 obtain ⟨y_1,M,hy⟩:=zt M
 rw [hr_1 _ hy.symm] at M
 refine au 1 ?_
 exact gx [] (hj_1 () M)
abbrev zF (x:zK):V:=.agg [V.i x.Tide,V.i x.Berth]
abbrev ZZ (x:Zi):V:=.agg [V.i x.Call,V.i x.Slot.Tide,V.i x.Slot.Berth,V.i x.Span.Lo,V.i x.Span.Hi]
theorem zFK (h:zN):Ct Tryz.prog 42 [zJ h] (V.fn 84 [V.fptr [zJ (ze h)] 0 0]):=by
 refine zP zn rfl ?_
 generalize M:ze h=r
 unfold ze at M
 refine au 8 ?_
 subst M
 exact X.rt
theorem zIr (h:zN) (b:zy) (draught:Int):Ct Tryz.prog 113 [zJ h,zX b,V.i draught] (V.i (qx h b draught)):=by
 refine zP zn rfl ?_
 generalize M:qx h b draught=r
 unfold qx at M
 refine au 15 ?_
 subst M
 exact X.rt
theorem zIj (s:zB):Ct Tryz.prog 151 [zD s] (V.i (zBA s)):=by
 refine zP zn rfl ?_
 generalize M:zBA s=r
 unfold zBA at M
 refine au 7 ?_
 refine X.mid [(3,(V.b (((decide (s.Lo<0))||(decide (s.Hi<s.Lo)))||(decide (1048576<s.Hi))))),(1,V.ptr 0 0 0)] ?_ ?_
 ·intro hg
  refine X.split (decide (s.Lo<0)) (fun h_1=>?_) (fun h_1=>?_)
  ·refine au 17 ?_
   exact ng hg rfl (by simp only [h_1,bb])
  refine X.split (decide (s.Hi<s.Lo)) (fun h_2=>?_) (fun h_2=>?_)
  ·refine au 17 ?_
   exact ng hg rfl (by simp only [h_1,h_2,bb])
  refine au 17 ?_
  exact ng hg rfl (by simp only [h_1,h_2,bb])
 refine cm M (fun h_3 M=>?_) (fun h_3 M=>?_)
 ·refine au 3 ?_
  subst M
  exact X.rt
 refine au 9 ?_
 refine cm M (fun h_4 M=>?_) (fun h_4 M=>?_)
 ·refine au 3 ?_
  subst M
  exact X.rt
 refine au 5 ?_
 subst M
 exact X.rt
theorem zKe {w:zW} {s:zB} {r:Int} (M:zC0 w s=some r):Ct Tryz.prog 147 [ZL w,zD s] (V.i r):=by
 refine zP zn rfl ?_
 unfold zC0 at M
 obtain ⟨y,h_1,M⟩:=zC M
 refine au 8 ?_
 refine ca (zDn h_1) (au 6 ?_)
 refine cm M (fun h_2 M=>?_) (fun h_2 M=>?_)
 ·refine au 4 ?_
  cases M
  exact X.rt
 refine au 3 ?_
 refine ca (zIj s) (au 2 ?_)
 cases M
 exact X.rt
theorem zJW (w:zW) (s:zB):Ct Tryz.prog 148 [ZL w,zD s] (V.fn 152 [V.fptr [ZL ((Zc w s).1)] 0 0,V.fptr [zD ((Zc w s).2)] 0 0]):=by
 refine zP zn rfl ?_
 generalize M:Zc w s=r
 unfold Zc at M
 refine au 9 ?_
 subst M
 exact X.rt
def yT (n:Nat):List V:=V.i (-1) :: (List.range n).map fun i=>V.i (i:Nat)
def Q3 (w:zW):V:=.fmap (yT w.Cycles.length) (.fn 117 [.fptr [ZL w] 0 0] :: w.Cycles.map fun c=>.fn 119 [.fptr [ZN c] 0 0])
theorem zIX : ∀ (n a:Nat) (i:Int) (k:Nat),a≤i→i<a+n→zCO (.i i) ((List.range' a n).map fun i=>V.i (i:Nat)) k=some (some (k+(i.toNat - a)))
 | 0,a,i,k,h1,h2=>by omega
 | n+1,a,i,k,h1,h2=>by
  simp only [List.range'_succ,bw,zCO,zBJ,J6,if_true]
  by_cases h:i=a
  ·subst h; simp
  ·have ih:=zIX n (a+1) i (k+1) (by omega) (by omega)
   simp only [h,decide_false,ih]
   congr 2
   omega
theorem zOi : ∀ (n a:Nat) (i:Int) (k:Nat),(i<a∨a+n≤i)→zCO (.i i) ((List.range' a n).map fun i=>V.i (i:Nat)) k=some none
 | 0,a,i,k,h=>by simp [zCO]
 | n+1,a,i,k,h=>by
  simp only [List.range'_succ,bw,zCO,zBJ,J6,if_true]
  have h1 : ¬ i=a:=by omega
  simp only [h1,decide_false]
  exact zOi n (a+1) i (k+1) (by omega)
theorem zMF {K:List (Nat×V)} {H:List Blk} {lo nid:Nat} {xo ko:Operand} {w:zW} {i:Int} (h:decide (i = -1)=true) (hx:kev K xo=some (Q3 w)) (hk:kev K ko=some (.i i)):zZ CC K H lo nid (.lookup 186 xo ko false)=some ⟨.fn 117 [.fptr [ZL w] 0 0],[],[]⟩:=by
 have h1:i = -1:=by simpa using h
 subst h1
 simp only [zZ,Yy,hx,hk]
 rfl
theorem zMG {K:List (Nat×V)} {H:List Blk} {lo nid:Nat} {xo ko:Operand} {w:zW} {i:Int} {c:zz} (h:ix w.Cycles i=some c) (hx:kev K xo=some (Q3 w)) (hk:kev K ko=some (.i i)):zZ CC K H lo nid (.lookup 186 xo ko false)=some ⟨.fn 119 [.fptr [ZN c] 0 0],[],[]⟩:=by
 obtain ⟨h0,h1,h2⟩:=zD8 h
 have hf:=zIX w.Cycles.length 0 i 1 (by omega) (by omega)
 have hne : ¬ i = -1:=by omega
 simp only [zZ,Yy,hx,hk]
 unfold zFQ Q3
 have hm:zGC CC 186=some (.int .i64,t143):=rfl
 simp only [hm,zDe,J6,cond_true,zDB,yT,zCO,zBJ,if_true,hne,decide_false]
 rw [List.range_eq_range',hf]
 simp only [Nat.sub_zero]
 rw [show 1+i.toNat=i.toNat+1 by omega]
 simp only [Am.get]
 rw [Zr,List.getElem?_map,h2]
 rfl
theorem zE7 (n:Nat):yT n=(((-1:Int) :: (List.range n).map fun (i:Nat)=>(i:Int))).map V.i:=by simp [yT]
theorem zKZ (n:Nat):yT (n+1)=yT n++[V.i (n:Nat)]:=by simp [yT,List.range_succ]
def zB0 (n:Nat):List V:=.fn 117 [.ptr 0 0 0] :: (List.range n).map fun i=>.fn 119 [.ptr (i+2) 0 0]
theorem zLz (n:Nat):zB0 (n+1)=zB0 n++[.fn 119 [.ptr (n+2) 0 0]]:=by simp [zB0,List.range_succ]
def zG8 (w:zW) (i:Nat):List Blk:=(w.Cycles.take i).map fun c=>.rows 4 [ZN c]
def zCH (w:zW) (i:Nat):List Blk:=.rows 3 [ZL w] :: .map (yT i) (zB0 i) :: zG8 w i
theorem zPm (w:zW) (i:Nat) (h:i≤w.Cycles.length):(zCH w i).length=i+2:=by simp [zCH,zG8]; omega
theorem zOM (w:zW) (i:Nat) (c:zz) (h:w.Cycles[i]? = some c):hput (zCH w i++[.rows 4 [ZN c]]) 1 (.map (yT (i+1)) (zB0 (i+1)))=zCH w (i+1):=by
 simp only [zCH,List.cons_append,hput,zG8,List.take_add_one,h,List.map_append]
 rfl
theorem zM7 (w:zW) (j:Nat) (c:zz) (h:w.Cycles[j]? = some c):hget (zCH w w.Cycles.length) (j+2) = .rows 4 [ZN c]:=by
 simp only [hget,zCH,Am.get,zG8,List.take_length]
 rw [Zr,List.getElem?_map,h]
 rfl
theorem zQg (w:zW):∃ n,frz (zCH w w.Cycles.length) 0 n (.map 1)=some (Q3 w):=by
 refine ⟨9,?_⟩
 have h1:mapO (frz (zCH w w.Cycles.length) 0 8) (yT w.Cycles.length)=some (yT w.Cycles.length):=by
  rw [zE7]; exact qb (g:=frz (zCH w w.Cycles.length) 0 8) (f:=V.i) (fun _=>rfl) _
 have h2:∀ l:List Nat,(∀ j∈l,j<w.Cycles.length)→mapO (frz (zCH w w.Cycles.length) 0 8) (l.map fun i=>.fn 119 [.ptr (i+2) 0 0])=some (l.map fun i=>.fn 119 [.fptr [ZN (w.Cycles.getD i default)] 0 0]):=by
  intro l
  induction l with
  | nil=>intro _; rfl
  | cons j r ih =>
   intro h
   have hj:=h j bp
   have hg:=zM7 w j (w.Cycles.getD j default) (by rw [List.getD_eq_getElem?_getD,List.getElem?_eq_getElem hj]; rfl)
   have h3:frz (zCH w w.Cycles.length) 0 8 (.fn 119 [.ptr (j+2) 0 0])=some (.fn 119 [.fptr [ZN (w.Cycles.getD j default)] 0 0]):=by
    exact frzFn (mapO1 (frzPtr hg rfl))
   simp only [bw,mapO,h3,ih (fun x hx=>h x (bq _ hx))]
 have h4:=h2 (List.range w.Cycles.length) (fun j hj=>List.mem_range.1 hj)
 have h5:mapO (frz (zCH w w.Cycles.length) 0 8) (zB0 w.Cycles.length)=some (.fn 117 [.fptr [ZL w] 0 0] :: w.Cycles.map fun c=>.fn 119 [.fptr [ZN c] 0 0]):=by
  have h6:frz (zCH w w.Cycles.length) 0 8 (.fn 117 [.ptr 0 0 0])=some (.fn 117 [.fptr [ZL w] 0 0]):=rfl
  simp only [zB0,mapO,h6,h4]
  congr 2
  refine List.ext_getElem (by simp) fun i h1 h2=>?_
  simp only [List.length_map] at h2
  simp [List.getD_eq_getElem?_getD,h2]
 exact frzMap rfl h1 h5
theorem zKd {w r:zW} (M:zEN w=some r):Ct Tryz.prog 91 [ZL w] (Q3 r):=by
 have hlen:w.Cycles.length≤9223372036854775807∧r=w:=by
  unfold zEN at M
  split at M
  ·exact ⟨by assumption,(bf M).symm⟩
  ·cases M
 obtain ⟨hlen,rfl⟩:=hlen
 refine zP zn rfl (au 7 ?_)
 refine X.op0W rfl rfl rfl (au 11 ?_)
 refine X.norm (H':=zCH r 0) [(12,V.i (0:Nat)),(11,V.i (r.Cycles.length:Nat)),(10,V.sl (r.Cycles.map ZN)),(3,V.map 1)] ?_ rfl (sr rfl)
 refine loopI (fun i=>⟨[(12,V.i (i:Nat)),(11,V.i (r.Cycles.length:Nat)),(10,V.sl (r.Cycles.map ZN)),(3,V.map 1)],zCH r i,0,none,22⟩) r.Cycles.length (fun i hi IH=>?_) ?_
 ·obtain ⟨c,hc⟩:∃ c,r.Cycles[i]? = some c:=⟨_,List.getElem?_eq_getElem hi⟩
  have hix:ix r.Cycles (i:Int)=some c:=by unfold ix; rw [bi (by omega)]; simpa using hc
  refine au 3 ?_
  refine GS.seq ?_
  refine X.cond rfl (fun h=>?_) (fun h=>?_)
  ·refine au 7 ?_
   refine X.opW rfl rfl zM4 rfl (au 1 ?_)
   refine X.op0W rfl (zQU (v:=ZN c) (r:=ZN c) rfl rfl rfl rfl rfl) puts_end' (au 5 ?_)
   refine X.op0W rfl (zPw (kd:=.int .i64) (kv:=V.i (i:Nat)) (vv:=.fn 119 [.ptr (zCH r i).length 0 0]) (ks:=yT i) (vs:=zB0 i) rfl rfl rfl rfl rfl rfl (by rw [zE7]; exact zKC _ _ _ (by simp; omega))) rfl (au 6 ?_)
   refine normH _ IH rfl ?_ (zHn rfl ?_ (sr rfl))
   ·rw [← zOM r i c hc]
    simp only [puts]
    have e1:zAC (V.i (i:Nat)) (yT i)=(yT i).length:=by
     rw [zE7,zLO _ _ (by simp; omega),List.length_map]
    have e2:(yT i).length=(zB0 i).length:=by simp [yT,zB0]
    rw [e1,zMJ,e2,zMJ,← zKZ,zPm r i (by omega),← zLz]
    rfl
   ·rw [zw (by omega) (by omega)]; rfl
  ·simp only [decide_eq_false_iff_not] at h
   exact absurd (by omega) h
 ·refine au 3 ?_
  refine GS.seq ?_
  refine X.cond rfl (fun h=>?_) (fun h=>?_)
  ·simp at h
  ·refine au 5 ?_
   exact GS.ret ⟨_,rfl,zQg r⟩
theorem zEn {w:zW} {r:zW×zW} (M:qY w=some r):Ct Tryz.prog 48 [ZL w] (V.fn 92 [V.fptr [ZL r.1] 0 0,V.fptr [Q3 r.2] 0 0]):=by
 refine zP zn rfl ?_
 unfold qY at M
 obtain ⟨y,h_1,M⟩:=zC M
 refine au 6 ?_
 refine ca (zKd h_1) (au 1 ?_)
 refine X.op0W rfl rfl rfl (au 5 ?_)
 cases M
 exact X.rt
theorem zGV {w:zW} {tick:Int} {r:Int} (M:QQ w tick=some r):Ct Tryz.prog 118 [ZL w,V.i tick] (V.i r):=by
 refine zP zn rfl ?_
 unfold QQ at M
 refine au 11 ?_
 refine X.join (τ:=Unit) (fun v=>QF=some r) (fun v=>⟨[],[],0,none,24⟩) ?_ ?_
 ·intro _ M
  replace M:QF=some r:=M
  unfold QF at M
  refine au 3 ?_
  cases M
  exact X.rt
 intro hj_1
 refine au 1 ?_
 refine gx [] (X.loop (σ:=Int) (fun v=>⟨[(1,V.i tick),(8,V.sl (map YV w.Shifts)),(9,(V.i (w.Shifts.length:Int))),(10,V.i v)],[],0,none,24⟩) M ?_ rfl)
 intro x1 b_1 M hc_2 hr_1
 rw [QG] at M
 refine au 3 ?_
 refine GS.seq ?_
 refine cm M (fun h_1 M=>?_) (fun h_1 M=>?_)
 ·obtain ⟨x,h_2,M⟩:=zC M
  refine au 7 ?_
  refine X.op0W rfl rfl rfl ?_
  obtain ⟨q,h_3,M⟩:=zC M
  refine au 3 ?_
  refine X.opR rfl (quoE h_3 rfl rfl) rfl (au 4 ?_)
  refine ca (Z4 q x.From x.To) ?_
  refine GS.ZT ?_
  refine cm M (fun h_4 M=>?_) (fun h_4 M=>?_)
  ·refine au 5 ?_
   have hE:=bf M
   replace hE:=hr_1 _ hE.symm
   subst hE
   exact X.rt
  refine au 6 ?_
  have hE:=bf M
  exact gx [] (hc_2 (w64 (x1+1)) hE.symm)
 obtain ⟨y_1,M,hy⟩:=zt M
 rw [hr_1 _ hy.symm] at M
 refine au 1 ?_
 exact gx [] (hj_1 () M)
theorem zIi {tick:Int} {c:zW} {r:Int} (M:zCf tick c=some r):Ct Tryz.prog 117 [V.i tick,V.fptr [ZL c] 0 0] (V.i r):=by
 refine zP zn rfl ?_
 unfold zCf at M
 obtain ⟨y,h_1,M⟩:=zC M
 refine au 6 ?_
 refine ca (zGV h_1) (au 2 ?_)
 cases M
 exact X.rt
theorem zF4 {a:Int} {b:Int} {r:Int×Int} (M:zBl a b=some r):Ct Tryz.prog 139 [V.i a,V.i b] (V.tup [V.i r.1,V.i r.2]):=by
 refine zP zn rfl ?_
 unfold zBl at M
 obtain ⟨q,h_1,M⟩:=zC M
 obtain ⟨q1,h_2,M⟩:=zC M
 refine au 7 ?_
 refine X.opR rfl (remE h_1 rfl rfl) rfl (au 3 ?_)
 refine X.opR rfl (remE h_2 rfl rfl) rfl ?_
 obtain ⟨q2,h_3,M⟩:=zC M
 refine au 7 ?_
 refine X.opR rfl (quoE h_3 rfl rfl) rfl (au 4 ?_)
 cases M
 exact X.rt
theorem zKb {c:zz} {tick:Int} {r:Int} (M:zCz c tick=some r):Ct Tryz.prog 120 [ZN c,V.i tick] (V.i r):=by
 refine zP zn rfl ?_
 unfold zCz at M
 obtain ⟨y,h_1,M⟩:=zC M
 refine au 11 ?_
 refine ca (zF4 h_1) ?_
 obtain ⟨y1,h_2,M⟩:=zC M
 refine au 11 ?_
 refine ca (zF4 h_2) ?_
 obtain ⟨x,h_3,M⟩:=zC M
 refine au 14 ?_
 cases M
 exact X.rt
theorem zIh {tick:Int} {c:zz} {r:Int} (M:zCe tick c=some r):Ct Tryz.prog 119 [V.i tick,V.fptr [ZN c] 0 0] (V.i r):=by
 refine zP zn rfl ?_
 unfold zCe at M
 obtain ⟨y,h_1,M⟩:=zC M
 refine au 6 ?_
 refine ca (zKb h_1) (au 2 ?_)
 cases M
 exact X.rt
theorem zBG {tick:Int} {c:zW} {c1:zW} {r:Int} (M:yz tick c c1=some r):Ct Tryz.prog 92 [V.i tick,V.fptr [ZL c] 0 0,V.fptr [Q3 c1] 0 0] (V.i r):=by
 refine zP zn rfl ?_
 unfold yz at M
 refine au 12 ?_
 refine X.join (τ:=Int) (fun v=>Qx v=some r) (fun v=>⟨[(5,V.i v)],[],0,none,24⟩) ?_ ?_
 ·intro h M
  replace M:Qx h=some r:=M
  unfold Qx at M
  refine au 4 ?_
  cases M
  exact X.rt
 intro hj_1
 refine au 1 ?_
 refine gx [] (X.loop (σ:=(Int×Int)) (fun v=>⟨[(0,V.i tick),(1,V.fptr [ZL c] 0 0),(2,V.fptr [Q3 c1] 0 0),(5,V.i v.1),(6,V.i v.2)],[],0,none,24⟩) M ?_ rfl)
 rintro ⟨h1,i⟩ b_1 M hc_2 hr_1
 rw [Qy] at M
 refine au 8 ?_
 refine cm M (fun h_1 M=>?_) (fun h_1 M=>?_)
 ·refine au 7 ?_
  refine X.split (decide (i = -1)) (fun h_2=>?_) (fun h_2=>?_)
  ·replace M:=zNP h_2 M
   refine X.opR rfl (zMF h_2 rfl rfl) rfl ?_
   obtain ⟨y,h_4,M⟩:=zC M
   refine X.q rfl ?_
   refine ca (zIi h_4) (au 9 ?_)
   have hE:=bf M
   exact gx [] (hc_2 (w64 (h1+y),w64 (i+1)) hE.symm)
  replace M:=zNQ h_2 M
  obtain ⟨c2,h_3,M⟩:=zC M
  refine X.opR rfl (zMG h_3 rfl rfl) rfl ?_
  obtain ⟨y1,h_5,M⟩:=zC M
  refine X.q rfl ?_
  refine ca (zIh h_5) (au 9 ?_)
  have hE:=bf M
  exact gx [] (hc_2 (w64 (h1+y1),w64 (i+1)) hE.symm)
 obtain ⟨y_1,M,hy⟩:=zt M
 rw [hr_1 _ hy.symm] at M
 refine au 1 ?_
 exact gx [] (hj_1 h1 M)
set_option maxHeartbeats 4000000 in
theorem zIk {w:zW} {s:zB} {height:Int} {r:(List zB)×Int} (M:zBB w s height=some r):Ct Tryz.prog 137 [ZL w,zD s,V.i height] (V.tup [V.sl (map zD r.1),V.i r.2]):=by
 refine zP zn rfl ?_
 unfold zBB at M
 obtain ⟨y,h_1,M⟩:=zC M
 refine au 11 ?_
 refine ca (zKe h_1) (au 6 ?_)
 refine cm M (fun h_2 M=>?_) (fun h_2 M=>?_)
 ·refine au 5 ?_
  cases M
  exact X.rt
 refine au 2 ?_
 refine X.opW (H':=[.rows 3 [ZL w],.rows 2 [zD s],.rows 1 [V.i height],.rows 1 [V.nil]]) rfl rfl rfl rfl (au 5 ?_)
 refine ca (zJW w s) (au 2 ?_)
 refine X.gc [some 2,some 3] (H':=[.rows 1 [V.i height],.rows 1 [V.nil]]) (K':=[(5,V.ptr 0 0 0),(9,V.ptr 1 0 0),(20,V.fn 152 [V.fptr [ZL ((Zc w s).1)] 0 0,V.fptr [zD ((Zc w s).2)] 0 0])]) ?_ rfl rfl rfl (ga rfl rfl) (gb9 rfl rfl rfl (gb9 rfl rfl rfl zb))
 refine X.range rfl rfl (jO ⟨9,rfl⟩ (jO ⟨9,rfl⟩ (jO ⟨9,rfl⟩ zFP))) rfl ?_
 intro R_3 hrn_3 hrK_3 hrp_3 hra_3 hrb_3 hlow_3
 obtain ⟨y1,h_4,M⟩:=zC M
 refine au 2 ?_
 refine ca (zEn h_4) ?_
 obtain ⟨y2,h_5,M⟩:=zC M
 refine au 2 ?_
 refine GS.seq ?_
 refine X.draw (by kernel_rfl) (au 8 ?_)
 refine dca (zBG h_5) (au 2 ?_)
 refine dop0 rfl rfl rfl rfl (by kernel_rfl) rfl (au 1 ?_)
 refine X.norm [(0,V.yld 2),(2,V.fptr [zD ((Zc w s).2)] 0 0),(4,V.fn 92 [V.fptr [ZL y1.1] 0 0,V.fptr [Q3 y1.2] 0 0]),(5,V.ptr 3 0 0)] ?_ rfl (sr rfl)
 refine au 7 ?_
 refine X.join (τ:=Int×Int×Int×(List zB)) (fun v=>QR height v.1 v.2.1 v.2.2.1 v.2.2.2=some r) (fun v=>⟨[(0,V.yld 2),(5,V.ptr 3 0 0)],[.rows 1 [V.i height],.rows 1 [ovl 4 v.2.2.2],lr R_3 .ready none,.rows 3 [V.agg [V.i v.1,V.i v.2.1,V.i v.2.2.1]],obl 2 zD v.2.2.2],0,none,51⟩) ?_ ?_
 ·rintro ⟨Lo,Hi,Height,l⟩ M
  replace M:QR height Lo Hi Height l=some r:=M
  unfold QR at M
  refine au 3 ?_
  refine X.yld hrn_3 hrK_3 hrp_3 hra_3 hrb_3 rfl rfl rfl rfl rfl rfl ?_
  refine GS.region ?_
  refine X.opW (H':=[.rows 1 [V.i height],.rows 1 [ovl 4 l],lr R_3 .ready none,.rows 3 [V.agg [V.i Lo,V.i Hi,V.i Height]],obl 2 zD l,.rows 3 [V.agg [V.i 0,V.i 0,V.i 0]]]) rfl rfl rfl rfl ?_
  refine X.op0W (H':=[.rows 1 [V.i height],.rows 1 [ovl 4 l],lr R_3 .ready none,.rows 3 [V.agg [V.i Lo,V.i Hi,V.i Height]],obl 2 zD l,.rows 3 [V.agg [V.i Lo,V.i Hi,V.i Height]]]) rfl rfl rfl ?_
  refine GS.ZT ?_
  refine GS.nil (begin' rfl rfl ?_ rfl)
  refine au 8 ?_
  refine cm M (fun h_6 M=>?_) (fun h_6 M=>?_)
  ·refine au 1 ?_
   refine GS.nil ⟨_,rfl,?_⟩
   refine X.norm (H':=[.rows 1 [V.i height],.rows 1 [ovl 4 l],lr R_3 .ready none,.rows 3 [V.agg [V.i Lo,V.i Hi,V.i Height]],obl 2 zD l,.rows 3 [V.agg [V.i Lo,V.i Hi,V.i Height]]]) [(50,V.b true)] ?_ rfl (sr rfl)
   refine GS.ZT ?_
   refine GS.nil ⟨_,_,rfl,rfl,?_⟩
   refine X.norm (H':=[.rows 1 [V.i height],.rows 1 [ovl 4 l],.dead,.rows 3 [V.agg [V.i Lo,V.i Hi,V.i Height]],obl 2 zD l,.rows 3 [V.agg [V.i Lo,V.i Hi,V.i Height]]]) [(5,V.ptr 0 0 0),(9,V.ptr 1 0 0),(20,V.fn 152 [V.fptr [ZL ((Zc w s).1)] 0 0,V.fptr [zD ((Zc w s).2)] 0 0])] ?_ rfl (sr rfl)
   refine au 2 ?_
   refine X.opR rfl (v:=(ovl 4 l)) (by rcases yM (z:=true) 4 l with h0 | ⟨n0,h0⟩ <;> simp only [h0] <;> rfl) rfl (au 3 ?_)
   have hE:=bf M
   subst hE
   exact GS.ret ⟨_,rfl,FR.tup (.cons (FR.ovl (f:=zD) (l:=l) 9 rfl rfl (fun _=>rfl)) (.cons ⟨30,rfl⟩ .nil))⟩
  refine au 2 ?_
  refine X.opR rfl (v:=(ovl 4 l)) (by rcases yM (z:=true) 4 l with h0 | ⟨n0,h0⟩ <;> simp only [h0] <;> rfl) rfl ?_
  refine X.opR rfl (lenN (l:=l) rfl rfl rfl) rfl ?_
  obtain ⟨x,h_7,M⟩:=Yw M
  refine au 2 ?_
  refine GS.seq ?_
  refine X.mid [(42,(V.b ((decide (0<(l.length:Int)))&&(decide ((w64 (x.Hi+1))=Lo))))),(9,V.ptr 1 0 0),(10,V.ptr 5 0 0),(11,(V.i (l.length:Int)))] ?_ ?_
  ·intro hg
   refine X.split (decide (0<(l.length:Int))) (fun h_8=>?_) (fun h_8=>?_)
   ·refine au 4 ?_
    refine cop (on_t rfl rfl rfl h_8) (v:=(ovl 4 l)) (by rcases yM (z:=true) 4 l with h0 | ⟨n0,h0⟩ <;> simp only [h0] <;> rfl) rfl rfl (au 2 ?_)
    refine cop (on_t rfl rfl rfl h_8) (JY (h_7 h_8) rfl rfl rfl rfl rfl) rfl rfl (au 1 ?_)
    refine cop (on_t rfl rfl rfl h_8) (zBh (h_7 h_8) rfl rfl rfl rfl) rfl rfl (au 7 ?_)
    exact ng hg rfl (by simp only [h_8,bb])
   refine au 17 ?_
   exact ng hg rfl (by simp only [h_8,bb])
  refine cm M (fun h_9 M=>?_) (fun h_9 M=>?_)
  ·obtain ⟨x1,h_10,M⟩:=zC M
   refine GS.region ?_
   refine X.opR rfl (v:=(ovl 4 l)) (by rcases yM (z:=true) 4 l with h0 | ⟨n0,h0⟩ <;> simp only [h0] <;> rfl) rfl (au 5 ?_)
   refine X.opR rfl (JY h_10 rfl rfl rfl rfl rfl) rfl (X.q rfl ?_)
   refine X.op0W (H':=[.rows 1 [V.i height],.rows 1 [ovl 4 l],lr R_3 .busy none,.rows 3 [V.agg [V.i Lo,V.i Hi,V.i Height]],obl 2 zD (put l (w64 ((l.length:Int) - 1)) (⟨x1.Lo,Hi⟩:zB)),.rows 3 [V.agg [V.i Lo,V.i Hi,V.i Height]]]) rfl (X.Q9 (b:=(⟨x1.Lo,Hi⟩:zB)) h_10 rfl rfl rfl rfl rfl rfl rfl) rfl (au 2 ?_)
   refine GS.nil ⟨_,rfl,?_⟩
   refine X.norm (H':=[.rows 1 [V.i height],.rows 1 [ovl 4 l],lr R_3 .ready none,.rows 3 [V.agg [V.i Lo,V.i Hi,V.i Height]],obl 2 zD (put l (w64 ((l.length:Int) - 1)) (⟨x1.Lo,Hi⟩:zB)),.rows 3 [V.agg [V.i Lo,V.i Hi,V.i Height]]]) [(50,V.b true)] ?_ rfl (sr rfl)
   refine GS.ZT ?_
   refine GS.nil ⟨_,_,rfl,rfl,?_⟩
   refine X.norm (H':=[.rows 1 [V.i height],.rows 1 [ovl 4 l],.dead,.rows 3 [V.agg [V.i Lo,V.i Hi,V.i Height]],obl 2 zD (put l (w64 ((l.length:Int) - 1)) (⟨x1.Lo,Hi⟩:zB)),.rows 3 [V.agg [V.i Lo,V.i Hi,V.i Height]]]) [(5,V.ptr 0 0 0),(9,V.ptr 1 0 0),(20,V.fn 152 [V.fptr [ZL ((Zc w s).1)] 0 0,V.fptr [zD ((Zc w s).2)] 0 0])] ?_ rfl (sr rfl)
   refine au 2 ?_
   refine X.opR rfl (v:=(ovl 4 l)) (by rcases yM (z:=true) 4 l with h0 | ⟨n0,h0⟩ <;> simp only [h0] <;> rfl) rfl (au 3 ?_)
   have hE:=bf M
   subst hE
   exact GS.ret ⟨_,rfl,FR.tup (.cons (FR.eq YS (FR.ovl (f:=zD) (l:=(put l (w64 ((l.length:Int) - 1)) (⟨x1.Lo,Hi⟩:zB))) 9 rfl rfl (fun _=>rfl))) (.cons ⟨30,rfl⟩ .nil))⟩
  obtain ⟨l1,h_11,M⟩:=zC M
  refine GS.region ?_
  refine X.opR rfl (v:=(ovl 4 l)) (by rcases yM (z:=true) 4 l with h0 | ⟨n0,h0⟩ <;> simp only [h0] <;> rfl) rfl (au 2 ?_)
  refine X.opW (H':=[.rows 1 [V.i height],.rows 1 [ovl 4 l],lr R_3 .busy none,.rows 3 [V.agg [V.i Lo,V.i Hi,V.i Height]],obl 2 zD l,.rows 3 [V.agg [V.i Lo,V.i Hi,V.i Height]],.rows 2 (map zD ([(⟨Lo,Hi⟩:zB)]))]) rfl rfl rfl rfl ?_
  refine appN (f:=zD) h_11 (fun _=>rfl) (by rfl) (by rfl) (by rfl) (by rfl) (by rfl) (by rfl) (by rfl) (by rfl) (by rfl) (by rfl) (by rfl) (by exact rfl) (by rfl) (by rfl) ?_
  refine X.op0W (H':=[.rows 1 [V.i height],.rows 1 [V.osl 7 0 (List.length l1)],lr R_3 .busy none,.rows 3 [V.agg [V.i Lo,V.i Hi,V.i Height]],.dead,.rows 3 [V.agg [V.i Lo,V.i Hi,V.i Height]],.rows 2 (map zD ([(⟨Lo,Hi⟩:zB)])),.rows 2 (map zD l1)]) rfl (v:=jT) (wr:=[(1,.rows 1 [V.osl 7 0 (List.length l1)])]) (by rcases yM (z:=true) 4 l with h0 | ⟨n0,h0⟩ <;> simp only [h0] <;> rfl) rfl (au 2 ?_)
  refine GS.nil ⟨_,rfl,?_⟩
  refine X.norm (H':=[.rows 1 [V.i height],.rows 1 [V.osl 7 0 (List.length l1)],lr R_3 .ready none,.rows 3 [V.agg [V.i Lo,V.i Hi,V.i Height]],.dead,.rows 3 [V.agg [V.i Lo,V.i Hi,V.i Height]],.rows 2 (map zD ([(⟨Lo,Hi⟩:zB)])),.rows 2 (map zD l1)]) [(50,V.b true)] ?_ rfl (sr rfl)
  refine GS.ZT ?_
  refine GS.nil ⟨_,_,rfl,rfl,?_⟩
  refine X.norm (H':=[.rows 1 [V.i height],.rows 1 [V.osl 7 0 (List.length l1)],.dead,.rows 3 [V.agg [V.i Lo,V.i Hi,V.i Height]],.dead,.rows 3 [V.agg [V.i Lo,V.i Hi,V.i Height]],.rows 2 (map zD ([(⟨Lo,Hi⟩:zB)])),.rows 2 (map zD l1)]) [(5,V.ptr 0 0 0),(9,V.ptr 1 0 0),(20,V.fn 152 [V.fptr [ZL ((Zc w s).1)] 0 0,V.fptr [zD ((Zc w s).2)] 0 0])] ?_ rfl (sr rfl)
  refine au 6 ?_
  have hE:=bf M
  subst hE
  exact GS.ret ⟨_,rfl,FR.tup (.cons (FR.osl (f:=zD) (l:=l1) 9 rfl rfl (fun _=>rfl)) (.cons ⟨30,rfl⟩ .nil))⟩
 intro hj_1
 refine au 1 ?_
 refine X.gc [some 3,none] (X.loop (σ:=(Int×Int×Int×Int×(List zB))) (fun v=>⟨[(0,V.yld 2),(2,V.fptr [zD ((Zc w s).2)] 0 0),(4,V.fn 92 [V.fptr [ZL y1.1] 0 0,V.fptr [Q3 y1.2] 0 0]),(5,V.ptr 3 0 0),(6,V.i v.1)],[.rows 1 [V.i height],.rows 1 [ovl 4 v.2.2.2.2],lr R_3 .ready none,.rows 3 [V.agg [V.i v.2.1,V.i v.2.2.1,V.i v.2.2.2.1]],obl 2 zD v.2.2.2.2],0,none,51⟩) M ?_ rfl) rfl rfl rfl (ga rfl rfl) (gb9 rfl rfl rfl (gb9 rfl rfl rfl (jR hlow_3 rfl rfl rfl (gb9 rfl rfl rfl (gb_pad' rfl zb)))))
 rintro ⟨t,Lo2,Hi1,Height2,l5⟩ b_1 M hc_2 hr_1
 rw [zAd] at M
 refine au 7 ?_
 refine cm M (fun h_12 M=>?_) (fun h_12 M=>?_)
 ·refine GS.skip (GS.seq ?_)
  refine X.join (τ:=Int×Int×(List zB)) (fun v=>jo t v.1 v.2.1 v.2.2=some b_1) (fun v=>⟨[(0,V.yld 2),(2,V.fptr [zD ((Zc w s).2)] 0 0),(4,V.fn 92 [V.fptr [ZL y1.1] 0 0,V.fptr [Q3 y1.2] 0 0]),(5,V.ptr 3 0 0),(6,V.i t)],[.rows 1 [V.i height],.rows 1 [ovl 4 v.2.2],lr R_3 .ready none,.rows 3 [V.agg [V.i v.1,V.i t,V.i v.2.1]],obl 2 zD v.2.2],0,none,51⟩) ?_ ?_
  ·rintro ⟨Lo1,Height1,l2⟩ M
   replace M:jo t Lo1 Height1 l2=some b_1:=M
   unfold jo at M
   refine au 5 ?_
   have hE:=bf M
   exact X.gc [some 3,some 4] (hc_2 (w64 (t+1),Lo1,t,Height1,l2) hE.symm) rfl rfl rfl (ga rfl rfl) (gb9 rfl rfl rfl (Zj rfl rfl (Am.zY rfl) (jR hlow_3 rfl rfl rfl (gb9 rfl rfl rfl (ZB 9 rfl rfl (fun _=>rfl) zb)))))
  intro hj_3
  obtain ⟨y3,h_13,M⟩:=zC M
  refine au 4 ?_
  refine ca (zBG h_13) (au 9 ?_)
  refine cm M (fun h_14 M=>?_) (fun h_14 M=>?_)
  ·refine au 4 ?_
   refine X.op0W (H':=[.rows 1 [V.i height],.rows 1 [ovl 4 l5],lr R_3 .ready none,.rows 3 [V.agg [V.i Lo2,V.i t,V.i Height2]],obl 2 zD l5]) rfl rfl rfl (au 2 ?_)
   exact X.gc [some 3,some 4] (hj_3 (Lo2,Height2,l5) M) rfl rfl rfl (ga rfl rfl) (gb9 rfl rfl rfl (Zj rfl rfl (Am.zY rfl) (jR hlow_3 rfl rfl rfl (gb9 rfl rfl rfl (ZB 9 rfl rfl (fun _=>rfl) zb)))))
  refine au 5 ?_
  refine X.yld hrn_3 hrK_3 hrp_3 hra_3 hrb_3 rfl rfl rfl rfl rfl rfl ?_
  refine GS.region ?_
  refine X.opW (H':=[.rows 1 [V.i height],.rows 1 [ovl 4 l5],lr R_3 .ready none,.rows 3 [V.agg [V.i Lo2,V.i Hi1,V.i Height2]],obl 2 zD l5,.rows 3 [V.agg [V.i 0,V.i 0,V.i 0]]]) rfl rfl rfl rfl ?_
  refine X.op0W (H':=[.rows 1 [V.i height],.rows 1 [ovl 4 l5],lr R_3 .ready none,.rows 3 [V.agg [V.i Lo2,V.i Hi1,V.i Height2]],obl 2 zD l5,.rows 3 [V.agg [V.i Lo2,V.i Hi1,V.i Height2]]]) rfl rfl rfl ?_
  refine GS.ZT ?_
  refine GS.nil (begin' rfl rfl ?_ rfl)
  refine au 8 ?_
  refine cm M (fun h_15 M=>?_) (fun h_15 M=>?_)
  ·refine au 1 ?_
   refine GS.nil ⟨_,rfl,?_⟩
   refine X.norm (H':=[.rows 1 [V.i height],.rows 1 [ovl 4 l5],lr R_3 .ready none,.rows 3 [V.agg [V.i Lo2,V.i Hi1,V.i Height2]],obl 2 zD l5,.rows 3 [V.agg [V.i Lo2,V.i Hi1,V.i Height2]]]) [(0,V.yld 2),(2,V.fptr [zD ((Zc w s).2)] 0 0),(4,V.fn 92 [V.fptr [ZL y1.1] 0 0,V.fptr [Q3 y1.2] 0 0]),(5,V.ptr 3 0 0),(6,V.i t),(7,V.i y3),(41,V.b true)] ?_ rfl (sr rfl)
   refine au 2 ?_
   refine GS.zCR rfl (au 7 ?_)
   refine X.op0W (H':=[.rows 1 [V.i height],.rows 1 [ovl 4 l5],lr R_3 .ready none,.rows 3 [V.agg [V.i t,V.i t,V.i y3]],obl 2 zD l5,.rows 3 [V.agg [V.i Lo2,V.i Hi1,V.i Height2]]]) rfl rfl rfl (au 2 ?_)
   exact X.gc [some 3,some 4] (hj_3 (t,y3,l5) M) rfl rfl rfl (ga rfl rfl) (gb9 rfl rfl rfl (Zj rfl rfl (Am.zY rfl) (jR hlow_3 rfl rfl rfl (gb9 rfl rfl rfl (ZB 9 rfl rfl (fun _=>rfl) zb)))))
  refine au 2 ?_
  refine X.opR rfl (v:=(ovl 4 l5)) (by rcases yM (z:=true) 4 l5 with h0 | ⟨n0,h0⟩ <;> simp only [h0] <;> rfl) rfl ?_
  refine X.opR rfl (lenN (l:=l5) rfl rfl rfl) rfl ?_
  obtain ⟨x2,h_16,M⟩:=Yw M
  refine au 2 ?_
  refine GS.seq ?_
  refine X.mid [(42,(V.b ((decide (0<(l5.length:Int)))&&(decide ((w64 (x2.Hi+1))=Lo2))))),(9,V.ptr 1 0 0),(10,V.ptr 5 0 0),(11,(V.i (l5.length:Int)))] ?_ ?_
  ·intro hg
   refine X.split (decide (0<(l5.length:Int))) (fun h_17=>?_) (fun h_17=>?_)
   ·refine au 4 ?_
    refine cop (on_t rfl rfl rfl h_17) (v:=(ovl 4 l5)) (by rcases yM (z:=true) 4 l5 with h0 | ⟨n0,h0⟩ <;> simp only [h0] <;> rfl) rfl rfl (au 2 ?_)
    refine cop (on_t rfl rfl rfl h_17) (JY (h_16 h_17) rfl rfl rfl rfl rfl) rfl rfl (au 1 ?_)
    refine cop (on_t rfl rfl rfl h_17) (zBh (h_16 h_17) rfl rfl rfl rfl) rfl rfl (au 7 ?_)
    exact ng hg rfl (by simp only [h_17,bb])
   refine au 17 ?_
   exact ng hg rfl (by simp only [h_17,bb])
  refine cm M (fun h_18 M=>?_) (fun h_18 M=>?_)
  ·obtain ⟨x3,h_19,M⟩:=zC M
   refine GS.region ?_
   refine X.opR rfl (v:=(ovl 4 l5)) (by rcases yM (z:=true) 4 l5 with h0 | ⟨n0,h0⟩ <;> simp only [h0] <;> rfl) rfl (au 5 ?_)
   refine X.opR rfl (JY h_19 rfl rfl rfl rfl rfl) rfl (X.q rfl ?_)
   refine X.op0W (H':=[.rows 1 [V.i height],.rows 1 [ovl 4 l5],lr R_3 .busy none,.rows 3 [V.agg [V.i Lo2,V.i Hi1,V.i Height2]],obl 2 zD (put l5 (w64 ((l5.length:Int) - 1)) (⟨x3.Lo,Hi1⟩:zB)),.rows 3 [V.agg [V.i Lo2,V.i Hi1,V.i Height2]]]) rfl (X.Q9 (b:=(⟨x3.Lo,Hi1⟩:zB)) h_19 rfl rfl rfl rfl rfl rfl rfl) rfl (au 2 ?_)
   refine GS.nil ⟨_,rfl,?_⟩
   refine X.norm (H':=[.rows 1 [V.i height],.rows 1 [ovl 4 l5],lr R_3 .ready none,.rows 3 [V.agg [V.i Lo2,V.i Hi1,V.i Height2]],obl 2 zD (put l5 (w64 ((l5.length:Int) - 1)) (⟨x3.Lo,Hi1⟩:zB)),.rows 3 [V.agg [V.i Lo2,V.i Hi1,V.i Height2]]]) [(0,V.yld 2),(2,V.fptr [zD ((Zc w s).2)] 0 0),(4,V.fn 92 [V.fptr [ZL y1.1] 0 0,V.fptr [Q3 y1.2] 0 0]),(5,V.ptr 3 0 0),(6,V.i t),(7,V.i y3),(41,V.b true)] ?_ rfl (sr rfl)
   refine au 2 ?_
   refine GS.zCR rfl (au 7 ?_)
   refine X.op0W (H':=[.rows 1 [V.i height],.rows 1 [ovl 4 l5],lr R_3 .ready none,.rows 3 [V.agg [V.i t,V.i t,V.i y3]],obl 2 zD (put l5 (w64 ((l5.length:Int) - 1)) (⟨x3.Lo,Hi1⟩:zB)),.rows 3 [V.agg [V.i Lo2,V.i Hi1,V.i Height2]]]) rfl rfl rfl (au 2 ?_)
   exact X.gc [some 3,some 4] (hj_3 (t,y3,(put l5 (w64 ((l5.length:Int) - 1)) (⟨x3.Lo,Hi1⟩:zB))) M) rfl rfl rfl (ga rfl rfl) (gb9 rfl rfl rfl (Zj rfl rfl (Yi YS (Am.zY rfl)) (jR hlow_3 rfl rfl rfl (gb9 rfl rfl rfl (ZB 9 rfl rfl (fun _=>rfl) zb)))))
  obtain ⟨l3,h_20,M⟩:=zC M
  refine GS.region ?_
  refine X.opR rfl (v:=(ovl 4 l5)) (by rcases yM (z:=true) 4 l5 with h0 | ⟨n0,h0⟩ <;> simp only [h0] <;> rfl) rfl (au 2 ?_)
  refine X.opW (H':=[.rows 1 [V.i height],.rows 1 [ovl 4 l5],lr R_3 .busy none,.rows 3 [V.agg [V.i Lo2,V.i Hi1,V.i Height2]],obl 2 zD l5,.rows 3 [V.agg [V.i Lo2,V.i Hi1,V.i Height2]],.rows 2 (map zD ([(⟨Lo2,Hi1⟩:zB)]))]) rfl rfl rfl rfl ?_
  refine appN (f:=zD) h_20 (fun _=>rfl) (by rfl) (by rfl) (by rfl) (by rfl) (by rfl) (by rfl) (by rfl) (by rfl) (by rfl) (by rfl) (by rfl) (by exact rfl) (by rfl) (by rfl) ?_
  refine X.op0W (H':=[.rows 1 [V.i height],.rows 1 [V.osl 7 0 (List.length l3)],lr R_3 .busy none,.rows 3 [V.agg [V.i Lo2,V.i Hi1,V.i Height2]],.dead,.rows 3 [V.agg [V.i Lo2,V.i Hi1,V.i Height2]],.rows 2 (map zD ([(⟨Lo2,Hi1⟩:zB)])),.rows 2 (map zD l3)]) rfl (v:=jT) (wr:=[(1,.rows 1 [V.osl 7 0 (List.length l3)])]) (by rcases yM (z:=true) 4 l5 with h0 | ⟨n0,h0⟩ <;> simp only [h0] <;> rfl) rfl (au 2 ?_)
  refine GS.nil ⟨_,rfl,?_⟩
  refine X.norm (H':=[.rows 1 [V.i height],.rows 1 [V.osl 7 0 (List.length l3)],lr R_3 .ready none,.rows 3 [V.agg [V.i Lo2,V.i Hi1,V.i Height2]],.dead,.rows 3 [V.agg [V.i Lo2,V.i Hi1,V.i Height2]],.rows 2 (map zD ([(⟨Lo2,Hi1⟩:zB)])),.rows 2 (map zD l3)]) [(0,V.yld 2),(2,V.fptr [zD ((Zc w s).2)] 0 0),(4,V.fn 92 [V.fptr [ZL y1.1] 0 0,V.fptr [Q3 y1.2] 0 0]),(5,V.ptr 3 0 0),(6,V.i t),(7,V.i y3),(41,V.b true)] ?_ rfl (sr rfl)
  refine au 2 ?_
  refine GS.zCR rfl (au 7 ?_)
  refine X.op0W (H':=[.rows 1 [V.i height],.rows 1 [V.osl 7 0 (List.length l3)],lr R_3 .ready none,.rows 3 [V.agg [V.i t,V.i t,V.i y3]],.dead,.rows 3 [V.agg [V.i Lo2,V.i Hi1,V.i Height2]],.rows 2 (map zD ([(⟨Lo2,Hi1⟩:zB)])),.rows 2 (map zD l3)]) rfl rfl rfl (au 2 ?_)
  exact X.gc [some 3,some 7] (hj_3 (t,y3,l3) M) rfl rfl rfl (ga rfl rfl) (gb9 rfl rfl rfl (Zj rfl rfl (qz (jH h_20) rfl) (jR hlow_3 rfl rfl rfl (gb9 rfl rfl rfl (gb_obl' 9 (jH h_20) rfl rfl (fun _=>rfl) zb)))))
 obtain ⟨y_1,M,hy⟩:=zt M
 rw [hr_1 _ hy.symm] at M
 refine au 1 ?_
 exact X.gc [some 3,some 4] (hj_1 (Lo2,Hi1,Height2,l5) M) rfl rfl rfl (ga rfl rfl) (gb9 rfl rfl rfl (Zj rfl rfl (Am.zY rfl) (jR hlow_3 rfl rfl rfl (gb9 rfl rfl rfl (ZB 9 rfl rfl (fun _=>rfl) zb)))))
set_option maxHeartbeats 4000000 in
theorem zL4 {w:zW} {s:zB} {height:Int} {long:Int} {r:zB×Int} (M:zDz w s height long=some r):Ct Tryz.prog 112 [ZL w,zD s,V.i height,V.i long] (V.tup [zD r.1,V.i r.2]):=by
 refine zP zn rfl ?_
 unfold zDz at M
 obtain ⟨y,h_1,M⟩:=zC M
 refine au 10 ?_
 refine ca (zIk h_1) (au 11 ?_)
 refine cm M (fun h_2 M=>?_) (fun h_2 M=>?_)
 ·refine au 3 ?_
  refine X.op0W rfl rfl rfl (au 2 ?_)
  cases M
  exact X.rt
 refine au 6 ?_
 refine cm M (fun h_3 M=>?_) (fun h_3 M=>?_)
 ·refine au 2 ?_
  refine X.op0W rfl rfl rfl (au 2 ?_)
  cases M
  exact X.rt
 refine au 7 ?_
 refine X.join (τ:=Unit) (fun v=>zCg=some r) (fun v=>⟨[(8,V.ptr 0 0 0)],[.rows 2 [V.agg [V.i 0,V.i 0]]],0,none,45⟩) ?_ ?_
 ·intro _ M
  replace M:zCg=some r:=M
  unfold zCg at M
  refine au 2 ?_
  refine X.op0W rfl rfl rfl (au 2 ?_)
  cases M
  exact X.rt
 intro hj_1
 refine au 1 ?_
 refine gx [some 2] (X.loop (σ:=Int) (fun v=>⟨[(3,V.i long),(8,V.ptr 0 0 0),(28,V.sl (map zD y.1)),(29,(V.i (y.1.length:Int))),(30,V.i v)],[.rows 2 [V.agg [V.i 0,V.i 0]]],0,none,45⟩) M ?_ rfl)
 intro x1 b_1 M hc_2 hr_1
 rw [zCh] at M
 refine au 3 ?_
 refine GS.seq ?_
 refine cm M (fun h_4 M=>?_) (fun h_4 M=>?_)
 ·obtain ⟨x,h_5,M⟩:=zC M
  refine au 7 ?_
  refine X.op0W rfl rfl rfl (au 11 ?_)
  refine cm M (fun h_6 M=>?_) (fun h_6 M=>?_)
  ·refine au 2 ?_
   refine X.op0W rfl rfl rfl (au 2 ?_)
   have hE:=bf M
   replace hE:=hr_1 _ hE.symm
   subst hE
   exact X.rt
  refine au 6 ?_
  have hE:=bf M
  exact gx [some 0] (hc_2 (w64 (x1+1)) hE.symm)
 obtain ⟨y_1,M,hy⟩:=zt M
 rw [hr_1 _ hy.symm] at M
 refine au 1 ?_
 exact gx [some 0] (hj_1 () M)
set_option maxHeartbeats 4000000 in
theorem zKj {h:zN} {c:zV} {x:zK} {b:zy} {r:zB×Bool} (M:zDS h c x b=some r):Ct Tryz.prog 85 [zJ h,zL c,zF x,zX b] (V.tup [zD r.1,V.b r.2]):=by
 refine zP zn rfl ?_
 unfold zDS at M
 refine au 4 ?_
 refine X.opW (H':=[.rows 6 [zJ h],.rows 5 [zL c],.rows 2 [zF x],.rows 2 [zX b]]) rfl rfl rfl rfl ?_
 refine X.opW (H':=[.rows 6 [zJ h],.rows 5 [zL c],.rows 2 [zF x],.rows 2 [zX b],.rows 2 [V.agg [V.i 0,V.i 0]]]) rfl rfl rfl rfl ?_
 obtain ⟨x1,h_1,M⟩:=zC M
 refine au 9 ?_
 refine X.opW (H':=[.rows 6 [zJ h],.rows 5 [zL c],.rows 2 [zF x],.rows 2 [zX b],.rows 2 [V.agg [V.i 0,V.i 0]],.rows 2 [V.agg [V.i 0,V.i 0]]]) rfl rfl rfl rfl ?_
 refine X.op0W (H':=[.rows 6 [zJ h],.rows 5 [zL c],.rows 2 [zF x],.rows 2 [zX b],.rows 2 [V.agg [V.i 0,V.i 0]],.rows 2 [zD x1]]) rfl rfl rfl (au 13 ?_)
 refine X.opW (H':=[.rows 6 [zJ h],.rows 5 [zL c],.rows 2 [zF x],.rows 2 [zX b],.rows 2 [V.agg [V.i 0,V.i 0]],.rows 2 [zD x1],.rows 2 [V.agg [V.i 0,V.i 0]]]) rfl rfl rfl rfl ?_
 refine X.op0W (H':=[.rows 6 [zJ h],.rows 5 [zL c],.rows 2 [zF x],.rows 2 [zX b],.rows 2 [V.agg [V.i 0,V.i 0]],.rows 2 [zD x1],.rows 2 [V.agg [V.i (max x1.Lo c.From),V.i (min x1.Hi c.To)]]]) rfl rfl rfl (au 9 ?_)
 refine cm M (fun h_2 M=>?_) (fun h_2 M=>?_)
 ·refine au 2 ?_
  refine X.op0W (H':=[.rows 6 [zJ h],.rows 5 [zL c],.rows 2 [zF x],.rows 2 [zX b],.rows 2 [V.agg [V.i 0,V.i 0]],.rows 2 [zD x1],.rows 2 [V.agg [V.i (max x1.Lo c.From),V.i (min x1.Hi c.To)]]]) rfl rfl rfl (au 2 ?_)
  cases M
  exact X.rt
 obtain ⟨y,h_3,M⟩:=zC M
 refine GS.skip (GS.seq ?_)
 refine X.draw (by kernel_rfl) (au 7 ?_)
 refine dca (zIr h b c.Draught) (au 2 ?_)
 refine dca (zL4 h_3) (au 4 ?_)
 refine dop0 rfl rfl rfl rfl (by kernel_rfl) rfl (au 2 ?_)
 refine X.norm [(5,V.ptr 1 0 0),(8,V.ptr 4 0 0),(12,V.ptr 7 0 0),(13,V.i y.2)] ?_ rfl (sr rfl)
 refine au 5 ?_
 refine cm M (fun h_4 M=>?_) (fun h_4 M=>?_)
 ·refine au 2 ?_
  refine X.op0W (H':=[.rows 6 [zJ h],.rows 5 [zL c],.rows 2 [zF x],.rows 2 [zX b],.rows 2 [V.agg [V.i 0,V.i 0]],.rows 2 [zD x1],.rows 2 [V.agg [V.i (max x1.Lo c.From),V.i (min x1.Hi c.To)]],.rows 2 [zD y.1]]) rfl rfl rfl (au 2 ?_)
  cases M
  exact X.rt
 refine au 11 ?_
 refine X.op0W (H':=[.rows 6 [zJ h],.rows 5 [zL c],.rows 2 [zF x],.rows 2 [zX b],.rows 2 [V.agg [V.i y.1.Lo,V.i (w64 ((w64 (y.1.Lo+c.Long)) - 1))]],.rows 2 [zD x1],.rows 2 [V.agg [V.i (max x1.Lo c.From),V.i (min x1.Hi c.To)]],.rows 2 [zD y.1]]) rfl rfl rfl (au 2 ?_)
 cases M
 exact X.rt
theorem qc (a b:zK):zBJ (zF a) (zF b)=some (decide (a=b)):=by
 have h:zBJ (zF a) (zF b)=some (decide ([(IntKind.i64,a.Tide),(IntKind.i64,a.Berth)]=[(IntKind.i64,b.Tide),(IntKind.i64,b.Berth)])):=rfl
 rw [h]
 congr 1
 cases a
 cases b
 simp
set_option maxHeartbeats 4000000 in
theorem zJa {h:zN} {c:zV} {r:(List zK)×(List (zK×zB))} (M:zCS h c=some r):Ct Tryz.prog 43 [zJ h,zL c] (V.tup [V.sl (map zF r.1),(V.fmap (map (fun p:zK×zB=>zF p.1) r.2) (map (fun p:zK×zB=>zD p.2) r.2))]):=by
 refine zP zn rfl ?_
 unfold zCS at M
 refine au 10 ?_
 refine X.opW (H':=[.rows 6 [zJ h],.rows 5 [zL c],.rows 1 [V.nil],.map (map (fun p:zK×zB=>zF p.1) []) (map (fun p:zK×zB=>zD p.2) [])]) rfl rfl rfl rfl ?_
 refine X.opW (H':=[.rows 6 [zJ h],.rows 5 [zL c],.rows 1 [V.nil],.map (map (fun p:zK×zB=>zF p.1) []) (map (fun p:zK×zB=>zD p.2) []),.rows 1 [V.lit (.map none)]]) rfl rfl rfl rfl ?_
 refine X.op0W (H':=[.rows 6 [zJ h],.rows 5 [zL c],.rows 1 [V.nil],.map (map (fun p:zK×zB=>zF p.1) []) (map (fun p:zK×zB=>zD p.2) []),.rows 1 [V.map 3]]) rfl rfl rfl (au 4 ?_)
 refine ca (zFK h) (au 2 ?_)
 refine X.gc [some 0,some 1,some 2,some 4,some 3] (H':=[.rows 6 [zJ h],.rows 5 [zL c],.rows 1 [V.nil],.rows 1 [V.map 4],.map (map (fun p:zK×zB=>zF p.1) []) (map (fun p:zK×zB=>zD p.2) [])]) (K':=[(2,V.ptr 0 0 0),(3,V.ptr 1 0 0),(6,V.ptr 2 0 0),(7,V.ptr 3 0 0),(14,V.fn 84 [V.fptr [zJ (ze h)] 0 0])]) ?_ rfl rfl rfl (ga rfl rfl) (gb9 rfl rfl rfl (gb9 rfl rfl rfl (gb9 rfl rfl rfl (gb9 rfl rfl rfl (ZU 9 rfl rfl (fun _=>rfl) (fun _=>rfl) zb)))))
 refine X.range rfl rfl (jO ⟨9,rfl⟩ (jO ⟨9,rfl⟩ (jO ⟨9,rfl⟩ (jO ⟨9,rfl⟩ (jO ⟨9,rfl⟩ zFP))))) rfl ?_
 intro R_1 hrn_1 hrK_1 hrp_1 hra_1 hrb_1 hlow_1
 refine au 7 ?_
 refine X.gc [none] (X.loop (σ:=(Int×(List zK)×(List (zK×zB)))) (fun v=>⟨[(0,V.yld 5),(1,V.fptr [zJ (ze h)] 0 0),(8,(V.i (((ze h).Tides).length:Int))),(9,V.i v.1)],[.rows 6 [zJ h],.rows 5 [zL c],.rows 1 [ovl 6 v.2.1],.rows 1 [V.map 4],.map (map (fun p:zK×zB=>zF p.1) v.2.2) (map (fun p:zK×zB=>zD p.2) v.2.2),lr R_1 .ready none,obl 2 zF v.2.1],0,none,29⟩) M ?_ rfl) rfl rfl rfl (ga rfl rfl) (gb9 rfl rfl rfl (gb9 rfl rfl rfl (gb9 rfl rfl rfl (gb9 rfl rfl rfl (ZU 9 rfl rfl (fun _=>rfl) (fun _=>rfl) (jR hlow_1 rfl rfl rfl (gb_pad' rfl zb)))))))
 rintro ⟨x2,l2,m1⟩ b_1 M hc_1 hr_1
 rw [zBY] at M
 refine au 3 ?_
 refine GS.seq ?_
 refine cm M (fun h_2 M=>?_) (fun h_2 M=>?_)
 ·refine au 13 ?_
  refine X.join (τ:=(List zK)×(List (zK×zB))) (fun v=>qN x2 v.1 v.2=some b_1) (fun v=>⟨[(0,V.yld 5),(1,V.fptr [zJ (ze h)] 0 0),(8,(V.i (((ze h).Tides).length:Int))),(9,V.i x2)],[.rows 6 [zJ h],.rows 5 [zL c],.rows 1 [ovl 6 v.1],.rows 1 [V.map 4],.map (map (fun p:zK×zB=>zF p.1) v.2) (map (fun p:zK×zB=>zD p.2) v.2),lr R_1 .ready none,obl 2 zF v.1],0,none,29⟩) ?_ ?_
  ·rintro ⟨l,m⟩ M
   replace M:qN x2 l m=some b_1:=M
   unfold qN at M
   refine au 5 ?_
   have hE:=bf M
   exact X.gc [some 6] (hc_1 (w64 (x2+1),l,m) hE.symm) rfl rfl rfl (ga rfl rfl) (gb9 rfl rfl rfl (gb9 rfl rfl rfl (Zj rfl rfl (Am.zY rfl) (gb9 rfl rfl rfl (ZU 9 rfl rfl (fun _=>rfl) (fun _=>rfl) (jR hlow_1 rfl rfl rfl (ZB 9 rfl rfl (fun _=>rfl) zb)))))))
  intro hj_2
  refine au 1 ?_
  refine X.gc [some 6] (X.loop (σ:=(Int×(List zK)×(List (zK×zB)))) (fun v=>⟨[(0,V.yld 5),(1,V.fptr [zJ (ze h)] 0 0),(3,V.i x2),(8,(V.i (((ze h).Tides).length:Int))),(9,V.i x2),(13,V.sl (map zX ((ze h).Berths))),(14,(V.i (((ze h).Berths).length:Int))),(15,V.i v.1)],[.rows 6 [zJ h],.rows 5 [zL c],.rows 1 [ovl 6 v.2.1],.rows 1 [V.map 4],.map (map (fun p:zK×zB=>zF p.1) v.2.2) (map (fun p:zK×zB=>zD p.2) v.2.2),lr R_1 .ready none,obl 2 zF v.2.1],0,none,29⟩) M ?_ rfl) rfl rfl rfl (ga rfl rfl) (gb9 rfl rfl rfl (gb9 rfl rfl rfl (Zj rfl rfl (Am.zY rfl) (gb9 rfl rfl rfl (ZU 9 rfl rfl (fun _=>rfl) (fun _=>rfl) (jR hlow_1 rfl rfl rfl (ZB 9 rfl rfl (fun _=>rfl) zb)))))))
  rintro ⟨x1,l3,m2⟩ b_2 M hc_3 hr_2
  rw [qO] at M
  refine au 3 ?_
  refine GS.seq ?_
  refine cm M (fun h_3 M=>?_) (fun h_3 M=>?_)
  ·obtain ⟨x,h_4,M⟩:=zC M
   refine au 6 ?_
   refine X.opW (H':=[.rows 6 [zJ h],.rows 5 [zL c],.rows 1 [ovl 6 l3],.rows 1 [V.map 4],.map (map (fun p:zK×zB=>zF p.1) m2) (map (fun p:zK×zB=>zD p.2) m2),lr R_1 .ready none,obl 2 zF l3,.rows 2 [V.agg [V.i 0,V.i 0]]]) rfl rfl rfl rfl ?_
   refine X.op0W (H':=[.rows 6 [zJ h],.rows 5 [zL c],.rows 1 [ovl 6 l3],.rows 1 [V.map 4],.map (map (fun p:zK×zB=>zF p.1) m2) (map (fun p:zK×zB=>zD p.2) m2),lr R_1 .ready none,obl 2 zF l3,.rows 2 [zX x]]) rfl rfl rfl (au 8 ?_)
   refine X.yld hrn_1 hrK_1 hrp_1 hra_1 hrb_1 rfl rfl rfl rfl rfl rfl ?_
   refine sq ?_
   refine X.opW (H':=[.rows 6 [zJ h],.rows 5 [zL c],.rows 1 [ovl 6 l3],.rows 1 [V.map 4],.map (map (fun p:zK×zB=>zF p.1) m2) (map (fun p:zK×zB=>zD p.2) m2),lr R_1 .ready none,obl 2 zF l3,.rows 2 [zX x],.rows 2 [V.agg [V.i 0,V.i 0]]]) rfl rfl rfl rfl ?_
   refine X.op0W (H':=[.rows 6 [zJ h],.rows 5 [zL c],.rows 1 [ovl 6 l3],.rows 1 [V.map 4],.map (map (fun p:zK×zB=>zF p.1) m2) (map (fun p:zK×zB=>zD p.2) m2),lr R_1 .ready none,obl 2 zF l3,.rows 2 [zX x],.rows 2 [V.agg [V.i x2,V.i x.ID]]]) rfl rfl rfl (au 2 ?_)
   refine X.opW (H':=[.rows 6 [zJ h],.rows 5 [zL c],.rows 1 [ovl 6 l3],.rows 1 [V.map 4],.map (map (fun p:zK×zB=>zF p.1) m2) (map (fun p:zK×zB=>zD p.2) m2),lr R_1 .ready none,obl 2 zF l3,.rows 2 [zX x],.rows 2 [V.agg [V.i x2,V.i x.ID]],.rows 2 [V.agg [V.i 0,V.i 0]]]) rfl rfl rfl rfl ?_
   refine X.op0W (H':=[.rows 6 [zJ h],.rows 5 [zL c],.rows 1 [ovl 6 l3],.rows 1 [V.map 4],.map (map (fun p:zK×zB=>zF p.1) m2) (map (fun p:zK×zB=>zD p.2) m2),lr R_1 .ready none,obl 2 zF l3,.rows 2 [zX x],.rows 2 [V.agg [V.i x2,V.i x.ID]],.rows 2 [zX x]]) rfl rfl rfl ?_
   refine GS.ZT ?_
   refine GS.nil (begin' rfl rfl ?_ rfl)
   obtain ⟨y,h_5,M⟩:=zC M
   refine au 6 ?_
   refine ca (zKj h_5) (au 3 ?_)
   refine X.opW (H':=[.rows 6 [zJ h],.rows 5 [zL c],.rows 1 [ovl 6 l3],.rows 1 [V.map 4],.map (map (fun p:zK×zB=>zF p.1) m2) (map (fun p:zK×zB=>zD p.2) m2),lr R_1 .busy none,obl 2 zF l3,.rows 2 [zX x],.rows 2 [V.agg [V.i x2,V.i x.ID]],.rows 2 [zX x],.rows 2 [V.agg [V.i 0,V.i 0]]]) rfl rfl rfl rfl ?_
   refine X.op0W (H':=[.rows 6 [zJ h],.rows 5 [zL c],.rows 1 [ovl 6 l3],.rows 1 [V.map 4],.map (map (fun p:zK×zB=>zF p.1) m2) (map (fun p:zK×zB=>zD p.2) m2),lr R_1 .busy none,obl 2 zF l3,.rows 2 [zX x],.rows 2 [V.agg [V.i x2,V.i x.ID]],.rows 2 [zX x],.rows 2 [zD y.1]]) rfl rfl rfl (au 5 ?_)
   refine cm M (fun h_6 M=>?_) (fun h_6 M=>?_)
   ·obtain ⟨l1,h_7,M⟩:=zC M
    refine sq ?_
    refine X.opR rfl (v:=(ovl 6 l3)) (by rcases yM (z:=true) 6 l3 with h0 | ⟨n0,h0⟩ <;> simp only [h0] <;> rfl) rfl (X.q rfl ?_)
    refine X.opW (H':=[.rows 6 [zJ h],.rows 5 [zL c],.rows 1 [ovl 6 l3],.rows 1 [V.map 4],.map (map (fun p:zK×zB=>zF p.1) m2) (map (fun p:zK×zB=>zD p.2) m2),lr R_1 .busy none,obl 2 zF l3,.rows 2 [zX x],.rows 2 [V.agg [V.i x2,V.i x.ID]],.rows 2 [zX x],.rows 2 [zD y.1],.rows 2 (map zF ([(⟨x2,x.ID⟩:zK)]))]) rfl rfl rfl rfl ?_
    refine appN (f:=zF) h_7 (fun _=>rfl) (by rfl) (by rfl) (by rfl) (by rfl) (by rfl) (by rfl) (by rfl) (by rfl) (by rfl) (by rfl) (by rfl) (by exact rfl) (by rfl) (by rfl) ?_
    refine X.op0W (H':=[.rows 6 [zJ h],.rows 5 [zL c],.rows 1 [V.osl 12 0 (List.length l1)],.rows 1 [V.map 4],.map (map (fun p:zK×zB=>zF p.1) m2) (map (fun p:zK×zB=>zD p.2) m2),lr R_1 .busy none,.dead,.rows 2 [zX x],.rows 2 [V.agg [V.i x2,V.i x.ID]],.rows 2 [zX x],.rows 2 [zD y.1],.rows 2 (map zF ([(⟨x2,x.ID⟩:zK)])),.rows 2 (map zF l1)]) rfl (v:=jT) (wr:=[(2,.rows 1 [V.osl 12 0 (List.length l1)])]) (by rcases yM (z:=true) 6 l3 with h0 | ⟨n0,h0⟩ <;> simp only [h0] <;> rfl) rfl ?_
    refine au 5 ?_
    refine X.op0W (H':=[.rows 6 [zJ h],.rows 5 [zL c],.rows 1 [V.osl 12 0 (List.length l1)],.rows 1 [V.map 4],.map (map (fun p:zK×zB=>zF p.1) (putM posE m2 (⟨x2,x.ID⟩:zK) y.1)) (map (fun p:zK×zB=>zD p.2) (putM posE m2 (⟨x2,x.ID⟩:zK) y.1)),lr R_1 .busy none,.dead,.rows 2 [zX x],.rows 2 [V.agg [V.i x2,V.i x.ID]],.rows 2 [zX x],.rows 2 [zD y.1],.rows 2 (map zF ([(⟨x2,x.ID⟩:zK)])),.rows 2 (map zF l1)]) rfl (putW (f:=zF) (g:=zD) (pos:=posE) (k:=(⟨x2,x.ID⟩:zK)) (v:=y.1) (l:=m2) qc (fun l=>(zHx _ _).trans (List.length_map ..)) rfl rfl rfl rfl rfl rfl rfl) rfl ?_
    refine au 2 ?_
    refine GS.nil ⟨_,rfl,?_⟩
    refine X.norm (H':=[.rows 6 [zJ h],.rows 5 [zL c],.rows 1 [V.osl 12 0 (List.length l1)],.rows 1 [V.map 4],.map (map (fun p:zK×zB=>zF p.1) (putM posE m2 (⟨x2,x.ID⟩:zK) y.1)) (map (fun p:zK×zB=>zD p.2) (putM posE m2 (⟨x2,x.ID⟩:zK) y.1)),lr R_1 .ready none,.dead,.rows 2 [zX x],.rows 2 [V.agg [V.i x2,V.i x.ID]],.rows 2 [zX x],.rows 2 [zD y.1],.rows 2 (map zF ([(⟨x2,x.ID⟩:zK)])),.rows 2 (map zF l1)]) [(0,V.yld 5),(1,V.fptr [zJ (ze h)] 0 0),(3,V.i x2),(8,(V.i (((ze h).Tides).length:Int))),(9,V.i x2),(13,V.sl (map zX ((ze h).Berths))),(14,(V.i (((ze h).Berths).length:Int))),(15,V.i x1),(25,V.b true)] ?_ rfl (sr rfl)
    refine au 2 ?_
    refine GS.zCR rfl (au 6 ?_)
    have hE:=bf M
    exact X.gc [some 12] (hc_3 (w64 (x1+1),l1,(putM posE m2 (⟨x2,x.ID⟩:zK) y.1)) hE.symm) rfl rfl rfl (ga rfl rfl) (gb9 rfl rfl rfl (gb9 rfl rfl rfl (Zj rfl rfl (qz (jH h_7) rfl) (gb9 rfl rfl rfl (ZU 9 rfl rfl (fun _=>rfl) (fun _=>rfl) (jR hlow_1 rfl rfl rfl (gb_obl' 9 (jH h_7) rfl rfl (fun _=>rfl) zb)))))))
   refine au 2 ?_
   refine GS.nil ⟨_,rfl,?_⟩
   refine X.norm (H':=[.rows 6 [zJ h],.rows 5 [zL c],.rows 1 [ovl 6 l3],.rows 1 [V.map 4],.map (map (fun p:zK×zB=>zF p.1) m2) (map (fun p:zK×zB=>zD p.2) m2),lr R_1 .ready none,obl 2 zF l3,.rows 2 [zX x],.rows 2 [V.agg [V.i x2,V.i x.ID]],.rows 2 [zX x],.rows 2 [zD y.1]]) [(0,V.yld 5),(1,V.fptr [zJ (ze h)] 0 0),(3,V.i x2),(8,(V.i (((ze h).Tides).length:Int))),(9,V.i x2),(13,V.sl (map zX ((ze h).Berths))),(14,(V.i (((ze h).Berths).length:Int))),(15,V.i x1),(25,V.b true)] ?_ rfl (sr rfl)
   refine au 2 ?_
   refine GS.zCR rfl (au 6 ?_)
   have hE:=bf M
   exact X.gc [some 6] (hc_3 (w64 (x1+1),l3,m2) hE.symm) rfl rfl rfl (ga rfl rfl) (gb9 rfl rfl rfl (gb9 rfl rfl rfl (Zj rfl rfl (Am.zY rfl) (gb9 rfl rfl rfl (ZU 9 rfl rfl (fun _=>rfl) (fun _=>rfl) (jR hlow_1 rfl rfl rfl (ZB 9 rfl rfl (fun _=>rfl) zb)))))))
  obtain ⟨y_2,M,hy⟩:=zt M
  rw [hr_2 _ hy.symm] at M
  refine au 1 ?_
  exact X.gc [some 6] (hj_2 (l3,m2) M) rfl rfl rfl (ga rfl rfl) (gb9 rfl rfl rfl (gb9 rfl rfl rfl (Zj rfl rfl (Am.zY rfl) (gb9 rfl rfl rfl (ZU 9 rfl rfl (fun _=>rfl) (fun _=>rfl) (jR hlow_1 rfl rfl rfl (ZB 9 rfl rfl (fun _=>rfl) zb)))))))
 refine au 1 ?_
 refine GS.nil ⟨_,_,rfl,rfl,?_⟩
 refine X.norm (H':=[.rows 6 [zJ h],.rows 5 [zL c],.rows 1 [ovl 6 l2],.rows 1 [V.map 4],.map (map (fun p:zK×zB=>zF p.1) m1) (map (fun p:zK×zB=>zD p.2) m1),.dead,obl 2 zF l2]) [(2,V.ptr 0 0 0),(3,V.ptr 1 0 0),(6,V.ptr 2 0 0),(7,V.ptr 3 0 0),(14,V.fn 84 [V.fptr [zJ (ze h)] 0 0])] ?_ rfl (sr rfl)
 refine au 3 ?_
 refine cop rfl (v:=(ovl 6 l2)) (by rcases yM (z:=true) 6 l2 with h0 | ⟨n0,h0⟩ <;> simp only [h0] <;> rfl) rfl rfl (au 4 ?_)
 refine X.norm [(4,ovl 6 l2),(5,V.map 4)] ?_ rfl (sr rfl)
 have hE:=bf M
 replace hE:=hr_1 _ hE.symm
 subst hE
 exact GS.ret ⟨_,rfl,FR.tup (.cons (FR.ovl (f:=zF) (l:=l2) 9 rfl rfl (fun _=>rfl)) (.cons (frMap (f:=zF) (g:=zD) (pa:=fun p=>p.1) (pb:=fun p=>p.2) (l:=m1) 9 rfl rfl (fun _=>rfl) (fun _=>rfl)) .nil))⟩
abbrev zS (x:zI):V:=.agg [V.sl (map zL x.calls),V.sl (map zF x.slots),(V.sl (map (fun l=>V.fmap (map (fun p=>zF p.1) l) (map (fun p=>zD p.2) l)) x.can)),V.sl (map V.i x.old)]
set_option maxHeartbeats 4000000 in
theorem zDq {h:zN} {l:(List zV)} {r:zI} (M:zAr h l=some r):Ct Tryz.prog 17 [zJ h,V.sl (map zL l)] (V.fptr [zS r] 0 0):=by
 refine zP zn rfl ?_
 unfold zAr at M
 refine au 9 ?_
 refine X.op0W rfl rfl rfl (au 4 ?_)
 refine ca (zFK h) (au 2 ?_)
 refine X.gc [some 0,some 2,some 1] (H':=[.rows 6 [zJ h],.rows 1 [V.ptr 2 0 0],.rows 4 [V.agg [V.sl (map zL l),V.nil,V.nil,V.nil]]]) (K':=[(1,V.sl (map zL l)),(2,V.ptr 0 0 0),(5,V.ptr 1 0 0),(15,V.fn 84 [V.fptr [zJ (ze h)] 0 0])]) ?_ rfl rfl rfl (ga rfl rfl) (gb9 rfl rfl rfl (gb9 rfl rfl rfl (gb9 rfl rfl rfl zb)))
 refine X.range rfl rfl (jO ⟨9,rfl⟩ (jO ⟨9,rfl⟩ (jO ⟨9,rfl⟩ (jO ⟨9,rfl⟩ zFP)))) rfl ?_
 intro R_1 hrn_1 hrK_1 hrp_1 hra_1 hrb_1 hlow_1
 refine au 7 ?_
 refine X.gc [none] (X.loop (σ:=(Int×(List zK))) (fun v=>⟨[(0,V.yld 3),(1,V.fptr [zJ (ze h)] 0 0),(8,(V.i (((ze h).Tides).length:Int))),(9,V.i v.1)],[.rows 6 [zJ h],.rows 1 [V.ptr 2 0 0],.rows 4 [V.agg [V.sl (map zL l),ovl 4 v.2,V.nil,V.nil]],lr R_1 .ready none,obl 2 zF v.2],0,none,29⟩) M ?_ rfl) rfl rfl rfl (ga rfl rfl) (gb9 rfl rfl rfl (gb9 rfl rfl rfl (gb9 rfl rfl rfl (jR hlow_1 rfl rfl rfl (gb_pad' rfl zb)))))
 rintro ⟨x4,l10⟩ b_1 M hc_1 hr_1
 rw [zCB] at M
 refine au 3 ?_
 refine GS.seq ?_
 refine cm M (fun h_2 M=>?_) (fun h_2 M=>?_)
 ·refine au 13 ?_
  refine X.join (τ:=(List zK)) (fun v=>zAZ x4 v=some b_1) (fun v=>⟨[(0,V.yld 3),(1,V.fptr [zJ (ze h)] 0 0),(8,(V.i (((ze h).Tides).length:Int))),(9,V.i x4)],[.rows 6 [zJ h],.rows 1 [V.ptr 2 0 0],.rows 4 [V.agg [V.sl (map zL l),ovl 4 v,V.nil,V.nil]],lr R_1 .ready none,obl 2 zF v],0,none,29⟩) ?_ ?_
  ·intro l1 M
   replace M:zAZ x4 l1=some b_1:=M
   unfold zAZ at M
   refine au 5 ?_
   have hE:=bf M
   exact X.gc [some 4] (hc_1 (w64 (x4+1),l1) hE.symm) rfl rfl rfl (ga rfl rfl) (gb9 rfl rfl rfl (gb9 rfl rfl rfl (Zj rfl rfl (Qv (.cons ⟨9,rfl⟩ (.cons (Am.zY rfl) (.cons ⟨9,rfl⟩ (.cons ⟨9,rfl⟩ .nil))))) (jR hlow_1 rfl rfl rfl (ZB 9 rfl rfl (fun _=>rfl) zb)))))
  intro hj_2
  refine au 1 ?_
  refine X.gc [some 4] (X.loop (σ:=(Int×(List zK))) (fun v=>⟨[(0,V.yld 3),(1,V.fptr [zJ (ze h)] 0 0),(3,V.i x4),(8,(V.i (((ze h).Tides).length:Int))),(9,V.i x4),(13,V.sl (map zX ((ze h).Berths))),(14,(V.i (((ze h).Berths).length:Int))),(15,V.i v.1)],[.rows 6 [zJ h],.rows 1 [V.ptr 2 0 0],.rows 4 [V.agg [V.sl (map zL l),ovl 4 v.2,V.nil,V.nil]],lr R_1 .ready none,obl 2 zF v.2],0,none,29⟩) M ?_ rfl) rfl rfl rfl (ga rfl rfl) (gb9 rfl rfl rfl (gb9 rfl rfl rfl (Zj rfl rfl (Qv (.cons ⟨9,rfl⟩ (.cons (Am.zY rfl) (.cons ⟨9,rfl⟩ (.cons ⟨9,rfl⟩ .nil))))) (jR hlow_1 rfl rfl rfl (ZB 9 rfl rfl (fun _=>rfl) zb)))))
  rintro ⟨x1,l3⟩ b_2 M hc_3 hr_2
  rw [zAa] at M
  refine au 3 ?_
  refine GS.seq ?_
  refine cm M (fun h_3 M=>?_) (fun h_3 M=>?_)
  ·obtain ⟨x,h_4,M⟩:=zC M
   refine au 6 ?_
   refine X.opW (H':=[.rows 6 [zJ h],.rows 1 [V.ptr 2 0 0],.rows 4 [V.agg [V.sl (map zL l),ovl 4 l3,V.nil,V.nil]],lr R_1 .ready none,obl 2 zF l3,.rows 2 [V.agg [V.i 0,V.i 0]]]) rfl rfl rfl rfl ?_
   refine X.op0W (H':=[.rows 6 [zJ h],.rows 1 [V.ptr 2 0 0],.rows 4 [V.agg [V.sl (map zL l),ovl 4 l3,V.nil,V.nil]],lr R_1 .ready none,obl 2 zF l3,.rows 2 [zX x]]) rfl rfl rfl (au 8 ?_)
   refine X.yld hrn_1 hrK_1 hrp_1 hra_1 hrb_1 rfl rfl rfl rfl rfl rfl ?_
   refine GS.region ?_
   refine X.opW (H':=[.rows 6 [zJ h],.rows 1 [V.ptr 2 0 0],.rows 4 [V.agg [V.sl (map zL l),ovl 4 l3,V.nil,V.nil]],lr R_1 .ready none,obl 2 zF l3,.rows 2 [zX x],.rows 2 [V.agg [V.i 0,V.i 0]]]) rfl rfl rfl rfl ?_
   refine X.op0W (H':=[.rows 6 [zJ h],.rows 1 [V.ptr 2 0 0],.rows 4 [V.agg [V.sl (map zL l),ovl 4 l3,V.nil,V.nil]],lr R_1 .ready none,obl 2 zF l3,.rows 2 [zX x],.rows 2 [V.agg [V.i x4,V.i x.ID]]]) rfl rfl rfl ?_
   refine GS.ZT ?_
   refine GS.nil (begin' rfl rfl ?_ rfl)
   obtain ⟨l2,h_5,M⟩:=zC M
   refine au 1 ?_
   refine X.draw (by kernel_rfl) (au 7 ?_)
   refine zKH (f:=zF) h_5 (fun _=>rfl) (by rfl) (by rfl) (by rfl) (by rfl) (by rfl) (by rfl) (by rfl) (by rfl) (by rfl) (by rfl) (by rfl) (by exact rfl) (by rfl) (by rfl) (by kernel_rfl) (by rfl) (by rfl) (au 2 ?_)
   refine dop0 rfl rfl rfl rfl (by kernel_rfl) rfl (au 1 ?_)
   refine X.norm [] ?_ rfl W.zGt
   refine au 1 ?_
   refine GS.nil ⟨_,rfl,?_⟩
   refine X.norm (H':=[.rows 6 [zJ h],.rows 1 [V.ptr 2 0 0],.rows 4 [V.agg [V.sl (map zL l),V.osl 8 0 (List.length l2),V.nil,V.nil]],lr R_1 .ready none,.dead,.rows 2 [zX x],.rows 2 [V.agg [V.i x4,V.i x.ID]],.rows 2 (map zF ([(⟨x4,x.ID⟩:zK)])),.rows 2 (map zF l2)]) [(0,V.yld 3),(1,V.fptr [zJ (ze h)] 0 0),(3,V.i x4),(8,(V.i (((ze h).Tides).length:Int))),(9,V.i x4),(13,V.sl (map zX ((ze h).Berths))),(14,(V.i (((ze h).Berths).length:Int))),(15,V.i x1),(25,V.b true)] ?_ rfl (sr rfl)
   refine au 2 ?_
   refine GS.zCR rfl (au 6 ?_)
   have hE:=bf M
   exact X.gc [some 8] (hc_3 (w64 (x1+1),l2) hE.symm) rfl rfl rfl (ga rfl rfl) (gb9 rfl rfl rfl (gb9 rfl rfl rfl (Zj rfl rfl (Qv (.cons ⟨9,rfl⟩ (.cons (qz (jH h_5) rfl) (.cons ⟨9,rfl⟩ (.cons ⟨9,rfl⟩ .nil))))) (jR hlow_1 rfl rfl rfl (gb_obl' 9 (jH h_5) rfl rfl (fun _=>rfl) zb)))))
  obtain ⟨y_2,M,hy⟩:=zt M
  rw [hr_2 _ hy.symm] at M
  refine au 1 ?_
  exact X.gc [some 4] (hj_2 l3 M) rfl rfl rfl (ga rfl rfl) (gb9 rfl rfl rfl (gb9 rfl rfl rfl (Zj rfl rfl (Qv (.cons ⟨9,rfl⟩ (.cons (Am.zY rfl) (.cons ⟨9,rfl⟩ (.cons ⟨9,rfl⟩ .nil))))) (jR hlow_1 rfl rfl rfl (ZB 9 rfl rfl (fun _=>rfl) zb)))))
 refine au 1 ?_
 refine GS.nil ⟨_,_,rfl,rfl,?_⟩
 refine X.norm (H':=[.rows 6 [zJ h],.rows 1 [V.ptr 2 0 0],.rows 4 [V.agg [V.sl (map zL l),ovl 4 l10,V.nil,V.nil]],.dead,obl 2 zF l10]) [(1,V.sl (map zL l)),(2,V.ptr 0 0 0),(5,V.ptr 1 0 0),(15,V.fn 84 [V.fptr [zJ (ze h)] 0 0])] ?_ rfl (sr rfl)
 refine au 7 ?_
 refine X.join (τ:=(List (List (zK×zB)))×(List Int)) (fun v=>zAY l l10 v.1 v.2=some b_1) (fun v=>⟨[(5,V.ptr 0 0 0)],[.rows 1 [V.ptr 1 0 0],.rows 4 [V.agg [V.sl (map zL l),ovl 2 l10,ovl 3 v.1,ovl 4 v.2]],obl 2 zF l10,obl 1 (fun l=>V.fmap (map (fun p=>zF p.1) l) (map (fun p=>zD p.2) l)) v.1,obl 1 V.i v.2],0,none,61⟩) ?_ ?_
 ·rintro ⟨l4,l5⟩ M
  replace M:zAY l l10 l4 l5=some b_1:=M
  unfold zAY at M
  refine au 4 ?_
  have hE:=bf M
  replace hE:=hr_1 _ hE.symm
  subst hE
  exact GS.ret ⟨_,rfl,FR.ptr rfl rfl (FR.agg (.cons ⟨30,rfl⟩ (.cons (FR.ovl (f:=zF) (l:=l10) 9 rfl rfl (fun _=>rfl)) (.cons (FR.ovl (f:=(fun l=>V.fmap (map (fun p=>zF p.1) l) (map (fun p=>zD p.2) l))) (l:=l4) 9 rfl rfl (fun _=>rfl)) (.cons (FR.ovl (f:=V.i) (l:=l5) 9 rfl rfl (fun _=>rfl)) .nil)))))⟩
 intro hj_4
 refine au 1 ?_
 refine X.gc [some 0,some 1,some 2,some 4,none,none] (X.loop (σ:=(Int×(List (List (zK×zB)))×(List Int))) (fun v=>⟨[(2,V.ptr 0 0 0),(5,V.ptr 1 0 0),(28,V.sl (map zL l)),(29,(V.i (l.length:Int))),(30,V.i v.1)],[.rows 6 [zJ h],.rows 1 [V.ptr 2 0 0],.rows 4 [V.agg [V.sl (map zL l),ovl 3 l10,ovl 4 v.2.1,ovl 5 v.2.2]],obl 2 zF l10,obl 1 (fun l=>V.fmap (map (fun p=>zF p.1) l) (map (fun p=>zD p.2) l)) v.2.1,obl 1 V.i v.2.2],0,none,61⟩) M ?_ rfl) rfl rfl rfl (ga rfl rfl) (gb9 rfl rfl rfl (gb9 rfl rfl rfl (Zj rfl rfl (Qv (.cons ⟨9,rfl⟩ (.cons (Am.zY rfl) (.cons ⟨9,rfl⟩ (.cons ⟨9,rfl⟩ .nil))))) (ZB 9 rfl rfl (fun _=>rfl) (gb_pad' rfl (gb_pad' rfl zb))))))
 rintro ⟨x3,l8,l9⟩ b_2 M hc_5 hr_2
 rw [zCA] at M
 refine au 3 ?_
 refine GS.seq ?_
 refine cm M (fun h_6 M=>?_) (fun h_6 M=>?_)
 ·obtain ⟨x2,h_7,M⟩:=zC M
  refine au 6 ?_
  refine X.opW (H':=[.rows 6 [zJ h],.rows 1 [V.ptr 2 0 0],.rows 4 [V.agg [V.sl (map zL l),ovl 3 l10,ovl 4 l8,ovl 5 l9]],obl 2 zF l10,obl 1 (fun l=>V.fmap (map (fun p=>zF p.1) l) (map (fun p=>zD p.2) l)) l8,obl 1 V.i l9,.rows 5 [V.agg [V.i 0,V.i 0,V.i 0,V.i 0,V.i 0]]]) rfl rfl rfl rfl ?_
  refine X.op0W (H':=[.rows 6 [zJ h],.rows 1 [V.ptr 2 0 0],.rows 4 [V.agg [V.sl (map zL l),ovl 3 l10,ovl 4 l8,ovl 5 l9]],obl 2 zF l10,obl 1 (fun l=>V.fmap (map (fun p=>zF p.1) l) (map (fun p=>zD p.2) l)) l8,obl 1 V.i l9,.rows 5 [zL x2]]) rfl rfl rfl ?_
  obtain ⟨y,h_8,M⟩:=zC M
  refine au 4 ?_
  refine ca (zJa h_8) ?_
  obtain ⟨l6,h_9,M⟩:=zC M
  obtain ⟨l7,h_10,M⟩:=zC M
  refine au 6 ?_
  refine X.draw (by kernel_rfl) (au 8 ?_)
  refine zKH (f:=(fun l=>V.fmap (map (fun p=>zF p.1) l) (map (fun p=>zD p.2) l))) h_9 (fun _=>rfl) (by rfl) (by rfl) (by rfl) (by rfl) (by rfl) (by rfl) (by rfl) (by rfl) (by rfl) (by rfl) (by rfl) (by exact rfl) (by rfl) (by rfl) (by kernel_rfl) (by rfl) (by rfl) (au 5 ?_)
  refine zKH (f:=V.i) h_10 (fun _=>rfl) (by rfl) (by rfl) (by rfl) (by rfl) (by rfl) (by rfl) (by rfl) (by rfl) (by rfl) (by rfl) (by rfl) (by exact rfl) (by rfl) (by rfl) (by kernel_rfl) (by rfl) (by rfl) (au 2 ?_)
  refine dop0 rfl rfl rfl rfl (by kernel_rfl) rfl (au 2 ?_)
  refine dop0 rfl rfl rfl rfl (by kernel_rfl) rfl (au 1 ?_)
  refine X.norm [(2,V.ptr 0 0 0),(5,V.ptr 1 0 0),(28,V.sl (map zL l)),(29,(V.i (l.length:Int))),(30,V.i x3)] ?_ rfl (sr rfl)
  refine au 5 ?_
  have hE:=bf M
  exact X.gc [some 0,some 1,some 2,some 3,some 8,some 10] (hc_5 (w64 (x3+1),l6,l7) hE.symm) rfl rfl rfl (ga rfl rfl) (gb9 rfl rfl rfl (gb9 rfl rfl rfl (Zj rfl rfl (Qv (.cons ⟨9,rfl⟩ (.cons (Am.zY rfl) (.cons (qz (jH h_9) rfl) (.cons (qz (jH h_10) rfl) .nil))))) (ZB 9 rfl rfl (fun _=>rfl) (gb_obl' 9 (jH h_9) rfl rfl (fun _=>rfl) (gb_obl' 9 (jH h_10) rfl rfl (fun _=>rfl) zb))))))
 obtain ⟨y_2,M,hy⟩:=zt M
 rw [hr_2 _ hy.symm] at M
 refine au 1 ?_
 exact X.gc [some 1,some 2,some 3,some 4,some 5] (hj_4 (l8,l9) M) rfl rfl rfl (ga rfl rfl) (gb9 rfl rfl rfl (Zj rfl rfl (Qv (.cons ⟨9,rfl⟩ (.cons (Am.zY rfl) (.cons (Am.zY rfl) (.cons (Am.zY rfl) .nil))))) (ZB 9 rfl rfl (fun _=>rfl) (ZB 9 rfl rfl (fun _=>rfl) (ZB 9 rfl rfl (fun _=>rfl) zb)))))
set_option maxHeartbeats 4000000 in
theorem zNF {b:zI} {ship:Int} {r:(List Int)} (M:Je b ship=some r):Ct Tryz.prog 50 [V.fptr [zS b] 0 0,V.i ship] (V.sl (map V.i r)):=by
 refine zP zn rfl ?_
 unfold Je at M
 obtain ⟨l,h_1,M⟩:=zC M
 refine au 3 ?_
 refine GS.seq ?_
 refine X.draw (by kernel_rfl) (au 11 ?_)
 refine dop rfl (zHG (f:=V.i) h_1 rfl rfl rfl rfl rfl rfl rfl rfl) rfl rfl (by kernel_rfl) rfl rfl (au 2 ?_)
 refine X.norm [(0,V.fptr [zS b] 0 0),(1,V.i ship),(5,V.osl 0 0 (List.length l))] ?_ rfl (sr rfl)
 refine au 3 ?_
 refine X.opR rfl (lenO (l:=l) rfl rfl rfl) rfl (au 2 ?_)
 refine X.join (τ:=(List Int)) (fun v=>jG b ship v=some r) (fun v=>⟨[(0,V.fptr [zS b] 0 0),(1,V.i ship),(5,V.osl 0 0 (List.length v))],[.rows 1 (map V.i v)],0,none,81⟩) ?_ ?_
 ·intro l1 M
  replace M:jG b ship l1=some r:=M
  unfold jG at M
  refine au 9 ?_
  refine X.join (τ:=(List Int)) (fun v=>Z7 b ship v=some r) (fun v=>⟨[(0,V.fptr [zS b] 0 0),(1,V.i ship),(5,V.osl 0 0 (List.length v))],[.rows 1 (map V.i v)],0,none,81⟩) ?_ ?_
  ·intro l2 M
   replace M:Z7 b ship l2=some r:=M
   unfold Z7 at M
   obtain ⟨x,h_2,M⟩:=zC M
   refine au 9 ?_
   refine X.opR rfl (jB h_2 rfl rfl rfl rfl rfl) rfl ?_
   refine X.op0W rfl (YY (b:=0) h_2 rfl rfl rfl rfl rfl rfl rfl) rfl (au 5 ?_)
   have hE:=bf M
   subst hE
   exact GS.ret ⟨_,rfl,FR.eq JE (FR.osl (f:=V.i) (l:=(put l2 (w64 ((b.slots.length:Int)+ship)) 0)) 9 rfl rfl (fun _=>rfl))⟩
  intro hj_2
  refine au 1 ?_
  refine gx [some 0] (X.loop (σ:=(Int×(List Int))) (fun v=>⟨[(0,V.fptr [zS b] 0 0),(1,V.i ship),(5,V.osl 0 0 (List.length v.2)),(35,V.sl (map zF b.slots)),(36,(V.i (b.slots.length:Int))),(37,V.i v.1)],[.rows 1 (map V.i v.2)],0,none,81⟩) M ?_ rfl)
  rintro ⟨x6,l4⟩ b_1 M hc_3 hr_1
  rw [JV] at M
  refine au 3 ?_
  refine GS.seq ?_
  refine cm M (fun h_3 M=>?_) (fun h_3 M=>?_)
  ·refine GS.skip (GS.seq ?_)
   refine X.join (τ:=(List Int)) (fun v=>Zw x6 v=some b_1) (fun v=>⟨[(0,V.fptr [zS b] 0 0),(1,V.i ship),(5,V.osl 0 0 (List.length v)),(35,V.sl (map zF b.slots)),(36,(V.i (b.slots.length:Int))),(37,V.i x6)],[.rows 1 (map V.i v)],0,none,81⟩) ?_ ?_
   ·intro l3 M
    replace M:Zw x6 l3=some b_1:=M
    unfold Zw at M
    refine au 4 ?_
    have hE:=bf M
    exact gx [some 0] (hc_3 (w64 (x6+1),l3) hE.symm)
   intro hj_4
   obtain ⟨x1,h_4,M⟩:=zC M
   refine au 7 ?_
   refine X.op0W rfl rfl rfl ?_
   obtain ⟨x2,h_5,M⟩:=zC M
   refine GS.ZT (GS.seq ?_)
   refine X.draw (by kernel_rfl) (au 5 ?_)
   refine dop rfl (YH (f:=(fun l=>V.fmap (map (fun p=>zF p.1) l) (map (fun p=>zD p.2) l))) h_5 (fun _=>rfl) rfl rfl rfl rfl) rfl rfl (by kernel_rfl) rfl rfl (au 2 ?_)
   refine dop rfl (zJs (f:=zF) (g:=zD) (k:=x1) (l:=x2) (z:=(⟨0,0⟩:zB)) (ok:=true) qc rfl rfl rfl rfl rfl) rfl rfl (by kernel_rfl) rfl rfl (au 4 ?_)
   refine dop0 rfl rfl rfl rfl (by kernel_rfl) rfl (au 2 ?_)
   refine X.norm [(0,V.fptr [zS b] 0 0),(1,V.i ship),(5,V.osl 0 0 (List.length l4)),(7,V.i x6),(10,V.b ((za x1 x2).isSome)),(35,V.sl (map zF b.slots)),(36,(V.i (b.slots.length:Int))),(37,V.i x6)] ?_ rfl (sr rfl)
   refine au 3 ?_
   refine cm M (fun h_6 M=>?_) (fun h_6 M=>?_)
   ·obtain ⟨x3,h_7,M⟩:=zC M
    refine au 3 ?_
    refine X.opR rfl (jB h_7 rfl rfl rfl rfl rfl) rfl ?_
    refine X.op0W rfl (YY (b:=(-1000)) h_7 rfl rfl rfl rfl rfl rfl rfl) rfl ?_
    obtain ⟨x4,h_8,M⟩:=zC M
    refine au 12 ?_
    refine cm M (fun h_9 M=>?_) (fun h_9 M=>?_)
    ·obtain ⟨x5,h_10,M⟩:=zC M
     refine au 3 ?_
     refine X.opR rfl (jB h_10 rfl rfl (zJw rfl JE) rfl rfl) rfl ?_
     refine X.op0W rfl (YY (b:=(-1001)) h_10 rfl rfl rfl rfl rfl rfl rfl) rfl (au 2 ?_)
     exact gy [some 0] (hj_4 (put (put l4 x6 (-1000)) x6 (-1001)) M) (zG rfl ⟨9,rfl⟩ (zG rfl ⟨9,rfl⟩ (zG rfl (Yi (Eq.trans JE JE) ⟨9,rfl⟩) (ga rfl rfl))))
    refine au 2 ?_
    exact gy [some 0] (hj_4 (put l4 x6 (-1000)) M) (zG rfl ⟨9,rfl⟩ (zG rfl ⟨9,rfl⟩ (zG rfl (Yi JE ⟨9,rfl⟩) (ga rfl rfl))))
   refine au 2 ?_
   exact gx [some 0] (hj_4 l4 M)
  obtain ⟨y_1,M,hy⟩:=zt M
  rw [hr_1 _ hy.symm] at M
  refine au 1 ?_
  exact gx [some 0] (hj_2 l4 M)
 intro hj_1
 refine au 1 ?_
 refine gx [some 0] (X.loop (σ:=(Int×(List Int))) (fun v=>⟨[(0,V.fptr [zS b] 0 0),(1,V.i ship),(5,V.osl 0 0 (List.length v.2)),(24,(V.i (l.length:Int))),(25,V.i v.1)],[.rows 1 (map V.i v.2)],0,none,81⟩) M ?_ rfl)
 rintro ⟨x8,l5⟩ b_1 M hc_5 hr_1
 rw [JU] at M
 refine au 3 ?_
 refine GS.seq ?_
 refine cm M (fun h_11 M=>?_) (fun h_11 M=>?_)
 ·obtain ⟨x7,h_12,M⟩:=zC M
  refine au 10 ?_
  refine X.opR rfl (jB h_12 rfl rfl rfl rfl rfl) rfl ?_
  refine X.op0W rfl (YY (b:=1073741824) h_12 rfl rfl rfl rfl rfl rfl rfl) rfl (au 6 ?_)
  have hE:=bf M
  exact gy [some 0] (hc_5 (w64 (x8+1),put l5 x8 1073741824) hE.symm) (zG rfl ⟨9,rfl⟩ (zG rfl ⟨9,rfl⟩ (zG rfl (Yi JE ⟨9,rfl⟩) (ga rfl rfl))))
 obtain ⟨y_1,M,hy⟩:=zt M
 rw [hr_1 _ hy.symm] at M
 refine au 1 ?_
 exact gx [some 0] (hj_1 l5 M)
set_option maxHeartbeats 4000000 in
theorem zEs {b:zI} {ship:Int} {r:(List Int)} (M:Je b ship=some r):zHf Tryz.prog 50 [V.fptr [zS b] 0 0,V.i ship] (fun z=>(ovlz z 0 r)) (fun z=>(oblz z 1 V.i r)):=by
 refine zK8 zn rfl ?_
 unfold Je at M
 obtain ⟨l,h_1,M⟩:=zC M
 refine au 3 ?_
 refine GS.seq ?_
 refine X.draw (by kernel_rfl) (au 11 ?_)
 refine dop rfl (zHG (f:=V.i) h_1 rfl rfl rfl rfl rfl rfl rfl rfl) rfl rfl (by kernel_rfl) rfl rfl (au 2 ?_)
 refine X.norm [(0,V.fptr [zS b] 0 0),(1,V.i ship),(5,V.osl 0 0 (List.length l))] ?_ rfl (sr rfl)
 refine au 3 ?_
 refine X.opR rfl (lenO (l:=l) rfl rfl rfl) rfl (au 2 ?_)
 refine X.join (τ:=(List Int)) (fun v=>jG b ship v=some r) (fun v=>⟨[(0,V.fptr [zS b] 0 0),(1,V.i ship),(5,V.osl 0 0 (List.length v))],[.rows 1 (map V.i v)],0,none,81⟩) ?_ ?_
 ·intro l1 M
  replace M:jG b ship l1=some r:=M
  unfold jG at M
  refine au 9 ?_
  refine X.join (τ:=(List Int)) (fun v=>Z7 b ship v=some r) (fun v=>⟨[(0,V.fptr [zS b] 0 0),(1,V.i ship),(5,V.osl 0 0 (List.length v))],[.rows 1 (map V.i v)],0,none,81⟩) ?_ ?_
  ·intro l2 M
   replace M:Z7 b ship l2=some r:=M
   unfold Z7 at M
   obtain ⟨x,h_2,M⟩:=zC M
   refine au 9 ?_
   refine X.opR rfl (jB h_2 rfl rfl rfl rfl rfl) rfl ?_
   refine X.op0W rfl (YY (b:=0) h_2 rfl rfl rfl rfl rfl rfl rfl) rfl (au 5 ?_)
   have hE:=bf M
   subst hE
   refine X.gc [some 0] (H':=[.rows 1 (map V.i (put l2 (w64 ((b.slots.length:Int)+ship)) 0))]) (K':=[(4,(V.osl 0 0 (List.length (put l2 (w64 ((b.slots.length:Int)+ship)) 0))))]) ?_ rfl rfl rfl (zG rfl (Yi JE ⟨9,rfl⟩) QO) (Q0 9 rfl rfl (fun _=>rfl) zb)
   exact GS.ret ⟨false,rfl,rfl⟩
  intro hj_2
  refine au 1 ?_
  refine gx [some 0] (X.loop (σ:=(Int×(List Int))) (fun v=>⟨[(0,V.fptr [zS b] 0 0),(1,V.i ship),(5,V.osl 0 0 (List.length v.2)),(35,V.sl (map zF b.slots)),(36,(V.i (b.slots.length:Int))),(37,V.i v.1)],[.rows 1 (map V.i v.2)],0,none,81⟩) M ?_ rfl)
  rintro ⟨x6,l4⟩ b_1 M hc_3 hr_1
  rw [JV] at M
  refine au 3 ?_
  refine GS.seq ?_
  refine cm M (fun h_3 M=>?_) (fun h_3 M=>?_)
  ·refine GS.skip (GS.seq ?_)
   refine X.join (τ:=(List Int)) (fun v=>Zw x6 v=some b_1) (fun v=>⟨[(0,V.fptr [zS b] 0 0),(1,V.i ship),(5,V.osl 0 0 (List.length v)),(35,V.sl (map zF b.slots)),(36,(V.i (b.slots.length:Int))),(37,V.i x6)],[.rows 1 (map V.i v)],0,none,81⟩) ?_ ?_
   ·intro l3 M
    replace M:Zw x6 l3=some b_1:=M
    unfold Zw at M
    refine au 4 ?_
    have hE:=bf M
    exact gx [some 0] (hc_3 (w64 (x6+1),l3) hE.symm)
   intro hj_4
   obtain ⟨x1,h_4,M⟩:=zC M
   refine au 7 ?_
   refine X.op0W rfl rfl rfl ?_
   obtain ⟨x2,h_5,M⟩:=zC M
   refine GS.ZT (GS.seq ?_)
   refine X.draw (by kernel_rfl) (au 5 ?_)
   refine dop rfl (YH (f:=(fun l=>V.fmap (map (fun p=>zF p.1) l) (map (fun p=>zD p.2) l))) h_5 (fun _=>rfl) rfl rfl rfl rfl) rfl rfl (by kernel_rfl) rfl rfl (au 2 ?_)
   refine dop rfl (zJs (f:=zF) (g:=zD) (k:=x1) (l:=x2) (z:=(⟨0,0⟩:zB)) (ok:=true) qc rfl rfl rfl rfl rfl) rfl rfl (by kernel_rfl) rfl rfl (au 4 ?_)
   refine dop0 rfl rfl rfl rfl (by kernel_rfl) rfl (au 2 ?_)
   refine X.norm [(0,V.fptr [zS b] 0 0),(1,V.i ship),(5,V.osl 0 0 (List.length l4)),(7,V.i x6),(10,V.b ((za x1 x2).isSome)),(35,V.sl (map zF b.slots)),(36,(V.i (b.slots.length:Int))),(37,V.i x6)] ?_ rfl (sr rfl)
   refine au 3 ?_
   refine cm M (fun h_6 M=>?_) (fun h_6 M=>?_)
   ·obtain ⟨x3,h_7,M⟩:=zC M
    refine au 3 ?_
    refine X.opR rfl (jB h_7 rfl rfl rfl rfl rfl) rfl ?_
    refine X.op0W rfl (YY (b:=(-1000)) h_7 rfl rfl rfl rfl rfl rfl rfl) rfl ?_
    obtain ⟨x4,h_8,M⟩:=zC M
    refine au 12 ?_
    refine cm M (fun h_9 M=>?_) (fun h_9 M=>?_)
    ·obtain ⟨x5,h_10,M⟩:=zC M
     refine au 3 ?_
     refine X.opR rfl (jB h_10 rfl rfl (zJw rfl JE) rfl rfl) rfl ?_
     refine X.op0W rfl (YY (b:=(-1001)) h_10 rfl rfl rfl rfl rfl rfl rfl) rfl (au 2 ?_)
     exact gy [some 0] (hj_4 (put (put l4 x6 (-1000)) x6 (-1001)) M) (zG rfl ⟨9,rfl⟩ (zG rfl ⟨9,rfl⟩ (zG rfl (Yi (Eq.trans JE JE) ⟨9,rfl⟩) (ga rfl rfl))))
    refine au 2 ?_
    exact gy [some 0] (hj_4 (put l4 x6 (-1000)) M) (zG rfl ⟨9,rfl⟩ (zG rfl ⟨9,rfl⟩ (zG rfl (Yi JE ⟨9,rfl⟩) (ga rfl rfl))))
   refine au 2 ?_
   exact gx [some 0] (hj_4 l4 M)
  obtain ⟨y_1,M,hy⟩:=zt M
  rw [hr_1 _ hy.symm] at M
  refine au 1 ?_
  exact gx [some 0] (hj_2 l4 M)
 intro hj_1
 refine au 1 ?_
 refine gx [some 0] (X.loop (σ:=(Int×(List Int))) (fun v=>⟨[(0,V.fptr [zS b] 0 0),(1,V.i ship),(5,V.osl 0 0 (List.length v.2)),(24,(V.i (l.length:Int))),(25,V.i v.1)],[.rows 1 (map V.i v.2)],0,none,81⟩) M ?_ rfl)
 rintro ⟨x8,l5⟩ b_1 M hc_5 hr_1
 rw [JU] at M
 refine au 3 ?_
 refine GS.seq ?_
 refine cm M (fun h_11 M=>?_) (fun h_11 M=>?_)
 ·obtain ⟨x7,h_12,M⟩:=zC M
  refine au 10 ?_
  refine X.opR rfl (jB h_12 rfl rfl rfl rfl rfl) rfl ?_
  refine X.op0W rfl (YY (b:=1073741824) h_12 rfl rfl rfl rfl rfl rfl rfl) rfl (au 6 ?_)
  have hE:=bf M
  exact gy [some 0] (hc_5 (w64 (x8+1),put l5 x8 1073741824) hE.symm) (zG rfl ⟨9,rfl⟩ (zG rfl ⟨9,rfl⟩ (zG rfl (Yi JE ⟨9,rfl⟩) (ga rfl rfl))))
 obtain ⟨y_1,M,hy⟩:=zt M
 rw [hr_1 _ hy.symm] at M
 refine au 1 ?_
 exact gx [some 0] (hj_1 l5 M)
set_option maxHeartbeats 4000000 in
theorem zIt {cost:(List (List Int))} {places:Int} {r:(List Int)×Int} (M:yj cost places=some r):Ct Tryz.prog 51 [(V.sl (map (fun l=>V.sl (map V.i l)) cost)),V.i places] (V.tup [V.sl (map V.i r.1),V.i r.2]):=by
 refine zP zn rfl ?_
 unfold yj at M
 obtain ⟨l,h_1,M⟩:=zC M
 refine au 8 ?_
 refine X.opW rfl (zHG (f:=V.i) h_1 rfl rfl rfl rfl rfl rfl rfl rfl) rfl rfl ?_
 obtain ⟨l1,h_2,M⟩:=zC M
 refine au 5 ?_
 refine X.opW rfl (zHG (f:=V.i) h_2 rfl rfl rfl rfl rfl rfl rfl rfl) rfl rfl ?_
 obtain ⟨l2,h_3,M⟩:=zC M
 refine au 5 ?_
 refine X.opW rfl (zHG (f:=V.i) h_3 rfl rfl rfl rfl rfl rfl rfl rfl) rfl rfl (au 6 ?_)
 refine X.join (τ:=(List Int)) (fun v=>yR cost places v=some r) (fun v=>⟨[(0,(V.sl (map (fun l=>V.sl (map V.i l)) cost))),(1,V.i places),(8,V.osl 0 0 (List.length v))],[.rows 1 (map V.i v)],0,none,215⟩) ?_ ?_
 ·intro l3 M
  replace M:yR cost places l3=some r:=M
  unfold yR at M
  obtain ⟨l4,h_4,M⟩:=zC M
  refine au 3 ?_
  refine X.opW rfl (zHG (f:=V.i) h_4 rfl rfl rfl rfl rfl rfl rfl rfl) rfl rfl (au 9 ?_)
  refine X.join (τ:=Int×(List Int)) (fun v=>Qh v.1 v.2=some r) (fun v=>⟨[(21,V.osl 0 0 (List.length v.2)),(22,V.i v.1)],[.rows 1 (map V.i v.2)],0,none,215⟩) ?_ ?_
  ·rintro ⟨sum,l5⟩ M
   replace M:Qh sum l5=some r:=M
   unfold Qh at M
   refine au 6 ?_
   have hE:=bf M
   subst hE
   exact GS.ret ⟨_,rfl,FR.tup (.cons (FR.osl (f:=V.i) (l:=l5) 9 rfl rfl (fun _=>rfl)) (.cons ⟨30,rfl⟩ .nil))⟩
  intro hj_2
  refine au 1 ?_
  refine gx [some 0,some 1] (X.loop (σ:=(Int×Int×(List Int))) (fun v=>⟨[(0,(V.sl (map (fun l=>V.sl (map V.i l)) cost))),(1,V.i places),(8,V.osl 0 0 (List.length l3)),(21,V.osl 1 0 (List.length v.2.2)),(22,V.i v.1),(23,V.i v.2.1)],[.rows 1 (map V.i l3),.rows 1 (map V.i v.2.2)],0,none,215⟩) M ?_ rfl)
  rintro ⟨sum2,k,l7⟩ b_1 M hc_3 hr_1
  rw [YP] at M
  refine au 6 ?_
  refine cm M (fun h_5 M=>?_) (fun h_5 M=>?_)
  ·refine GS.skip (GS.seq ?_)
   refine X.join (τ:=Int×(List Int)) (fun v=>yQ k v.1 v.2=some b_1) (fun v=>⟨[(0,(V.sl (map (fun l=>V.sl (map V.i l)) cost))),(1,V.i places),(8,V.osl 0 0 (List.length l3)),(21,V.osl 1 0 (List.length v.2)),(22,V.i v.1),(23,V.i k)],[.rows 1 (map V.i l3),.rows 1 (map V.i v.2)],0,none,215⟩) ?_ ?_
   ·rintro ⟨sum1,l6⟩ M
    replace M:yQ k sum1 l6=some b_1:=M
    unfold yQ at M
    refine au 5 ?_
    have hE:=bf M
    exact gx [some 0,some 1] (hc_3 (sum1,w64 (k+1),l6) hE.symm)
   intro hj_4
   obtain ⟨x,h_6,M⟩:=zC M
   refine au 4 ?_
   refine X.opR rfl (jB h_6 rfl rfl rfl rfl rfl) rfl ?_
   refine X.opR rfl (Y9 h_6 rfl rfl rfl rfl) rfl (au 2 ?_)
   refine cm M (fun h_7 M=>?_) (fun h_7 M=>?_)
   ·obtain ⟨x1,h_8,M⟩:=zC M
    obtain ⟨x2,h_9,M⟩:=zC M
    refine au 4 ?_
    refine X.opR rfl (jB h_8 rfl rfl rfl rfl rfl) rfl ?_
    refine X.opR rfl (Y9 h_8 rfl rfl rfl rfl) rfl (au 3 ?_)
    refine X.opR rfl (jB h_9 rfl rfl rfl rfl rfl) rfl ?_
    refine X.op0W rfl (YY (b:=w64 (k - 1)) h_9 rfl rfl rfl rfl rfl rfl rfl) rfl ?_
    obtain ⟨x3,h_10,M⟩:=zC M
    obtain ⟨x4,h_11,M⟩:=zC M
    obtain ⟨x5,h_12,M⟩:=zC M
    refine au 6 ?_
    refine X.opR rfl (jB h_10 rfl rfl rfl rfl rfl) rfl ?_
    refine X.opR rfl (Y9 h_10 rfl rfl rfl rfl) rfl (au 11 ?_)
    exact gy [some 0,some 1] (hj_4 (w64 (sum2+x5),put l7 (w64 (x1 - 1)) (w64 (k - 1))) M) (zG rfl ⟨9,rfl⟩ (zG rfl ⟨9,rfl⟩ (zG rfl ⟨9,rfl⟩ (zG rfl (Yi JE ⟨9,rfl⟩) (ga rfl rfl)))))
   refine au 2 ?_
   exact gx [some 0,some 1] (hj_4 (sum2,l7) M)
  obtain ⟨y_1,M,hy⟩:=zt M
  rw [hr_1 _ hy.symm] at M
  refine au 1 ?_
  exact gx [some 1] (hj_2 (sum2,l7) M)
 intro hj_1
 refine au 1 ?_
 refine gx [some 0,some 1,some 2] (X.loop (σ:=(Int×(List Int)×(List Int)×(List Int))) (fun v=>⟨[(0,(V.sl (map (fun l=>V.sl (map V.i l)) cost))),(1,V.i places),(6,V.osl 0 0 (List.length v.2.1)),(7,V.osl 1 0 (List.length v.2.2.1)),(8,V.osl 2 0 (List.length v.2.2.2)),(9,V.i v.1)],[.rows 1 (map V.i v.2.1),.rows 1 (map V.i v.2.2.1),.rows 1 (map V.i v.2.2.2)],0,none,215⟩) M ?_ rfl)
 rintro ⟨i,l40,l41,l42⟩ b_1 M hc_5 hr_1
 rw [Qj] at M
 refine au 7 ?_
 refine cm M (fun h_13 M=>?_) (fun h_13 M=>?_)
 ·refine au 3 ?_
  refine GS.scope ?_
  obtain ⟨x6,h_14,M⟩:=zC M
  refine au 3 ?_
  refine X.opR rfl (jB h_14 rfl rfl rfl rfl rfl) rfl ?_
  refine X.op0W rfl (YY (b:=i) h_14 rfl rfl rfl rfl rfl rfl rfl) rfl ?_
  obtain ⟨l8,h_15,M⟩:=zC M
  refine au 7 ?_
  refine X.opW (H':=[.rows 1 (map V.i l40),.rows 1 (map V.i l41),.rows 1 (map V.i (put l42 0 i)),.rows 1 (map V.i l8)]) rfl (zHG (f:=V.i) h_15 rfl rfl rfl rfl rfl rfl rfl rfl) rfl rfl ?_
  obtain ⟨l9,h_16,M⟩:=zC M
  refine au 5 ?_
  refine X.opW (H':=[.rows 1 (map V.i l40),.rows 1 (map V.i l41),.rows 1 (map V.i (put l42 0 i)),.rows 1 (map V.i l8),.rows 1 (map V.i l9)]) rfl (zHG (f:=V.i) h_16 rfl rfl rfl rfl rfl rfl rfl rfl) rfl rfl ?_
  obtain ⟨l10,h_17,M⟩:=zC M
  refine au 5 ?_
  refine X.opW (H':=[.rows 1 (map V.i l40),.rows 1 (map V.i l41),.rows 1 (map V.i (put l42 0 i)),.rows 1 (map V.i l8),.rows 1 (map V.i l9),.rows 1 (map V.b l10)]) rfl (zHG (f:=V.b) h_17 rfl rfl rfl rfl rfl rfl rfl rfl) rfl rfl (au 5 ?_)
  refine X.opR rfl (lenO (l:=l8) rfl rfl rfl) rfl (au 2 ?_)
  refine X.join (τ:=(List Int)) (fun v=>YO cost places i l40 l41 l42 l9 l10 v=some b_1) (fun v=>⟨[(0,(V.sl (map (fun l=>V.sl (map V.i l)) cost))),(1,V.i places),(6,V.osl 0 0 (List.length l40)),(7,V.osl 1 0 (List.length l41)),(8,V.osl 2 0 (List.length (put l42 0 i))),(9,V.i i),(10,V.i 0),(11,V.osl 3 0 (List.length v)),(12,V.osl 4 0 (List.length l9)),(13,V.osl 5 0 (List.length l10))],[.rows 1 (map V.i l40),.rows 1 (map V.i l41),.rows 1 (map V.i (put l42 0 i)),.rows 1 (map V.i v),.rows 1 (map V.i l9),.rows 1 (map V.b l10)],0,none,215⟩) ?_ ?_
  ·intro l11 M
   replace M:YO cost places i l40 l41 l42 l9 l10 l11=some b_1:=M
   unfold YO at M
   refine GS.seq ?_
   refine GS.label ?_
   refine GS.seq ?_
   refine X.join (τ:=Int×(List Int)×(List Int)×(List Int)) (fun v=>Qg i l42 v.1 v.2.1 v.2.2.1 v.2.2.2=some b_1) (fun v=>⟨[(0,(V.sl (map (fun l=>V.sl (map V.i l)) cost))),(1,V.i places),(6,V.osl 0 0 (List.length v.2.1)),(7,V.osl 1 0 (List.length v.2.2.1)),(8,V.osl 2 0 (List.length (put l42 0 i))),(9,V.i i),(10,V.i v.1),(12,V.osl 3 0 (List.length v.2.2.2))],[.rows 1 (map V.i v.2.1),.rows 1 (map V.i v.2.2.1),.rows 1 (map V.i (put l42 0 i)),.rows 1 (map V.i v.2.2.2)],0,none,215⟩) ?_ ?_
   ·rintro ⟨at_,l12,l13,l14⟩ M
    replace M:Qg i l42 at_ l12 l13 l14=some b_1:=M
    unfold Qg at M
    refine X.join (τ:=(List Int)) (fun v=>Qf i l12 l13 v=some b_1) (fun v=>⟨[(0,(V.sl (map (fun l=>V.sl (map V.i l)) cost))),(1,V.i places),(6,V.osl 0 0 (List.length l12)),(7,V.osl 1 0 (List.length l13)),(8,V.osl 2 0 (List.length v)),(9,V.i i)],[.rows 1 (map V.i l12),.rows 1 (map V.i l13),.rows 1 (map V.i v)],0,none,215⟩) ?_ ?_
    ·intro l15 M
     replace M:Qf i l12 l13 l15=some b_1:=M
     unfold Qf at M
     refine au 6 ?_
     have hE:=bf M
     exact gx [some 0,some 1,some 2] (hc_5 (w64 (i+1),l12,l13,l15) hE.symm)
    intro hj_8
    refine au 1 ?_
    refine gx [some 0,some 1,some 2,some 3] (X.loop (σ:=(Int×(List Int))) (fun v=>⟨[(0,(V.sl (map (fun l=>V.sl (map V.i l)) cost))),(1,V.i places),(6,V.osl 0 0 (List.length l12)),(7,V.osl 1 0 (List.length l13)),(8,V.osl 2 0 (List.length v.2)),(9,V.i i),(10,V.i v.1),(12,V.osl 3 0 (List.length l14))],[.rows 1 (map V.i l12),.rows 1 (map V.i l13),.rows 1 (map V.i v.2),.rows 1 (map V.i l14)],0,none,215⟩) M ?_ rfl)
    rintro ⟨at_1,l16⟩ b_2 M hc_9 hr_2
    rw [Qi] at M
    refine au 5 ?_
    refine cm M (fun h_18 M=>?_) (fun h_18 M=>?_)
    ·obtain ⟨x7,h_19,M⟩:=zC M
     obtain ⟨x8,h_20,M⟩:=zC M
     obtain ⟨x9,h_21,M⟩:=zC M
     refine au 8 ?_
     refine X.opR rfl (jB h_19 rfl rfl rfl rfl rfl) rfl ?_
     refine X.opR rfl (Y9 h_19 rfl rfl rfl rfl) rfl ?_
     refine X.opR rfl (jB h_20 rfl rfl rfl rfl rfl) rfl ?_
     refine X.opR rfl (Y9 h_20 rfl rfl rfl rfl) rfl ?_
     refine X.opR rfl (jB h_21 rfl rfl rfl rfl rfl) rfl ?_
     refine X.op0W (H':=[.rows 1 (map V.i l12),.rows 1 (map V.i l13),.rows 1 (map V.i (put l16 at_1 x8)),.rows 1 (map V.i l14)]) rfl (YY (b:=x8) h_21 rfl rfl rfl rfl rfl rfl rfl) rfl ?_
     obtain ⟨x10,h_22,M⟩:=zC M
     refine au 4 ?_
     refine X.opR rfl (jB h_22 rfl rfl rfl rfl rfl) rfl ?_
     refine X.opR rfl (Y9 h_22 rfl rfl rfl rfl) rfl (au 3 ?_)
     have hE:=bf M
     exact gy [some 0,some 1,some 2,some 3] (hc_9 (x10,put l16 at_1 x8) hE.symm) (zG rfl ⟨9,rfl⟩ (zG rfl ⟨9,rfl⟩ (zG rfl ⟨9,rfl⟩ (zG rfl ⟨9,rfl⟩ (zG rfl (Yi JE ⟨9,rfl⟩) (ga rfl rfl))))))
    obtain ⟨y_2,M,hy⟩:=zt M
    rw [hr_2 _ hy.symm] at M
    refine au 1 ?_
    exact gx [some 0,some 1,some 2] (hj_8 l16 M)
   intro hj_7
   refine au 1 ?_
   refine gx [some 0,some 1,some 2,some 3,some 4,some 5] (X.loop (σ:=(Int×(List Int)×(List Int)×(List Int)×(List Int)×(List Bool))) (fun v=>⟨[(0,(V.sl (map (fun l=>V.sl (map V.i l)) cost))),(1,V.i places),(6,V.osl 0 0 (List.length v.2.1)),(7,V.osl 1 0 (List.length v.2.2.1)),(8,V.osl 2 0 (List.length (put l42 0 i))),(9,V.i i),(10,V.i v.1),(11,V.osl 3 0 (List.length v.2.2.2.1)),(12,V.osl 4 0 (List.length v.2.2.2.2.1)),(13,V.osl 5 0 (List.length v.2.2.2.2.2))],[.rows 1 (map V.i v.2.1),.rows 1 (map V.i v.2.2.1),.rows 1 (map V.i (put l42 0 i)),.rows 1 (map V.i v.2.2.2.1),.rows 1 (map V.i v.2.2.2.2.1),.rows 1 (map V.b v.2.2.2.2.2)],0,none,215⟩) M ?_ rfl)
   rintro ⟨at_2,l34,l35,l36,l37,l38⟩ b_2 M hc_10 hr_2
   rw [Y3] at M
   obtain ⟨x11,h_23,M⟩:=zC M
   refine au 4 ?_
   refine X.opR rfl (jB h_23 rfl rfl rfl rfl rfl) rfl ?_
   refine X.op0W (H':=[.rows 1 (map V.i l34),.rows 1 (map V.i l35),.rows 1 (map V.i (put l42 0 i)),.rows 1 (map V.i l36),.rows 1 (map V.i l37),.rows 1 (map V.b (put l38 at_2 true))]) rfl (YY (b:=true) h_23 rfl rfl rfl rfl rfl rfl rfl) rfl ?_
   obtain ⟨x12,h_24,M⟩:=zC M
   refine au 4 ?_
   refine X.opR rfl (jB h_24 rfl rfl rfl rfl rfl) rfl ?_
   refine X.opR rfl (Y9 h_24 rfl rfl rfl rfl) rfl (au 8 ?_)
   refine X.join (τ:=Int×Int×(List Int)×(List Int)) (fun v=>Jp i l42 at_2 l34 l35 l38 v.1 v.2.1 v.2.2.1 v.2.2.2=some b_2) (fun v=>⟨[(0,(V.sl (map (fun l=>V.sl (map V.i l)) cost))),(1,V.i places),(6,V.osl 0 0 (List.length l34)),(7,V.osl 1 0 (List.length l35)),(8,V.osl 2 0 (List.length (put l42 0 i))),(9,V.i i),(11,V.osl 3 0 (List.length v.2.2.1)),(12,V.osl 4 0 (List.length v.2.2.2)),(13,V.osl 5 0 (List.length (put l38 at_2 true))),(16,V.i v.1),(17,V.i v.2.1)],[.rows 1 (map V.i l34),.rows 1 (map V.i l35),.rows 1 (map V.i (put l42 0 i)),.rows 1 (map V.i v.2.2.1),.rows 1 (map V.i v.2.2.2),.rows 1 (map V.b (put l38 at_2 true))],0,none,215⟩) ?_ ?_
   ·rintro ⟨next,step,l17,l18⟩ M
    replace M:Jp i l42 at_2 l34 l35 l38 next step l17 l18=some b_2:=M
    unfold Jp at M
    refine au 3 ?_
    refine X.opR rfl (lenO (l:=(put l38 at_2 true)) rfl rfl rfl) rfl (au 2 ?_)
    refine X.join (τ:=(List Int)×(List Int)×(List Int)) (fun v=>JX i l42 at_2 l38 next l18 v.1 v.2.1 v.2.2=some b_2) (fun v=>⟨[(0,(V.sl (map (fun l=>V.sl (map V.i l)) cost))),(1,V.i places),(6,V.osl 0 0 (List.length v.1)),(7,V.osl 1 0 (List.length v.2.1)),(8,V.osl 2 0 (List.length (put l42 0 i))),(9,V.i i),(11,V.osl 3 0 (List.length v.2.2)),(12,V.osl 4 0 (List.length l18)),(13,V.osl 5 0 (List.length (put l38 at_2 true))),(16,V.i next)],[.rows 1 (map V.i v.1),.rows 1 (map V.i v.2.1),.rows 1 (map V.i (put l42 0 i)),.rows 1 (map V.i v.2.2),.rows 1 (map V.i l18),.rows 1 (map V.b (put l38 at_2 true))],0,none,215⟩) ?_ ?_
    ·rintro ⟨l19,l20,l21⟩ M
     replace M:JX i l42 at_2 l38 next l18 l19 l20 l21=some b_2:=M
     unfold JX at M
     obtain ⟨x13,h_25,M⟩:=zC M
     refine au 7 ?_
     refine X.opR rfl (jB h_25 rfl rfl rfl rfl rfl) rfl ?_
     refine X.opR rfl (Y9 h_25 rfl rfl rfl rfl) rfl (au 2 ?_)
     refine cm M (fun h_26 M=>?_) (fun h_26 M=>?_)
     ·obtain ⟨y_2,M,hy⟩:=zt M
      rw [hr_2 _ hy.symm] at M
      refine au 1 ?_
      exact gx [some 0,some 1,some 2,some 4] (hj_7 (next,l19,l20,l18) M)
     refine au 2 ?_
     have hE:=bf M
     exact gx [some 0,some 1,some 2,some 3,some 4,some 5] (hc_10 (next,l19,l20,l21,l18,put l38 at_2 true) hE.symm)
    intro hj_12
    refine au 1 ?_
    refine gx [some 0,some 1,some 2,some 3,some 4,some 5] (X.loop (σ:=(Int×(List Int)×(List Int)×(List Int))) (fun v=>⟨[(0,(V.sl (map (fun l=>V.sl (map V.i l)) cost))),(1,V.i places),(6,V.osl 0 0 (List.length v.2.1)),(7,V.osl 1 0 (List.length v.2.2.1)),(8,V.osl 2 0 (List.length (put l42 0 i))),(9,V.i i),(11,V.osl 3 0 (List.length v.2.2.2)),(12,V.osl 4 0 (List.length l18)),(13,V.osl 5 0 (List.length (put l38 at_2 true))),(16,V.i next),(17,V.i step),(122,(V.i ((put l38 at_2 true).length:Int))),(123,V.i v.1)],[.rows 1 (map V.i v.2.1),.rows 1 (map V.i v.2.2.1),.rows 1 (map V.i (put l42 0 i)),.rows 1 (map V.i v.2.2.2),.rows 1 (map V.i l18),.rows 1 (map V.b (put l38 at_2 true))],0,none,215⟩) M ?_ rfl)
    rintro ⟨x22,l25,l26,l27⟩ b_3 M hc_13 hr_3
    rw [yx] at M
    refine au 3 ?_
    refine GS.seq ?_
    refine cm M (fun h_27 M=>?_) (fun h_27 M=>?_)
    ·refine GS.skip (GS.seq ?_)
     refine X.join (τ:=(List Int)×(List Int)×(List Int)) (fun v=>Jo x22 v.1 v.2.1 v.2.2=some b_3) (fun v=>⟨[(0,(V.sl (map (fun l=>V.sl (map V.i l)) cost))),(1,V.i places),(6,V.osl 0 0 (List.length v.1)),(7,V.osl 1 0 (List.length v.2.1)),(8,V.osl 2 0 (List.length (put l42 0 i))),(9,V.i i),(11,V.osl 3 0 (List.length v.2.2)),(12,V.osl 4 0 (List.length l18)),(13,V.osl 5 0 (List.length (put l38 at_2 true))),(16,V.i next),(17,V.i step),(122,(V.i ((put l38 at_2 true).length:Int))),(123,V.i x22)],[.rows 1 (map V.i v.1),.rows 1 (map V.i v.2.1),.rows 1 (map V.i (put l42 0 i)),.rows 1 (map V.i v.2.2),.rows 1 (map V.i l18),.rows 1 (map V.b (put l38 at_2 true))],0,none,215⟩) ?_ ?_
     ·rintro ⟨l22,l23,l24⟩ M
      replace M:Jo x22 l22 l23 l24=some b_3:=M
      unfold Jo at M
      refine au 4 ?_
      have hE:=bf M
      exact gx [some 0,some 1,some 2,some 3,some 4,some 5] (hc_13 (w64 (x22+1),l22,l23,l24) hE.symm)
     intro hj_14
     obtain ⟨x14,h_28,M⟩:=zC M
     refine au 8 ?_
     refine X.opR rfl (jB h_28 rfl rfl rfl rfl rfl) rfl ?_
     refine X.opR rfl (Y9 h_28 rfl rfl rfl rfl) rfl ?_
     refine GS.ZT ?_
     refine cm M (fun h_29 M=>?_) (fun h_29 M=>?_)
     ·obtain ⟨x15,h_30,M⟩:=zC M
      obtain ⟨x16,h_31,M⟩:=zC M
      obtain ⟨x17,h_32,M⟩:=zC M
      refine au 4 ?_
      refine X.opR rfl (jB h_30 rfl rfl rfl rfl rfl) rfl ?_
      refine X.opR rfl (Y9 h_30 rfl rfl rfl rfl) rfl ?_
      refine X.opR rfl (jB h_31 rfl rfl rfl rfl rfl) rfl ?_
      refine X.opR rfl (Y9 h_31 rfl rfl rfl rfl) rfl (au 2 ?_)
      refine X.opR rfl (jB h_32 rfl rfl rfl rfl rfl) rfl ?_
      refine X.op0W (H':=[.rows 1 (map V.i (put l25 x15 (w64 (x16+step)))),.rows 1 (map V.i l26),.rows 1 (map V.i (put l42 0 i)),.rows 1 (map V.i l27),.rows 1 (map V.i l18),.rows 1 (map V.b (put l38 at_2 true))]) rfl (YY (b:=w64 (x16+step)) h_32 rfl rfl rfl rfl rfl rfl rfl) rfl ?_
      obtain ⟨x18,h_33,M⟩:=zC M
      obtain ⟨x19,h_34,M⟩:=zC M
      refine au 4 ?_
      refine X.opR rfl (jB h_33 rfl rfl rfl rfl rfl) rfl ?_
      refine X.opR rfl (Y9 h_33 rfl rfl rfl rfl) rfl (au 2 ?_)
      refine X.opR rfl (jB h_34 rfl rfl rfl rfl rfl) rfl ?_
      refine X.op0W (H':=[.rows 1 (map V.i (put l25 x15 (w64 (x16+step)))),.rows 1 (map V.i (put l26 x22 (w64 (x18 - step)))),.rows 1 (map V.i (put l42 0 i)),.rows 1 (map V.i l27),.rows 1 (map V.i l18),.rows 1 (map V.b (put l38 at_2 true))]) rfl (YY (b:=w64 (x18 - step)) h_34 rfl rfl rfl rfl rfl rfl rfl) rfl (au 2 ?_)
      exact gy [some 0,some 1,some 2,some 3,some 4,some 5] (hj_14 (put l25 x15 (w64 (x16+step)),put l26 x22 (w64 (x18 - step)),l27) M) (zG rfl ⟨9,rfl⟩ (zG rfl ⟨9,rfl⟩ (zG rfl (Yi JE ⟨9,rfl⟩) (zG rfl (Yi JE ⟨9,rfl⟩) (ga rfl rfl)))))
     obtain ⟨x20,h_35,M⟩:=zC M
     obtain ⟨x21,h_36,M⟩:=zC M
     refine au 3 ?_
     refine X.opR rfl (jB h_35 rfl rfl rfl rfl rfl) rfl ?_
     refine X.opR rfl (Y9 h_35 rfl rfl rfl rfl) rfl (au 2 ?_)
     refine X.opR rfl (jB h_36 rfl rfl rfl rfl rfl) rfl ?_
     refine X.op0W (H':=[.rows 1 (map V.i l25),.rows 1 (map V.i l26),.rows 1 (map V.i (put l42 0 i)),.rows 1 (map V.i (put l27 x22 (w64 (x20 - step)))),.rows 1 (map V.i l18),.rows 1 (map V.b (put l38 at_2 true))]) rfl (YY (b:=w64 (x20 - step)) h_36 rfl rfl rfl rfl rfl rfl rfl) rfl (au 2 ?_)
     exact gy [some 0,some 1,some 2,some 3,some 4,some 5] (hj_14 (l25,l26,put l27 x22 (w64 (x20 - step))) M) (zG rfl ⟨9,rfl⟩ (zG rfl ⟨9,rfl⟩ (zG rfl ⟨9,rfl⟩ (zG rfl ⟨9,rfl⟩ (zG rfl ⟨9,rfl⟩ (zG rfl ⟨9,rfl⟩ (zG rfl (Yi JE ⟨9,rfl⟩) (ga rfl rfl))))))))
    obtain ⟨y_3,M,hy⟩:=zt M
    rw [hr_3 _ hy.symm] at M
    refine au 1 ?_
    exact gx [some 0,some 1,some 2,some 3,some 4,some 5] (hj_12 (l25,l26,l27) M)
   intro hj_11
   refine au 1 ?_
   refine gy [some 0,some 1,some 2,some 3,some 4,some 5] (X.loop (σ:=(Int×Int×Int×(List Int)×(List Int))) (fun v=>⟨[(0,(V.sl (map (fun l=>V.sl (map V.i l)) cost))),(1,V.i places),(6,V.osl 0 0 (List.length l34)),(7,V.osl 1 0 (List.length l35)),(8,V.osl 2 0 (List.length (put l42 0 i))),(9,V.i i),(10,V.i at_2),(11,V.osl 3 0 (List.length v.2.2.2.1)),(12,V.osl 4 0 (List.length v.2.2.2.2)),(13,V.osl 5 0 (List.length (put l38 at_2 true))),(15,V.i x12),(16,V.i v.1),(17,V.i v.2.1),(18,V.i v.2.2.1)],[.rows 1 (map V.i l34),.rows 1 (map V.i l35),.rows 1 (map V.i (put l42 0 i)),.rows 1 (map V.i v.2.2.2.1),.rows 1 (map V.i v.2.2.2.2),.rows 1 (map V.b (put l38 at_2 true))],0,none,215⟩) M ?_ rfl) (zG rfl ⟨9,rfl⟩ (zG rfl ⟨9,rfl⟩ (zG rfl ⟨9,rfl⟩ (zG rfl ⟨9,rfl⟩ (zG rfl ⟨9,rfl⟩ (zG rfl ⟨9,rfl⟩ (zG rfl ⟨9,rfl⟩ (zG rfl ⟨9,rfl⟩ (zG rfl ⟨9,rfl⟩ (zG rfl (Yi JE ⟨9,rfl⟩) (ga rfl rfl)))))))))))
   rintro ⟨next2,step2,k1,l32,l33⟩ b_3 M hc_15 hr_3
   rw [yw] at M
   refine au 6 ?_
   refine cm M (fun h_37 M=>?_) (fun h_37 M=>?_)
   ·refine GS.skip (GS.seq ?_)
    refine X.join (τ:=Int×Int×(List Int)×(List Int)) (fun v=>JW k1 v.1 v.2.1 v.2.2.1 v.2.2.2=some b_3) (fun v=>⟨[(0,(V.sl (map (fun l=>V.sl (map V.i l)) cost))),(1,V.i places),(6,V.osl 0 0 (List.length l34)),(7,V.osl 1 0 (List.length l35)),(8,V.osl 2 0 (List.length (put l42 0 i))),(9,V.i i),(10,V.i at_2),(11,V.osl 3 0 (List.length v.2.2.1)),(12,V.osl 4 0 (List.length v.2.2.2)),(13,V.osl 5 0 (List.length (put l38 at_2 true))),(15,V.i x12),(16,V.i v.1),(17,V.i v.2.1),(18,V.i k1)],[.rows 1 (map V.i l34),.rows 1 (map V.i l35),.rows 1 (map V.i (put l42 0 i)),.rows 1 (map V.i v.2.2.1),.rows 1 (map V.i v.2.2.2),.rows 1 (map V.b (put l38 at_2 true))],0,none,215⟩) ?_ ?_
    ·rintro ⟨next1,step1,l28,l29⟩ M
     replace M:JW k1 next1 step1 l28 l29=some b_3:=M
     unfold JW at M
     refine au 5 ?_
     have hE:=bf M
     exact gx [some 0,some 1,some 2,some 3,some 4,some 5] (hc_15 (next1,step1,w64 (k1+1),l28,l29) hE.symm)
    intro hj_16
    obtain ⟨x23,h_38,M⟩:=zC M
    refine au 5 ?_
    refine X.opR rfl (jB h_38 rfl rfl rfl rfl rfl) rfl ?_
    refine X.opR rfl (Y9 h_38 rfl rfl rfl rfl) rfl ?_
    refine GS.ZT ?_
    refine cm M (fun h_39 M=>?_) (fun h_39 M=>?_)
    ·refine au 1 ?_
     exact gx [some 0,some 1,some 2,some 3,some 4,some 5] (hj_16 (next2,step2,l32,l33) M)
    obtain ⟨x24,h_40,M⟩:=zC M
    obtain ⟨x25,h_41,M⟩:=zC M
    obtain ⟨x26,h_42,M⟩:=zC M
    obtain ⟨x27,h_43,M⟩:=zC M
    refine au 15 ?_
    refine cop rfl (jB h_42 rfl rfl rfl rfl rfl) rfl rfl ?_
    refine cop rfl (Y9 h_42 rfl rfl rfl rfl) rfl rfl (au 3 ?_)
    refine cop rfl (jB h_43 rfl rfl rfl rfl rfl) rfl rfl ?_
    refine cop rfl (Y9 h_43 rfl rfl rfl rfl) rfl rfl (au 3 ?_)
    refine X.norm [(0,(V.sl (map (fun l=>V.sl (map V.i l)) cost))),(1,V.i places),(6,V.osl 0 0 (List.length l34)),(7,V.osl 1 0 (List.length l35)),(8,V.osl 2 0 (List.length (put l42 0 i))),(9,V.i i),(10,V.i at_2),(11,V.osl 3 0 (List.length l32)),(12,V.osl 4 0 (List.length l33)),(13,V.osl 5 0 (List.length (put l38 at_2 true))),(15,V.i x12),(16,V.i next2),(17,V.i step2),(18,V.i k1),(19,V.i (w64 ((w64 (x25 - x26)) - x27)))] ?_ rfl (sr rfl)
    obtain ⟨x28,h_44,M⟩:=zC M
    refine au 4 ?_
    refine X.opR rfl (jB h_44 rfl rfl rfl rfl rfl) rfl ?_
    refine X.opR rfl (Y9 h_44 rfl rfl rfl rfl) rfl (au 2 ?_)
    refine X.join (τ:=(List Int)×(List Int)) (fun v=>Jn next2 step2 k1 v.1 v.2=some b_3) (fun v=>⟨[(0,(V.sl (map (fun l=>V.sl (map V.i l)) cost))),(1,V.i places),(6,V.osl 0 0 (List.length l34)),(7,V.osl 1 0 (List.length l35)),(8,V.osl 2 0 (List.length (put l42 0 i))),(9,V.i i),(10,V.i at_2),(11,V.osl 3 0 (List.length v.1)),(12,V.osl 4 0 (List.length v.2)),(13,V.osl 5 0 (List.length (put l38 at_2 true))),(15,V.i x12),(16,V.i next2),(17,V.i step2),(18,V.i k1)],[.rows 1 (map V.i l34),.rows 1 (map V.i l35),.rows 1 (map V.i (put l42 0 i)),.rows 1 (map V.i v.1),.rows 1 (map V.i v.2),.rows 1 (map V.b (put l38 at_2 true))],0,none,215⟩) ?_ ?_
    ·rintro ⟨l30,l31⟩ M
     replace M:Jn next2 step2 k1 l30 l31=some b_3:=M
     unfold Jn at M
     obtain ⟨x29,h_45,M⟩:=zC M
     refine au 3 ?_
     refine X.opR rfl (jB h_45 rfl rfl rfl rfl rfl) rfl ?_
     refine X.opR rfl (Y9 h_45 rfl rfl rfl rfl) rfl (au 3 ?_)
     refine cm M (fun h_46 M=>?_) (fun h_46 M=>?_)
     ·obtain ⟨x30,h_47,M⟩:=zC M
      refine au 3 ?_
      refine X.opR rfl (jB h_47 rfl rfl rfl rfl rfl) rfl ?_
      refine X.opR rfl (Y9 h_47 rfl rfl rfl rfl) rfl (au 5 ?_)
      exact gx [some 0,some 1,some 2,some 3,some 4,some 5] (hj_16 (k1,x30,l30,l31) M)
     refine au 2 ?_
     exact gx [some 0,some 1,some 2,some 3,some 4,some 5] (hj_16 (next2,step2,l30,l31) M)
    intro hj_17
    refine cm M (fun h_48 M=>?_) (fun h_48 M=>?_)
    ·obtain ⟨x31,h_49,M⟩:=zC M
     obtain ⟨x32,h_50,M⟩:=zC M
     refine au 7 ?_
     refine X.opR rfl (jB h_49 rfl rfl rfl rfl rfl) rfl ?_
     refine X.op0W (H':=[.rows 1 (map V.i l34),.rows 1 (map V.i l35),.rows 1 (map V.i (put l42 0 i)),.rows 1 (map V.i (put l32 k1 (w64 ((w64 (x25 - x26)) - x27)))),.rows 1 (map V.i l33),.rows 1 (map V.b (put l38 at_2 true))]) rfl (YY (b:=w64 ((w64 (x25 - x26)) - x27)) h_49 rfl rfl rfl rfl rfl rfl rfl) rfl ?_
     refine X.opR rfl (jB h_50 rfl rfl rfl rfl rfl) rfl ?_
     refine X.op0W (H':=[.rows 1 (map V.i l34),.rows 1 (map V.i l35),.rows 1 (map V.i (put l42 0 i)),.rows 1 (map V.i (put l32 k1 (w64 ((w64 (x25 - x26)) - x27)))),.rows 1 (map V.i (put l33 k1 at_2)),.rows 1 (map V.b (put l38 at_2 true))]) rfl (YY (b:=at_2) h_50 rfl rfl rfl rfl rfl rfl rfl) rfl ?_
     refine GS.ZT ?_
     exact gy [some 0,some 1,some 2,some 3,some 4,some 5] (hj_17 (put l32 k1 (w64 ((w64 (x25 - x26)) - x27)),put l33 k1 at_2) M) (zG rfl ⟨9,rfl⟩ (zG rfl ⟨9,rfl⟩ (zG rfl ⟨9,rfl⟩ (zG rfl ⟨9,rfl⟩ (zG rfl ⟨9,rfl⟩ (zG rfl ⟨9,rfl⟩ (zG rfl ⟨9,rfl⟩ (zG rfl (Yi JE ⟨9,rfl⟩) (zG rfl (Yi JE ⟨9,rfl⟩) (ga rfl rfl))))))))))
    refine GS.skip ?_
    exact gx [some 0,some 1,some 2,some 3,some 4,some 5] (hj_17 (l32,l33) M)
   obtain ⟨y_3,M,hy⟩:=zt M
   rw [hr_3 _ hy.symm] at M
   refine au 1 ?_
   exact gx [some 0,some 1,some 2,some 3,some 4,some 5] (hj_11 (next2,step2,l32,l33) M)
  intro hj_6
  refine au 1 ?_
  refine gy [some 0,some 1,some 2,some 3,some 4,some 5] (X.loop (σ:=(Int×(List Int))) (fun v=>⟨[(0,(V.sl (map (fun l=>V.sl (map V.i l)) cost))),(1,V.i places),(6,V.osl 0 0 (List.length l40)),(7,V.osl 1 0 (List.length l41)),(8,V.osl 2 0 (List.length (put l42 0 i))),(9,V.i i),(10,V.i 0),(11,V.osl 3 0 (List.length v.2)),(12,V.osl 4 0 (List.length l9)),(13,V.osl 5 0 (List.length l10)),(53,(V.i (l8.length:Int))),(54,V.i v.1)],[.rows 1 (map V.i l40),.rows 1 (map V.i l41),.rows 1 (map V.i (put l42 0 i)),.rows 1 (map V.i v.2),.rows 1 (map V.i l9),.rows 1 (map V.b l10)],0,none,215⟩) M ?_ rfl) (zG rfl ⟨9,rfl⟩ (zG rfl ⟨9,rfl⟩ (zG rfl ⟨9,rfl⟩ (zG rfl ⟨9,rfl⟩ (zG rfl (Yi JE ⟨9,rfl⟩) (ga rfl rfl))))))
  rintro ⟨x34,l39⟩ b_2 M hc_18 hr_2
  rw [Y2] at M
  refine au 3 ?_
  refine GS.seq ?_
  refine cm M (fun h_51 M=>?_) (fun h_51 M=>?_)
  ·obtain ⟨x33,h_52,M⟩:=zC M
   refine au 10 ?_
   refine X.opR rfl (jB h_52 rfl rfl rfl rfl rfl) rfl ?_
   refine X.op0W (H':=[.rows 1 (map V.i l40),.rows 1 (map V.i l41),.rows 1 (map V.i (put l42 0 i)),.rows 1 (map V.i (put l39 x34 4294967296)),.rows 1 (map V.i l9),.rows 1 (map V.b l10)]) rfl (YY (b:=4294967296) h_52 rfl rfl rfl rfl rfl rfl rfl) rfl (au 6 ?_)
   have hE:=bf M
   exact gy [some 0,some 1,some 2,some 3,some 4,some 5] (hc_18 (w64 (x34+1),put l39 x34 4294967296) hE.symm) (zG rfl ⟨9,rfl⟩ (zG rfl ⟨9,rfl⟩ (zG rfl ⟨9,rfl⟩ (zG rfl ⟨9,rfl⟩ (zG rfl ⟨9,rfl⟩ (zG rfl ⟨9,rfl⟩ (zG rfl ⟨9,rfl⟩ (zG rfl (Yi JE ⟨9,rfl⟩) (ga rfl rfl)))))))))
  obtain ⟨y_2,M,hy⟩:=zt M
  rw [hr_2 _ hy.symm] at M
  refine au 1 ?_
  exact gx [some 0,some 1,some 2,some 3,some 4,some 5] (hj_6 l39 M)
 obtain ⟨y_1,M,hy⟩:=zt M
 rw [hr_1 _ hy.symm] at M
 refine au 1 ?_
 exact gx [some 2] (hj_1 l42 M)
set_option maxHeartbeats 4000000 in
theorem zAF {b:zI} {fixed:(List Int)} {r:(List Int)×Int} (M:jX b fixed=some r):Ct Tryz.prog 23 [V.fptr [zS b] 0 0,V.sl (map V.i fixed)] (V.tup [V.sl (map V.i r.1),V.i r.2]):=by
 refine zP zn rfl ?_
 unfold jX at M
 refine au 16 ?_
 refine X.join (τ:=(List (List Int))) (fun v=>Jg b v=some r) (fun v=>⟨[(0,V.fptr [zS b] 0 0),(6,ovl 0 v)],[obl 1 (fun v=>V.sl (map V.i v)) v],0,none,71⟩) ?_ ?_
 ·intro l M
  replace M:Jg b l=some r:=M
  unfold Jg at M
  refine GS.seq ?_
  refine zHQ (z:=true) (f:=(fun l=>V.sl (map V.i l))) (l:=l) (es:=1) 6 rfl rfl rfl rfl (fun _=>rfl) ?_
  obtain ⟨y,h_1,M⟩:=zC M
  refine au 13 ?_
  refine cca (zIt h_1) (au 5 ?_)
  refine X.norm [(4,V.sl (map V.i y.1)),(5,V.i y.2)] ?_ rfl (sr rfl)
  cases M
  exact X.rt
 intro hj_1
 refine au 1 ?_
 refine gx [none] (X.loop (σ:=(Int×(List (List Int)))) (fun v=>⟨[(0,V.fptr [zS b] 0 0),(1,V.sl (map V.i fixed)),(6,ovl 0 v.2),(15,(V.i (b.calls.length:Int))),(16,V.i v.1)],[obl 1 (fun l=>V.sl (map V.i l)) v.2],0,none,71⟩) M ?_ rfl)
 rintro ⟨x3,l5⟩ b_1 M hc_2 hr_1
 rw [yf] at M
 refine au 3 ?_
 refine GS.seq ?_
 refine cm M (fun h_2 M=>?_) (fun h_2 M=>?_)
 ·obtain ⟨y1,h_3,M⟩:=zC M
  refine au 10 ?_
  refine X.own (zEs h_3) (fun z_6=>(ovlz z_6 1 y1)) rfl rfl rfl (.cons (.shut (n:=9) rfl) (.cons (.shut (n:=9) rfl) .nil)) rfl (fun _=>⟨_,X.zY rfl⟩) (fun _=>⟨_,X.zLv 9 (fun _=>rfl)⟩) (fun z_6=>(au 9 ?_))
  refine X.join (τ:=(List Int)) (fun v=>jY x3 l5 v=some b_1) (fun v=>⟨[(0,V.fptr [zS b] 0 0),(1,V.sl (map V.i fixed)),(6,ovl 0 l5),(8,ovlz z_6 1 v),(15,(V.i (b.calls.length:Int))),(16,V.i x3)],[obl 1 (fun l=>V.sl (map V.i l)) l5,oblz z_6 1 V.i v],0,none,71⟩) ?_ ?_
  ·intro l1 M
   replace M:jY x3 l5 l1=some b_1:=M
   unfold jY at M
   refine zHQ (z:=z_6) (f:=V.i) (l:=l1) (es:=1) 8 rfl rfl rfl rfl (fun _=>rfl) ?_
   obtain ⟨l2,h_4,M⟩:=zC M
   refine au 4 ?_
   refine appN (f:=(fun l=>V.sl (map V.i l))) h_4 (fun _=>rfl) (by rfl) (by rfl) (by rfl) (by rfl) (by rfl) (by rfl) (by rfl) (by rfl) (by rfl) (by rfl) (by rfl) (by exact rfl) (by rfl) (by rfl) (au 7 ?_)
   have hE:=bf M
   exact X.gc [some 3] (hc_2 (w64 (x3+1),l2) hE.symm) rfl rfl rfl (zG rfl ⟨9,rfl⟩ (zG rfl ⟨9,rfl⟩ (zG rfl (qz (jH h_4) rfl) (ga rfl rfl)))) (gb_obl' 9 (jH h_4) rfl rfl (fun _=>rfl) zb)
  intro hj_3
  refine cm M (fun h_5 M=>?_) (fun h_5 M=>?_)
  ·obtain ⟨x,h_6,M⟩:=zC M
   refine au 12 ?_
   refine X.join (τ:=Int) (fun v=>JC x3 l5 y1 v=some b_1) (fun v=>⟨[(0,V.fptr [zS b] 0 0),(1,V.sl (map V.i fixed)),(6,ovl 0 l5),(8,ovlz z_6 1 y1),(9,V.i v),(15,(V.i (b.calls.length:Int))),(16,V.i x3)],[obl 1 (fun l=>V.sl (map V.i l)) l5,oblz z_6 1 V.i y1],0,none,71⟩) ?_ ?_
   ·intro k M
    replace M:JC x3 l5 y1 k=some b_1:=M
    unfold JC at M
    refine au 2 ?_
    refine X.opR rfl (lenN (l:=y1) rfl rfl rfl) rfl (au 3 ?_)
    refine gy [some 0,some 1] (X.loop (σ:=(Int×(List Int))) (fun v=>⟨[(0,V.fptr [zS b] 0 0),(1,V.sl (map V.i fixed)),(6,ovl 0 l5),(8,ovlz z_6 1 v.2),(9,V.i k),(15,(V.i (b.calls.length:Int))),(16,V.i x3),(40,(V.i (y1.length:Int))),(41,V.i v.1)],[obl 1 (fun l=>V.sl (map V.i l)) l5,oblz z_6 1 V.i v.2],0,none,71⟩) M ?_ rfl) (zG rfl ⟨9,rfl⟩ (zG rfl ⟨9,rfl⟩ (zG rfl (Am.zY rfl) (zG rfl (Am.zY rfl) (ga rfl rfl)))))
    rintro ⟨x2,l4⟩ b_2 M hc_5 hr_2
    rw [yc] at M
    refine au 3 ?_
    refine GS.seq ?_
    refine cm M (fun h_7 M=>?_) (fun h_7 M=>?_)
    ·refine GS.skip (GS.seq ?_)
     refine X.join (τ:=(List Int)) (fun v=>JB x2 v=some b_2) (fun v=>⟨[(0,V.fptr [zS b] 0 0),(1,V.sl (map V.i fixed)),(6,ovl 0 l5),(8,ovlz z_6 1 v),(9,V.i k),(15,(V.i (b.calls.length:Int))),(16,V.i x3),(40,(V.i (y1.length:Int))),(41,V.i x2)],[obl 1 (fun l=>V.sl (map V.i l)) l5,oblz z_6 1 V.i v],0,none,71⟩) ?_ ?_
     ·intro l3 M
      replace M:JB x2 l3=some b_2:=M
      unfold JB at M
      refine au 4 ?_
      have hE:=bf M
      exact gy [some 0,some 1] (hc_5 (w64 (x2+1),l3) hE.symm) (zG rfl ⟨9,rfl⟩ (zG rfl ⟨9,rfl⟩ (zG rfl (Am.zY rfl) (zG rfl (Am.zY rfl) (ga rfl rfl)))))
     intro hj_6
     refine au 10 ?_
     refine cm M (fun h_8 M=>?_) (fun h_8 M=>?_)
     ·obtain ⟨x1,h_9,M⟩:=zC M
      refine au 3 ?_
      refine X.opR rfl (JY h_9 rfl rfl rfl rfl rfl) rfl ?_
      refine X.op0W rfl (X.Q9 (b:=1073741824) h_9 rfl rfl rfl rfl rfl rfl rfl) rfl (au 2 ?_)
      exact gy [some 0,some 1] (hj_6 (put l4 x2 1073741824) M) (zG rfl ⟨9,rfl⟩ (zG rfl ⟨9,rfl⟩ (zG rfl (Am.zY rfl) (zG rfl (Yi YS (Am.zY rfl)) (ga rfl rfl)))))
     refine au 2 ?_
     exact gy [some 0,some 1] (hj_6 l4 M) (zG rfl ⟨9,rfl⟩ (zG rfl ⟨9,rfl⟩ (zG rfl (Am.zY rfl) (zG rfl (Am.zY rfl) (ga rfl rfl)))))
    obtain ⟨y_2,M,hy⟩:=zt M
    rw [hr_2 _ hy.symm] at M
    refine au 1 ?_
    exact gy [some 0,some 1] (hj_3 l4 M) (zG rfl ⟨9,rfl⟩ (zG rfl ⟨9,rfl⟩ (zG rfl (Am.zY rfl) (zG rfl (Am.zY rfl) (ga rfl rfl)))))
   intro hj_4
   refine cm M (fun h_10 M=>?_) (fun h_10 M=>?_)
   ·refine au 10 ?_
    exact gy [some 0,some 1] (hj_4 (w64 ((b.slots.length:Int)+x3)) M) (zG rfl ⟨9,rfl⟩ (zG rfl ⟨9,rfl⟩ (zG rfl (Am.zY rfl) (zG rfl (Am.zY rfl) (ga rfl rfl)))))
   refine GS.skip ?_
   exact gy [some 0,some 1] (hj_4 x M) (zG rfl ⟨9,rfl⟩ (zG rfl ⟨9,rfl⟩ (zG rfl (Am.zY rfl) (zG rfl (Am.zY rfl) (ga rfl rfl)))))
  refine GS.skip ?_
  exact gy [some 0,some 1] (hj_3 y1 M) (zG rfl ⟨9,rfl⟩ (zG rfl ⟨9,rfl⟩ (zG rfl (Am.zY rfl) (zG rfl (Am.zY rfl) (ga rfl rfl)))))
 obtain ⟨y_1,M,hy⟩:=zt M
 rw [hr_1 _ hy.symm] at M
 refine au 1 ?_
 exact gy [some 0] (hj_1 l5 M) (zG rfl ⟨9,rfl⟩ (zG rfl (Am.zY rfl) QO))
theorem zN3 {l r:List Int} (M:slices_Clone_int l=some r):Ct Tryz.prog 44 [V.sl (map V.i l)] (V.sl (map V.i r)):=by
 unfold slices_Clone_int at M
 have hr:r=l:=by obtain ⟨_,e⟩:=zGo M; simpa using e
 refine zP zn rfl (au 6 ?_)
 refine X.zNG rfl rfl rfl rfl rfl rfl (fun h=>?_) ?_
 ·have hl:r=[]:=by rw [hr]; simpa using h
  subst hl
  refine GS.ZT ?_
  refine GS.zHZ rfl (au 3 ?_)
  exact X.rt
 ·refine GS.ZT ?_
  refine GS.zCR rfl (au 4 ?_)
  refine X.opW rfl (appO (f:=V.i) (l:=[]) (xs:=l) M (fun _=>rfl) rfl rfl rfl rfl rfl rfl rfl rfl rfl rfl) rfl rfl (au 2 ?_)
  exact GS.ret ⟨_,rfl,FR.osl (f:=V.i) (l:=r) 9 rfl rfl (fun _=>rfl)⟩
theorem zQD {all os:List Oper} {k:List It} {K:List (Nat×V)} {H:List Blk} {lo n d N:Nat} {rnd:Option Nat} {Q:Ex→St→Prop} {p:Op} {ty:TypeId} {pos:String} {after:Array Edge} {g:Option (Nat×Bool)} {l r:List Int} (M:app [] l=some r) (hw:wants all K g=some true) (hc:callee K p=some (.fn 44 [.sl (l.map V.i)])) (hd:Nat.blt d n=true) (hlo:Nat.ble lo H.length=true) {i:Nat} (hi:H.length+1=i)
  (h:∀ z:Bool,GS CC N (.ops all os :: k) ⟨(d,ovlz z i r) :: K,H++[.dead,oblz z 1 V.i r],lo,rnd,n⟩ Q):GS CC N (.ops all (⟨some d,p,ty,pos,after,g⟩ :: os) :: k) ⟨K,H,lo,rnd,n⟩ Q:=by
 subst hi
 have hr:r=l:=by obtain ⟨_,e⟩:=zGo M; simpa using e
 refine GS.im (s:=⟨K,H,lo,rnd,n⟩) (fun v H1 => ∃ z:Bool,v=ovlz z (H.length+1) r∧H1=H++[.dead,oblz z 1 V.i r]) hw hc rfl ?_ (fun v H1 hT=>?_)
 ·refine GS.seq ?_
  refine GS.region ?_
  refine X.opR rfl rfl rfl ?_
  refine GS.ZT ?_
  iterate 2 refine GS.seq ?_
  refine GS.region ?_
  refine X.opR rfl rfl rfl ?_
  refine X.zNG rfl rfl rfl rfl rfl rfl (fun h=>?_) ?_
  ·have hl:r=[]:=by rw [hr]; simpa using h
   subst hl
   refine GS.ZT ?_
   refine GS.zHZ rfl ?_
   refine GS.seq ?_
   refine GS.region ?_
   refine X.opR rfl rfl rfl ?_
   refine GS.ZT ?_
   refine GS.pad ?_
   refine GS.pad ?_
   exact GS.ret ⟨_,rfl,true,rfl,by simp [oblz]⟩
  ·refine GS.ZT ?_
   refine GS.zCR rfl ?_
   refine GS.skip ?_
   refine GS.seq ?_
   refine GS.region ?_
   refine X.opW rfl (v:=.osl H.length 0 0) (wr:=[(H.length,.rows 1 [])]) rfl zM4 rfl ?_
   refine X.opR rfl rfl rfl ?_
   refine X.opW (H':=H++[.dead,.rows 1 (r.map V.i)]) rfl (appO (f:=V.i) (l:=[]) (xs:=l) (es:=1) M (fun _=>rfl) rfl rfl rfl rfl rfl rfl zNU hlo rfl rfl) ?_ rfl ?_
   ·show hput (hput (H++[Blk.rows 1 []]) H.length Blk.dead) (H++[Blk.rows 1 []]).length (Blk.rows 1 (r.map V.i))=_
    have e1:hput (H++[Blk.rows 1 []]) H.length Blk.dead=H++[Blk.dead]:=puts_end' (B:=.rows 1 []) (B':=.dead)
    rw [e1,show (H++[Blk.rows 1 []]).length=(H++[Blk.dead]).length by simp,Am.zED]
    simp
   refine X.opR rfl rfl rfl ?_
   refine GS.ZT ?_
   exact GS.ret ⟨_,rfl,false,by simp [ovlz],rfl⟩
 ·obtain ⟨z,rfl,rfl⟩:=hT
  exact X.front rfl hd (h z) rfl
theorem zE9 {l r:List Int} (M:app [] l=some r):zHf Tryz.prog 44 [V.sl (map V.i l)] (fun z=>ovlz z 0 r) (fun z=>oblz z 1 V.i r):=by
 have hr:r=l:=by obtain ⟨_,e⟩:=zGo M; simpa using e
 refine zK8 zn rfl (au 6 ?_)
 refine X.zNG rfl rfl rfl rfl rfl rfl (fun h=>?_) ?_
 ·have hl:r=[]:=by rw [hr]; simpa using h
  subst hl
  refine GS.ZT ?_
  refine GS.zHZ rfl (au 3 ?_)
  refine GS.pad ?_
  exact GS.ret ⟨true,rfl,rfl⟩
 ·refine GS.ZT ?_
  refine GS.zCR rfl (au 4 ?_)
  refine X.opW rfl (appO (f:=V.i) (l:=[]) (xs:=l) M (fun _=>rfl) rfl rfl rfl rfl rfl rfl rfl rfl rfl rfl) rfl rfl (au 2 ?_)
  refine X.gc [some 1] (H':=[.rows 1 (map V.i r)]) (K':=[(2,V.osl 0 0 (List.length r))]) ?_ rfl rfl rfl (ga rfl rfl) (Q0 9 rfl rfl (fun _=>rfl) zb)
  exact GS.ret ⟨false,rfl,rfl⟩
set_option maxHeartbeats 4000000 in
theorem zF0 {b:zI} {r:(List Zi)} (M:Y1 b=some r):Ct Tryz.prog 18 [V.fptr [zS b] 0 0] (V.sl (map ZZ r)):=by
 refine zP zn rfl ?_
 unfold Y1 at M
 refine au 3 ?_
 refine GS.scope ?_
 obtain ⟨y,h_1,M⟩:=zC M
 refine au 2 ?_
 refine X.zBk (v:=(V.tup [V.uns,V.i y.2])) (Ct.mask (zAF h_1)) rfl rfl rfl (m:=9) rfl (.cons (.shut (n:=9) rfl) (.cons (.nil (n:=9) rfl) .nil)) (au 12 ?_)
 refine GS.seq ?_
 refine GS.label (au 9 ?_)
 refine X.join (τ:=(List Zi)) (fun v=>yX v=some r) (fun v=>⟨[(6,ovl 0 v)],[obl 5 ZZ v],0,none,85⟩) ?_ ?_
 ·intro l M
  replace M:yX l=some r:=M
  unfold yX at M
  refine au 4 ?_
  have hE:=bf M
  subst hE
  exact GS.ret ⟨_,rfl,FR.ovl (f:=ZZ) (l:=l) 9 rfl rfl (fun _=>rfl)⟩
 intro hj_1
 refine au 1 ?_
 refine gx [none,none] (X.loop (σ:=(Int×(List Int)×(List Zi))) (fun v=>⟨[(0,V.fptr [zS b] 0 0),(4,V.i y.2),(5,ovl 0 v.2.1),(6,ovl 1 v.2.2),(23,V.sl (map zL b.calls)),(24,(V.i (b.calls.length:Int))),(25,V.i v.1)],[obl 1 V.i v.2.1,obl 5 ZZ v.2.2],0,none,85⟩) M ?_ rfl)
 rintro ⟨x4,l8,l9⟩ b_1 M hc_2 hr_1
 rw [yY] at M
 refine au 3 ?_
 refine GS.seq ?_
 refine cm M (fun h_2 M=>?_) (fun h_2 M=>?_)
 ·refine GS.skip (GS.seq ?_)
  refine X.join (τ:=(List Int)×(List Zi)) (fun v=>JA x4 v.1 v.2=some b_1) (fun v=>⟨[(0,V.fptr [zS b] 0 0),(4,V.i y.2),(5,ovl 0 v.1),(6,ovl 1 v.2),(23,V.sl (map zL b.calls)),(24,(V.i (b.calls.length:Int))),(25,V.i x4)],[obl 1 V.i v.1,obl 5 ZZ v.2],0,none,85⟩) ?_ ?_
  ·rintro ⟨l1,l2⟩ M
   replace M:JA x4 l1 l2=some b_1:=M
   unfold JA at M
   refine au 4 ?_
   have hE:=bf M
   exact gy [some 0,some 1] (hc_2 (w64 (x4+1),l1,l2) hE.symm) (zG rfl ⟨9,rfl⟩ (zG rfl ⟨9,rfl⟩ (zG rfl (Am.zY rfl) (zG rfl (Am.zY rfl) (ga rfl rfl)))))
  intro hj_3
  obtain ⟨x,h_3,M⟩:=zC M
  refine au 7 ?_
  refine X.op0W rfl rfl rfl (au 10 ?_)
  refine X.join (τ:=Unit) (fun v=>yV x4 l8 l9=some b_1) (fun v=>⟨[(0,V.fptr [zS b] 0 0),(4,V.i y.2),(5,ovl 0 l8),(6,ovl 1 l9),(23,V.sl (map zL b.calls)),(24,(V.i (b.calls.length:Int))),(25,V.i x4)],[obl 1 V.i l8,obl 5 ZZ l9],0,none,85⟩) ?_ ?_
  ·intro _ M
   replace M:yV x4 l8 l9=some b_1:=M
   unfold yV at M
   obtain ⟨l3,h_4,M⟩:=zC M
   refine au 3 ?_
   refine appN (f:=V.i) h_4 (fun _=>rfl) (by rfl) (by rfl) (by rfl) (by rfl) (by rfl) (by rfl) (by rfl) (by rfl) (by rfl) (by rfl) (by rfl) (by exact rfl) (by rfl) (by rfl) (au 3 ?_)
   exact X.gc [some 3,some 1] (hj_3 (l3,l9) M) rfl rfl rfl (zG rfl ⟨9,rfl⟩ (zG rfl ⟨9,rfl⟩ (zG rfl (qz (jH h_4) rfl) (zG rfl (Am.zY rfl) (ga rfl rfl))))) (gb_obl' 9 (jH h_4) rfl rfl (fun _=>rfl) (ZB 9 rfl rfl (fun _=>rfl) zb))
  intro hj_4
  refine au 1 ?_
  refine gy [some 0,some 1,some 2] (X.loop (σ:=Int) (fun v=>⟨[(0,V.fptr [zS b] 0 0),(4,V.i y.2),(5,ovl 0 l8),(6,ovl 1 l9),(7,V.i x4),(8,V.ptr 2 0 0),(23,V.sl (map zL b.calls)),(24,(V.i (b.calls.length:Int))),(25,V.i x4),(33,V.sl (map zF b.slots)),(34,(V.i (b.slots.length:Int))),(35,V.i v)],[obl 1 V.i l8,obl 5 ZZ l9,.rows 5 [zL x]],0,none,85⟩) M ?_ rfl) (zG rfl ⟨9,rfl⟩ (zG rfl ⟨9,rfl⟩ (zG rfl (Am.zY rfl) (zG rfl (Am.zY rfl) (ga rfl rfl)))))
  intro x3 b_2 M hc_5 hr_2
  rw [Yp] at M
  refine au 3 ?_
  refine GS.seq ?_
  refine cm M (fun h_5 M=>?_) (fun h_5 M=>?_)
  ·refine GS.skip (GS.seq ?_)
   refine X.join (τ:=Unit) (fun v=>jy x3=some b_2) (fun v=>⟨[(0,V.fptr [zS b] 0 0),(4,V.i y.2),(5,ovl 0 l8),(6,ovl 1 l9),(7,V.i x4),(8,V.ptr 2 0 0),(23,V.sl (map zL b.calls)),(24,(V.i (b.calls.length:Int))),(25,V.i x4),(33,V.sl (map zF b.slots)),(34,(V.i (b.slots.length:Int))),(35,V.i x3)],[obl 1 V.i l8,obl 5 ZZ l9,.rows 5 [zL x]],0,none,85⟩) ?_ ?_
   ·intro _ M
    replace M:jy x3=some b_2:=M
    unfold jy at M
    refine au 4 ?_
    have hE:=bf M
    exact gy [some 0,some 1,some 2] (hc_5 (w64 (x3+1)) hE.symm) (zG rfl ⟨9,rfl⟩ (zG rfl ⟨9,rfl⟩ (zG rfl (Am.zY rfl) (zG rfl (Am.zY rfl) (ga rfl rfl)))))
   intro hj_6
   obtain ⟨x1,h_6,M⟩:=zC M
   refine au 5 ?_
   refine X.opW (H':=[obl 1 V.i l8,obl 5 ZZ l9,.rows 5 [zL x],.rows 2 [V.agg [V.i 0,V.i 0]]]) rfl rfl rfl rfl (X.q rfl ?_)
   refine X.op0W (H':=[obl 1 V.i l8,obl 5 ZZ l9,.rows 5 [zL x],.rows 2 [zF x1]]) rfl rfl rfl ?_
   obtain ⟨x2,h_7,M⟩:=zC M
   refine GS.ZT (GS.seq ?_)
   refine X.draw (by kernel_rfl) (au 5 ?_)
   refine dop rfl (YH (f:=(fun l=>V.fmap (map (fun p=>zF p.1) l) (map (fun p=>zD p.2) l))) h_7 (fun _=>rfl) rfl rfl rfl rfl) rfl rfl (by kernel_rfl) rfl rfl (au 2 ?_)
   refine dop rfl (zJs (f:=zF) (g:=zD) (k:=x1) (l:=x2) (z:=(⟨0,0⟩:zB)) (ok:=true) qc rfl rfl rfl rfl rfl) rfl rfl (by kernel_rfl) rfl rfl (au 4 ?_)
   refine dop0 rfl rfl rfl rfl (by kernel_rfl) rfl (au 2 ?_)
   refine X.norm [(0,V.fptr [zS b] 0 0),(4,V.i y.2),(5,ovl 0 l8),(6,ovl 1 l9),(7,V.i x4),(8,V.ptr 2 0 0),(9,V.i x3),(10,V.ptr 3 0 0),(11,V.ptr 4 0 0),(12,V.b ((za x1 x2).isSome)),(23,V.sl (map zL b.calls)),(24,(V.i (b.calls.length:Int))),(25,V.i x4),(33,V.sl (map zF b.slots)),(34,(V.i (b.slots.length:Int))),(35,V.i x3)] ?_ rfl (sr rfl)
   refine au 5 ?_
   refine cm M (fun h_8 M=>?_) (fun h_8 M=>?_)
   ·refine au 1 ?_
    exact gy [some 0,some 1,some 2] (hj_6 () M) (zG rfl ⟨9,rfl⟩ (zG rfl ⟨9,rfl⟩ (zG rfl (Am.zY rfl) (zG rfl (Am.zY rfl) (ga rfl rfl)))))
   obtain ⟨l4,h_9,M⟩:=zC M
   obtain ⟨l5,h_10,M⟩:=zC M
   obtain ⟨y1,h_11,M⟩:=zC M
   refine au 4 ?_
   refine X.ownF (zE9 h_9) (nn:=9) (fun _=>rfl) rfl rfl rfl (.cons (FR.arg (FR.ovl (f:=V.i) (l:=l8) 9 rfl rfl (fun _=>rfl))) .nil) rfl (fun z_144=>(X.q rfl ?_))
   refine X.opW (H':=[obl 1 V.i l8,obl 5 ZZ l9,.rows 5 [zL x],.rows 2 [zF x1],.rows 2 [(zD ((za x1 x2).getD (⟨0,0⟩:zB)))],oblz z_144 1 V.i l4,.rows 1 (map V.i ([x3]))]) rfl rfl rfl rfl ?_
   refine appN (f:=V.i) h_10 (fun _=>rfl) (by rfl) (by rfl) (by rfl) (by rfl) (by rfl) (by rfl) (by rfl) (by rfl) (by rfl) (by rfl) (by rfl) (by exact rfl) (by rfl) (by rfl) ?_
   refine X.zBk (v:=(V.tup [V.uns,V.i y1.2])) (Ct.mask (zAF h_11)) rfl rfl rfl (m:=9) rfl (.cons (.shut (n:=9) rfl) (.cons (FR.arg (FR.osl (f:=V.i) (l:=l5) 9 rfl rfl (fun _=>rfl))) .nil)) (au 11 ?_)
   refine cm M (fun h_12 M=>?_) (fun h_12 M=>?_)
   ·obtain ⟨l6,h_13,M⟩:=zC M
    refine au 3 ?_
    refine X.opW (H':=[obl 1 V.i l8,obl 5 ZZ l9,.rows 5 [zL x],.rows 2 [zF x1],.rows 2 [(zD ((za x1 x2).getD (⟨0,0⟩:zB)))],.dead,.rows 1 (map V.i ([x3])),.rows 1 (map V.i l5),.rows 1 (map V.i ([x3]))]) rfl rfl rfl rfl ?_
    refine appN (f:=V.i) h_13 (fun _=>rfl) (by rfl) (by rfl) (by rfl) (by rfl) (by rfl) (by rfl) (by rfl) (by rfl) (by rfl) (by rfl) (by rfl) (by exact rfl) (by rfl) (by rfl) ?_
    obtain ⟨l7,h_14,M⟩:=zC M
    refine au 9 ?_
    refine X.opW (H':=[.dead,obl 5 ZZ l9,.rows 5 [zL x],.rows 2 [zF x1],.rows 2 [(zD ((za x1 x2).getD (⟨0,0⟩:zB)))],.dead,.rows 1 (map V.i ([x3])),.rows 1 (map V.i l5),.rows 1 (map V.i ([x3])),.rows 1 (map V.i l6),.rows 5 (map ZZ ([(⟨x.ID,x1,((za x1 x2).getD (⟨0,0⟩:zB))⟩:Zi)]))]) rfl rfl rfl rfl ?_
    refine appN (f:=ZZ) h_14 (fun _=>rfl) (by rfl) (by rfl) (by rfl) (by rfl) (by rfl) (by rfl) (by rfl) (by rfl) (by rfl) (by rfl) (by rfl) (by exact rfl) (by rfl) (by rfl) ?_
    obtain ⟨y_2,M,hy⟩:=zt M
    rw [hr_2 _ hy.symm] at M
    refine au 3 ?_
    exact X.gc [some 9,some 11] (hj_3 (l6,l7) M) rfl rfl rfl (zG rfl ⟨9,rfl⟩ (zG rfl ⟨9,rfl⟩ (zG rfl (qz (jH h_13) rfl) (zG rfl (qz (jH h_14) rfl) (ga rfl rfl))))) (gb_obl' 9 (jH h_13) rfl rfl (fun _=>rfl) (gb_obl' 9 (jH h_14) rfl rfl (fun _=>rfl) zb))
   refine au 2 ?_
   exact gy [some 0,some 1,some 2] (hj_6 () M) (zG rfl ⟨9,rfl⟩ (zG rfl ⟨9,rfl⟩ (zG rfl (Am.zY rfl) (zG rfl (Am.zY rfl) (ga rfl rfl)))))
  obtain ⟨y_2,M,hy⟩:=zt M
  rw [hr_2 _ hy.symm] at M
  refine au 1 ?_
  exact gy [some 0,some 1] (hj_4 () M) (zG rfl ⟨9,rfl⟩ (zG rfl ⟨9,rfl⟩ (zG rfl (Am.zY rfl) (zG rfl (Am.zY rfl) (ga rfl rfl)))))
 obtain ⟨y_1,M,hy⟩:=zt M
 rw [hr_1 _ hy.symm] at M
 refine au 1 ?_
 exact gy [some 1] (hj_1 l9 M) (zG rfl (Am.zY rfl) QO)
theorem zF8 {h:zN} {l:(List zV)} {r:(List Zi)×Int} (M:qP h l=some r):Ct Tryz.prog 6 [zJ h,V.sl (map zL l)] (V.tup [V.sl (map ZZ r.1),V.i r.2]):=by
 refine zP zn rfl ?_
 unfold qP at M
 obtain ⟨y,h_1,M⟩:=zC M
 refine au 9 ?_
 refine ca (zAG h_1) (au 6 ?_)
 refine cm M (fun h_2 M=>?_) (fun h_2 M=>?_)
 ·refine au 5 ?_
  cases M
  exact X.rt
 obtain ⟨y1,h_3,M⟩:=zC M
 obtain ⟨y2,h_4,M⟩:=zC M
 refine au 4 ?_
 refine ca (zDq h_3) ?_
 refine ca (zF0 h_4) (au 3 ?_)
 cases M
 exact X.rt
set_option maxHeartbeats 4000000 in
theorem qC {r:Bool} (M:Y8=some r):Ct Tryz.prog 4 [] (V.b r):=by
 refine zP zn rfl ?_
 unfold Y8 at M
 refine au 4 ?_
 refine X.call zKf rfl rfl rfl .nil (au 2 ?_)
 refine GS.bldF rfl rfl rfl rfl (au 4 ?_)
 refine X.op0W rfl rfl rfl ?_
 refine GS.ZT (GS.seq ?_)
 replace M:=zC M
 obtain ⟨y,h_1,M⟩:=M
 refine au 2 ?_
 refine GS.bldF rfl rfl rfl rfl ?_
 refine ca (zFA h_1) (au 8 ?_)
 refine X.mid [(25,(V.b ((!y.2)||(!decide ((y.1.length:Int)=1))))),(2,V.sl (map zL y.1))] ?_ ?_
 ·intro hg
  refine X.split (!y.2) (fun h_2=>?_) (fun h_2=>?_)
  ·refine au 8 ?_
   exact ng hg rfl (by simp only [h_2,bb])
  refine au 8 ?_
  exact ng hg rfl (by simp only [h_2,bb])
 refine cm M (fun h_3 M=>?_) (fun h_3 M=>?_)
 ·refine au 3 ?_
  cases M
  exact X.rt
 refine GS.skip (GS.seq ?_)
 replace M:=zC M
 obtain ⟨y1,h_4,M⟩:=M
 refine GS.region ?_
 refine X.call zHq rfl rfl rfl .nil (X.q rfl ?_)
 refine ca (zF8 h_4) (au 6 ?_)
 refine GS.seq ?_
 replace M:=Yw M
 obtain ⟨x,h_5,M⟩:=M
 refine GS.region ?_
 refine X.mid [(0,(V.b (((decide (y1.2=0))&&(decide ((y1.1.length:Int)=1)))&&(decide (x.Draught=500)))))] ?_ ?_
 ·intro hg
  refine X.split (decide (y1.2=0)) (fun h_6=>?_) (fun h_6=>?_)
  ·refine X.split (decide ((y1.1.length:Int)=1)) (fun h_7=>?_) (fun h_7=>?_)
   ·refine au 9 ?_
    refine X.opR (on_t rfl rfl rfl h_7) (YH (f:=zL) (h_5 (zKO h_6 h_7)) (fun _=>rfl) rfl rfl rfl rfl) rfl (au 1 ?_)
    refine X.opR (on_t rfl rfl rfl h_7) (zDC (h_5 (zKO h_6 h_7)) rfl rfl rfl) rfl (au 4 ?_)
    exact ng hg rfl (by simp only [h_6,h_7,bb])
   refine au 16 ?_
   exact ng hg rfl (by simp only [h_6,h_7,bb])
  refine au 16 ?_
  exact ng hg rfl (by simp only [h_6,bb])
 cases M
 exact X.rt
set_option maxHeartbeats 4000000 in
theorem zEo {l:zQ} {by_:(List Int)} {r:(List Int)×Bool} (M:QK l by_=some r):Ct Tryz.prog 19 [zO l,(V.sl (map (fun x=>V.lit (.int .u16 x)) by_))] (V.tup [V.sl (map V.i r.1),V.b r.2]):=by
 refine zP zn rfl ?_
 unfold QK at M
 refine au 18 ?_
 refine X.join (τ:=Int×(List Int)) (fun v=>YI l v.1 v.2=some r) (fun v=>⟨[(2,V.ptr 0 0 0),(6,ovl 1 v.2),(7,V.i v.1)],[.rows 3 [zO l],obl 1 V.i v.2],0,none,109⟩) ?_ ?_
 ·rintro ⟨all,l1⟩ M
  replace M:YI l all l1=some r:=M
  unfold YI at M
  refine au 7 ?_
  refine X.join (τ:=Int×(List Int)) (fun v=>QU l v.1 v.2=some r) (fun v=>⟨[(2,V.ptr 0 0 0),(6,ovl 1 v.2),(7,V.i v.1)],[.rows 3 [zO l],obl 1 V.i v.2],0,none,109⟩) ?_ ?_
  ·rintro ⟨all1,l2⟩ M
   replace M:QU l all1 l2=some r:=M
   unfold QU at M
   refine GS.seq ?_
   refine X.mid [(5,V.b ((decide (l.All.Lo≤all1))&&(decide (all1≤l.All.Hi)))),(4,ovl 1 l2)] ?_ ?_
   ·intro hg
    refine X.split (decide (l.All.Lo≤all1)) (fun h_1=>?_) (fun h_1=>?_)
    ·refine au 17 ?_
     exact ng hg rfl (by simp only [h_1,bb])
    refine au 17 ?_
    exact ng hg rfl (by simp only [h_1,bb])
   have hE:=bf M
   subst hE
   exact GS.ret ⟨_,rfl,FR.tup (.cons (FR.ovl (f:=V.i) (l:=l2) 9 rfl rfl (fun _=>rfl)) (.cons ⟨30,rfl⟩ .nil))⟩
  intro hj_2
  refine au 1 ?_
  refine gy [some 0,some 1] (X.loop (σ:=(Int×Int×(List Int))) (fun v=>⟨[(2,V.ptr 0 0 0),(6,ovl 1 v.2.2),(7,V.i v.1),(52,V.sl (map zD l.Holds)),(53,(V.i (l.Holds.length:Int))),(54,V.i v.2.1)],[.rows 3 [zO l],obl 1 V.i v.2.2],0,none,109⟩) M ?_ rfl) (zG rfl ⟨9,rfl⟩ (zG rfl (Am.zY rfl) (ga rfl rfl)))
  rintro ⟨all2,x4,l3⟩ b_1 M hc_3 hr_1
  rw [zCZ] at M
  refine au 3 ?_
  refine GS.seq ?_
  refine cm M (fun h_2 M=>?_) (fun h_2 M=>?_)
  ·obtain ⟨x,h_3,M⟩:=zC M
   refine au 9 ?_
   refine X.op0W rfl rfl rfl ?_
   obtain ⟨x1,h_4,M⟩:=zC M
   refine au 9 ?_
   refine cop rfl (JY h_4 rfl rfl rfl rfl rfl) rfl rfl ?_
   refine cop rfl (zBh h_4 rfl rfl rfl rfl) rfl rfl (au 18 ?_)
   refine X.norm [(2,V.ptr 0 0 0),(6,ovl 1 l3),(7,V.i all2),(11,V.i x4),(13,V.i (max x.Lo (min x.Hi (w64 ((w64 (x1+(max 0 (w64 (l.All.Lo - all2))))) - (max 0 (w64 (all2 - l.All.Hi)))))))),(52,V.sl (map zD l.Holds)),(53,(V.i (l.Holds.length:Int))),(54,V.i x4)] ?_ rfl (sr rfl)
   obtain ⟨x2,h_5,M⟩:=zC M
   obtain ⟨x3,h_6,M⟩:=zC M
   refine au 9 ?_
   refine X.opR rfl (JY h_5 rfl rfl rfl rfl rfl) rfl ?_
   refine X.opR rfl (zBh h_5 rfl rfl rfl rfl) rfl (au 1 ?_)
   refine X.opR rfl (JY h_6 rfl rfl rfl rfl rfl) rfl ?_
   refine X.op0W rfl (X.Q9 (b:=max x.Lo (min x.Hi (w64 ((w64 (x1+(max 0 (w64 (l.All.Lo - all2))))) - (max 0 (w64 (all2 - l.All.Hi))))))) h_6 rfl rfl rfl rfl rfl rfl rfl) rfl (au 7 ?_)
   have hE:=bf M
   exact gy [some 0,some 1] (hc_3 (w64 ((w64 (all2+(max x.Lo (min x.Hi (w64 ((w64 (x1+(max 0 (w64 (l.All.Lo - all2))))) - (max 0 (w64 (all2 - l.All.Hi))))))))) - x2),w64 (x4+1),put l3 x4 (max x.Lo (min x.Hi (w64 ((w64 (x1+(max 0 (w64 (l.All.Lo - all2))))) - (max 0 (w64 (all2 - l.All.Hi)))))))) hE.symm) (zG rfl ⟨9,rfl⟩ (zG rfl (Yi YS (Am.zY rfl)) (ga rfl rfl)))
  obtain ⟨y_1,M,hy⟩:=zt M
  rw [hr_1 _ hy.symm] at M
  refine au 1 ?_
  exact gy [some 0,some 1] (hj_2 (all2,l3) M) (zG rfl ⟨9,rfl⟩ (zG rfl (Am.zY rfl) (ga rfl rfl)))
 intro hj_1
 refine au 1 ?_
 refine gx [some 0,none] (X.loop (σ:=(Int×Int×(List Int))) (fun v=>⟨[(1,(V.sl (map (fun x=>V.lit (.int .u16 x)) by_))),(2,V.ptr 0 0 0),(6,ovl 1 v.2.2),(7,V.i v.1),(15,V.sl (map zD l.Holds)),(16,(V.i (l.Holds.length:Int))),(17,V.i v.2.1)],[.rows 3 [zO l],obl 1 V.i v.2.2],0,none,109⟩) M ?_ rfl)
 rintro ⟨all3,x7,l5⟩ b_1 M hc_4 hr_1
 rw [zCY] at M
 refine au 3 ?_
 refine GS.seq ?_
 refine cm M (fun h_7 M=>?_) (fun h_7 M=>?_)
 ·obtain ⟨x5,h_8,M⟩:=zC M
  refine au 9 ?_
  refine X.op0W rfl rfl rfl (au 13 ?_)
  refine X.join (τ:=Int) (fun v=>yP all3 x7 l5 v=some b_1) (fun v=>⟨[(1,(V.sl (map (fun x=>V.lit (.int .u16 x)) by_))),(2,V.ptr 0 0 0),(6,ovl 1 l5),(7,V.i all3),(10,V.i v),(15,V.sl (map zD l.Holds)),(16,(V.i (l.Holds.length:Int))),(17,V.i x7)],[.rows 3 [zO l],obl 1 V.i l5],0,none,109⟩) ?_ ?_
  ·intro n M
   replace M:yP all3 x7 l5 n=some b_1:=M
   unfold yP at M
   obtain ⟨l4,h_9,M⟩:=zC M
   refine au 4 ?_
   refine appN (f:=V.i) h_9 (fun _=>rfl) (by rfl) (by rfl) (by rfl) (by rfl) (by rfl) (by rfl) (by rfl) (by rfl) (by rfl) (by rfl) (by rfl) (by exact rfl) (by rfl) (by rfl) (au 11 ?_)
   have hE:=bf M
   exact X.gc [some 0,some 3] (hc_4 (w64 (all3+n),w64 (x7+1),l4) hE.symm) rfl rfl rfl (zG rfl ⟨9,rfl⟩ (zG rfl ⟨9,rfl⟩ (zG rfl (qz (jH h_9) rfl) (ga rfl rfl)))) (gb9 rfl rfl rfl (gb_obl' 9 (jH h_9) rfl rfl (fun _=>rfl) zb))
  intro hj_5
  refine cm M (fun h_10 M=>?_) (fun h_10 M=>?_)
  ·obtain ⟨x6,h_11,M⟩:=zC M
   obtain ⟨q,h_12,M⟩:=zC M
   refine au 5 ?_
   refine cop rfl (YH (f:=(fun x=>V.lit (.int .u16 x))) h_11 (fun _=>rfl) rfl rfl rfl rfl) rfl rfl (au 1 ?_)
   refine cop rfl (convE rfl rfl rfl rfl) rfl rfl (au 6 ?_)
   refine cop rfl (remE h_12 rfl rfl) rfl rfl (au 3 ?_)
   refine X.norm [(1,(V.sl (map (fun x=>V.lit (.int .u16 x)) by_))),(2,V.ptr 0 0 0),(6,ovl 1 l5),(7,V.i all3),(10,V.i (w64 (x5.Lo+q))),(15,V.sl (map zD l.Holds)),(16,(V.i (l.Holds.length:Int))),(17,V.i x7)] ?_ rfl (sr rfl)
   exact gy [some 0,some 1] (hj_5 (w64 (x5.Lo+q)) M) (zG rfl ⟨9,rfl⟩ (zG rfl ⟨9,rfl⟩ (zG rfl (Am.zY rfl) (ga rfl rfl))))
  refine GS.skip ?_
  exact gy [some 0,some 1] (hj_5 x5.Lo M) (zG rfl ⟨9,rfl⟩ (zG rfl ⟨9,rfl⟩ (zG rfl (Am.zY rfl) (ga rfl rfl))))
 obtain ⟨y_1,M,hy⟩:=zt M
 rw [hr_1 _ hy.symm] at M
 refine au 1 ?_
 exact gy [some 0,some 1] (hj_1 (all3,l5) M) (zG rfl ⟨9,rfl⟩ (zG rfl (Am.zY rfl) (ga rfl rfl)))
set_option maxHeartbeats 4000000 in
theorem zC7 {s:zH} {l:(List (List Int))} {r:Int} (M:QC s l=some r):Ct Tryz.prog 45 [zU s,(V.sl (map (fun l=>V.sl (map V.i l)) l))] (V.i r):=by
 refine zP zn rfl ?_
 unfold QC at M
 obtain ⟨y,h_1,M⟩:=zC M
 refine au 7 ?_
 refine ca (zF7 h_1) (au 6 ?_)
 refine cm M (fun h_2 M=>?_) (fun h_2 M=>?_)
 ·refine au 4 ?_
  cases M
  exact X.rt
 refine au 7 ?_
 refine X.join (τ:=Unit) (fun v=>zBN=some r) (fun v=>⟨[],[],0,none,45⟩) ?_ ?_
 ·intro _ M
  replace M:zBN=some r:=M
  unfold zBN at M
  refine au 3 ?_
  cases M
  exact X.rt
 intro hj_1
 refine au 1 ?_
 refine gx [some 0] (X.loop (σ:=Int) (fun v=>⟨[(2,V.ptr 0 0 0),(15,(V.sl (map (fun l=>V.sl (map V.i l)) l))),(16,(V.i (l.length:Int))),(17,V.i v)],[.rows 11 [zU s]],0,none,45⟩) M ?_ rfl)
 intro x4 b_1 M hc_2 hr_1
 rw [qH] at M
 refine au 3 ?_
 refine GS.seq ?_
 refine cm M (fun h_3 M=>?_) (fun h_3 M=>?_)
 ·obtain ⟨x,h_4,M⟩:=zC M
  refine au 17 ?_
  refine cm M (fun h_5 M=>?_) (fun h_5 M=>?_)
  ·refine au 3 ?_
   have hE:=bf M
   replace hE:=hr_1 _ hE.symm
   subst hE
   exact X.rt
  refine au 6 ?_
  refine X.join (τ:=Unit) (fun v=>qG x4=some b_1) (fun v=>⟨[(2,V.ptr 0 0 0),(15,(V.sl (map (fun l=>V.sl (map V.i l)) l))),(16,(V.i (l.length:Int))),(17,V.i x4)],[.rows 11 [zU s]],0,none,45⟩) ?_ ?_
  ·intro _ M
   replace M:qG x4=some b_1:=M
   unfold qG at M
   refine au 5 ?_
   have hE:=bf M
   exact gx [some 0] (hc_2 (w64 (x4+1)) hE.symm)
  intro hj_3
  refine au 1 ?_
  refine gx [some 0] (X.loop (σ:=Int) (fun v=>⟨[(2,V.ptr 0 0 0),(15,(V.sl (map (fun l=>V.sl (map V.i l)) l))),(16,(V.i (l.length:Int))),(17,V.i x4),(27,V.sl (map V.i x)),(28,(V.i (x.length:Int))),(29,V.i v)],[.rows 11 [zU s]],0,none,45⟩) M ?_ rfl)
  intro x3 b_2 M hc_4 hr_2
  rw [Yu] at M
  refine au 3 ?_
  refine GS.seq ?_
  refine cm M (fun h_6 M=>?_) (fun h_6 M=>?_)
  ·obtain ⟨x1,h_7,M⟩:=zC M
   refine au 10 ?_
   refine GS.seq ?_
   obtain ⟨x2,h_8,M⟩:=zC M
   refine au 8 ?_
   refine ca (zm x1 0 x2.Room) (au 2 ?_)
   refine cm M (fun h_9 M=>?_) (fun h_9 M=>?_)
   ·refine au 3 ?_
    have hE:=bf M
    replace hE:=hr_2 _ hE.symm
    replace hE:=hr_1 _ hE.symm
    subst hE
    exact X.rt
   refine au 6 ?_
   have hE:=bf M
   exact gx [some 0] (hc_4 (w64 (x3+1)) hE.symm)
  obtain ⟨y_2,M,hy⟩:=zt M
  rw [hr_2 _ hy.symm] at M
  refine au 1 ?_
  exact gx [some 0] (hj_3 () M)
 obtain ⟨y_1,M,hy⟩:=zt M
 rw [hr_1 _ hy.symm] at M
 refine au 1 ?_
 exact gx [] (hj_1 () M)
theorem zFH {s:zH} {x:(List Int)} {r:Jf×Int} (M:zA3 s x=some r):Ct Tryz.prog 20 [zU s,V.sl (map V.i x)] (V.tup [jE r.1,V.i r.2]):=by
 refine zP zn rfl ?_
 unfold zA3 at M
 obtain ⟨y,h_1,M⟩:=zC M
 refine au 9 ?_
 refine GS.bldF rfl rfl rfl rfl ?_
 refine ca (zC7 h_1) (au 6 ?_)
 refine cm M (fun h_2 M=>?_) (fun h_2 M=>?_)
 ·refine au 3 ?_
  refine X.op0W rfl rfl rfl (au 2 ?_)
  cases M
  exact X.rt
 obtain ⟨y1,h_3,M⟩:=zC M
 refine au 4 ?_
 refine ca (zFG h_3) ?_
 refine X.op0W rfl rfl rfl (au 2 ?_)
 cases M
 exact X.rt
theorem zJX {w:zW} {tick:Int} {r:Int×Int} (M:zAu w tick=some r):Ct Tryz.prog 21 [ZL w,V.i tick] (V.tup [V.i r.1,V.i r.2]):=by
 refine zP zn rfl ?_
 unfold zAu at M
 obtain ⟨y,h_1,M⟩:=zC M
 refine au 8 ?_
 refine ca (zDn h_1) (au 6 ?_)
 refine cm M (fun h_2 M=>?_) (fun h_2 M=>?_)
 ·refine au 5 ?_
  cases M
  exact X.rt
 refine au 4 ?_
 refine ca (qD tick) (au 2 ?_)
 refine cm M (fun h_3 M=>?_) (fun h_3 M=>?_)
 ·refine au 4 ?_
  cases M
  exact X.rt
 obtain ⟨y1,h_4,M⟩:=zC M
 obtain ⟨y2,h_5,M⟩:=zC M
 refine au 3 ?_
 refine ca (zEn h_4) (X.q rfl ?_)
 refine ca (zBG h_5) (au 3 ?_)
 cases M
 exact X.rt
theorem zKi {s:zH} {l:zQ} {depth:Int} {keel:Int} {r:Bool×Int} (M:zDH s l depth keel=some r):Ct Tryz.prog 22 [zU s,zO l,V.i depth,V.i keel] (V.tup [V.b r.1,V.i r.2]):=by
 refine zP zn rfl ?_
 unfold zDH at M
 obtain ⟨y,h_1,M⟩:=zC M
 refine au 9 ?_
 refine ca (zCX h_1) (au 13 ?_)
 refine cm M (fun h_2 M=>?_) (fun h_2 M=>?_)
 ·refine au 5 ?_
  cases M
  exact X.rt
 refine au 3 ?_
 refine X.mid [(30,(V.b ((!(zT depth 0 65536))||(!(zT keel 0 5000))))),(2,V.i depth),(3,V.i keel),(10,V.i y.1)] ?_ ?_
 ·intro hg
  refine X.split (!(zT depth 0 65536)) (fun h_3=>?_) (fun h_3=>?_)
  ·refine X.q rfl ?_
   refine ca (zm depth 0 65536) (au 7 ?_)
   exact ng hg rfl (by simp only [h_3,bb])
  refine X.q rfl ?_
  refine ca (zm depth 0 65536) (au 3 ?_)
  refine ca (zm keel 0 5000) (au 3 ?_)
  exact ng hg rfl (by simp only [h_3,bb])
 refine cm M (fun h_4 M=>?_) (fun h_4 M=>?_)
 ·refine au 4 ?_
  cases M
  exact X.rt
 refine au 10 ?_
 cases M
 exact X.rt
end Go.Proofs.YtdpifjmggnjagaaGreat
