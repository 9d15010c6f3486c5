/- The program's functions compute the plain ones. Conditions: none. Printed by a program (wip/tools/xg.py). -/
import Derived.Test.YtggkidlcohickaaGreatTok
import Derived.Test.YtggkidlcohickaaGreatSrt
import Derived.Test.YtggkidlcohickaaGreatM
import Derived.Test.YtggkidlcohickaaGreatAu
set_option linter.unusedVariables false
set_option linter.unusedSimpArgs false
set_option maxRecDepth 4000
namespace Go.Proofs.YtggkidlcohickaaGreat
open Go Go.Am Go.Proofs Go.Mx
noncomputable def CC : Cfg:=cfg (Ct Tryz.prog)
theorem ZR : CC.OK:=cfg_ok fun f args v h=>h
abbrev zG (x:zD):V:=.agg [V.i x.Arbiters]
theorem ZF (n:Int) (lo:Int) (hi:Int):Ct Tryz.prog 35 [V.i n,V.i lo,V.i hi] (V.b (ZG n lo hi)):=by
 refine zV ZR rfl ?_
 generalize hM:ZG n lo hi=r
 unfold ZG at hM
 refine au 4 ?_
 refine X.mid [(6,V.b ((decide (lo≤n))&&(decide (n≤hi))))] ?_ ?_
 ·intro hg
  refine X.split (decide (lo≤n)) (fun h_1=>?_) (fun h_1=>?_)
  ·refine au 10 ?_
   exact X.ng hg rfl (by simp only [h_1,X.bb])
  refine au 10 ?_
  exact X.ng hg rfl (by simp only [h_1,X.bb])
 subst hM
 exact X.rt
theorem Ze (c:zD):Ct Tryz.prog 15 [zG c] (V.i (zo c)):=by
 refine zV ZR rfl ?_
 generalize hM:zo c=r
 unfold zo at hM
 refine au 8 ?_
 refine X.ca (ZF c.Arbiters 3 7) ?_
 refine au 2 ?_
 refine X.cm hM (fun h_1 hM=>?_) (fun h_1 hM=>?_)
 ·refine au 3 ?_
  subst hM
  exact X.rt
 refine au 4 ?_
 subst hM
 exact X.rt
theorem jD {c:zD} {r:Int} (hM:Zw c=some r):Ct Tryz.prog 68 [zG c] (V.i r):=by
 refine zV ZR rfl ?_
 unfold Zw at hM
 refine au 7 ?_
 refine X.ca (Ze c) ?_
 refine au 2 ?_
 refine X.cm hM (fun h_1 hM=>?_) (fun h_1 hM=>?_)
 ·refine au 3 ?_
  cases hM
  exact X.rt
 obtain ⟨q,h_2,hM⟩:=zK hM
 refine au 4 ?_
 refine X.opR rfl (X.quoE h_2 rfl rfl) rfl ?_
 refine au 3 ?_
 cases hM
 exact X.rt
abbrev zC (x:zA):V:=.agg [V.i x.ID,V.i x.Case,V.i x.Kind,V.i x.Round,V.i x.From,V.i x.To,V.i x.Voted,V.i x.Finding]
theorem zED {l:(List zA)} {r:Int×Bool} (hM:YH l=some r):Ct Tryz.prog 82 [V.sl (List.map zC l)] (V.tup [V.i r.1,V.b r.2]):=by
 refine zV ZR rfl ?_
 unfold YH at hM
 refine au 13 ?_
 refine X.join (τ:=Int×Int×Int×Int×Int×Int×Int×Int) (fun v=>Jp v.1 v.2.1 v.2.2.1 v.2.2.2.1 v.2.2.2.2.1 v.2.2.2.2.2.1 v.2.2.2.2.2.2.1 v.2.2.2.2.2.2.2=some r) (fun v=>⟨[(4,V.ptr 0 0 0)],[.rows 8 [V.agg [V.i v.1,V.i v.2.1,V.i v.2.2.1,V.i v.2.2.2.1,V.i v.2.2.2.2.1,V.i v.2.2.2.2.2.1,V.i v.2.2.2.2.2.2.1,V.i v.2.2.2.2.2.2.2]]],0,none,25⟩) ?_ ?_
 ·rintro ⟨ID,Case,Kind,Round,From,To,Voted,Finding⟩ hM
  replace hM:Jp ID Case Kind Round From To Voted Finding=some r:=hM
  unfold Jp at hM
  refine au 10 ?_
  refine X.norm [(2,V.i Finding),(3,V.b (decide (0<Voted)))] ?_ rfl (sr rfl)
  cases hM
  exact X.rt
 intro hj_1
 refine au 1 ?_
 refine X.gx [some 0] (X.loop (σ:=(Int×Int×Int×Int×Int×Int×Int×Int×Int)) (fun v=>⟨[(4,V.ptr 0 0 0),(7,V.sl (List.map zC l)),(8,(V.i (l.length:Int))),(9,V.i v.1)],[.rows 8 [V.agg [V.i v.2.1,V.i v.2.2.1,V.i v.2.2.2.1,V.i v.2.2.2.2.1,V.i v.2.2.2.2.2.1,V.i v.2.2.2.2.2.2.1,V.i v.2.2.2.2.2.2.2.1,V.i v.2.2.2.2.2.2.2.2]]],0,none,25⟩) hM ?_ rfl)
 rintro ⟨x1,ID2,Case2,Kind2,Round2,From2,To2,Voted2,Finding2⟩ b_1 hM hc_2 hr_1
 rw [Jq] at hM
 refine au 3 ?_
 refine GS.seq ?_
 refine X.cm hM (fun h_1 hM=>?_) (fun h_1 hM=>?_)
 ·refine GS.skip (GS.seq ?_)
  refine X.join (τ:=Int×Int×Int×Int×Int×Int×Int×Int) (fun v=>JC x1 v.1 v.2.1 v.2.2.1 v.2.2.2.1 v.2.2.2.2.1 v.2.2.2.2.2.1 v.2.2.2.2.2.2.1 v.2.2.2.2.2.2.2=some b_1) (fun v=>⟨[(4,V.ptr 0 0 0),(7,V.sl (List.map zC l)),(8,(V.i (l.length:Int))),(9,V.i x1)],[.rows 8 [V.agg [V.i v.1,V.i v.2.1,V.i v.2.2.1,V.i v.2.2.2.1,V.i v.2.2.2.2.1,V.i v.2.2.2.2.2.1,V.i v.2.2.2.2.2.2.1,V.i v.2.2.2.2.2.2.2]]],0,none,25⟩) ?_ ?_
  ·rintro ⟨ID1,Case1,Kind1,Round1,From1,To1,Voted1,Finding1⟩ hM
   replace hM:JC x1 ID1 Case1 Kind1 Round1 From1 To1 Voted1 Finding1=some b_1:=hM
   unfold JC at hM
   refine au 4 ?_
   have hE:=Option.some.inj hM
   exact X.gx [some 0] (hc_2 (w64 (x1+1),ID1,Case1,Kind1,Round1,From1,To1,Voted1,Finding1) hE.symm)
  intro hj_3
  obtain ⟨x,h_2,hM⟩:=zK hM
  refine au 5 ?_
  refine X.op0W rfl rfl rfl ?_
  refine au 8 ?_
  refine X.cm hM (fun h_3 hM=>?_) (fun h_3 hM=>?_)
  ·refine au 2 ?_
   refine X.op0W rfl rfl rfl ?_
   refine au 2 ?_
   exact X.gx [some 0] (hj_3 (x.ID,x.Case,x.Kind,x.Round,x.From,x.To,x.Voted,x.Finding) hM)
  refine au 2 ?_
  exact X.gx [some 0] (hj_3 (ID2,Case2,Kind2,Round2,From2,To2,Voted2,Finding2) hM)
 obtain ⟨y_1,hM,hy⟩:=J9 hM
 rw [hr_1 _ hy.symm] at hM
 refine au 1 ?_
 exact X.gx [some 0] (hj_1 (ID2,Case2,Kind2,Round2,From2,To2,Voted2,Finding2) hM)
theorem zFt {c:zD} {arbiter:Int} {round:Int} {r:Int} (hM:QK c arbiter round=some r):Ct Tryz.prog 43 [zG c,V.i arbiter,V.i round] (V.i r):=by
 refine zV ZR rfl ?_
 unfold QK at hM
 refine au 9 ?_
 refine GS.seq ?_
 refine X.join (τ:=Int) (fun v=>yX v=some r) (fun v=>⟨[(7,V.i v)],[],0,none,20⟩) ?_ ?_
 ·intro r_ hM
  replace hM:yX r_=some r:=hM
  unfold yX at hM
  refine au 4 ?_
  cases hM
  exact X.rt
 intro hj_1
 refine au 1 ?_
 refine X.gx [some 0] (X.loop (σ:=Int) (fun v=>⟨[(1,V.i arbiter),(3,V.ptr 0 0 0),(7,V.i v)],[.rows 1 [zG c]],0,none,20⟩) hM ?_ rfl)
 intro r_1 b_1 hM hc_2 hr_1
 rw [Q3] at hM
 obtain ⟨q,h_1,hM⟩:=zK hM
 refine au 6 ?_
 refine X.opR rfl (X.remE h_1 rfl rfl) rfl ?_
 refine au 3 ?_
 refine X.cm hM (fun h_2 hM=>?_) (fun h_2 hM=>?_)
 ·refine au 8 ?_
  have hE:=Option.some.inj hM
  exact X.gx [some 0] (hc_2 (w64 (r_1+1)) hE.symm)
 obtain ⟨y_1,hM,hy⟩:=J9 hM
 rw [hr_1 _ hy.symm] at hM
 refine au 1 ?_
 exact X.gx [] (hj_1 r_1 hM)
theorem Zt (c:zD) (a:Int):Ct Tryz.prog 36 [zG c,V.i a] (V.b (zW c a)):=by
 refine zV ZR rfl ?_
 generalize hM:zW c a=r
 unfold zW at hM
 refine au 9 ?_
 refine X.ca (ZF a 0 (w64 (c.Arbiters - 1))) ?_
 refine au 2 ?_
 subst hM
 exact X.rt
theorem Z8 (id:Int):Ct Tryz.prog 37 [V.i id] (V.b (Zj id)):=by
 refine zV ZR rfl ?_
 generalize hM:Zj id=r
 unfold Zj at hM
 refine au 5 ?_
 refine X.ca (ZF id 1 1099511627776) ?_
 refine au 2 ?_
 subst hM
 exact X.rt
theorem qf (n:Int):Ct Tryz.prog 38 [V.i n] (V.b (jL n)):=by
 refine zV ZR rfl ?_
 generalize hM:jL n=r
 unfold jL at hM
 refine au 5 ?_
 refine X.ca (ZF n 0 65536) ?_
 refine au 2 ?_
 subst hM
 exact X.rt
theorem zDA {s:(List Int)} {v_:Int} {r:Int} (hM:slices_Index_int s v_=some r):Ct Tryz.prog 102 [V.sl (List.map V.i s),V.i v_] (V.i r):=by
 refine zV ZR rfl ?_
 unfold slices_Index_int at hM
 refine au 9 ?_
 refine X.join (τ:=Unit) (fun v=>jB=some r) (fun v=>⟨[],[],0,none,19⟩) ?_ ?_
 ·intro _ hM
  replace hM:jB=some r:=hM
  unfold jB at hM
  refine au 3 ?_
  cases hM
  exact X.rt
 intro hj_1
 refine au 1 ?_
 refine X.gx [] (X.loop (σ:=Int) (fun v=>⟨[(0,V.sl (List.map V.i s)),(1,V.i v_),(7,(V.i (s.length:Int))),(8,V.i v)],[],0,none,19⟩) hM ?_ rfl)
 intro x1 b_1 hM hc_2 hr_1
 rw [J4] at hM
 refine au 3 ?_
 refine GS.seq ?_
 refine X.cm hM (fun h_1 hM=>?_) (fun h_1 hM=>?_)
 ·obtain ⟨x,h_2,hM⟩:=zK hM
  refine au 15 ?_
  refine X.cm hM (fun h_3 hM=>?_) (fun h_3 hM=>?_)
  ·refine au 4 ?_
   have hE:=Option.some.inj hM
   replace hE:=hr_1 _ hE.symm
   subst hE
   exact X.rt
  refine au 6 ?_
  have hE:=Option.some.inj hM
  exact X.gx [] (hc_2 (w64 (x1+1)) hE.symm)
 obtain ⟨y_1,hM,hy⟩:=J9 hM
 rw [hr_1 _ hy.symm] at hM
 refine au 1 ?_
 exact X.gx [] (hj_1 () hM)
theorem Y8 {s:(List Int)} {v_:Int} {r:Bool} (hM:slices_Contains_int s v_=some r):Ct Tryz.prog 81 [V.sl (List.map V.i s),V.i v_] (V.b r):=by
 refine zV ZR rfl ?_
 unfold slices_Contains_int at hM
 obtain ⟨y,h_1,hM⟩:=zK hM
 refine au 6 ?_
 refine X.ca (zDA h_1) ?_
 refine au 3 ?_
 cases hM
 exact X.rt
theorem zA0 (l:zA) (c:Int):Ct Tryz.prog 88 [zC l,V.fptr [V.i c] 0 0] (V.b (jq l c)):=by
 refine zV ZR rfl ?_
 generalize hM:jq l c=r
 unfold jq at hM
 refine au 11 ?_
 subst hM
 exact X.rt
theorem JK {s:(List zA)} {c:Int} {r:Int} (hM:ZI s c=some r):Ct Tryz.prog 87 [V.sl (List.map zC s),V.fn 88 [V.fptr [V.i c] 0 0]] (V.i r):=by
 refine zV ZR rfl ?_
 unfold ZI at hM
 refine au 9 ?_
 refine X.join (τ:=Unit) (fun v=>zf=some r) (fun v=>⟨[],[],0,none,19⟩) ?_ ?_
 ·intro _ hM
  replace hM:zf=some r:=hM
  unfold zf at hM
  refine au 3 ?_
  cases hM
  exact X.rt
 intro hj_1
 refine au 1 ?_
 refine X.gx [] (X.loop (σ:=Int) (fun v=>⟨[(0,V.sl (List.map zC s)),(1,V.fn 88 [V.fptr [V.i c] 0 0]),(7,(V.i (s.length:Int))),(8,V.i v)],[],0,none,19⟩) hM ?_ rfl)
 intro x1 b_1 hM hc_2 hr_1
 rw [zz] at hM
 refine au 3 ?_
 refine GS.seq ?_
 refine X.cm hM (fun h_1 hM=>?_) (fun h_1 hM=>?_)
 ·obtain ⟨x,h_2,hM⟩:=zK hM
  refine au 13 ?_
  refine X.ca (zA0 x c) ?_
  refine GS.za ?_
  refine X.cm hM (fun h_3 hM=>?_) (fun h_3 hM=>?_)
  ·refine au 4 ?_
   have hE:=Option.some.inj hM
   replace hE:=hr_1 _ hE.symm
   subst hE
   exact X.rt
  refine au 6 ?_
  have hE:=Option.some.inj hM
  exact X.gx [] (hc_2 (w64 (x1+1)) hE.symm)
 obtain ⟨y_1,hM,hy⟩:=J9 hM
 rw [hr_1 _ hy.symm] at hM
 refine au 1 ?_
 exact X.gx [] (hj_1 () hM)
theorem qg (x:zA) (c:zA):Ct Tryz.prog 85 [zC x,V.fptr [zC c] 0 0] (V.b (jR x c)):=by
 refine zV ZR rfl ?_
 generalize hM:jR x c=r
 unfold jR at hM
 refine au 12 ?_
 subst hM
 exact X.rt
theorem jw {s:(List zA)} {c:zA} {r:Int} (hM:zy s c=some r):Ct Tryz.prog 87 [V.sl (List.map zC s),V.fn 85 [V.fptr [zC c] 0 0]] (V.i r):=by
 refine zV ZR rfl ?_
 unfold zy at hM
 refine au 9 ?_
 refine X.join (τ:=Unit) (fun v=>zY=some r) (fun v=>⟨[],[],0,none,19⟩) ?_ ?_
 ·intro _ hM
  replace hM:zY=some r:=hM
  unfold zY at hM
  refine au 3 ?_
  cases hM
  exact X.rt
 intro hj_1
 refine au 1 ?_
 refine X.gx [] (X.loop (σ:=Int) (fun v=>⟨[(0,V.sl (List.map zC s)),(1,V.fn 85 [V.fptr [zC c] 0 0]),(7,(V.i (s.length:Int))),(8,V.i v)],[],0,none,19⟩) hM ?_ rfl)
 intro x1 b_1 hM hc_2 hr_1
 rw [zk] at hM
 refine au 3 ?_
 refine GS.seq ?_
 refine X.cm hM (fun h_1 hM=>?_) (fun h_1 hM=>?_)
 ·obtain ⟨x,h_2,hM⟩:=zK hM
  refine au 13 ?_
  refine X.ca (qg x c) ?_
  refine GS.za ?_
  refine X.cm hM (fun h_3 hM=>?_) (fun h_3 hM=>?_)
  ·refine au 4 ?_
   have hE:=Option.some.inj hM
   replace hE:=hr_1 _ hE.symm
   subst hE
   exact X.rt
  refine au 6 ?_
  have hE:=Option.some.inj hM
  exact X.gx [] (hc_2 (w64 (x1+1)) hE.symm)
 obtain ⟨y_1,hM,hy⟩:=J9 hM
 rw [hr_1 _ hy.symm] at hM
 refine au 1 ?_
 exact X.gx [] (hj_1 () hM)
theorem jc {s:(List zA)} {c:zA} {r:Bool} (hM:zZ s c=some r):Ct Tryz.prog 84 [V.sl (List.map zC s),V.fn 85 [V.fptr [zC c] 0 0]] (V.b r):=by
 refine zV ZR rfl ?_
 unfold zZ at hM
 obtain ⟨y,h_1,hM⟩:=zK hM
 refine au 6 ?_
 refine X.ca (jw h_1) ?_
 refine au 3 ?_
 cases hM
 exact X.rt
theorem zAz (x:zA) (c:zA):Ct Tryz.prog 86 [zC x,V.fptr [zC c] 0 0] (V.b (jo x c)):=by
 refine zV ZR rfl ?_
 generalize hM:jo x c=r
 unfold jo at hM
 refine au 5 ?_
 refine X.mid [(3,V.b ((decide (x.From=c.From))&&(decide (x.Round=c.Round))))] ?_ ?_
 ·intro hg
  refine X.split (decide (x.From=c.From)) (fun h_1=>?_) (fun h_1=>?_)
  ·refine au 14 ?_
   exact X.ng hg rfl (by simp only [h_1,X.bb])
  refine au 14 ?_
  exact X.ng hg rfl (by simp only [h_1,X.bb])
 subst hM
 exact X.rt
theorem JJ {s:(List zA)} {c:zA} {r:Int} (hM:ZH s c=some r):Ct Tryz.prog 87 [V.sl (List.map zC s),V.fn 86 [V.fptr [zC c] 0 0]] (V.i r):=by
 refine zV ZR rfl ?_
 unfold ZH at hM
 refine au 9 ?_
 refine X.join (τ:=Unit) (fun v=>ze=some r) (fun v=>⟨[],[],0,none,19⟩) ?_ ?_
 ·intro _ hM
  replace hM:ze=some r:=hM
  unfold ze at hM
  refine au 3 ?_
  cases hM
  exact X.rt
 intro hj_1
 refine au 1 ?_
 refine X.gx [] (X.loop (σ:=Int) (fun v=>⟨[(0,V.sl (List.map zC s)),(1,V.fn 86 [V.fptr [zC c] 0 0]),(7,(V.i (s.length:Int))),(8,V.i v)],[],0,none,19⟩) hM ?_ rfl)
 intro x1 b_1 hM hc_2 hr_1
 rw [zx] at hM
 refine au 3 ?_
 refine GS.seq ?_
 refine X.cm hM (fun h_1 hM=>?_) (fun h_1 hM=>?_)
 ·obtain ⟨x,h_2,hM⟩:=zK hM
  refine au 13 ?_
  refine X.ca (zAz x c) ?_
  refine GS.za ?_
  refine X.cm hM (fun h_3 hM=>?_) (fun h_3 hM=>?_)
  ·refine au 4 ?_
   have hE:=Option.some.inj hM
   replace hE:=hr_1 _ hE.symm
   subst hE
   exact X.rt
  refine au 6 ?_
  have hE:=Option.some.inj hM
  exact X.gx [] (hc_2 (w64 (x1+1)) hE.symm)
 obtain ⟨y_1,hM,hy⟩:=J9 hM
 rw [hr_1 _ hy.symm] at hM
 refine au 1 ?_
 exact X.gx [] (hj_1 () hM)
theorem jy {s:(List zA)} {c:zA} {r:Bool} (hM:zg s c=some r):Ct Tryz.prog 84 [V.sl (List.map zC s),V.fn 86 [V.fptr [zC c] 0 0]] (V.b r):=by
 refine zV ZR rfl ?_
 unfold zg at hM
 obtain ⟨y,h_1,hM⟩:=zK hM
 refine au 6 ?_
 refine X.ca (JJ h_1) ?_
 refine au 3 ?_
 cases hM
 exact X.rt
abbrev zJ (x:zB):V:=.agg [V.i x.Case,V.i x.Round,V.i x.Finding]
abbrev ZN : FK zB (List (Int×Bool)):=fkM zJ (fun _ _ _=>rfl) V.i V.b (fun _ _ _=>rfl) (fun _ _ _=>rfl)
theorem yC (a b:zB):QC (zJ a) (zJ b)=some (decide (a=b)):=by
 have h:QC (zJ a) (zJ b)=some (decide ([(IntKind.i64,a.Case),(IntKind.i64,a.Round),(IntKind.i64,a.Finding)]=[(IntKind.i64,b.Case),(IntKind.i64,b.Round),(IntKind.i64,b.Finding)])):=rfl
 rw [h]
 congr 1
 cases a
 cases b
 simp
theorem zAy (x:Int):Ct Tryz.prog 93 [V.i x] (V.b (cmp_isNaN_int x)):=by
 refine zV ZR rfl ?_
 generalize hM:cmp_isNaN_int x=r
 unfold cmp_isNaN_int at hM
 refine au 9 ?_
 subst hM
 exact X.rt
theorem Je (x:Int) (y:Int):Ct Tryz.prog 61 [V.i x,V.i y] (V.i (cmp_Compare_int x y)):=by
 refine zV ZR rfl ?_
 generalize hM:cmp_Compare_int x y=r
 unfold cmp_Compare_int at hM
 refine au 5 ?_
 refine X.ca (zAy x) ?_
 refine au 4 ?_
 refine X.ca (zAy y) ?_
 refine au 6 ?_
 refine X.cm hM (fun h_1 hM=>?_) (fun h_1 hM=>?_)
 ·refine au 4 ?_
  refine X.cm hM (fun h_2 hM=>?_) (fun h_2 hM=>?_)
  ·refine au 3 ?_
   subst hM
   exact X.rt
  refine au 4 ?_
  subst hM
  exact X.rt
 refine au 5 ?_
 refine X.cm hM (fun h_3 hM=>?_) (fun h_3 hM=>?_)
 ·refine au 3 ?_
  subst hM
  exact X.rt
 refine au 7 ?_
 refine X.cm hM (fun h_4 hM=>?_) (fun h_4 hM=>?_)
 ·refine au 3 ?_
  subst hM
  exact X.rt
 refine au 7 ?_
 refine X.cm hM (fun h_5 hM=>?_) (fun h_5 hM=>?_)
 ·refine au 3 ?_
  subst hM
  exact X.rt
 refine au 4 ?_
 subst hM
 exact X.rt
theorem zDH {vals:(List Int)} {r:Int} (hM:Qc vals=some r):Ct Tryz.prog 60 [V.sl (List.map V.i vals)] (V.i r):=by
 refine zV ZR rfl ?_
 unfold Qc at hM
 refine au 12 ?_
 refine X.join (τ:=Unit) (fun v=>yh=some r) (fun v=>⟨[(3,V.i 0)],[],0,none,18⟩) ?_ ?_
 ·intro _ hM
  replace hM:yh=some r:=hM
  unfold yh at hM
  refine au 4 ?_
  cases hM
  exact X.rt
 intro hj_1
 refine au 1 ?_
 refine X.gx [] (X.loop (σ:=Int) (fun v=>⟨[(3,V.i 0),(6,V.sl (List.map V.i vals)),(7,(V.i (vals.length:Int))),(8,V.i v)],[],0,none,18⟩) hM ?_ rfl)
 intro x1 b_1 hM hc_2 hr_1
 rw [zX] at hM
 refine au 3 ?_
 refine GS.seq ?_
 refine X.cm hM (fun h_1 hM=>?_) (fun h_1 hM=>?_)
 ·obtain ⟨x,h_2,hM⟩:=zK hM
  refine au 13 ?_
  refine X.cm hM (fun h_3 hM=>?_) (fun h_3 hM=>?_)
  ·refine au 4 ?_
   have hE:=Option.some.inj hM
   replace hE:=hr_1 _ hE.symm
   subst hE
   exact X.rt
  refine au 6 ?_
  have hE:=Option.some.inj hM
  exact X.gx [] (hc_2 (w64 (x1+1)) hE.symm)
 obtain ⟨y_1,hM,hy⟩:=J9 hM
 rw [hr_1 _ hy.symm] at hM
 refine au 1 ?_
 exact X.gx [] (hj_1 () hM)
theorem zE9 {a:zB} {b:zB} {r:Int} (hM:Qi a b=some r):Ct Tryz.prog 95 [zJ a,zJ b] (V.i r):=by
 refine zV ZR rfl ?_
 unfold Qi at hM
 obtain ⟨y,h_1,hM⟩:=zK hM
 refine au 5 ?_
 refine GS.seq ?_
 refine X.draw (by kernel_rfl) ?_
 refine au 4 ?_
 refine X.dca (Je a.Case b.Case) ?_
 refine au 4 ?_
 refine X.dca (Je a.Round b.Round) ?_
 refine au 4 ?_
 refine X.dca (Je a.Finding b.Finding) ?_
 refine X.dbld rfl rfl rfl rfl rfl (by kernel_rfl) rfl ?_
 refine X.dca (zDH h_1) ?_
 refine au 2 ?_
 refine X.norm [(4,V.i y)] ?_ rfl (sr rfl)
 cases hM
 exact X.rt
section
open Go.Wk Go.RowKit Go.Shelf
def zOi (x:zB):List Value:=[.int .i64 x.Case,.int .i64 x.Round,.int .i64 x.Finding]
theorem flatRul : X.Flat1 zOi 3 zJ:=by
 refine ⟨fun _=>rfl,fun x v hv=>?_,fun _=>rfl,fun x v hv c=>?_⟩ <;> simp only [zOi,List.mem_cons,List.not_mem_nil,or_false] at hv <;> rcases hv with rfl | rfl | rfl <;> first | rfl | (intro h; cases h)
def zOv (x y:zB):Int:=if cmp_Compare_int x.Case y.Case=0 then (if cmp_Compare_int x.Round y.Round=0 then cmp_Compare_int x.Finding y.Finding else cmp_Compare_int x.Round y.Round) else cmp_Compare_int x.Case y.Case
theorem cmpI (a b:Int):cmp_Compare_int a b=if a<b then -1 else if b<a then 1 else 0:=by
 unfold cmp_Compare_int cmp_isNaN_int
 simp
theorem ltRul (x y:zB):decide (zOv x y<0)=zQ x y:=by
 have h:∀ a b:Int,(cmp_Compare_int a b=0↔a=b)∧(cmp_Compare_int a b<0↔a<b):=fun a b=>by
  rw [cmpI]
  by_cases h1:a<b
  ·rw [if_pos h1]; exact ⟨⟨fun h=>by omega,fun h=>by omega⟩,⟨fun _=>h1,fun _=>by omega⟩⟩
  ·rw [if_neg h1]
   by_cases h2:b<a
   ·rw [if_pos h2]; exact ⟨⟨fun h=>by omega,fun h=>by omega⟩,⟨fun h=>by omega,fun h=>by omega⟩⟩
   ·rw [if_neg h2]; exact ⟨⟨fun h=>by omega,fun h=>by omega⟩,⟨fun h=>by omega,fun h=>by omega⟩⟩
 unfold zOv zQ
 rw [Bool.eq_iff_iff,decide_eq_true_eq]
 by_cases c1:x.Case=y.Case
 ·rw [if_pos ((h _ _).1.2 c1)]
  by_cases c2:x.Round=y.Round
  ·rw [if_pos ((h _ _).1.2 c2),(h _ _).2]
   simp [c1,c2]
  ·rw [if_neg (fun e=>c2 ((h _ _).1.1 e)),(h _ _).2]
   simp [c1,c2]
 ·rw [if_neg (fun e=>c1 ((h _ _).1.1 e)),(h _ _).2]
  simp [c1]
theorem zKe : Go.Sort.SWO zQ:=⟨fun x=>by unfold zQ; simp,fun x y z h1 h2=>by unfold zQ at *; simp at *; omega,fun x y z h1 h2=>by unfold zQ at *; simp at *; omega⟩
theorem cmpRul (x y:zB):Qi x y=some (zOv x y):=by
 have key:∀ (a b c:Int) (m:Nat),Lp (zX [a,b,c]) (m+4) 0=some (if a=0 then (if b=0 then c else b) else a):=fun a b c m=>by
  by_cases h1:a=0
  ·have e0:zX [a,b,c] 0=some (.inl 1):=by simp [zX,ix,w64,h1]
   rw [zCt _ e0,if_pos h1]
   by_cases h2:b=0
   ·have e1:zX [a,b,c] 1=some (.inl 2):=by simp [zX,ix,w64,h2]
    rw [zCt _ e1,if_pos h2]
    by_cases h3:c=0
    ·have e2:zX [a,b,c] 2=some (.inl 3):=by simp [zX,ix,w64,h3]
     have e3:zX [a,b,c] 3=some (.inr 0):=by simp [zX,yh]
     rw [zCt _ e2,zAN _ e3,h3]
    ·have e2:zX [a,b,c] 2=some (.inr c):=by simp [zX,ix,h3]
     rw [zAN _ e2]
   ·have e1:zX [a,b,c] 1=some (.inr b):=by simp [zX,ix,h2]
    rw [zAN _ e1,if_neg h2]
  ·have e0:zX [a,b,c] 0=some (.inr a):=by simp [zX,ix,h1]
   rw [zAN _ e0,if_neg h1]
 have h:=key (cmp_Compare_int x.Case y.Case) (cmp_Compare_int x.Round y.Round) (cmp_Compare_int x.Finding y.Finding) 18446744073709551612
 unfold Qi Qc
 show Option.bind (Lp _ (18446744073709551612+4) 0) _=_
 rw [h]; rfl
theorem yj : X.zHE Tryz.prog 94 95 3 zJ zQ:=X.zHT Tryz.sortCl rfl (by decide) Tryz.isAgg69 Tryz.sizeOf69 flatRul ltRul zKe (enters_of Tryz.func94 (by kernel_rfl) rfl) (fun x y=>zE9 (cmpRul x y))
end
theorem Yr (c:zD):zI7 (Zg c) List.Perm:=by
 refine ⟨fun _=>List.Perm.refl _,fun _ _ _ h1 h2=>h1.trans h2,?_,?_⟩
 ·rintro ⟨k,v⟩ s s' t hp h
  unfold Zg ZY at h ⊢
  obtain ⟨y,h1,h⟩:=zK h
  rw [h1]
  simp only [Option.bind_some]
  by_cases c:decide (y≤(v.length:Int))=true
  ·rw [if_pos c] at h ⊢
   obtain ⟨r,h2,h⟩:=zK h
   obtain ⟨h3,rfl⟩:=yS h2
   simp only [Option.some.injEq] at h
   subst h
   refine ⟨s'++[k],?_,hp.append_right [k]⟩
   unfold app
   rw [if_pos (by rw [← hp.length_eq]; exact h3)]
   rfl
  ·rw [if_neg c] at h ⊢
   simp only [Option.some.injEq] at h
   subst h
   exact ⟨s',rfl,hp⟩
 ·rintro ⟨k,v⟩ ⟨k',v'⟩ s t u h h'
  unfold Zg ZY at h h' ⊢
  obtain ⟨y,h1,h⟩:=zK h
  rw [h1] at h'
  rw [h1]
  simp only [Option.bind_some] at h' ⊢
  by_cases c:decide (y≤(v.length:Int))=true
  ·rw [if_pos c] at h
   obtain ⟨r,h2,h⟩:=zK h
   obtain ⟨h3,rfl⟩:=yS h2
   simp only [Option.some.injEq] at h
   subst h
   by_cases c':decide (y≤(v'.length:Int))=true
   ·rw [if_pos c'] at h' ⊢
    obtain ⟨r,h4,h'⟩:=zK h'
    obtain ⟨h5,rfl⟩:=yS h4
    simp only [Option.some.injEq] at h'
    subst h'
    simp only [List.length_append,List.length_singleton] at h3 h5
    refine ⟨s++[k'],s++[k']++[k],?_,?_,?_⟩
    ·unfold app; rw [if_pos (by simp only [List.length_singleton]; omega)]; rfl
    ·rw [if_pos c]; unfold app; rw [if_pos (by simp only [List.length_append,List.length_singleton]; omega)]; rfl
    ·rw [List.append_assoc,List.append_assoc]; exact List.Perm.append_left s (List.Perm.swap k' k [])
   ·rw [if_neg c'] at h' ⊢
    simp only [Option.some.injEq] at h'
    subst h'
    refine ⟨s,s++[k],rfl,?_,List.Perm.refl _⟩
    rw [if_pos c]; unfold app; rw [if_pos h3]; rfl
  ·rw [if_neg c] at h
   simp only [Option.some.injEq] at h
   subst h
   by_cases c':decide (y≤(v'.length:Int))=true
   ·rw [if_pos c'] at h' ⊢
    obtain ⟨r,h4,h'⟩:=zK h'
    obtain ⟨h5,rfl⟩:=yS h4
    simp only [Option.some.injEq] at h'
    subst h'
    refine ⟨s++[k'],s++[k'],?_,?_,List.Perm.refl _⟩
    ·unfold app; rw [if_pos h5]; rfl
    ·rw [if_neg c]
   ·rw [if_neg c'] at h' ⊢
    simp only [Option.some.injEq] at h'
    subst h'
    exact ⟨s,s,rfl,by rw [if_neg c],List.Perm.refl _⟩
theorem sorted_perm {l l':List zB} (hp:l.Perm l'):srtF zQ l=srtF zQ l':=by
 obtain ⟨p1,s1⟩:=qG zKe l
 obtain ⟨p2,s2⟩:=qG zKe l'
 refine List.Perm.eq_of_pairwise (le:=fun x y=>zQ y x=false) (fun a b _ _ h1 h2=>?_) s1 s2 ((p1.trans hp).trans p2.symm)
 unfold zQ at h1 h2
 simp at h1 h2
 obtain ⟨a1,a2,a3⟩:=a
 obtain ⟨b1,b2,b3⟩:=b
 simp only at h1 h2
 have e1:a1=b1:=by omega
 subst e1
 have e2:a2=b2:=by
  have:=h1.2 rfl
  have:=h2.2 rfl
  omega
 subst e2
 have e3:a3=b3:=by
  have:=(h1.2 rfl).2 rfl
  have:=(h2.2 rfl).2 rfl
  omega
 subst e3
 rfl
theorem QD {l l' r:List zB} (hp:l.Perm l') (h:Zo l=some r):Zo l'=some r:=by
 unfold Zo Zp zDB at h ⊢
 rw [hp.length_eq,sorted_perm hp] at h
 exact h
set_option maxHeartbeats 4000000 in
theorem zDa {c:zD} {l:(List zA)} {r:(List zB)} (hM:ZW c l=some r):Ct Tryz.prog 63 [zG c,V.sl (List.map zC l)] (V.sl (List.map zJ r)):=by
 refine zV ZR rfl ?_
 unfold ZW at hM
 refine X.sq ?_
 refine X.opW rfl rfl rfl rfl (X.q rfl (X.nq ?_))
 refine X.opW (H':=([.rows 1 [zG c],famM ZN 2 []]++famB ZN [])) rfl rfl rfl rfl (X.q rfl (GS.za (GS.seq (X.sq (X.q rfl ?_)))))
 refine X.opR rfl (X.lenF rfl rfl rfl) rfl (X.q rfl (GS.za ?_))
 refine X.join (τ:=(List (zB×(List (Int×Bool))))) (fun v=>Z6 c v=some r) (fun v=>⟨[(2,V.ptr 0 0 0),(5,V.map 1)],[.rows 1 [zG c],famM ZN 2 v]++famB ZN v,0,none,61⟩) ?_ ?_
 ·intro m hM
  replace hM:Z6 c m=some r:=hM
  unfold Z6 at hM
  refine X.sq (X.q rfl (GS.za ?_))
  iterate 2 refine GS.seq ?_
  refine GS.zL0 (K':=[(2,V.fptr [zG c] 0 0),(5,(V.fmap (List.map (fun p:zB×(List (Int×Bool))=>zJ p.1) m) (List.map (fun p:zB×(List (Int×Bool))=>(fun l=>V.fmap (List.map (fun p=>V.i p.1) l) (List.map (fun p=>V.b p.2) l)) p.2) m))),(9,V.nil)]) (X.zF2 rfl ⟨30,rfl⟩ (X.zF2 rfl (X.frM rfl rfl (fun _ _=>rfl) (fun _ _=>rfl) (fun _ _=>rfl)) (X.zOU rfl X.zOT))) (GS.region ?_)
  refine X.q rfl ?_
  refine X.opW (H':=[.iter (List.map (fun p:zB×(List (Int×Bool))=>zJ p.1) m) (List.map (fun p:zB×(List (Int×Bool))=>(fun l=>V.fmap (List.map (fun p=>V.i p.1) l) (List.map (fun p=>V.b p.2) l)) p.2) m) (idxs 0 (List.length (List.map (fun p:zB×(List (Int×Bool))=>zJ p.1) m))) none]) rfl rfl rfl rfl (GS.za ?_)
  refine X.join (τ:=(List zB)) (fun v=>Zp v=some r) (fun v=>⟨[(9,ovl 0 v)],[obl 3 zJ v],0,none,61⟩) ?_ ?_
  ·intro l1 hM
   replace hM:Zp l1=some r:=hM
   unfold Zp at hM
   refine GS.seq ?_
   obtain ⟨l2,h_1,hM⟩:=zK hM
   refine GS.region (X.q rfl ?_)
   refine X.norm [(9,ovl 0 l1),(58,ovl 0 l1)] ?_ rfl (sr rfl)
   refine X.zNS (z:=true) h_1 yj (fun _ _ _ h=>h) (K':=[(9,ovl 0 l2),(58,ovl 0 l2)]) (H':=[obl 3 zJ l2]) rfl rfl rfl rfl rfl rfl ?_ ?_ ?_
   ·first | rfl | rw [X.Y7 (X.Ji yj.swo h_1)] | simp only [ovl,X.Y7 (X.Ji yj.swo h_1)] | simp only [X.Ji yj.swo h_1]
   ·first | rfl | (simp only [hput]; rfl) | (simp only [ovl,obl]; rw [X.Y7 (X.Ji yj.swo h_1)] <;> rfl)
   refine X.nq (X.q rfl (X.q rfl ?_))
   refine GS.za ?_
   have hE:=Option.some.inj hM
   subst hE
   exact GS.ret ⟨_,rfl,FR.ovl (f:=zJ) (l:=l2) 9 rfl rfl (fun _=>rfl)⟩
  intro hj_2
  refine GS.block ?_
  obtain ⟨vE_3,hF_3,hM⟩:=zK hM
  refine X.gc [none,some 0] (X.zNd (ga:=zJ) (gb:=(fun l=>V.fmap (List.map (fun p=>V.i p.1) l) (List.map (fun p=>V.b p.2) l))) (f0:=Zg c) (fun v left last=>⟨[(2,V.fptr [zG c] 0 0),(9,ovl 0 v),(43,V.ptr 1 0 0)],[obl 3 zJ v,.iter (List.map (fun p:zB×(List (Int×Bool))=>zJ p.1) m) (List.map (fun p:zB×(List (Int×Bool))=>(fun l=>V.fmap (List.map (fun p=>V.i p.1) l) (List.map (fun p=>V.b p.2) l)) p.2) m) left last],0,none,61⟩) hF_3 (Yr c) ?_ ?_ rfl) rfl rfl rfl (ga rfl rfl) (gb_pad' rfl (X.zAT rfl rfl ZT))
  ·intro l5 left last hne_3 hs_3
   refine X.sq ?_
   refine X.next rfl rfl rfl rfl rfl (fun e=>absurd e hne_3) (fun j_3 kv_3 vv_3 hj_3 hk_3 hv_3=>?_)
   obtain ⟨⟨k,v_⟩,w_3,rfl,rfl,hM,hc_3⟩:=hs_3 j_3 kv_3 vv_3 hj_3 hk_3 hv_3
   unfold Zg at hM
   refine X.q rfl (GS.za (GS.seq ?_))
   refine GS.zCZ rfl (GS.skip ?_)
   refine X.join (τ:=(List zB)) (fun v=>ZY v=some w_3) (fun v=>⟨[(2,V.fptr [zG c] 0 0),(9,ovl 0 v),(43,V.ptr 1 0 0)],[obl 3 zJ v,.iter (List.map (fun p:zB×(List (Int×Bool))=>zJ p.1) m) (List.map (fun p:zB×(List (Int×Bool))=>(fun l=>V.fmap (List.map (fun p=>V.i p.1) l) (List.map (fun p=>V.b p.2) l)) p.2) m) (List.filter (fun i=>decide (i≠j_3)) left) (some j_3)],0,none,61⟩) ?_ ?_
   ·intro l3 hM
    replace hM:ZY l3=some w_3:=hM
    unfold ZY at hM
    have hE:=Option.some.inj hM
    subst hE
    exact X.gc [some 0,some 1] hc_3 rfl rfl rfl (zU rfl ⟨9,rfl⟩ (zU rfl (yO rfl) (ga rfl rfl))) (yD 9 rfl rfl (fun _=>rfl) (X.zAT rfl rfl ZT))
   intro hj_4
   refine GS.block (X.sq ?_)
   refine X.entry rfl rfl rfl hk_3 hv_3 rfl (X.q rfl (X.q rfl ?_))
   refine X.opW rfl rfl rfl rfl ?_
   refine X.op0W rfl rfl rfl (X.q rfl (GS.za (GS.seq ?_)))
   obtain ⟨y,h_2,hM⟩:=zK hM
   refine GS.region (X.q rfl ?_)
   refine X.opR rfl (X.lenMF rfl rfl rfl) rfl (X.q rfl ?_)
   refine X.call (jD h_2) rfl rfl rfl (.cons (.shut (n:=9) rfl) .nil) (X.q rfl (GS.za ?_))
   refine X.cond rfl (fun h_3=>?_) (fun h_3=>?_)
   ·replace hM:=zEN h_3 hM
    obtain ⟨l4,h_4,hM⟩:=zK hM
    refine GS.region (X.q rfl (X.q rfl ?_))
    refine X.opW (H':=[obl 3 zJ l5,.iter (List.map (fun p:zB×(List (Int×Bool))=>zJ p.1) m) (List.map (fun p:zB×(List (Int×Bool))=>(fun l=>V.fmap (List.map (fun p=>V.i p.1) l) (List.map (fun p=>V.b p.2) l)) p.2) m) (List.filter (fun i=>decide (i≠j_3)) left) (some j_3),.rows 3 [zJ k],.rows 3 (List.map zJ ([k]))]) rfl rfl rfl rfl ?_
    refine X.appN (f:=zJ) h_4 (fun _=>rfl) (by rfl) (by rfl) (by rfl) (by rfl) (by rfl) (by rfl) (by rfl) (by rfl) (by rfl) (by rfl) (by rfl) (by exact rfl) (by rfl) (by rfl) (X.q rfl (GS.za ?_))
    refine GS.endB ?_
    exact X.gc [some 4,some 1] (hj_4 l4 hM) rfl rfl rfl (zU rfl ⟨9,rfl⟩ (zU rfl (zNX (zFY h_4) rfl) (ga rfl rfl))) (gb_obl' 9 (zFY h_4) rfl rfl (fun _=>rfl) (X.zAT rfl rfl ZT))
   replace hM:=zEO h_3 hM
   refine GS.skip ?_
   refine GS.endB ?_
   exact X.gc [some 0,some 1] (hj_4 l5 hM) rfl rfl rfl (zU rfl ⟨9,rfl⟩ (zU rfl (yO rfl) (ga rfl rfl))) (yD 9 rfl rfl (fun _=>rfl) (X.zAT rfl rfl ZT))
  intro l5 last hrel_3
  replace hM:Zo l5=some r:=QD hrel_3 hM
  unfold Zo at hM
  refine X.sq ?_
  refine X.next rfl rfl rfl rfl rfl (fun _=>?_) (fun j_ kv_ vv_ hj_=>absurd hj_ List.not_mem_nil)
  refine X.q rfl (GS.za (GS.seq ?_))
  refine GS.zCa rfl ?_
  refine GS.exit rfl ?_
  exact X.gc [some 0] (hj_2 l5 hM) rfl rfl rfl (zU rfl (yO rfl) QY) (yD 9 rfl rfl (fun _=>rfl) ZT)
 intro hj_1
 refine GS.block ?_
 refine X.zAS 2 2 1 1 [some 0,some 1] (P0:=[.rows 1 [zG c],.dead]) rfl (X.loop (σ:=(Int×(List (zB×(List (Int×Bool)))))) (fun v=>⟨[(2,V.ptr 0 0 0),(5,V.map 1),(13,V.sl (List.map zC l)),(14,(V.i (l.length:Int))),(15,V.i v.1)],[.rows 1 [zG c],famM ZN 2 v.2]++famB ZN v.2,0,none,61⟩) hM ?_ rfl) rfl rfl rfl rfl (ga rfl rfl) (gb9 rfl rfl rfl (jU ZT)) rfl rfl rfl rfl rfl
 rintro ⟨x1,m4⟩ b_1 hM hc_6 hr_1
 rw [Jg] at hM
 refine X.sq (X.q rfl (GS.za (GS.seq ?_)))
 refine X.cond rfl (fun h_5=>?_) (fun h_5=>?_)
 ·replace hM:=zEN h_5 hM
  refine GS.skip (GS.seq ?_)
  refine X.join (τ:=(List (zB×(List (Int×Bool))))) (fun v=>Zn x1 v=some b_1) (fun v=>⟨[(2,V.ptr 0 0 0),(5,V.map 1),(13,V.sl (List.map zC l)),(14,(V.i (l.length:Int))),(15,V.i x1)],[.rows 1 [zG c],famM ZN 2 v]++famB ZN v,0,none,61⟩) ?_ ?_
  ·intro m1 hM
   replace hM:Zn x1 m1=some b_1:=hM
   unfold Zn at hM
   refine GS.region ?_
   refine X.opR rfl (X.addE rfl rfl) rfl (X.q rfl (GS.za ?_))
   have hE:=Option.some.inj hM
   exact X.zAS 2 2 1 1 [some 0,some 1] (P0:=[.rows 1 [zG c],.dead]) rfl (hc_6 (w64 (x1+1),m1) hE.symm) rfl rfl rfl rfl (ga rfl rfl) (gb9 rfl rfl rfl (jU ZT)) rfl rfl rfl rfl rfl
  intro hj_7
  refine GS.block (GS.seq ?_)
  obtain ⟨x,h_6,hM⟩:=zK hM
  refine GS.region ?_
  refine X.opR rfl (X.zBV (f:=zC) h_6 (fun _=>rfl) rfl rfl rfl rfl) rfl ?_
  refine X.opR rfl (X.zEK h_6 rfl rfl rfl) rfl ?_
  refine X.zEW (F:=ZN) (A:=m4) (P0:=[.rows 1 [zG c],.dead]) (P2:=[.rows 1 [zG c],famM ZN 3 m4,.rows 8 [V.agg [V.i 0,V.i 0,V.i 0,V.i 0,V.i 0,V.i 0,V.i 0,V.i 0]]]) 2 1 [some 0,some 1] [(2,V.ptr 0 0 0),(5,V.map 1),(13,V.sl (List.map zC l)),(14,(V.i (l.length:Int))),(15,V.i x1),(18,zC x)] rfl (fun _ _=>rfl) (by intro h; cases h) rfl rfl rfl rfl rfl rfl rfl rfl rfl rfl rfl (zU rfl ⟨9,rfl⟩ (zU rfl ⟨9,rfl⟩ (zU rfl ⟨9,rfl⟩ (zU rfl ⟨9,rfl⟩ (zU rfl ⟨9,rfl⟩ (zU rfl ⟨9,rfl⟩ QY)))))) (QZ rfl rfl ⟨9,rfl⟩ (jU ZT)) rfl ?_
  refine X.op0W (H':=([.rows 1 [zG c],famM ZN 3 m4,.rows 8 [zC x]]++famB ZN m4)) rfl rfl rfl (GS.za (GS.seq (X.sq (X.q rfl (X.q rfl (X.q rfl ?_))))))
  refine GS.za ?_
  refine X.cond rfl (fun h_7=>?_) (fun h_7=>?_)
  ·replace hM:=zEN h_7 hM
   refine GS.exit rfl ?_
   exact X.zAS 3 2 1 1 [some 0,some 1] (P0:=[.rows 1 [zG c],.dead]) rfl (hj_7 m4 hM) rfl rfl rfl rfl (ga rfl rfl) (gb9 rfl rfl rfl (jU ZT)) rfl rfl rfl rfl rfl
  replace hM:=zEO h_7 hM
  refine GS.skip (X.sq ?_)
  iterate 7 refine X.q rfl ?_
  refine X.zEW (F:=ZN) (A:=m4) (P0:=[.rows 1 [zG c],.dead,.rows 8 [zC x]]) (P2:=[.rows 1 [zG c],famM ZN 4 m4,.rows 8 [zC x],.rows 3 [V.agg [V.i 0,V.i 0,V.i 0]]]) 3 1 [some 0,some 1,some 2] [(2,V.ptr 0 0 0),(5,V.map 1),(7,V.ptr 2 0 0),(13,V.sl (List.map zC l)),(14,(V.i (l.length:Int))),(15,V.i x1),(28,V.agg [V.i x.Case,V.i x.Round,V.i x.Finding])] rfl (fun _ _=>rfl) (by intro h; cases h) rfl rfl rfl rfl rfl rfl rfl rfl rfl rfl rfl (zU rfl ⟨9,rfl⟩ (zU rfl ⟨9,rfl⟩ (zU rfl ⟨9,rfl⟩ (zU rfl ⟨9,rfl⟩ (zU rfl ⟨9,rfl⟩ (zU rfl ⟨9,rfl⟩ (zU rfl ⟨9,rfl⟩ QY))))))) (QZ rfl rfl ⟨9,rfl⟩ (jU (QZ rfl rfl ⟨9,rfl⟩ ZT))) rfl ?_
  refine X.op0W (H':=([.rows 1 [zG c],famM ZN 4 m4,.rows 8 [zC x],.rows 3 [V.agg [V.i x.Case,V.i x.Round,V.i x.Finding]]]++famB ZN m4)) rfl rfl rfl (GS.za (GS.seq (X.sq (X.q rfl (X.q rfl ?_)))))
  refine X.opR rfl (X.zEV (F:=ZN) (A:=m4) (b:=4) (k0:=(⟨x.Case,x.Round,x.Finding⟩:zB)) yC rfl rfl rfl rfl rfl rfl) rfl ?_
  refine X.opR rfl (X.zOc rfl rfl rfl rfl) rfl (GS.za ?_)
  refine X.join (τ:=(List (zB×(List (Int×Bool))))) (fun v=>Zm x1 x v=some b_1) (fun v=>⟨[(2,V.ptr 0 0 0),(5,V.map 1),(7,V.ptr 2 0 0),(8,V.ptr 3 0 0),(13,V.sl (List.map zC l)),(14,(V.i (l.length:Int))),(15,V.i x1)],[.rows 1 [zG c],famM ZN 4 v,.rows 8 [zC x],.rows 3 [V.agg [V.i x.Case,V.i x.Round,V.i x.Finding]]]++famB ZN v,0,none,61⟩) ?_ ?_
  ·intro m2 hM
   replace hM:Zm x1 x m2=some b_1:=hM
   unfold Zm at hM
   refine X.zKG 5 rfl (by kernel_rfl) (by kernel_rfl) rfl ?_
   iterate 2 refine X.dop rfl rfl rfl rfl (by kernel_rfl) rfl rfl ?_
   refine X.dop rfl (X.zEV (F:=ZN) (A:=m2) (b:=4) (k0:=(⟨x.Case,x.Round,x.Finding⟩:zB)) yC rfl rfl rfl rfl rfl rfl) rfl rfl (by kernel_rfl) rfl rfl ?_
   iterate 2 refine X.dop rfl rfl rfl rfl (by kernel_rfl) rfl rfl ?_
   refine X.dnil ?_
   refine X.norm [(2,V.ptr 0 0 0),(5,V.map 1),(13,V.sl (List.map zC l)),(14,(V.i (l.length:Int))),(15,V.i x1),(38,(Q9 ZN 4 m2 (⟨x.Case,x.Round,x.Finding⟩:zB))),(40,V.i x.From)] ?_ rfl (sr rfl)
   obtain ⟨m3,h_8,hM⟩:=zK hM
   refine X.famIn (P:=[.rows 1 [zG c],famM ZN 4 m2,.rows 8 [zC x],.rows 3 [V.agg [V.i x.Case,V.i x.Round,V.i x.Finding]]]) (b:=4) (g:=zJ) (f1:=V.i) (f2:=V.b) (A:=m2) (a:=x.From) (c:=true) (pos0:=posE) (pos1:=posI) (P2:=[.rows 1 [zG c],famM ZN 4 (putM posE m2 (⟨x.Case,x.Round,x.Finding⟩:zB) (putM posI m3 x.From true)),.rows 8 [zC x],.rows 3 [V.agg [V.i x.Case,V.i x.Round,V.i x.Finding]]]) 1 h_8 X.jK (X.Jk _) rfl rfl rfl rfl rfl rfl rfl rfl rfl rfl (GS.za ?_)
   refine GS.endB ?_
   exact X.zAS 4 2 1 1 [some 0,some 1] (P0:=[.rows 1 [zG c],.dead]) rfl (hj_7 (putM posE m2 (⟨x.Case,x.Round,x.Finding⟩:zB) (putM posI m3 x.From true)) hM) rfl rfl rfl rfl (ga rfl rfl) (gb9 rfl rfl rfl (jU ZT)) rfl rfl rfl rfl rfl
  intro hj_8
  refine X.cond rfl (fun h_9=>?_) (fun h_9=>?_)
  ·replace hM:=zEN h_9 hM
   refine GS.region (X.q rfl (X.q rfl ?_))
   refine X.opW (H':=([.rows 1 [zG c],famM ZN 4 m4,.rows 8 [zC x],.rows 3 [V.agg [V.i x.Case,V.i x.Round,V.i x.Finding]]]++famB ZN m4)++[.map [] []]) rfl rfl X.zAu rfl ?_
   refine X.zH5 (F:=ZN) (A:=m4) (pos0:=posE) (P0:=[.rows 1 [zG c],.dead,.rows 8 [zC x],.rows 3 [V.agg [V.i x.Case,V.i x.Round,V.i x.Finding]]]) (P2:=[.rows 1 [zG c],famM ZN 4 (putM posE m4 (⟨x.Case,x.Round,x.Finding⟩:zB) []),.rows 8 [zC x],.rows 3 [V.agg [V.i x.Case,V.i x.Round,V.i x.Finding]]]) (x0:=[]) 4 1 [some 0,some 1,some 2,some 3] [(2,V.ptr 0 0 0),(5,V.map 1),(7,V.ptr 2 0 0),(8,V.ptr 3 0 0),(13,V.sl (List.map zC l)),(14,(V.i (l.length:Int))),(15,V.i x1)] rfl yC (fun l=>(X.zFK _ _).trans (List.length_map ..)) rfl rfl rfl rfl rfl rfl rfl rfl rfl rfl rfl rfl rfl rfl rfl (zU rfl ⟨9,rfl⟩ (zU rfl ⟨9,rfl⟩ (zU rfl ⟨9,rfl⟩ (zU rfl ⟨9,rfl⟩ (zU rfl ⟨9,rfl⟩ (zU rfl ⟨9,rfl⟩ (zU rfl ⟨9,rfl⟩ QY))))))) (QZ rfl rfl ⟨9,rfl⟩ (jU (QZ rfl rfl ⟨9,rfl⟩ (QZ rfl rfl ⟨9,rfl⟩ ZT)))) rfl (GS.za ?_)
   exact X.zAS 4 4 1 1 [some 0,some 1,some 2,some 3] (P0:=[.rows 1 [zG c],.dead,.rows 8 [zC x],.rows 3 [V.agg [V.i x.Case,V.i x.Round,V.i x.Finding]]]) rfl (hj_8 (putM posE m4 (⟨x.Case,x.Round,x.Finding⟩:zB) []) hM) rfl rfl rfl rfl (ga rfl rfl) (gb9 rfl rfl rfl (jU (gb9 rfl rfl rfl (gb9 rfl rfl rfl ZT)))) rfl rfl rfl rfl rfl
  replace hM:=zEO h_9 hM
  refine GS.skip ?_
  exact X.zAS 4 4 1 1 [some 0,some 1,some 2,some 3] (P0:=[.rows 1 [zG c],.dead,.rows 8 [zC x],.rows 3 [V.agg [V.i x.Case,V.i x.Round,V.i x.Finding]]]) rfl (hj_8 m4 hM) rfl rfl rfl rfl (ga rfl rfl) (gb9 rfl rfl rfl (jU (gb9 rfl rfl rfl (gb9 rfl rfl rfl ZT)))) rfl rfl rfl rfl rfl
 replace hM:=zEO h_5 hM
 refine GS.exit rfl ?_
 obtain ⟨y_1,hM,hy⟩:=J9 hM
 rw [hr_1 _ hy.symm] at hM
 exact X.zAS 2 2 1 1 [some 0,some 1] (P0:=[.rows 1 [zG c],.dead]) rfl (hj_1 m4 hM) rfl rfl rfl rfl (ga rfl rfl) (gb9 rfl rfl rfl (jU ZT)) rfl rfl rfl rfl rfl
set_option maxHeartbeats 4000000 in
theorem zC9 {c:zD} {l:(List zA)} {r:(List zB)} (hM:ZW c l=some r):zBq Tryz.prog 63 [zG c,V.sl (List.map zC l)] (fun z=>(ovlz z 0 r)) (fun z=>(oblz z 3 zJ r)):=by
 refine zE7 ZR rfl ?_
 unfold ZW at hM
 refine X.sq ?_
 refine X.opW rfl rfl rfl rfl (X.q rfl (X.nq ?_))
 refine X.opW (H':=([.rows 1 [zG c],famM ZN 2 []]++famB ZN [])) rfl rfl rfl rfl (X.q rfl (GS.za (GS.seq (X.sq (X.q rfl ?_)))))
 refine X.opR rfl (X.lenF rfl rfl rfl) rfl (X.q rfl (GS.za ?_))
 refine X.join (τ:=(List (zB×(List (Int×Bool))))) (fun v=>Z6 c v=some r) (fun v=>⟨[(2,V.ptr 0 0 0),(5,V.map 1)],[.rows 1 [zG c],famM ZN 2 v]++famB ZN v,0,none,61⟩) ?_ ?_
 ·intro m hM
  replace hM:Z6 c m=some r:=hM
  unfold Z6 at hM
  refine X.sq (X.q rfl (GS.za ?_))
  iterate 2 refine GS.seq ?_
  refine GS.zL0 (K':=[(2,V.fptr [zG c] 0 0),(5,(V.fmap (List.map (fun p:zB×(List (Int×Bool))=>zJ p.1) m) (List.map (fun p:zB×(List (Int×Bool))=>(fun l=>V.fmap (List.map (fun p=>V.i p.1) l) (List.map (fun p=>V.b p.2) l)) p.2) m))),(9,V.nil)]) (X.zF2 rfl ⟨30,rfl⟩ (X.zF2 rfl (X.frM rfl rfl (fun _ _=>rfl) (fun _ _=>rfl) (fun _ _=>rfl)) (X.zOU rfl X.zOT))) (GS.region ?_)
  refine X.q rfl ?_
  refine X.opW (H':=[.iter (List.map (fun p:zB×(List (Int×Bool))=>zJ p.1) m) (List.map (fun p:zB×(List (Int×Bool))=>(fun l=>V.fmap (List.map (fun p=>V.i p.1) l) (List.map (fun p=>V.b p.2) l)) p.2) m) (idxs 0 (List.length (List.map (fun p:zB×(List (Int×Bool))=>zJ p.1) m))) none]) rfl rfl rfl rfl (GS.za ?_)
  refine X.join (τ:=(List zB)) (fun v=>Zp v=some r) (fun v=>⟨[(9,ovl 0 v)],[obl 3 zJ v],0,none,61⟩) ?_ ?_
  ·intro l1 hM
   replace hM:Zp l1=some r:=hM
   unfold Zp at hM
   refine GS.seq ?_
   obtain ⟨l2,h_1,hM⟩:=zK hM
   refine GS.region (X.q rfl ?_)
   refine X.norm [(9,ovl 0 l1),(58,ovl 0 l1)] ?_ rfl (sr rfl)
   refine X.zNS (z:=true) h_1 yj (fun _ _ _ h=>h) (K':=[(9,ovl 0 l2),(58,ovl 0 l2)]) (H':=[obl 3 zJ l2]) rfl rfl rfl rfl rfl rfl ?_ ?_ ?_
   ·first | rfl | rw [X.Y7 (X.Ji yj.swo h_1)] | simp only [ovl,X.Y7 (X.Ji yj.swo h_1)] | simp only [X.Ji yj.swo h_1]
   ·first | rfl | (simp only [hput]; rfl) | (simp only [ovl,obl]; rw [X.Y7 (X.Ji yj.swo h_1)] <;> rfl)
   refine X.nq (X.q rfl (X.q rfl ?_))
   refine GS.za ?_
   have hE:=Option.some.inj hM
   subst hE
   refine X.gc [some 0] (H':=[obl 3 zJ l2]) (K':=[(4,ovl 0 l2)]) ?_ rfl rfl rfl (zU rfl (yO rfl) QY) (yD 9 rfl rfl (fun _=>rfl) ZT)
   exact GS.ret ⟨true,rfl,rfl⟩
  intro hj_2
  refine GS.block ?_
  obtain ⟨vE_3,hF_3,hM⟩:=zK hM
  refine X.gc [none,some 0] (X.zNd (ga:=zJ) (gb:=(fun l=>V.fmap (List.map (fun p=>V.i p.1) l) (List.map (fun p=>V.b p.2) l))) (f0:=Zg c) (fun v left last=>⟨[(2,V.fptr [zG c] 0 0),(9,ovl 0 v),(43,V.ptr 1 0 0)],[obl 3 zJ v,.iter (List.map (fun p:zB×(List (Int×Bool))=>zJ p.1) m) (List.map (fun p:zB×(List (Int×Bool))=>(fun l=>V.fmap (List.map (fun p=>V.i p.1) l) (List.map (fun p=>V.b p.2) l)) p.2) m) left last],0,none,61⟩) hF_3 (Yr c) ?_ ?_ rfl) rfl rfl rfl (ga rfl rfl) (gb_pad' rfl (X.zAT rfl rfl ZT))
  ·intro l5 left last hne_3 hs_3
   refine X.sq ?_
   refine X.next rfl rfl rfl rfl rfl (fun e=>absurd e hne_3) (fun j_3 kv_3 vv_3 hj_3 hk_3 hv_3=>?_)
   obtain ⟨⟨k,v_⟩,w_3,rfl,rfl,hM,hc_3⟩:=hs_3 j_3 kv_3 vv_3 hj_3 hk_3 hv_3
   unfold Zg at hM
   refine X.q rfl (GS.za (GS.seq ?_))
   refine GS.zCZ rfl (GS.skip ?_)
   refine X.join (τ:=(List zB)) (fun v=>ZY v=some w_3) (fun v=>⟨[(2,V.fptr [zG c] 0 0),(9,ovl 0 v),(43,V.ptr 1 0 0)],[obl 3 zJ v,.iter (List.map (fun p:zB×(List (Int×Bool))=>zJ p.1) m) (List.map (fun p:zB×(List (Int×Bool))=>(fun l=>V.fmap (List.map (fun p=>V.i p.1) l) (List.map (fun p=>V.b p.2) l)) p.2) m) (List.filter (fun i=>decide (i≠j_3)) left) (some j_3)],0,none,61⟩) ?_ ?_
   ·intro l3 hM
    replace hM:ZY l3=some w_3:=hM
    unfold ZY at hM
    have hE:=Option.some.inj hM
    subst hE
    exact X.gc [some 0,some 1] hc_3 rfl rfl rfl (zU rfl ⟨9,rfl⟩ (zU rfl (yO rfl) (ga rfl rfl))) (yD 9 rfl rfl (fun _=>rfl) (X.zAT rfl rfl ZT))
   intro hj_4
   refine GS.block (X.sq ?_)
   refine X.entry rfl rfl rfl hk_3 hv_3 rfl (X.q rfl (X.q rfl ?_))
   refine X.opW rfl rfl rfl rfl ?_
   refine X.op0W rfl rfl rfl (X.q rfl (GS.za (GS.seq ?_)))
   obtain ⟨y,h_2,hM⟩:=zK hM
   refine GS.region (X.q rfl ?_)
   refine X.opR rfl (X.lenMF rfl rfl rfl) rfl (X.q rfl ?_)
   refine X.call (jD h_2) rfl rfl rfl (.cons (.shut (n:=9) rfl) .nil) (X.q rfl (GS.za ?_))
   refine X.cond rfl (fun h_3=>?_) (fun h_3=>?_)
   ·replace hM:=zEN h_3 hM
    obtain ⟨l4,h_4,hM⟩:=zK hM
    refine GS.region (X.q rfl (X.q rfl ?_))
    refine X.opW (H':=[obl 3 zJ l5,.iter (List.map (fun p:zB×(List (Int×Bool))=>zJ p.1) m) (List.map (fun p:zB×(List (Int×Bool))=>(fun l=>V.fmap (List.map (fun p=>V.i p.1) l) (List.map (fun p=>V.b p.2) l)) p.2) m) (List.filter (fun i=>decide (i≠j_3)) left) (some j_3),.rows 3 [zJ k],.rows 3 (List.map zJ ([k]))]) rfl rfl rfl rfl ?_
    refine X.appN (f:=zJ) h_4 (fun _=>rfl) (by rfl) (by rfl) (by rfl) (by rfl) (by rfl) (by rfl) (by rfl) (by rfl) (by rfl) (by rfl) (by rfl) (by exact rfl) (by rfl) (by rfl) (X.q rfl (GS.za ?_))
    refine GS.endB ?_
    exact X.gc [some 4,some 1] (hj_4 l4 hM) rfl rfl rfl (zU rfl ⟨9,rfl⟩ (zU rfl (zNX (zFY h_4) rfl) (ga rfl rfl))) (gb_obl' 9 (zFY h_4) rfl rfl (fun _=>rfl) (X.zAT rfl rfl ZT))
   replace hM:=zEO h_3 hM
   refine GS.skip ?_
   refine GS.endB ?_
   exact X.gc [some 0,some 1] (hj_4 l5 hM) rfl rfl rfl (zU rfl ⟨9,rfl⟩ (zU rfl (yO rfl) (ga rfl rfl))) (yD 9 rfl rfl (fun _=>rfl) (X.zAT rfl rfl ZT))
  intro l5 last hrel_3
  replace hM:Zo l5=some r:=QD hrel_3 hM
  unfold Zo at hM
  refine X.sq ?_
  refine X.next rfl rfl rfl rfl rfl (fun _=>?_) (fun j_ kv_ vv_ hj_=>absurd hj_ List.not_mem_nil)
  refine X.q rfl (GS.za (GS.seq ?_))
  refine GS.zCa rfl ?_
  refine GS.exit rfl ?_
  exact X.gc [some 0] (hj_2 l5 hM) rfl rfl rfl (zU rfl (yO rfl) QY) (yD 9 rfl rfl (fun _=>rfl) ZT)
 intro hj_1
 refine GS.block ?_
 refine X.zAS 2 2 1 1 [some 0,some 1] (P0:=[.rows 1 [zG c],.dead]) rfl (X.loop (σ:=(Int×(List (zB×(List (Int×Bool)))))) (fun v=>⟨[(2,V.ptr 0 0 0),(5,V.map 1),(13,V.sl (List.map zC l)),(14,(V.i (l.length:Int))),(15,V.i v.1)],[.rows 1 [zG c],famM ZN 2 v.2]++famB ZN v.2,0,none,61⟩) hM ?_ rfl) rfl rfl rfl rfl (ga rfl rfl) (gb9 rfl rfl rfl (jU ZT)) rfl rfl rfl rfl rfl
 rintro ⟨x1,m4⟩ b_1 hM hc_6 hr_1
 rw [Jg] at hM
 refine X.sq (X.q rfl (GS.za (GS.seq ?_)))
 refine X.cond rfl (fun h_5=>?_) (fun h_5=>?_)
 ·replace hM:=zEN h_5 hM
  refine GS.skip (GS.seq ?_)
  refine X.join (τ:=(List (zB×(List (Int×Bool))))) (fun v=>Zn x1 v=some b_1) (fun v=>⟨[(2,V.ptr 0 0 0),(5,V.map 1),(13,V.sl (List.map zC l)),(14,(V.i (l.length:Int))),(15,V.i x1)],[.rows 1 [zG c],famM ZN 2 v]++famB ZN v,0,none,61⟩) ?_ ?_
  ·intro m1 hM
   replace hM:Zn x1 m1=some b_1:=hM
   unfold Zn at hM
   refine GS.region ?_
   refine X.opR rfl (X.addE rfl rfl) rfl (X.q rfl (GS.za ?_))
   have hE:=Option.some.inj hM
   exact X.zAS 2 2 1 1 [some 0,some 1] (P0:=[.rows 1 [zG c],.dead]) rfl (hc_6 (w64 (x1+1),m1) hE.symm) rfl rfl rfl rfl (ga rfl rfl) (gb9 rfl rfl rfl (jU ZT)) rfl rfl rfl rfl rfl
  intro hj_7
  refine GS.block (GS.seq ?_)
  obtain ⟨x,h_6,hM⟩:=zK hM
  refine GS.region ?_
  refine X.opR rfl (X.zBV (f:=zC) h_6 (fun _=>rfl) rfl rfl rfl rfl) rfl ?_
  refine X.opR rfl (X.zEK h_6 rfl rfl rfl) rfl ?_
  refine X.zEW (F:=ZN) (A:=m4) (P0:=[.rows 1 [zG c],.dead]) (P2:=[.rows 1 [zG c],famM ZN 3 m4,.rows 8 [V.agg [V.i 0,V.i 0,V.i 0,V.i 0,V.i 0,V.i 0,V.i 0,V.i 0]]]) 2 1 [some 0,some 1] [(2,V.ptr 0 0 0),(5,V.map 1),(13,V.sl (List.map zC l)),(14,(V.i (l.length:Int))),(15,V.i x1),(18,zC x)] rfl (fun _ _=>rfl) (by intro h; cases h) rfl rfl rfl rfl rfl rfl rfl rfl rfl rfl rfl (zU rfl ⟨9,rfl⟩ (zU rfl ⟨9,rfl⟩ (zU rfl ⟨9,rfl⟩ (zU rfl ⟨9,rfl⟩ (zU rfl ⟨9,rfl⟩ (zU rfl ⟨9,rfl⟩ QY)))))) (QZ rfl rfl ⟨9,rfl⟩ (jU ZT)) rfl ?_
  refine X.op0W (H':=([.rows 1 [zG c],famM ZN 3 m4,.rows 8 [zC x]]++famB ZN m4)) rfl rfl rfl (GS.za (GS.seq (X.sq (X.q rfl (X.q rfl (X.q rfl ?_))))))
  refine GS.za ?_
  refine X.cond rfl (fun h_7=>?_) (fun h_7=>?_)
  ·replace hM:=zEN h_7 hM
   refine GS.exit rfl ?_
   exact X.zAS 3 2 1 1 [some 0,some 1] (P0:=[.rows 1 [zG c],.dead]) rfl (hj_7 m4 hM) rfl rfl rfl rfl (ga rfl rfl) (gb9 rfl rfl rfl (jU ZT)) rfl rfl rfl rfl rfl
  replace hM:=zEO h_7 hM
  refine GS.skip (X.sq ?_)
  iterate 7 refine X.q rfl ?_
  refine X.zEW (F:=ZN) (A:=m4) (P0:=[.rows 1 [zG c],.dead,.rows 8 [zC x]]) (P2:=[.rows 1 [zG c],famM ZN 4 m4,.rows 8 [zC x],.rows 3 [V.agg [V.i 0,V.i 0,V.i 0]]]) 3 1 [some 0,some 1,some 2] [(2,V.ptr 0 0 0),(5,V.map 1),(7,V.ptr 2 0 0),(13,V.sl (List.map zC l)),(14,(V.i (l.length:Int))),(15,V.i x1),(28,V.agg [V.i x.Case,V.i x.Round,V.i x.Finding])] rfl (fun _ _=>rfl) (by intro h; cases h) rfl rfl rfl rfl rfl rfl rfl rfl rfl rfl rfl (zU rfl ⟨9,rfl⟩ (zU rfl ⟨9,rfl⟩ (zU rfl ⟨9,rfl⟩ (zU rfl ⟨9,rfl⟩ (zU rfl ⟨9,rfl⟩ (zU rfl ⟨9,rfl⟩ (zU rfl ⟨9,rfl⟩ QY))))))) (QZ rfl rfl ⟨9,rfl⟩ (jU (QZ rfl rfl ⟨9,rfl⟩ ZT))) rfl ?_
  refine X.op0W (H':=([.rows 1 [zG c],famM ZN 4 m4,.rows 8 [zC x],.rows 3 [V.agg [V.i x.Case,V.i x.Round,V.i x.Finding]]]++famB ZN m4)) rfl rfl rfl (GS.za (GS.seq (X.sq (X.q rfl (X.q rfl ?_)))))
  refine X.opR rfl (X.zEV (F:=ZN) (A:=m4) (b:=4) (k0:=(⟨x.Case,x.Round,x.Finding⟩:zB)) yC rfl rfl rfl rfl rfl rfl) rfl ?_
  refine X.opR rfl (X.zOc rfl rfl rfl rfl) rfl (GS.za ?_)
  refine X.join (τ:=(List (zB×(List (Int×Bool))))) (fun v=>Zm x1 x v=some b_1) (fun v=>⟨[(2,V.ptr 0 0 0),(5,V.map 1),(7,V.ptr 2 0 0),(8,V.ptr 3 0 0),(13,V.sl (List.map zC l)),(14,(V.i (l.length:Int))),(15,V.i x1)],[.rows 1 [zG c],famM ZN 4 v,.rows 8 [zC x],.rows 3 [V.agg [V.i x.Case,V.i x.Round,V.i x.Finding]]]++famB ZN v,0,none,61⟩) ?_ ?_
  ·intro m2 hM
   replace hM:Zm x1 x m2=some b_1:=hM
   unfold Zm at hM
   refine X.zKG 5 rfl (by kernel_rfl) (by kernel_rfl) rfl ?_
   iterate 2 refine X.dop rfl rfl rfl rfl (by kernel_rfl) rfl rfl ?_
   refine X.dop rfl (X.zEV (F:=ZN) (A:=m2) (b:=4) (k0:=(⟨x.Case,x.Round,x.Finding⟩:zB)) yC rfl rfl rfl rfl rfl rfl) rfl rfl (by kernel_rfl) rfl rfl ?_
   iterate 2 refine X.dop rfl rfl rfl rfl (by kernel_rfl) rfl rfl ?_
   refine X.dnil ?_
   refine X.norm [(2,V.ptr 0 0 0),(5,V.map 1),(13,V.sl (List.map zC l)),(14,(V.i (l.length:Int))),(15,V.i x1),(38,(Q9 ZN 4 m2 (⟨x.Case,x.Round,x.Finding⟩:zB))),(40,V.i x.From)] ?_ rfl (sr rfl)
   obtain ⟨m3,h_8,hM⟩:=zK hM
   refine X.famIn (P:=[.rows 1 [zG c],famM ZN 4 m2,.rows 8 [zC x],.rows 3 [V.agg [V.i x.Case,V.i x.Round,V.i x.Finding]]]) (b:=4) (g:=zJ) (f1:=V.i) (f2:=V.b) (A:=m2) (a:=x.From) (c:=true) (pos0:=posE) (pos1:=posI) (P2:=[.rows 1 [zG c],famM ZN 4 (putM posE m2 (⟨x.Case,x.Round,x.Finding⟩:zB) (putM posI m3 x.From true)),.rows 8 [zC x],.rows 3 [V.agg [V.i x.Case,V.i x.Round,V.i x.Finding]]]) 1 h_8 X.jK (X.Jk _) rfl rfl rfl rfl rfl rfl rfl rfl rfl rfl (GS.za ?_)
   refine GS.endB ?_
   exact X.zAS 4 2 1 1 [some 0,some 1] (P0:=[.rows 1 [zG c],.dead]) rfl (hj_7 (putM posE m2 (⟨x.Case,x.Round,x.Finding⟩:zB) (putM posI m3 x.From true)) hM) rfl rfl rfl rfl (ga rfl rfl) (gb9 rfl rfl rfl (jU ZT)) rfl rfl rfl rfl rfl
  intro hj_8
  refine X.cond rfl (fun h_9=>?_) (fun h_9=>?_)
  ·replace hM:=zEN h_9 hM
   refine GS.region (X.q rfl (X.q rfl ?_))
   refine X.opW (H':=([.rows 1 [zG c],famM ZN 4 m4,.rows 8 [zC x],.rows 3 [V.agg [V.i x.Case,V.i x.Round,V.i x.Finding]]]++famB ZN m4)++[.map [] []]) rfl rfl X.zAu rfl ?_
   refine X.zH5 (F:=ZN) (A:=m4) (pos0:=posE) (P0:=[.rows 1 [zG c],.dead,.rows 8 [zC x],.rows 3 [V.agg [V.i x.Case,V.i x.Round,V.i x.Finding]]]) (P2:=[.rows 1 [zG c],famM ZN 4 (putM posE m4 (⟨x.Case,x.Round,x.Finding⟩:zB) []),.rows 8 [zC x],.rows 3 [V.agg [V.i x.Case,V.i x.Round,V.i x.Finding]]]) (x0:=[]) 4 1 [some 0,some 1,some 2,some 3] [(2,V.ptr 0 0 0),(5,V.map 1),(7,V.ptr 2 0 0),(8,V.ptr 3 0 0),(13,V.sl (List.map zC l)),(14,(V.i (l.length:Int))),(15,V.i x1)] rfl yC (fun l=>(X.zFK _ _).trans (List.length_map ..)) rfl rfl rfl rfl rfl rfl rfl rfl rfl rfl rfl rfl rfl rfl rfl (zU rfl ⟨9,rfl⟩ (zU rfl ⟨9,rfl⟩ (zU rfl ⟨9,rfl⟩ (zU rfl ⟨9,rfl⟩ (zU rfl ⟨9,rfl⟩ (zU rfl ⟨9,rfl⟩ (zU rfl ⟨9,rfl⟩ QY))))))) (QZ rfl rfl ⟨9,rfl⟩ (jU (QZ rfl rfl ⟨9,rfl⟩ (QZ rfl rfl ⟨9,rfl⟩ ZT)))) rfl (GS.za ?_)
   exact X.zAS 4 4 1 1 [some 0,some 1,some 2,some 3] (P0:=[.rows 1 [zG c],.dead,.rows 8 [zC x],.rows 3 [V.agg [V.i x.Case,V.i x.Round,V.i x.Finding]]]) rfl (hj_8 (putM posE m4 (⟨x.Case,x.Round,x.Finding⟩:zB) []) hM) rfl rfl rfl rfl (ga rfl rfl) (gb9 rfl rfl rfl (jU (gb9 rfl rfl rfl (gb9 rfl rfl rfl ZT)))) rfl rfl rfl rfl rfl
  replace hM:=zEO h_9 hM
  refine GS.skip ?_
  exact X.zAS 4 4 1 1 [some 0,some 1,some 2,some 3] (P0:=[.rows 1 [zG c],.dead,.rows 8 [zC x],.rows 3 [V.agg [V.i x.Case,V.i x.Round,V.i x.Finding]]]) rfl (hj_8 m4 hM) rfl rfl rfl rfl (ga rfl rfl) (gb9 rfl rfl rfl (jU (gb9 rfl rfl rfl (gb9 rfl rfl rfl ZT)))) rfl rfl rfl rfl rfl
 replace hM:=zEO h_5 hM
 refine GS.exit rfl ?_
 obtain ⟨y_1,hM,hy⟩:=J9 hM
 rw [hr_1 _ hy.symm] at hM
 exact X.zAS 2 2 1 1 [some 0,some 1] (P0:=[.rows 1 [zG c],.dead]) rfl (hj_1 m4 hM) rfl rfl rfl rfl (ga rfl rfl) (gb9 rfl rfl rfl (jU ZT)) rfl rfl rfl rfl rfl
theorem Q7 {l r:List zA} (hM:app [] l=some r):zBq Tryz.prog 23 [V.sl (List.map zC l)] (fun z=>ovlz z 0 r) (fun z=>oblz z 8 zC r):=by
 have hr:r=l:=by obtain ⟨_,e⟩:=yS hM; simpa using e
 refine zE7 ZR rfl ?_
 refine au 6 ?_
 refine X.zJe rfl rfl rfl rfl rfl rfl (fun h=>?_) ?_
 ·have hl:r=[]:=by rw [hr]; simpa using h
  subst hl
  refine GS.za ?_
  refine GS.zCZ rfl ?_
  refine au 3 ?_
  refine GS.pad ?_
  exact GS.ret ⟨true,rfl,rfl⟩
 ·refine GS.za ?_
  refine GS.zCa rfl ?_
  refine au 4 ?_
  refine X.opW rfl (X.appO (f:=zC) (l:=[]) (xs:=l) hM (fun _=>rfl) rfl rfl rfl rfl rfl rfl rfl rfl rfl rfl) rfl rfl ?_
  refine au 2 ?_
  refine X.gc [some 1] (H':=[.rows 8 (List.map zC r)]) (K':=[(2,V.osl 0 0 (List.length r))]) ?_ rfl rfl rfl (ga rfl rfl) (zF1 9 rfl rfl (fun _=>rfl) ZT)
  exact GS.ret ⟨false,rfl,rfl⟩
theorem zCF {l r:List Int} (hM:app [] l=some r):zBq Tryz.prog 22 [V.sl (List.map V.i l)] (fun z=>ovlz z 0 r) (fun z=>oblz z 1 V.i r):=by
 have hr:r=l:=by obtain ⟨_,e⟩:=yS hM; simpa using e
 refine zE7 ZR rfl ?_
 refine au 6 ?_
 refine X.zJe rfl rfl rfl rfl rfl rfl (fun h=>?_) ?_
 ·have hl:r=[]:=by rw [hr]; simpa using h
  subst hl
  refine GS.za ?_
  refine GS.zCZ rfl ?_
  refine au 3 ?_
  refine GS.pad ?_
  exact GS.ret ⟨true,rfl,rfl⟩
 ·refine GS.za ?_
  refine GS.zCa rfl ?_
  refine au 4 ?_
  refine X.opW rfl (X.appO (f:=V.i) (l:=[]) (xs:=l) hM (fun _=>rfl) rfl rfl rfl rfl rfl rfl rfl rfl rfl rfl) rfl rfl ?_
  refine au 2 ?_
  refine X.gc [some 1] (H':=[.rows 1 (List.map V.i r)]) (K':=[(2,V.osl 0 0 (List.length r))]) ?_ rfl rfl rfl (ga rfl rfl) (zF1 9 rfl rfl (fun _=>rfl) ZT)
  exact GS.ret ⟨false,rfl,rfl⟩
theorem zFB {c:zD} {round:Int} {r:Int} (hM:J3 c round=some r):Ct Tryz.prog 123 [zG c,V.i round] (V.i r):=by
 refine zV ZR rfl ?_
 unfold J3 at hM
 refine au 6 ?_
 refine X.mid [(12,(V.b ((!decide ((zo c)=0))||(!(ZG round 1 1048576))))),(1,V.i round),(2,V.ptr 0 0 0)] ?_ ?_
 ·intro hg
  refine X.split (!decide ((zo c)=0)) (fun h_1=>?_) (fun h_1=>?_)
  ·refine X.q rfl ?_
   refine X.ca (Ze c) ?_
   refine au 7 ?_
   exact X.ng hg rfl (by simp only [h_1,X.bb])
  refine X.q rfl ?_
  refine X.ca (Ze c) ?_
  refine au 3 ?_
  refine X.ca (ZF round 1 1048576) ?_
  refine au 3 ?_
  exact X.ng hg rfl (by simp only [h_1,X.bb])
 refine X.cm hM (fun h_2 hM=>?_) (fun h_2 hM=>?_)
 ·refine au 3 ?_
  cases hM
  exact X.rt
 obtain ⟨q,h_3,hM⟩:=zK hM
 refine au 6 ?_
 refine X.opR rfl (X.remE h_3 rfl rfl) rfl ?_
 refine au 2 ?_
 cases hM
 exact X.rt
set_option maxHeartbeats 4000000 in
theorem zEE {c:zD} {l:zA} {r:Bool} (hM:yI c l=some r):Ct Tryz.prog 98 [zG c,zC l] (V.b r):=by
 refine zV ZR rfl ?_
 unfold yI at hM
 refine au 7 ?_
 refine X.mid [(46,(V.b (((((((!decide ((zo c)=0))||(!(Zj l.Case)))||(!(ZG l.Round 1 1048576)))||(!(zW c l.From)))||(!(zW c l.To)))||(!(ZG l.ID 0 1099511627776)))||(!(jL l.Finding))))),(2,V.ptr 0 0 0),(3,V.ptr 1 0 0)] ?_ ?_
 ·intro hg
  refine X.split (!decide ((zo c)=0)) (fun h_1=>?_) (fun h_1=>?_)
  ·refine X.q rfl ?_
   refine X.ca (Ze c) ?_
   refine au 40 ?_
   exact X.ng hg rfl (by simp only [h_1,X.bb])
  refine X.split (!(Zj l.Case)) (fun h_2=>?_) (fun h_2=>?_)
  ·refine X.q rfl ?_
   refine X.ca (Ze c) ?_
   refine au 4 ?_
   refine X.ca (Z8 l.Case) ?_
   refine au 35 ?_
   exact X.ng hg rfl (by simp only [h_1,h_2,X.bb])
  refine X.split (!(ZG l.Round 1 1048576)) (fun h_3=>?_) (fun h_3=>?_)
  ·refine X.q rfl ?_
   refine X.ca (Ze c) ?_
   refine au 4 ?_
   refine X.ca (Z8 l.Case) ?_
   refine au 5 ?_
   refine X.ca (ZF l.Round 1 1048576) ?_
   refine au 29 ?_
   exact X.ng hg rfl (by simp only [h_1,h_2,h_3,X.bb])
  refine X.split (!(zW c l.From)) (fun h_4=>?_) (fun h_4=>?_)
  ·refine X.q rfl ?_
   refine X.ca (Ze c) ?_
   refine au 4 ?_
   refine X.ca (Z8 l.Case) ?_
   refine au 5 ?_
   refine X.ca (ZF l.Round 1 1048576) ?_
   refine au 6 ?_
   refine X.ca (Zt c l.From) ?_
   refine au 22 ?_
   exact X.ng hg rfl (by simp only [h_1,h_2,h_3,h_4,X.bb])
  refine X.split (!(zW c l.To)) (fun h_5=>?_) (fun h_5=>?_)
  ·refine X.q rfl ?_
   refine X.ca (Ze c) ?_
   refine au 4 ?_
   refine X.ca (Z8 l.Case) ?_
   refine au 5 ?_
   refine X.ca (ZF l.Round 1 1048576) ?_
   refine au 6 ?_
   refine X.ca (Zt c l.From) ?_
   refine au 6 ?_
   refine X.ca (Zt c l.To) ?_
   refine au 15 ?_
   exact X.ng hg rfl (by simp only [h_1,h_2,h_3,h_4,h_5,X.bb])
  refine X.split (!(ZG l.ID 0 1099511627776)) (fun h_6=>?_) (fun h_6=>?_)
  ·refine X.q rfl ?_
   refine X.ca (Ze c) ?_
   refine au 4 ?_
   refine X.ca (Z8 l.Case) ?_
   refine au 5 ?_
   refine X.ca (ZF l.Round 1 1048576) ?_
   refine au 6 ?_
   refine X.ca (Zt c l.From) ?_
   refine au 6 ?_
   refine X.ca (Zt c l.To) ?_
   refine au 5 ?_
   refine X.ca (ZF l.ID 0 1099511627776) ?_
   refine au 9 ?_
   exact X.ng hg rfl (by simp only [h_1,h_2,h_3,h_4,h_5,h_6,X.bb])
  refine X.q rfl ?_
  refine X.ca (Ze c) ?_
  refine au 4 ?_
  refine X.ca (Z8 l.Case) ?_
  refine au 5 ?_
  refine X.ca (ZF l.Round 1 1048576) ?_
  refine au 6 ?_
  refine X.ca (Zt c l.From) ?_
  refine au 6 ?_
  refine X.ca (Zt c l.To) ?_
  refine au 5 ?_
  refine X.ca (ZF l.ID 0 1099511627776) ?_
  refine au 5 ?_
  refine X.ca (qf l.Finding) ?_
  refine au 3 ?_
  exact X.ng hg rfl (by simp only [h_1,h_2,h_3,h_4,h_5,h_6,X.bb])
 refine X.cm hM (fun h_7 hM=>?_) (fun h_7 hM=>?_)
 ·refine au 3 ?_
  cases hM
  exact X.rt
 obtain ⟨y,h_8,hM⟩:=zK hM
 refine au 5 ?_
 refine X.ca (zFB h_8) ?_
 refine au 12 ?_
 refine X.cm hM (fun h_9 hM=>?_) (fun h_9 hM=>?_)
 ·refine X.sq ?_
  refine X.mid [(4,V.b (((decide (l.From=y))&&(decide (l.Voted=0)))&&(decide (l.Finding=0))))] ?_ ?_
  ·intro hg
   refine X.split (decide (l.From=y)) (fun h_10=>?_) (fun h_10=>?_)
   ·refine X.split (decide (l.Voted=0)) (fun h_11=>?_) (fun h_11=>?_)
    ·refine au 16 ?_
     exact X.ng hg rfl (by simp only [h_10,h_11,X.bb])
    refine au 16 ?_
    exact X.ng hg rfl (by simp only [h_10,h_11,X.bb])
   refine au 16 ?_
   exact X.ng hg rfl (by simp only [h_10,X.bb])
  cases hM
  exact X.rt
 refine au 4 ?_
 refine X.cm hM (fun h_12 hM=>?_) (fun h_12 hM=>?_)
 ·refine X.sq ?_
  refine X.mid [(4,(V.b (((decide (l.To=y))&&(ZG l.Voted 0 (w64 (l.Round - 1))))&&((decide (0<l.Voted))||(decide (l.Finding=0))))))] ?_ ?_
  ·intro hg
   refine X.split (decide (l.To=y)) (fun h_13=>?_) (fun h_13=>?_)
   ·refine X.split (ZG l.Voted 0 (w64 (l.Round - 1))) (fun h_14=>?_) (fun h_14=>?_)
    ·refine X.split (decide (0<l.Voted)) (fun h_15=>?_) (fun h_15=>?_)
     ·refine au 10 ?_
      refine X.ca (ZF l.Voted 0 (w64 (l.Round - 1))) ?_
      refine au 13 ?_
      exact X.ng hg rfl (by simp only [h_13,h_14,h_15,X.bb])
     refine au 10 ?_
     refine X.ca (ZF l.Voted 0 (w64 (l.Round - 1))) ?_
     refine au 13 ?_
     exact X.ng hg rfl (by simp only [h_13,h_14,h_15,X.bb])
    refine au 10 ?_
    refine X.ca (ZF l.Voted 0 (w64 (l.Round - 1))) ?_
    refine au 13 ?_
    exact X.ng hg rfl (by simp only [h_13,h_14,X.bb])
   refine au 24 ?_
   exact X.ng hg rfl (by simp only [h_13,X.bb])
  cases hM
  exact X.rt
 refine au 4 ?_
 refine X.cm hM (fun h_16 hM=>?_) (fun h_16 hM=>?_)
 ·refine X.sq ?_
  refine X.mid [(4,V.b ((decide (l.From=y))&&(decide (l.Voted=0))))] ?_ ?_
  ·intro hg
   refine X.split (decide (l.From=y)) (fun h_17=>?_) (fun h_17=>?_)
   ·refine au 11 ?_
    exact X.ng hg rfl (by simp only [h_17,X.bb])
   refine au 11 ?_
   exact X.ng hg rfl (by simp only [h_17,X.bb])
  cases hM
  exact X.rt
 refine au 4 ?_
 refine X.cm hM (fun h_18 hM=>?_) (fun h_18 hM=>?_)
 ·refine au 6 ?_
  cases hM
  exact X.rt
 refine au 5 ?_
 cases hM
 exact X.rt
theorem zEC {x:zA} {c:zD} {r:Bool} (hM:QJ x c=some r):Ct Tryz.prog 97 [zC x,V.fptr [zG c] 0 0] (V.b r):=by
 refine zV ZR rfl ?_
 unfold QJ at hM
 obtain ⟨y,h_1,hM⟩:=zK hM
 refine au 7 ?_
 refine X.ca (zEE h_1) ?_
 refine au 3 ?_
 cases hM
 exact X.rt
theorem Jv {s:(List zA)} {c:zD} {r:Int} (hM:ZE s c=some r):Ct Tryz.prog 87 [V.sl (List.map zC s),V.fn 97 [V.fptr [zG c] 0 0]] (V.i r):=by
 refine zV ZR rfl ?_
 unfold ZE at hM
 refine au 9 ?_
 refine X.join (τ:=Unit) (fun v=>zm=some r) (fun v=>⟨[],[],0,none,19⟩) ?_ ?_
 ·intro _ hM
  replace hM:zm=some r:=hM
  unfold zm at hM
  refine au 3 ?_
  cases hM
  exact X.rt
 intro hj_1
 refine au 1 ?_
 refine X.gx [] (X.loop (σ:=Int) (fun v=>⟨[(0,V.sl (List.map zC s)),(1,V.fn 97 [V.fptr [zG c] 0 0]),(7,(V.i (s.length:Int))),(8,V.i v)],[],0,none,19⟩) hM ?_ rfl)
 intro x1 b_1 hM hc_2 hr_1
 rw [ZL] at hM
 refine au 3 ?_
 refine GS.seq ?_
 refine X.cm hM (fun h_1 hM=>?_) (fun h_1 hM=>?_)
 ·obtain ⟨x,h_2,hM⟩:=zK hM
  obtain ⟨y,h_3,hM⟩:=zK hM
  refine au 13 ?_
  refine X.ca (zEC h_3) ?_
  refine GS.za ?_
  refine X.cm hM (fun h_4 hM=>?_) (fun h_4 hM=>?_)
  ·refine au 4 ?_
   have hE:=Option.some.inj hM
   replace hE:=hr_1 _ hE.symm
   subst hE
   exact X.rt
  refine au 6 ?_
  have hE:=Option.some.inj hM
  exact X.gx [] (hc_2 (w64 (x1+1)) hE.symm)
 obtain ⟨y_1,hM,hy⟩:=J9 hM
 rw [hr_1 _ hy.symm] at hM
 refine au 1 ?_
 exact X.gx [] (hj_1 () hM)
theorem Jh {s:(List zA)} {c:zD} {r:Bool} (hM:ZM s c=some r):Ct Tryz.prog 84 [V.sl (List.map zC s),V.fn 97 [V.fptr [zG c] 0 0]] (V.b r):=by
 refine zV ZR rfl ?_
 unfold ZM at hM
 obtain ⟨y,h_1,hM⟩:=zK hM
 refine au 6 ?_
 refine X.ca (Jv h_1) ?_
 refine au 3 ?_
 cases hM
 exact X.rt
theorem zBj {c:zD} {l:(List zA)} {r:Int} (hM:yR c l=some r):Ct Tryz.prog 65 [zG c,V.sl (List.map zC l)] (V.i r):=by
 refine zV ZR rfl ?_
 unfold yR at hM
 refine au 7 ?_
 refine X.ca (Ze c) ?_
 refine au 6 ?_
 refine X.cm hM (fun h_1 hM=>?_) (fun h_1 hM=>?_)
 ·refine au 4 ?_
  cases hM
  exact X.rt
 refine au 7 ?_
 refine X.cm hM (fun h_2 hM=>?_) (fun h_2 hM=>?_)
 ·refine au 3 ?_
  cases hM
  exact X.rt
 obtain ⟨y,h_3,hM⟩:=zK hM
 refine au 5 ?_
 refine X.zAU (Jh h_3) rfl rfl rfl (m:=9) rfl (.cons (.shut (n:=9) rfl) (.cons (FR.arg ⟨30,rfl⟩) .nil)) ?_
 refine GS.za ?_
 refine X.cm hM (fun h_4 hM=>?_) (fun h_4 hM=>?_)
 ·refine au 3 ?_
  cases hM
  exact X.rt
 refine au 4 ?_
 cases hM
 exact X.rt
theorem zDb (r_:zB) (c:Int):Ct Tryz.prog 67 [zJ r_,V.fptr [V.i c] 0 0] (V.b (yY r_ c)):=by
 refine zV ZR rfl ?_
 generalize hM:yY r_ c=r
 unfold yY at hM
 refine au 11 ?_
 subst hM
 exact X.rt
theorem Jm {s:(List zB)} {c:Int} {r:Int} (hM:zt s c=some r):Ct Tryz.prog 66 [V.sl (List.map zJ s),V.fn 67 [V.fptr [V.i c] 0 0]] (V.i r):=by
 refine zV ZR rfl ?_
 unfold zt at hM
 refine au 9 ?_
 refine X.join (τ:=Unit) (fun v=>zi=some r) (fun v=>⟨[],[],0,none,19⟩) ?_ ?_
 ·intro _ hM
  replace hM:zi=some r:=hM
  unfold zi at hM
  refine au 3 ?_
  cases hM
  exact X.rt
 intro hj_1
 refine au 1 ?_
 refine X.gx [] (X.loop (σ:=Int) (fun v=>⟨[(0,V.sl (List.map zJ s)),(1,V.fn 67 [V.fptr [V.i c] 0 0]),(7,(V.i (s.length:Int))),(8,V.i v)],[],0,none,19⟩) hM ?_ rfl)
 intro x1 b_1 hM hc_2 hr_1
 rw [ZJ] at hM
 refine au 3 ?_
 refine GS.seq ?_
 refine X.cm hM (fun h_1 hM=>?_) (fun h_1 hM=>?_)
 ·obtain ⟨x,h_2,hM⟩:=zK hM
  refine au 13 ?_
  refine X.ca (zDb x c) ?_
  refine GS.za ?_
  refine X.cm hM (fun h_3 hM=>?_) (fun h_3 hM=>?_)
  ·refine au 4 ?_
   have hE:=Option.some.inj hM
   replace hE:=hr_1 _ hE.symm
   subst hE
   exact X.rt
  refine au 6 ?_
  have hE:=Option.some.inj hM
  exact X.gx [] (hc_2 (w64 (x1+1)) hE.symm)
 obtain ⟨y_1,hM,hy⟩:=J9 hM
 rw [hr_1 _ hy.symm] at hM
 refine au 1 ?_
 exact X.gx [] (hj_1 () hM)
theorem jd (x:zA):Ct Tryz.prog 69 [zC x] (zJ (zn x)):=by
 refine zV ZR rfl ?_
 generalize hM:zn x=r
 unfold zn at hM
 refine au 10 ?_
 refine X.cm hM (fun h_1 hM=>?_) (fun h_1 hM=>?_)
 ·refine au 2 ?_
  refine X.op0W rfl rfl rfl ?_
  refine GS.za ?_
  subst hM
  exact X.rt
 refine au 9 ?_
 refine X.op0W rfl rfl rfl ?_
 refine GS.za ?_
 subst hM
 exact X.rt
theorem Qh (a b:zB):eqA CC.ty 69 (zJ a) (zJ b)=some (decide (a=b)):=by
 refine (X.eqa rfl rfl (X.eqp rfl rfl rfl (X.eqp rfl rfl rfl (X.eqp rfl rfl rfl X.eqn')))).trans ?_
 congr 1
 rw [Bool.eq_iff_iff]
 simp only [Bool.and_eq_true,decide_eq_true_eq,beq_iff_eq,and_true]
 constructor
 ·intro h
  obtain ⟨a1,a2,a3⟩:=a
  obtain ⟨b4,b5,b6⟩:=b
  simp at h
  simp [h]
 ·rintro rfl
  simp
set_option maxHeartbeats 4000000 in
theorem zFA {c:zD} {l:(List zA)} {id:Int} {r:(List zA)×Int} (hM:Yc c l id=some r):Ct Tryz.prog 30 [zG c,V.sl (List.map zC l),V.i id] (V.tup [V.sl (List.map zC r.1),V.i r.2]):=by
 refine zV ZR rfl ?_
 unfold Yc at hM
 obtain ⟨y,h_1,hM⟩:=zK hM
 refine au 10 ?_
 refine X.ca (zBj h_1) ?_
 refine au 6 ?_
 refine X.cm hM (fun h_2 hM=>?_) (fun h_2 hM=>?_)
 ·refine au 5 ?_
  cases hM
  exact X.rt
 refine au 4 ?_
 refine X.ca (Z8 id) ?_
 refine au 2 ?_
 refine X.cm hM (fun h_3 hM=>?_) (fun h_3 hM=>?_)
 ·refine au 4 ?_
  cases hM
  exact X.rt
 obtain ⟨y1,h_4,hM⟩:=zK hM
 refine au 4 ?_
 refine X.ca (zDa h_4) ?_
 obtain ⟨y2,h_5,hM⟩:=zK hM
 refine au 5 ?_
 refine X.zAU (Jm h_5) rfl rfl rfl (m:=9) rfl (.cons (.shut (n:=9) rfl) (.cons (FR.arg ⟨30,rfl⟩) .nil)) ?_
 refine au 7 ?_
 refine X.cm hM (fun h_6 hM=>?_) (fun h_6 hM=>?_)
 ·refine au 4 ?_
  cases hM
  exact X.rt
 refine au 14 ?_
 refine X.join (τ:=(List zA)) (fun v=>yG v=some r) (fun v=>⟨[(11,ovl 0 v)],[obl 8 zC v],0,none,69⟩) ?_ ?_
 ·intro l1 hM
  replace hM:yG l1=some r:=hM
  unfold yG at hM
  refine au 5 ?_
  have hE:=Option.some.inj hM
  subst hE
  exact GS.ret ⟨_,rfl,FR.tup (.cons (FR.ovl (f:=zC) (l:=l1) 9 rfl rfl (fun _=>rfl)) (.cons ⟨30,rfl⟩ .nil))⟩
 intro hj_1
 refine au 1 ?_
 refine X.gc [some 0,none,some 2] (X.loop (σ:=(Int×(List zA)×(List (Int×Bool)))) (fun v=>⟨[(3,V.ptr 0 0 0),(9,V.sl (List.map zJ y1)),(10,V.i y2),(11,ovl 1 v.2.1),(12,V.map 2),(33,V.sl (List.map zC l)),(34,(V.i (l.length:Int))),(35,V.i v.1)],[.rows 1 [zG c],obl 8 zC v.2.1,.map (List.map (fun p:Int×Bool=>V.i p.1) v.2.2) (List.map (fun p:Int×Bool=>V.b p.2) v.2.2)],0,none,69⟩) hM ?_ rfl) rfl rfl rfl (ga rfl rfl) (gb9 rfl rfl rfl (gb_pad' rfl (X.zC3 9 rfl rfl (fun _=>rfl) (fun _=>rfl) ZT)))
 rintro ⟨x2,l4,m1⟩ b_1 hM hc_2 hr_1
 rw [yH] at hM
 refine au 3 ?_
 refine GS.seq ?_
 refine X.cm hM (fun h_7 hM=>?_) (fun h_7 hM=>?_)
 ·refine GS.skip (GS.seq ?_)
  refine X.join (τ:=(List zA)×(List (Int×Bool))) (fun v=>JX x2 v.1 v.2=some b_1) (fun v=>⟨[(3,V.ptr 0 0 0),(9,V.sl (List.map zJ y1)),(10,V.i y2),(11,ovl 1 v.1),(12,V.map 2),(33,V.sl (List.map zC l)),(34,(V.i (l.length:Int))),(35,V.i x2)],[.rows 1 [zG c],obl 8 zC v.1,.map (List.map (fun p:Int×Bool=>V.i p.1) v.2) (List.map (fun p:Int×Bool=>V.b p.2) v.2)],0,none,69⟩) ?_ ?_
  ·rintro ⟨l2,m⟩ hM
   replace hM:JX x2 l2 m=some b_1:=hM
   unfold JX at hM
   refine au 4 ?_
   have hE:=Option.some.inj hM
   exact X.gc [some 0,some 1,some 2] (hc_2 (w64 (x2+1),l2,m) hE.symm) rfl rfl rfl (zU rfl ⟨9,rfl⟩ (zU rfl ⟨9,rfl⟩ (zU rfl ⟨9,rfl⟩ (zU rfl (yO rfl) (ga rfl rfl))))) (gb9 rfl rfl rfl (yD 9 rfl rfl (fun _=>rfl) (X.zC3 9 rfl rfl (fun _=>rfl) (fun _=>rfl) ZT)))
  intro hj_3
  obtain ⟨x,h_8,hM⟩:=zK hM
  refine au 4 ?_
  refine X.opW (H':=[.rows 1 [zG c],obl 8 zC l4,.map (List.map (fun p:Int×Bool=>V.i p.1) m1) (List.map (fun p:Int×Bool=>V.b p.2) m1),.rows 8 [V.agg [V.i 0,V.i 0,V.i 0,V.i 0,V.i 0,V.i 0,V.i 0,V.i 0]]]) rfl rfl rfl rfl ?_
  refine X.op0W (H':=[.rows 1 [zG c],obl 8 zC l4,.map (List.map (fun p:Int×Bool=>V.i p.1) m1) (List.map (fun p:Int×Bool=>V.b p.2) m1),.rows 8 [zC x]]) rfl rfl rfl ?_
  obtain ⟨y3,h_9,hM⟩:=zK hM
  obtain ⟨x1,h_10,hM⟩:=gb_of hM
  refine GS.za (GS.seq ?_)
  refine X.mid [(59,(V.b (((decide ((l4.length:Int)<y3))&&(decide ((zn x)=x1)))&&(!((zO x.From m1).getD false))))),(3,V.ptr 0 0 0),(9,V.sl (List.map zJ y1)),(10,V.i y2),(11,ovl 1 l4),(12,V.map 2),(14,V.ptr 3 0 0),(33,V.sl (List.map zC l)),(34,(V.i (l.length:Int))),(35,V.i x2)] ?_ ?_
  ·intro hg
   refine X.split (decide ((l4.length:Int)<y3)) (fun h_11=>?_) (fun h_11=>?_)
   ·refine X.split (decide ((zn x)=x1)) (fun h_12=>?_) (fun h_12=>?_)
    ·refine au 2 ?_
     refine X.cop rfl (X.lenN (l:=l4) rfl rfl rfl) rfl rfl ?_
     refine au 1 ?_
     refine X.cca (jD h_9) ?_
     refine au 3 ?_
     refine X.cca (jd x) ?_
     refine au 2 ?_
     refine X.cop (X.on_t rfl rfl rfl h_11) (X.zBV (f:=zJ) (h_10 h_11) (fun _=>rfl) rfl rfl rfl rfl) rfl rfl ?_
     refine X.cop (X.on_t rfl rfl rfl h_11) (X.zEK (h_10 h_11) rfl rfl rfl) rfl rfl ?_
     refine X.cop (X.on_t rfl rfl rfl h_11) (X.eqlE (Qh (zn x) x1) rfl rfl) rfl rfl ?_
     refine au 5 ?_
     refine X.cop (X.on_t rfl rfl rfl h_12) (X.lookW (f:=V.i) (g:=V.b) (k:=x.From) (l:=m1) (z:=false) (ok:=false) X.jK rfl rfl rfl rfl rfl rfl) rfl rfl ?_
     refine au 3 ?_
     exact X.ng hg rfl (by simp only [h_11,h_12,X.bb])
    refine au 2 ?_
    refine X.cop rfl (X.lenN (l:=l4) rfl rfl rfl) rfl rfl ?_
    refine au 1 ?_
    refine X.cca (jD h_9) ?_
    refine au 3 ?_
    refine X.cca (jd x) ?_
    refine au 2 ?_
    refine X.cop (X.on_t rfl rfl rfl h_11) (X.zBV (f:=zJ) (h_10 h_11) (fun _=>rfl) rfl rfl rfl rfl) rfl rfl ?_
    refine X.cop (X.on_t rfl rfl rfl h_11) (X.zEK (h_10 h_11) rfl rfl rfl) rfl rfl ?_
    refine X.cop (X.on_t rfl rfl rfl h_11) (X.eqlE (Qh (zn x) x1) rfl rfl) rfl rfl ?_
    refine au 9 ?_
    exact X.ng hg rfl (by simp only [h_11,h_12,X.bb])
   refine au 2 ?_
   refine X.cop rfl (X.lenN (l:=l4) rfl rfl rfl) rfl rfl ?_
   refine au 1 ?_
   refine X.cca (jD h_9) ?_
   refine au 18 ?_
   exact X.ng hg rfl (by simp only [h_11,X.bb])
  refine X.cm hM (fun h_13 hM=>?_) (fun h_13 hM=>?_)
  ·refine au 4 ?_
   refine X.op0W (H':=[.rows 1 [zG c],obl 8 zC l4,.map (List.map (fun p:Int×Bool=>V.i p.1) (putM posI m1 x.From true)) (List.map (fun p:Int×Bool=>V.b p.2) (putM posI m1 x.From true)),.rows 8 [zC x]]) rfl (X.putW (f:=V.i) (g:=V.b) (pos:=posI) (k:=x.From) (v:=true) (l:=m1) X.jK (X.Jk _) rfl rfl rfl rfl rfl rfl rfl) rfl ?_
   obtain ⟨l3,h_14,hM⟩:=zK hM
   refine au 4 ?_
   refine X.opW (H':=[.rows 1 [zG c],obl 8 zC l4,.map (List.map (fun p:Int×Bool=>V.i p.1) (putM posI m1 x.From true)) (List.map (fun p:Int×Bool=>V.b p.2) (putM posI m1 x.From true)),.rows 8 [zC x],.rows 8 (List.map zC ([x]))]) rfl rfl rfl rfl ?_
   refine X.appN (f:=zC) h_14 (fun _=>rfl) (by rfl) (by rfl) (by rfl) (by rfl) (by rfl) (by rfl) (by rfl) (by rfl) (by rfl) (by rfl) (by rfl) (by exact rfl) (by rfl) (by rfl) ?_
   refine au 3 ?_
   exact X.gc [some 0,some 5,some 2] (hj_3 (l3,putM posI m1 x.From true) hM) rfl rfl rfl (zU rfl ⟨9,rfl⟩ (zU rfl ⟨9,rfl⟩ (zU rfl ⟨9,rfl⟩ (zU rfl (zNX (zFY h_14) rfl) (ga rfl rfl))))) (gb9 rfl rfl rfl (gb_obl' 9 (zFY h_14) rfl rfl (fun _=>rfl) (X.zC3 9 rfl rfl (fun _=>rfl) (fun _=>rfl) ZT)))
  refine au 2 ?_
  exact X.gc [some 0,some 1,some 2] (hj_3 (l4,m1) hM) rfl rfl rfl (zU rfl ⟨9,rfl⟩ (zU rfl ⟨9,rfl⟩ (zU rfl ⟨9,rfl⟩ (zU rfl (yO rfl) (ga rfl rfl))))) (gb9 rfl rfl rfl (yD 9 rfl rfl (fun _=>rfl) (X.zC3 9 rfl rfl (fun _=>rfl) (fun _=>rfl) ZT)))
 obtain ⟨y_1,hM,hy⟩:=J9 hM
 rw [hr_1 _ hy.symm] at hM
 refine au 1 ?_
 exact X.gy [some 1] (hj_1 l4 hM) (zU rfl (yO rfl) QY)
set_option maxHeartbeats 4000000 in
theorem zBQ {c:zD} {votes:(List zA)} {r:zB×Int} (hM:JG c votes=some r):Ct Tryz.prog 31 [zG c,V.sl (List.map zC votes)] (V.tup [zJ r.1,V.i r.2]):=by
 refine zV ZR rfl ?_
 unfold JG at hM
 obtain ⟨y,h_1,hM⟩:=zK hM
 refine au 9 ?_
 refine X.ca (zBj h_1) ?_
 refine au 6 ?_
 refine X.cm hM (fun h_2 hM=>?_) (fun h_2 hM=>?_)
 ·refine au 3 ?_
  refine X.op0W rfl rfl rfl ?_
  refine au 2 ?_
  cases hM
  exact X.rt
 refine au 11 ?_
 refine X.join (τ:=Unit) (fun v=>jW c votes=some r) (fun v=>⟨[(1,V.sl (List.map zC votes)),(2,V.ptr 0 0 0),(4,V.ptr 1 0 0)],[.rows 1 [zG c],.rows 3 [V.agg [V.i 0,V.i 0,V.i 0]]],0,none,57⟩) ?_ ?_
 ·intro _ hM
  replace hM:jW c votes=some r:=hM
  unfold jW at hM
  obtain ⟨y1,h_3,hM⟩:=zK hM
  refine au 5 ?_
  refine X.ca (jD h_3) ?_
  refine au 2 ?_
  refine X.cm hM (fun h_4 hM=>?_) (fun h_4 hM=>?_)
  ·refine au 2 ?_
   refine X.op0W rfl rfl rfl ?_
   refine au 2 ?_
   cases hM
   exact X.rt
  obtain ⟨x,h_5,hM⟩:=zK hM
  refine au 5 ?_
  refine X.ca (jd x) ?_
  refine X.op0W rfl rfl rfl ?_
  refine au 2 ?_
  cases hM
  exact X.rt
 intro hj_1
 refine au 1 ?_
 refine X.gc [some 0,some 1,some 2] (X.loop (σ:=(Int×(List (Int×Bool)))) (fun v=>⟨[(1,V.sl (List.map zC votes)),(2,V.ptr 0 0 0),(4,V.ptr 1 0 0),(7,V.map 2),(18,V.sl (List.map zC votes)),(19,(V.i (votes.length:Int))),(20,V.i v.1)],[.rows 1 [zG c],.rows 3 [V.agg [V.i 0,V.i 0,V.i 0]],.map (List.map (fun p:Int×Bool=>V.i p.1) v.2) (List.map (fun p:Int×Bool=>V.b p.2) v.2)],0,none,57⟩) hM ?_ rfl) rfl rfl rfl (ga rfl rfl) (gb9 rfl rfl rfl (gb9 rfl rfl rfl (X.zC3 9 rfl rfl (fun _=>rfl) (fun _=>rfl) ZT)))
 rintro ⟨x3,m⟩ b_1 hM hc_2 hr_1
 rw [JP] at hM
 refine au 3 ?_
 refine GS.seq ?_
 refine X.cm hM (fun h_6 hM=>?_) (fun h_6 hM=>?_)
 ·obtain ⟨x1,h_7,hM⟩:=zK hM
  refine au 6 ?_
  refine X.opW (H':=[.rows 1 [zG c],.rows 3 [V.agg [V.i 0,V.i 0,V.i 0]],.map (List.map (fun p:Int×Bool=>V.i p.1) m) (List.map (fun p:Int×Bool=>V.b p.2) m),.rows 8 [V.agg [V.i 0,V.i 0,V.i 0,V.i 0,V.i 0,V.i 0,V.i 0,V.i 0]]]) rfl rfl rfl rfl ?_
  refine X.op0W (H':=[.rows 1 [zG c],.rows 3 [V.agg [V.i 0,V.i 0,V.i 0]],.map (List.map (fun p:Int×Bool=>V.i p.1) m) (List.map (fun p:Int×Bool=>V.b p.2) m),.rows 8 [zC x1]]) rfl rfl rfl ?_
  obtain ⟨x2,h_8,hM⟩:=gb_of hM
  refine au 2 ?_
  refine GS.seq ?_
  refine X.mid [(41,(V.b (((!decide (x1.Kind=4))||(!decide ((zn x1)=(zn x2))))||((zO x1.From m).getD false)))),(1,V.sl (List.map zC votes)),(2,V.ptr 0 0 0),(4,V.ptr 1 0 0),(7,V.map 2),(9,V.ptr 3 0 0),(18,V.sl (List.map zC votes)),(19,(V.i (votes.length:Int))),(20,V.i x3)] ?_ ?_
  ·intro hg
   refine X.split (!decide (x1.Kind=4)) (fun h_9=>?_) (fun h_9=>?_)
   ·refine au 20 ?_
    exact X.ng hg rfl (by simp only [h_9,X.bb])
   refine X.split (!decide ((zn x1)=(zn x2))) (fun h_10=>?_) (fun h_10=>?_)
   ·refine au 6 ?_
    refine X.cca (jd x1) ?_
    refine au 1 ?_
    refine X.cop (X.on_f rfl rfl rfl h_9) (X.zBV (f:=zC) (h_8 (X.nt h_9)) (fun _=>rfl) rfl rfl rfl rfl) rfl rfl ?_
    refine X.cop (X.on_f rfl rfl rfl h_9) (X.zEK (h_8 (X.nt h_9)) rfl rfl rfl) rfl rfl ?_
    refine X.cca (jd x2) ?_
    refine X.cop (X.on_f rfl rfl rfl h_9) (X.neqE (Qh (zn x1) (zn x2)) rfl rfl) rfl rfl ?_
    refine au 8 ?_
    exact X.ng hg rfl (by simp only [h_9,h_10,X.bb])
   refine au 6 ?_
   refine X.cca (jd x1) ?_
   refine au 1 ?_
   refine X.cop (X.on_f rfl rfl rfl h_9) (X.zBV (f:=zC) (h_8 (X.nt h_9)) (fun _=>rfl) rfl rfl rfl rfl) rfl rfl ?_
   refine X.cop (X.on_f rfl rfl rfl h_9) (X.zEK (h_8 (X.nt h_9)) rfl rfl rfl) rfl rfl ?_
   refine X.cca (jd x2) ?_
   refine X.cop (X.on_f rfl rfl rfl h_9) (X.neqE (Qh (zn x1) (zn x2)) rfl rfl) rfl rfl ?_
   refine au 5 ?_
   refine X.cop (X.on_f rfl rfl rfl h_10) (X.lookW (f:=V.i) (g:=V.b) (k:=x1.From) (l:=m) (z:=false) (ok:=false) X.jK rfl rfl rfl rfl rfl rfl) rfl rfl ?_
   refine au 2 ?_
   exact X.ng hg rfl (by simp only [h_9,h_10,X.bb])
  refine X.cm hM (fun h_11 hM=>?_) (fun h_11 hM=>?_)
  ·refine au 2 ?_
   refine X.op0W (H':=[.rows 1 [zG c],.rows 3 [V.agg [V.i 0,V.i 0,V.i 0]],.map (List.map (fun p:Int×Bool=>V.i p.1) m) (List.map (fun p:Int×Bool=>V.b p.2) m),.rows 8 [zC x1]]) rfl rfl rfl ?_
   refine au 2 ?_
   have hE:=Option.some.inj hM
   replace hE:=hr_1 _ hE.symm
   subst hE
   exact X.rt
  refine au 5 ?_
  refine X.op0W (H':=[.rows 1 [zG c],.rows 3 [V.agg [V.i 0,V.i 0,V.i 0]],.map (List.map (fun p:Int×Bool=>V.i p.1) (putM posI m x1.From true)) (List.map (fun p:Int×Bool=>V.b p.2) (putM posI m x1.From true)),.rows 8 [zC x1]]) rfl (X.putW (f:=V.i) (g:=V.b) (pos:=posI) (k:=x1.From) (v:=true) (l:=m) X.jK (X.Jk _) rfl rfl rfl rfl rfl rfl rfl) rfl ?_
  refine au 6 ?_
  have hE:=Option.some.inj hM
  exact X.gc [some 0,some 1,some 2] (hc_2 (w64 (x3+1),putM posI m x1.From true) hE.symm) rfl rfl rfl (ga rfl rfl) (gb9 rfl rfl rfl (gb9 rfl rfl rfl (X.zC3 9 rfl rfl (fun _=>rfl) (fun _=>rfl) ZT)))
 obtain ⟨y_1,hM,hy⟩:=J9 hM
 rw [hr_1 _ hy.symm] at hM
 refine au 1 ?_
 exact X.gx [some 0,some 1] (hj_1 () hM)
abbrev zI (x:zF):V:=.agg [V.i x.ID,V.i x.Known,V.i x.Kind,V.i x.Day,V.i x.Bill,V.i x.Account,V.i x.Amount]
theorem jO (n:Int) (lo:Int) (hi:Int):Ct Tryz.prog 80 [V.i n,V.i lo,V.i hi] (V.b (Zv n lo hi)):=by
 refine zV ZR rfl ?_
 generalize hM:Zv n lo hi=r
 unfold Zv at hM
 refine au 4 ?_
 refine X.mid [(6,V.b ((decide (lo≤n))&&(decide (n≤hi))))] ?_ ?_
 ·intro hg
  refine X.split (decide (lo≤n)) (fun h_1=>?_) (fun h_1=>?_)
  ·refine au 10 ?_
   exact X.ng hg rfl (by simp only [h_1,X.bb])
  refine au 10 ?_
  exact X.ng hg rfl (by simp only [h_1,X.bb])
 subst hM
 exact X.rt
theorem yZ (n:Int):Ct Tryz.prog 72 [V.i n] (V.b (Jf n)):=by
 refine zV ZR rfl ?_
 generalize hM:Jf n=r
 unfold Jf at hM
 refine au 5 ?_
 refine X.ca (jO n 0 728) ?_
 refine au 2 ?_
 subst hM
 exact X.rt
theorem J8 (n:Int):Ct Tryz.prog 34 [V.i n] (V.b (jP n)):=by
 refine zV ZR rfl ?_
 generalize hM:jP n=r
 unfold jP at hM
 refine au 5 ?_
 refine X.ca (jO n 1 1099511627776) ?_
 refine au 2 ?_
 subst hM
 exact X.rt
theorem Ye (n:Int):Ct Tryz.prog 89 [V.i n] (V.b (JL n)):=by
 refine zV ZR rfl ?_
 generalize hM:JL n=r
 unfold JL at hM
 refine au 5 ?_
 refine X.ca (jO n 10 1099511627776) ?_
 refine au 2 ?_
 subst hM
 exact X.rt
theorem Yt (a b:zF):eqA CC.ty 62 (zI a) (zI b)=some (decide (a=b)):=by
 refine (X.eqa rfl rfl (X.eqp rfl rfl rfl (X.eqp rfl rfl rfl (X.eqp rfl rfl rfl (X.eqp rfl rfl rfl (X.eqp rfl rfl rfl (X.eqp rfl rfl rfl (X.eqp rfl rfl rfl X.eqn')))))))).trans ?_
 congr 1
 rw [Bool.eq_iff_iff]
 simp only [Bool.and_eq_true,decide_eq_true_eq,beq_iff_eq,and_true]
 constructor
 ·intro h
  obtain ⟨a1,a2,a3,a4,a5,a6,a7⟩:=a
  obtain ⟨b8,b9,b10,b11,b12,b13,b14⟩:=b
  simp at h
  simp [h]
 ·rintro rfl
  simp
theorem zE8 (x:zF):Ct Tryz.prog 54 [zI x] (V.b (yc x)):=by
 refine zV ZR rfl ?_
 generalize hM:yc x=r
 unfold yc at hM
 refine au 6 ?_
 refine X.mid [(25,(V.b ((((!(Zv x.ID 1 1099511627776))||(!(Jf x.Known)))||(!(Jf x.Day)))||(!(Zv x.Amount 0 16777216))))),(1,V.ptr 0 0 0)] ?_ ?_
 ·intro hg
  refine X.split (!(Zv x.ID 1 1099511627776)) (fun h_1=>?_) (fun h_1=>?_)
  ·refine au 2 ?_
   refine X.ca (jO x.ID 1 1099511627776) ?_
   refine au 20 ?_
   exact X.ng hg rfl (by simp only [h_1,X.bb])
  refine X.split (!(Jf x.Known)) (fun h_2=>?_) (fun h_2=>?_)
  ·refine au 2 ?_
   refine X.ca (jO x.ID 1 1099511627776) ?_
   refine au 4 ?_
   refine X.ca (yZ x.Known) ?_
   refine au 15 ?_
   exact X.ng hg rfl (by simp only [h_1,h_2,X.bb])
  refine X.split (!(Jf x.Day)) (fun h_3=>?_) (fun h_3=>?_)
  ·refine au 2 ?_
   refine X.ca (jO x.ID 1 1099511627776) ?_
   refine au 4 ?_
   refine X.ca (yZ x.Known) ?_
   refine au 5 ?_
   refine X.ca (yZ x.Day) ?_
   refine au 9 ?_
   exact X.ng hg rfl (by simp only [h_1,h_2,h_3,X.bb])
  refine au 2 ?_
  refine X.ca (jO x.ID 1 1099511627776) ?_
  refine au 4 ?_
  refine X.ca (yZ x.Known) ?_
  refine au 5 ?_
  refine X.ca (yZ x.Day) ?_
  refine au 5 ?_
  refine X.ca (jO x.Amount 0 16777216) ?_
  refine au 3 ?_
  exact X.ng hg rfl (by simp only [h_1,h_2,h_3,X.bb])
 refine X.cm hM (fun h_4 hM=>?_) (fun h_4 hM=>?_)
 ·refine au 3 ?_
  subst hM
  exact X.rt
 refine au 4 ?_
 refine X.op0W rfl rfl rfl ?_
 refine au 3 ?_
 refine X.op0W rfl rfl rfl (X.q rfl ?_)
 refine X.op0W rfl rfl rfl (X.q rfl ?_)
 refine X.op0W rfl rfl rfl ?_
 refine au 11 ?_
 refine X.cm hM (fun h_5 hM=>?_) (fun h_5 hM=>?_)
 ·refine X.sq ?_
  refine X.mid [(2,V.b ((jP x.Bill)&&(JL x.Account)))] ?_ ?_
  ·intro hg
   refine X.split (jP x.Bill) (fun h_6=>?_) (fun h_6=>?_)
   ·refine au 2 ?_
    refine X.ca (J8 x.Bill) ?_
    refine au 3 ?_
    refine X.ca (Ye x.Account) ?_
    refine au 3 ?_
    exact X.ng hg rfl (by simp only [h_6,X.bb])
   refine au 2 ?_
   refine X.ca (J8 x.Bill) ?_
   refine au 7 ?_
   exact X.ng hg rfl (by simp only [h_6,X.bb])
  subst hM
  exact X.rt
 refine au 4 ?_
 refine X.cm hM (fun h_7 hM=>?_) (fun h_7 hM=>?_)
 ·refine au 2 ?_
  refine X.op0W rfl rfl rfl (X.q rfl ?_)
  refine X.op0W rfl rfl rfl ?_
  refine au 2 ?_
  refine X.mid [(2,(V.b ((jP x.Bill)&&(decide ((⟨0,0,0,x.Day,0,x.Account,0⟩:zF)=(⟨0,0,0,0,0,0,0⟩:zF))))))] ?_ ?_
  ·intro hg
   refine X.split (jP x.Bill) (fun h_8=>?_) (fun h_8=>?_)
   ·refine au 2 ?_
    refine X.ca (J8 x.Bill) ?_
    refine au 3 ?_
    refine X.opR (X.on_t rfl rfl rfl h_8) (X.eqlE (Yt (⟨0,0,0,x.Day,0,x.Account,0⟩:zF) (⟨0,0,0,0,0,0,0⟩:zF)) rfl rfl) rfl ?_
    refine au 3 ?_
    exact X.ng hg rfl (by simp only [h_8,X.bb])
   refine au 2 ?_
   refine X.ca (J8 x.Bill) ?_
   refine au 7 ?_
   exact X.ng hg rfl (by simp only [h_8,X.bb])
  subst hM
  exact X.rt
 refine au 5 ?_
 refine X.join (τ:=Bool) (fun v=>jf x v=r) (fun v=>⟨[(1,V.ptr 0 0 0),(3,V.ptr 1 0 0),(31,V.i x.Kind),(54,V.b v)],[.rows 7 [zI x],.rows 7 [V.agg [V.i 0,V.i 0,V.i 0,V.i x.Day,V.i x.Bill,V.i x.Account,V.i x.Amount]]],0,none,78⟩) ?_ ?_
 ·intro x1 hM
  replace hM:jf x x1=r:=hM
  unfold jf at hM
  refine X.cm hM (fun h_9 hM=>?_) (fun h_9 hM=>?_)
  ·refine X.sq ?_
   refine X.mid [(2,V.b (((JL x.Account)&&(decide (1≤x.Amount)))&&(decide (x.Bill=0))))] ?_ ?_
   ·intro hg
    refine X.split (JL x.Account) (fun h_10=>?_) (fun h_10=>?_)
    ·refine X.split (decide (1≤x.Amount)) (fun h_11=>?_) (fun h_11=>?_)
     ·refine au 2 ?_
      refine X.ca (Ye x.Account) ?_
      refine au 12 ?_
      exact X.ng hg rfl (by simp only [h_10,h_11,X.bb])
     refine au 2 ?_
     refine X.ca (Ye x.Account) ?_
     refine au 12 ?_
     exact X.ng hg rfl (by simp only [h_10,h_11,X.bb])
    refine au 2 ?_
    refine X.ca (Ye x.Account) ?_
    refine au 12 ?_
    exact X.ng hg rfl (by simp only [h_10,X.bb])
   subst hM
   exact X.rt
  refine au 4 ?_
  refine X.cm hM (fun h_12 hM=>?_) (fun h_12 hM=>?_)
  ·refine au 2 ?_
   refine X.op0W rfl rfl rfl ?_
   refine au 4 ?_
   refine X.opR rfl (X.eqlE (Yt (⟨0,0,0,0,x.Bill,x.Account,x.Amount⟩:zF) (⟨0,0,0,0,0,0,0⟩:zF)) rfl rfl) rfl ?_
   refine au 2 ?_
   subst hM
   exact X.rt
  refine au 5 ?_
  subst hM
  exact X.rt
 intro hj_1
 refine X.cm hM (fun h_13 hM=>?_) (fun h_13 hM=>?_)
 ·refine GS.skip ?_
  exact X.gx [some 0,some 1] (hj_1 (decide (x.Kind=3)) hM)
 refine au 4 ?_
 refine X.cm hM (fun h_14 hM=>?_) (fun h_14 hM=>?_)
 ·refine GS.skip ?_
  exact X.gx [some 0,some 1] (hj_1 (decide (x.Kind=4)) hM)
 refine au 4 ?_
 refine X.cm hM (fun h_15 hM=>?_) (fun h_15 hM=>?_)
 ·refine GS.skip ?_
  exact X.gx [some 0,some 1] (hj_1 (decide (x.Kind=5)) hM)
 refine au 4 ?_
 exact X.gx [some 0,some 1] (hj_1 (decide (x.Kind=6)) hM)
theorem zEB (y:zF) (c:zF):Ct Tryz.prog 56 [zI y,V.fptr [zI c] 0 0] (V.b (jl y c)):=by
 refine zV ZR rfl ?_
 generalize hM:jl y c=r
 unfold jl at hM
 refine au 5 ?_
 refine X.mid [(3,V.b ((decide (y.ID=c.ID))&&(!decide (y=c))))] ?_ ?_
 ·intro hg
  refine X.split (decide (y.ID=c.ID)) (fun h_1=>?_) (fun h_1=>?_)
  ·refine au 8 ?_
   refine X.opR (X.on_t rfl rfl rfl h_1) (X.neqE (Yt y c) rfl rfl) rfl ?_
   refine au 3 ?_
   exact X.ng hg rfl (by simp only [h_1,X.bb])
  refine au 12 ?_
  exact X.ng hg rfl (by simp only [h_1,X.bb])
 subst hM
 exact X.rt
theorem J7 {s:(List zF)} {c:zF} {r:Int} (hM:ZU s c=some r):Ct Tryz.prog 90 [V.sl (List.map zI s),V.fn 56 [V.fptr [zI c] 0 0]] (V.i r):=by
 refine zV ZR rfl ?_
 unfold ZU at hM
 refine au 9 ?_
 refine X.join (τ:=Unit) (fun v=>zu=some r) (fun v=>⟨[],[],0,none,19⟩) ?_ ?_
 ·intro _ hM
  replace hM:zu=some r:=hM
  unfold zu at hM
  refine au 3 ?_
  cases hM
  exact X.rt
 intro hj_1
 refine au 1 ?_
 refine X.gx [] (X.loop (σ:=Int) (fun v=>⟨[(0,V.sl (List.map zI s)),(1,V.fn 56 [V.fptr [zI c] 0 0]),(7,(V.i (s.length:Int))),(8,V.i v)],[],0,none,19⟩) hM ?_ rfl)
 intro x1 b_1 hM hc_2 hr_1
 rw [ZQ] at hM
 refine au 3 ?_
 refine GS.seq ?_
 refine X.cm hM (fun h_1 hM=>?_) (fun h_1 hM=>?_)
 ·obtain ⟨x,h_2,hM⟩:=zK hM
  refine au 13 ?_
  refine X.ca (zEB x c) ?_
  refine GS.za ?_
  refine X.cm hM (fun h_3 hM=>?_) (fun h_3 hM=>?_)
  ·refine au 4 ?_
   have hE:=Option.some.inj hM
   replace hE:=hr_1 _ hE.symm
   subst hE
   exact X.rt
  refine au 6 ?_
  have hE:=Option.some.inj hM
  exact X.gx [] (hc_2 (w64 (x1+1)) hE.symm)
 obtain ⟨y_1,hM,hy⟩:=J9 hM
 rw [hr_1 _ hy.symm] at hM
 refine au 1 ?_
 exact X.gx [] (hj_1 () hM)
theorem Jn {s:(List zF)} {c:zF} {r:Bool} (hM:zw s c=some r):Ct Tryz.prog 55 [V.sl (List.map zI s),V.fn 56 [V.fptr [zI c] 0 0]] (V.b r):=by
 refine zV ZR rfl ?_
 unfold zw at hM
 obtain ⟨y,h_1,hM⟩:=zK hM
 refine au 6 ?_
 refine X.ca (J7 h_1) ?_
 refine au 3 ?_
 cases hM
 exact X.rt
theorem Qx {l:(List zF)} {r:Int} (hM:JM l=some r):Ct Tryz.prog 25 [V.sl (List.map zI l)] (V.i r):=by
 refine zV ZR rfl ?_
 unfold JM at hM
 refine au 9 ?_
 refine X.cm hM (fun h_1 hM=>?_) (fun h_1 hM=>?_)
 ·refine au 3 ?_
  cases hM
  exact X.rt
 refine au 7 ?_
 refine X.join (τ:=Unit) (fun v=>Yg=some r) (fun v=>⟨[],[],0,none,24⟩) ?_ ?_
 ·intro _ hM
  replace hM:Yg=some r:=hM
  unfold Yg at hM
  refine au 3 ?_
  cases hM
  exact X.rt
 intro hj_1
 refine au 1 ?_
 refine X.gx [] (X.loop (σ:=Int) (fun v=>⟨[(0,V.sl (List.map zI l)),(8,V.sl (List.map zI l)),(9,(V.i (l.length:Int))),(10,V.i v)],[],0,none,24⟩) hM ?_ rfl)
 intro x1 b_1 hM hc_2 hr_1
 rw [Yh] at hM
 refine au 3 ?_
 refine GS.seq ?_
 refine X.cm hM (fun h_2 hM=>?_) (fun h_2 hM=>?_)
 ·obtain ⟨x,h_3,hM⟩:=zK hM
  refine au 9 ?_
  refine X.op0W rfl rfl rfl ?_
  refine au 4 ?_
  refine X.ca (zE8 x) ?_
  refine au 2 ?_
  refine X.cm hM (fun h_4 hM=>?_) (fun h_4 hM=>?_)
  ·refine au 3 ?_
   have hE:=Option.some.inj hM
   replace hE:=hr_1 _ hE.symm
   subst hE
   exact X.rt
  obtain ⟨l1,h_5,hM⟩:=zK hM
  obtain ⟨y,h_6,hM⟩:=zK hM
  refine au 4 ?_
  refine X.opR rfl (X.sliceF (f:=zI) h_5 (fun _=>rfl) rfl rfl rfl rfl rfl rfl (X.zBe rfl)) rfl (X.q rfl ?_)
  refine X.zAU (Jn h_6) rfl rfl rfl (m:=9) rfl (.cons (.shut (n:=9) rfl) (.cons (FR.arg ⟨30,rfl⟩) .nil)) ?_
  refine GS.za ?_
  refine X.cm hM (fun h_7 hM=>?_) (fun h_7 hM=>?_)
  ·refine au 3 ?_
   have hE:=Option.some.inj hM
   replace hE:=hr_1 _ hE.symm
   subst hE
   exact X.rt
  refine au 6 ?_
  have hE:=Option.some.inj hM
  exact X.gx [] (hc_2 (w64 (x1+1)) hE.symm)
 obtain ⟨y_1,hM,hy⟩:=J9 hM
 rw [hr_1 _ hy.symm] at hM
 refine au 1 ?_
 exact X.gx [] (hj_1 () hM)
theorem zEA (n:Int):Ct Tryz.prog 71 [V.i n] (V.b (QB n)):=by
 refine zV ZR rfl ?_
 generalize hM:QB n=r
 unfold QB at hM
 refine au 5 ?_
 refine X.ca (yZ n) ?_
 refine au 3 ?_
 subst hM
 exact X.rt
theorem yu {s:(List Int)} {r:Int} (hM:jC s=some r):Ct Tryz.prog 99 [V.sl (List.map V.i s),V.fn 71 []] (V.i r):=by
 refine zV ZR rfl ?_
 unfold jC at hM
 refine au 9 ?_
 refine X.join (τ:=Unit) (fun v=>Zb=some r) (fun v=>⟨[],[],0,none,19⟩) ?_ ?_
 ·intro _ hM
  replace hM:Zb=some r:=hM
  unfold Zb at hM
  refine au 3 ?_
  cases hM
  exact X.rt
 intro hj_1
 refine au 1 ?_
 refine X.gx [] (X.loop (σ:=Int) (fun v=>⟨[(0,V.sl (List.map V.i s)),(1,V.fn 71 []),(7,(V.i (s.length:Int))),(8,V.i v)],[],0,none,19⟩) hM ?_ rfl)
 intro x1 b_1 hM hc_2 hr_1
 rw [jh] at hM
 refine au 3 ?_
 refine GS.seq ?_
 refine X.cm hM (fun h_1 hM=>?_) (fun h_1 hM=>?_)
 ·obtain ⟨x,h_2,hM⟩:=zK hM
  refine au 13 ?_
  refine X.ca (zEA x) ?_
  refine GS.za ?_
  refine X.cm hM (fun h_3 hM=>?_) (fun h_3 hM=>?_)
  ·refine au 4 ?_
   have hE:=Option.some.inj hM
   replace hE:=hr_1 _ hE.symm
   subst hE
   exact X.rt
  refine au 6 ?_
  have hE:=Option.some.inj hM
  exact X.gx [] (hc_2 (w64 (x1+1)) hE.symm)
 obtain ⟨y_1,hM,hy⟩:=J9 hM
 rw [hr_1 _ hy.symm] at hM
 refine au 1 ?_
 exact X.gx [] (hj_1 () hM)
theorem yP {s:(List Int)} {r:Bool} (hM:Zc s=some r):Ct Tryz.prog 70 [V.sl (List.map V.i s),V.fn 71 []] (V.b r):=by
 refine zV ZR rfl ?_
 unfold Zc at hM
 obtain ⟨y,h_1,hM⟩:=zK hM
 refine au 6 ?_
 refine X.ca (yu h_1) ?_
 refine au 3 ?_
 cases hM
 exact X.rt
theorem Qw {l:(List zF)} {days:(List Int)} {r:Int} (hM:jT l days=some r):Ct Tryz.prog 32 [V.sl (List.map zI l),V.sl (List.map V.i days)] (V.i r):=by
 refine zV ZR rfl ?_
 unfold jT at hM
 obtain ⟨y,h_1,hM⟩:=zK hM
 refine au 6 ?_
 refine X.ca (Qx h_1) ?_
 refine au 6 ?_
 refine X.cm hM (fun h_2 hM=>?_) (fun h_2 hM=>?_)
 ·refine au 4 ?_
  cases hM
  exact X.rt
 obtain ⟨y1,h_3,hM⟩:=zK hM
 refine au 4 ?_
 refine X.ca (yP h_3) ?_
 refine GS.za ?_
 refine X.cm hM (fun h_4 hM=>?_) (fun h_4 hM=>?_)
 ·refine au 3 ?_
  cases hM
  exact X.rt
 refine au 4 ?_
 cases hM
 exact X.rt
abbrev zHR (x:yL):V:=.agg [V.i x.Account,V.i x.Amount]
theorem zAM (account:Int) (contra:Int) (amount:Int):Ct Tryz.prog 101 [V.i account,V.i contra,V.i amount] (V.sl (List.map zHR (ZX account contra amount))):=by
 refine zV ZR rfl ?_
 generalize hM:ZX account contra amount=r
 unfold ZX at hM
 refine au 14 ?_
 subst hM
 exact X.rt
theorem zDZ {a:zF} {b:zF} {r:Int} (hM:Yf a b=some r):Ct Tryz.prog 59 [zI a,zI b] (V.i r):=by
 refine zV ZR rfl ?_
 unfold Yf at hM
 obtain ⟨y,h_1,hM⟩:=zK hM
 refine au 5 ?_
 refine GS.seq ?_
 refine X.draw (by kernel_rfl) ?_
 refine au 4 ?_
 refine X.dca (Je a.Known b.Known) ?_
 refine au 4 ?_
 refine X.dca (Je a.ID b.ID) ?_
 refine X.dbld rfl rfl rfl rfl rfl (by kernel_rfl) rfl ?_
 refine X.dca (zDH h_1) ?_
 refine au 2 ?_
 refine X.norm [(4,V.i y)] ?_ rfl (sr rfl)
 cases hM
 exact X.rt
theorem zIb {a:(List zF)} {b:(List zF)} {r:Bool} (hM:zAm a b=some r):Ct Tryz.prog 11 [V.sl (List.map zI a),V.sl (List.map zI b)] (V.b r):=by
 refine zV ZR rfl ?_
 unfold zAm at hM
 refine au 11 ?_
 refine X.cm hM (fun h_1 hM=>?_) (fun h_1 hM=>?_)
 ·refine au 3 ?_
  cases hM
  exact X.rt
 refine au 7 ?_
 refine X.join (τ:=Unit) (fun v=>Yy=some r) (fun v=>⟨[],[],0,none,26⟩) ?_ ?_
 ·intro _ hM
  replace hM:Yy=some r:=hM
  unfold Yy at hM
  refine au 3 ?_
  cases hM
  exact X.rt
 intro hj_1
 refine au 1 ?_
 refine X.gx [] (X.loop (σ:=Int) (fun v=>⟨[(0,V.sl (List.map zI a)),(1,V.sl (List.map zI b)),(12,(V.i (a.length:Int))),(13,V.i v)],[],0,none,26⟩) hM ?_ rfl)
 intro x2 b_1 hM hc_2 hr_1
 rw [Q6] at hM
 refine au 3 ?_
 refine GS.seq ?_
 refine X.cm hM (fun h_2 hM=>?_) (fun h_2 hM=>?_)
 ·obtain ⟨x,h_3,hM⟩:=zK hM
  obtain ⟨x1,h_4,hM⟩:=zK hM
  refine au 17 ?_
  refine X.cop rfl (X.neqE (Yt x x1) rfl rfl) rfl rfl ?_
  refine au 1 ?_
  refine X.norm [(0,V.sl (List.map zI a)),(1,V.sl (List.map zI b)),(12,(V.i (a.length:Int))),(13,V.i x2),(24,V.b (!decide (x=x1)))] ?_ rfl (sr rfl)
  refine X.cm hM (fun h_5 hM=>?_) (fun h_5 hM=>?_)
  ·refine au 3 ?_
   have hE:=Option.some.inj hM
   replace hE:=hr_1 _ hE.symm
   subst hE
   exact X.rt
  refine au 6 ?_
  have hE:=Option.some.inj hM
  exact X.gx [] (hc_2 (w64 (x2+1)) hE.symm)
 obtain ⟨y_1,hM,hy⟩:=J9 hM
 rw [hr_1 _ hy.symm] at hM
 refine au 1 ?_
 exact X.gx [] (hj_1 () hM)
theorem zLP {all os:List Oper} {k:List It} {K:List (Nat×V)} {H:List Blk} {lo n d N:Nat} {rnd:Option Nat} {Q:Ex→St→Prop} {p:Op} {ty:TypeId} {pos:String} {after:Array Edge} {g:Option (Nat×Bool)} {l r:List zF} (hM:app [] l=some r) (hw:wants all K g=some true) (hc:callee K p=some (.fn 57 [.sl (l.map zI)])) (hd:Nat.blt d n=true) (hlo:Nat.ble lo H.length=true) {i:Nat} (hi:H.length+1=i)
  (h:∀ z:Bool,GS CC N (.ops all os :: k) ⟨(d,ovlz z i r) :: K,H++[.dead,oblz z 7 zI r],lo,rnd,n⟩ Q):GS CC N (.ops all (⟨some d,p,ty,pos,after,g⟩ :: os) :: k) ⟨K,H,lo,rnd,n⟩ Q:=by
 subst hi
 have hr:r=l:=by obtain ⟨_,e⟩:=yS hM; simpa using e
 refine GS.im (s:=⟨K,H,lo,rnd,n⟩) (fun v H1 => ∃ z:Bool,v=ovlz z (H.length+1) r∧H1=H++[.dead,oblz z 7 zI r]) hw hc rfl ?_ (fun v H1 hT=>?_)
 ·refine GS.seq ?_
  refine GS.region ?_
  refine X.opR rfl rfl rfl ?_
  refine GS.za ?_
  iterate 2 refine GS.seq ?_
  refine GS.region ?_
  refine X.opR rfl rfl rfl ?_
  refine X.zJe rfl rfl rfl rfl rfl rfl (fun h=>?_) ?_
  ·have hl:r=[]:=by rw [hr]; simpa using h
   subst hl
   refine GS.za ?_
   refine GS.zCZ rfl ?_
   refine GS.seq ?_
   refine GS.region ?_
   refine X.opR rfl rfl rfl ?_
   refine GS.za ?_
   refine GS.pad ?_
   refine GS.pad ?_
   exact GS.ret ⟨_,rfl,true,rfl,by simp [oblz]⟩
  ·refine GS.za ?_
   refine GS.zCa rfl ?_
   refine GS.skip ?_
   refine GS.seq ?_
   refine GS.region ?_
   refine X.opW rfl (v:=.osl H.length 0 0) (wr:=[(H.length,.rows 7 [])]) rfl X.zAu rfl ?_
   refine X.opR rfl rfl rfl ?_
   refine X.opW (H':=H++[.dead,.rows 7 (r.map zI)]) rfl (X.appO (f:=zI) (l:=[]) (xs:=l) (es:=7) hM (fun _=>rfl) rfl rfl rfl rfl rfl rfl X.zGp hlo rfl rfl) ?_ rfl ?_
   ·show hput (hput (H++[Blk.rows 7 []]) H.length Blk.dead) (H++[Blk.rows 7 []]).length (Blk.rows 7 (r.map zI))=_
    have e1:hput (H++[Blk.rows 7 []]) H.length Blk.dead=H++[Blk.dead]:=X.puts_end' (B:=.rows 7 []) (B':=.dead)
    rw [e1,show (H++[Blk.rows 7 []]).length=(H++[Blk.dead]).length by simp,ql]
    simp
   refine X.opR rfl rfl rfl ?_
   refine GS.za ?_
   exact GS.ret ⟨_,rfl,false,by simp [ovlz],rfl⟩
 ·obtain ⟨z,rfl,rfl⟩:=hT
  exact X.front rfl hd (h z) rfl
section
open Go.Wk Go.RowKit Go.Shelf
def zOj (x:zF):List Value:=[.int .i64 x.ID,.int .i64 x.Known,.int .i64 x.Kind,.int .i64 x.Day,.int .i64 x.Bill,.int .i64 x.Account,.int .i64 x.Amount]
theorem flatItm : X.Flat1 zOj 7 zI:=by
 refine ⟨fun _=>rfl,fun x v hv=>?_,fun _=>rfl,fun x v hv c=>?_⟩ <;> simp only [zOj,List.mem_cons,List.not_mem_nil,or_false] at hv <;> rcases hv with rfl | rfl | rfl | rfl | rfl | rfl | rfl <;> first | rfl | (intro h; cases h)
def zOw (x y:zF):Int:=if cmp_Compare_int x.Known y.Known=0 then cmp_Compare_int x.ID y.ID else cmp_Compare_int x.Known y.Known
theorem cmpItI (a b:Int):cmp_Compare_int a b=if a<b then -1 else if b<a then 1 else 0:=by
 unfold cmp_Compare_int cmp_isNaN_int
 simp
theorem ltItm (x y:zF):decide (zOw x y<0)=ZV x y:=by
 have h:∀ a b:Int,(cmp_Compare_int a b=0↔a=b)∧(cmp_Compare_int a b<0↔a<b):=fun a b=>by
  rw [cmpItI]
  by_cases h1:a<b
  ·rw [if_pos h1]; exact ⟨⟨fun h=>by omega,fun h=>by omega⟩,⟨fun _=>h1,fun _=>by omega⟩⟩
  ·rw [if_neg h1]
   by_cases h2:b<a
   ·rw [if_pos h2]; exact ⟨⟨fun h=>by omega,fun h=>by omega⟩,⟨fun h=>by omega,fun h=>by omega⟩⟩
   ·rw [if_neg h2]; exact ⟨⟨fun h=>by omega,fun h=>by omega⟩,⟨fun h=>by omega,fun h=>by omega⟩⟩
 unfold zOw ZV
 rw [Bool.eq_iff_iff,decide_eq_true_eq]
 by_cases c1:x.Known=y.Known
 ·rw [if_pos ((h _ _).1.2 c1),(h _ _).2]
  simp [c1]
 ·rw [if_neg (fun e=>c1 ((h _ _).1.1 e)),(h _ _).2]
  simp [c1]
theorem swoItm : Go.Sort.SWO ZV:=⟨fun x=>by unfold ZV; simp,fun x y z h1 h2=>by unfold ZV at *; simp at *; omega,fun x y z h1 h2=>by unfold ZV at *; simp at *; omega⟩
theorem cmpItm (x y:zF):Yf x y=some (zOw x y):=by
 have key:∀ (a b:Int) (m:Nat),Lp (zX [a,b]) (m+3) 0=some (if a=0 then b else a):=fun a b m=>by
  by_cases h1:a=0
  ·have e0:zX [a,b] 0=some (.inl 1):=by simp [zX,ix,w64,h1]
   rw [zCt _ e0,if_pos h1]
   by_cases h2:b=0
   ·have e1:zX [a,b] 1=some (.inl 2):=by simp [zX,ix,w64,h2]
    have e2:zX [a,b] 2=some (.inr 0):=by simp [zX,yh]
    rw [zCt _ e1,zAN _ e2,h2]
   ·have e1:zX [a,b] 1=some (.inr b):=by simp [zX,ix,h2]
    rw [zAN _ e1]
  ·have e0:zX [a,b] 0=some (.inr a):=by simp [zX,ix,h1]
   rw [zAN _ e0,if_neg h1]
 have h:=key (cmp_Compare_int x.Known y.Known) (cmp_Compare_int x.ID y.ID) 18446744073709551613
 unfold Yf Qc
 show Option.bind (Lp _ (18446744073709551613+3) 0) _=_
 rw [h]; rfl
theorem zEl : X.zHE Tryz.prog 58 59 7 zI ZV:=X.zHT Tryz.sortIt rfl (by decide) Tryz.isAgg62 Tryz.sizeOf62 flatItm ltItm swoItm (enters_of Tryz.func58 (by kernel_rfl) rfl) (fun x y=>zDZ (cmpItm x y))
end
set_option maxHeartbeats 4000000 in
theorem zAx {l:(List zF)} {r:(List zF)} (hM:JU l=some r):Ct Tryz.prog 26 [V.sl (List.map zI l)] (V.sl (List.map zI r)):=by
 refine zV ZR rfl ?_
 unfold JU at hM
 obtain ⟨l1,h_1,hM⟩:=zK hM
 refine au 5 ?_
 refine zLP (r:=l1) (i:=1) h_1 rfl rfl rfl rfl rfl (fun z_1=>?_)
 obtain ⟨l2,h_2,hM⟩:=zK hM
 refine au 4 ?_
 refine X.norm [(0,V.sl (List.map zI l)),(2,V.nil),(4,V.sl (List.map zI l)),(5,ovlz z_1 1 l1),(3,ovlz z_1 1 l1),(6,ovlz z_1 1 l1)] ?_ rfl (sr rfl)
 refine X.zNS (z:=z_1) h_2 zEl (fun _ _ _ h=>h) (K':=[(0,V.sl (List.map zI l)),(2,V.nil),(4,V.sl (List.map zI l)),(5,ovlz z_1 1 l2),(3,ovlz z_1 1 l2),(6,ovlz z_1 1 l2)]) (H':=[.dead,oblz z_1 7 zI l2]) rfl rfl rfl rfl rfl rfl ?_ ?_ ?_
 ·first | rfl | rw [X.Y7 (X.Ji zEl.swo h_2)] | simp only [ovl,X.Y7 (X.Ji zEl.swo h_2)] | simp only [X.Ji zEl.swo h_2]
 ·first | rfl | (simp only [hput]; rfl) | (simp only [ovl,obl]; rw [X.Y7 (X.Ji zEl.swo h_2)] <;> rfl)
 refine au 3 ?_
 refine X.joinO (τ:=(List zF)) (fun v=>je v=some r) (fun v=>⟨[(9,V.sl (List.map zI v))],[],0,none,10⟩) ?_ ?_
 ·intro x hM
  replace hM:je x=some r:=hM
  unfold je at hM
  refine au 2 ?_
  cases hM
  exact X.rt
 intro hj_1
 refine X.inl rfl rfl rfl rfl ?_
 refine au 6 ?_
 refine X.opR rfl (X.lenN (l:=l2) rfl rfl rfl) rfl ?_
 refine au 2 ?_
 refine X.cm hM (fun h_3 hM=>?_) (fun h_3 hM=>?_)
 ·refine au 4 ?_
  refine GS.ret ⟨_,rfl,?_⟩
  refine X.norm (H':=[.dead,oblz z_1 7 zI l2]) [(9,ovlz z_1 1 l2)] ?_ rfl (sr rfl)
  refine X.zCS (z:=z_1) (f:=zI) (l:=l2) (es:=7) 9 rfl rfl rfl rfl (fun _=>rfl) ?_
  exact X.gx [] (hj_1 l2 hM)
 refine au 5 ?_
 refine X.join (τ:=Unit) (fun v=>YK l2=some r) (fun v=>⟨[(0,ovlz z_1 1 l2)],[.dead,oblz z_1 7 zI l2],0,none,61⟩) ?_ ?_
 ·intro _ hM
  replace hM:YK l2=some r:=hM
  unfold YK at hM
  refine au 4 ?_
  refine GS.ret ⟨_,rfl,?_⟩
  refine X.norm (H':=[.dead,oblz z_1 7 zI l2]) [(9,ovlz z_1 1 l2)] ?_ rfl (sr rfl)
  refine X.zCS (z:=z_1) (f:=zI) (l:=l2) (es:=7) 9 rfl rfl rfl rfl (fun _=>rfl) ?_
  exact X.gx [] (hj_1 l2 hM)
 intro hj_2
 refine au 1 ?_
 refine X.gc [] (X.loop (σ:=Int) (fun v=>⟨[(0,ovlz z_1 1 l2),(3,V.i v)],[.dead,oblz z_1 7 zI l2],0,none,61⟩) hM ?_ rfl) rfl rfl rfl (zU rfl (yO rfl) (ga rfl rfl)) (jU (yD 9 rfl rfl (fun _=>rfl) ZT))
 intro k3 b_1 hM hc_3 hr_1
 rw [YM] at hM
 refine au 4 ?_
 refine X.opR rfl (X.lenN (l:=l2) rfl rfl rfl) rfl ?_
 refine au 2 ?_
 refine X.cm hM (fun h_4 hM=>?_) (fun h_4 hM=>?_)
 ·obtain ⟨x1,h_5,hM⟩:=zK hM
  obtain ⟨x2,h_6,hM⟩:=zK hM
  refine au 7 ?_
  refine X.cop rfl (X.zK8 h_5 rfl rfl rfl rfl rfl) rfl rfl ?_
  refine X.cop rfl (X.zJk h_5 rfl rfl rfl rfl) rfl rfl ?_
  refine au 3 ?_
  refine X.cop rfl (X.zK8 h_6 rfl rfl rfl rfl rfl) rfl rfl ?_
  refine X.cop rfl (X.zJk h_6 rfl rfl rfl rfl) rfl rfl ?_
  refine X.cop rfl (X.eqlE (Yt x1 x2) rfl rfl) rfl rfl ?_
  refine au 1 ?_
  refine X.norm [(0,ovlz z_1 1 l2),(3,V.i k3),(25,V.b (decide (x1=x2)))] ?_ rfl (sr rfl)
  refine X.cm hM (fun h_7 hM=>?_) (fun h_7 hM=>?_)
  ·obtain ⟨a,h_8,hM⟩:=zK hM
   refine au 3 ?_
   refine X.opR rfl (X.sliceQN (f:=zI) (l:=l2) h_8 rfl rfl rfl rfl rfl rfl (X.zBe rfl)) rfl ?_
   refine au 6 ?_
   refine X.join (τ:=Int×(List zF)) (fun v=>yB v.1 v.2=some b_1) (fun v=>⟨[(0,ovlz z_1 1 v.2),(3,V.i v.1)],[.dead,oblz z_1 7 zI v.2],0,none,61⟩) ?_ ?_
   ·rintro ⟨k,l3⟩ hM
    replace hM:yB k l3=some b_1:=hM
    unfold yB at hM
    obtain ⟨l4,h_9,hM⟩:=zK hM
    obtain ⟨l5,h_10,hM⟩:=zK hM
    refine au 3 ?_
    refine X.opR rfl (X.zNT (z:=z_1) (f:=zI) (l:=l3) h_9 rfl rfl rfl rfl rfl rfl (X.zBe rfl) rfl) rfl ?_
    refine X.clearU (f:=zI) (l:=l3) (l':=l5) (H':=[.dead,oblz z_1 7 zI l5]) 0 h_10 h_9 rfl rfl rfl rfl rfl rfl rfl rfl rfl rfl rfl ?_
    obtain ⟨l6,h_11,hM⟩:=zK hM
    refine au 4 ?_
    refine X.opR rfl (X.zNT (z:=z_1) (f:=zI) (l:=l5) h_11 rfl rfl rfl rfl rfl rfl rfl (X.zBe rfl)) rfl ?_
    refine au 2 ?_
    refine GS.ret ⟨_,rfl,?_⟩
    refine X.norm (H':=[.dead,oblz z_1 7 zI l5]) [(9,ovs z_1 1 l5 l6 0)] ?_ rfl (sr rfl)
    refine X.zNB (z:=z_1) (f:=zI) (l:=l5) (r:=l6) 9 h_11 rfl rfl rfl rfl (fun _=>rfl) ?_
    obtain ⟨y_1,hM,hy⟩:=J9 hM
    rw [hr_1 _ hy.symm] at hM
    exact X.gx [] (hj_1 l6 hM)
   intro hj_4
   refine au 1 ?_
   refine X.gc [] (X.loop (σ:=(Int×Int×(List zF))) (fun v=>⟨[(0,ovlz z_1 1 v.2.2),(3,V.i v.1),(4,oqv 1 v.2.2 a),(5,V.i v.2.1)],[.dead,oblz z_1 7 zI v.2.2],0,none,61⟩) hM ?_ rfl) rfl rfl rfl (zU rfl (yO rfl) (ga rfl rfl)) (jU (yD 9 rfl rfl (fun _=>rfl) ZT))
   rintro ⟨k2,k21,l8⟩ b_2 hM hc_5 hr_2
   rw [YL] at hM
   refine au 4 ?_
   refine X.opR rfl (X.lenQ rfl rfl rfl) rfl ?_
   refine au 2 ?_
   refine X.cm hM (fun h_12 hM=>?_) (fun h_12 hM=>?_)
   ·refine GS.skip (GS.seq ?_)
    refine X.join (τ:=Int×(List zF)) (fun v=>JW k21 v.1 v.2=some b_2) (fun v=>⟨[(0,ovlz z_1 1 v.2),(3,V.i v.1),(4,oqv 1 v.2 a),(5,V.i k21)],[.dead,oblz z_1 7 zI v.2],0,none,61⟩) ?_ ?_
    ·rintro ⟨k1,l7⟩ hM
     replace hM:JW k21 k1 l7=some b_2:=hM
     unfold JW at hM
     refine au 5 ?_
     have hE:=Option.some.inj hM
     exact X.gc [] (hc_5 (k1,w64 (k21+1),l7) hE.symm) rfl rfl rfl (zU rfl (yO rfl) (ga rfl rfl)) (jU (yD 9 rfl rfl (fun _=>rfl) ZT))
    intro hj_6
    obtain ⟨x3,h_13,hM⟩:=zK hM
    obtain ⟨x4,h_14,hM⟩:=zK hM
    refine au 5 ?_
    refine X.cop rfl (X.zIn (f:=zI) h_13 rfl rfl rfl rfl rfl) rfl rfl ?_
    refine X.cop rfl (X.zJk (X.zIk h_13) rfl rfl rfl rfl) rfl rfl ?_
    refine au 3 ?_
    refine X.cop rfl (X.zIn (f:=zI) h_14 rfl rfl rfl rfl rfl) rfl rfl ?_
    refine X.cop rfl (X.zJk (X.zIk h_14) rfl rfl rfl rfl) rfl rfl ?_
    refine X.cop rfl (X.neqE (Yt x3 x4) rfl rfl) rfl rfl ?_
    refine au 1 ?_
    refine X.norm [(0,ovlz z_1 1 l8),(3,V.i k2),(4,oqv 1 l8 a),(5,V.i k21),(44,V.b (!decide (x3=x4)))] ?_ rfl (sr rfl)
    refine X.cm hM (fun h_15 hM=>?_) (fun h_15 hM=>?_)
    ·obtain ⟨x5,h_16,hM⟩:=zK hM
     obtain ⟨x6,h_17,hM⟩:=zK hM
     refine au 5 ?_
     refine X.opR rfl (X.zIn (f:=zI) h_16 rfl rfl rfl rfl rfl) rfl ?_
     refine X.opR rfl (X.zJk (X.zIk h_16) rfl rfl rfl rfl) rfl ?_
     refine X.opR rfl (X.zK8 h_17 rfl rfl rfl rfl rfl) rfl ?_
     refine X.op0W rfl (X.zE3 (b:=x5) h_17 rfl rfl rfl rfl rfl rfl rfl) rfl ?_
     refine au 7 ?_
     exact X.gc [] (hj_6 (w64 (k2+1),put l8 k2 x5) hM) rfl rfl rfl (zU rfl (rv_eq X.ovl_put (yO rfl)) (zU rfl ⟨9,rfl⟩ (zU rfl (rv_eq X.oqv_put ⟨9,rfl⟩) (ga rfl rfl)))) (jU (yD 9 rfl rfl (fun _=>rfl) ZT))
    refine au 2 ?_
    exact X.gc [] (hj_6 (k2,l8) hM) rfl rfl rfl (zU rfl (yO rfl) (ga rfl rfl)) (jU (yD 9 rfl rfl (fun _=>rfl) ZT))
   obtain ⟨y_2,hM,hy⟩:=J9 hM
   rw [hr_2 _ hy.symm] at hM
   refine au 1 ?_
   exact X.gc [] (hj_4 (k2,l8) hM) rfl rfl rfl (zU rfl (yO rfl) (ga rfl rfl)) (jU (yD 9 rfl rfl (fun _=>rfl) ZT))
  refine au 7 ?_
  have hE:=Option.some.inj hM
  exact X.gc [] (hc_3 (w64 (k3+1)) hE.symm) rfl rfl rfl (zU rfl (yO rfl) (ga rfl rfl)) (jU (yD 9 rfl rfl (fun _=>rfl) ZT))
 obtain ⟨y_1,hM,hy⟩:=J9 hM
 rw [hr_1 _ hy.symm] at hM
 refine au 1 ?_
 exact X.gc [] (hj_2 () hM) rfl rfl rfl (zU rfl (yO rfl) QY) (jU (yD 9 rfl rfl (fun _=>rfl) ZT))
end Go.Proofs.YtggkidlcohickaaGreat
