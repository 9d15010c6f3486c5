/- The program's functions compute the plain ones. Conditions: none. Printed by a program (wip/tools/xg.py). -/
import Derived.Test.YtfoafeaplgmhmaaGreatTok
import Derived.Test.YtfoafeaplgmhmaaGreatSrt
import Derived.Test.YtfoafeaplgmhmaaGreatM
set_option linter.unusedVariables false
set_option linter.unusedSimpArgs false
namespace Go.Proofs.YtfoafeaplgmhmaaGreat
open Go Go.Am Go.Proofs Go.Mx
noncomputable def CC : Cfg:=cfg (Ct Tryz.prog)
theorem Zh : CC.OK:=cfg_ok fun f args v h=>h
abbrev zD (x:zG):V:=.agg [(V.i x.Arbiters)]
theorem ZI (n:Int) (lo:Int) (hi:Int):Ct Tryz.prog 49 [(V.i n),(V.i lo),(V.i hi)] (V.b (zP n lo hi)):=by
 refine zX Zh rfl ?_
 generalize hM:zP n lo hi=r
 unfold zP at hM
 refine X.sq (X.q rfl (X.nq ?_))
 refine X.mid [(6,(V.b ((decide (lo≤n))&&(decide (n≤hi)))))] ?_ ?_
 ·intro hg
  refine X.split (decide (lo≤n)) (fun h_1=>?_) (fun h_1=>?_)
  ·iterate 4 refine X.q rfl ?_
   iterate 3 refine X.opR (X.on_t rfl rfl rfl h_1) rfl rfl ?_
   refine X.opR rfl (X.zm (y:=decide (n≤hi)) rfl h_1 rfl) rfl (X.q rfl (GS.zC ?_))
   exact X.norm _ hg rfl (sr rfl)
  iterate 4 refine X.q rfl ?_
  iterate 3 refine X.off (X.JA rfl rfl rfl h_1) rfl ?_
  refine X.opR rfl (X.ZJ (y:=decide (n≤hi)) rfl h_1 rfl) rfl (X.q rfl (GS.zC ?_))
  exact X.norm _ hg rfl (sr rfl)
 subst hM
 exact GS.ret ⟨_,rfl,⟨30,rfl⟩⟩
theorem Z7 (c:zG):Ct Tryz.prog 21 [(zD c)] (V.i (za c)):=by
 refine zX Zh rfl ?_
 generalize hM:za c=r
 unfold za at hM
 refine X.sq ?_
 refine X.opW rfl rfl rfl rfl (X.q rfl (GS.zC (GS.seq (X.sq (X.q rfl (X.q rfl ?_))))))
 refine X.call (ZI c.Arbiters 3 7) rfl rfl rfl (.cons (.shut (n:=9) rfl) (.cons (.shut (n:=9) rfl) (.cons (.shut (n:=9) rfl) .nil))) (X.q rfl (GS.zC ?_))
 refine X.cond rfl (fun h_1=>?_) (fun h_1=>?_)
 ·replace hM:=Zb h_1 hM
  refine X.sq (X.q rfl (GS.zC ?_))
  subst hM
  exact GS.ret ⟨_,rfl,⟨30,rfl⟩⟩
 replace hM:=Zc h_1 hM
 refine GS.skip (X.sq (X.q rfl (GS.zC ?_)))
 subst hM
 exact GS.ret ⟨_,rfl,⟨30,rfl⟩⟩
theorem Jg {c:zG} {r:Int} (hM:jP c=some r):Ct Tryz.prog 88 [(zD c)] (V.i r):=by
 refine zX Zh rfl ?_
 unfold jP at hM
 refine X.sq ?_
 refine X.opW rfl rfl rfl rfl (X.q rfl (GS.zC (GS.seq (X.sq (X.q rfl ?_)))))
 refine X.call (Z7 c) rfl rfl rfl (.cons (.shut (n:=9) rfl) .nil) (X.q rfl (GS.zC ?_))
 refine X.cond rfl (fun h_1=>?_) (fun h_1=>?_)
 ·replace hM:=Zb h_1 hM
  refine X.sq (X.q rfl (GS.zC ?_))
  cases hM
  exact GS.ret ⟨_,rfl,⟨30,rfl⟩⟩
 replace hM:=Zc h_1 hM
 refine GS.skip (GS.seq ?_)
 obtain ⟨q,h_2,hM⟩:=zM hM
 refine GS.region (X.q rfl (X.q rfl ?_))
 refine X.opR rfl (X.quoE h_2 rfl rfl) rfl ?_
 refine X.opR rfl (X.addE rfl rfl) rfl (X.q rfl (GS.zC ?_))
 cases hM
 exact GS.ret ⟨_,rfl,⟨30,rfl⟩⟩
abbrev zB (x:zA):V:=.agg [(V.i x.ID),(V.i x.Case),(V.i x.Kind),(V.i x.Round),(V.i x.From),(V.i x.To),(V.i x.Voted),(V.i x.Finding)]
theorem zEW {l:(List zA)} {r:Int×Bool} (hM:Yb l=some r):Ct Tryz.prog 94 [(V.sl (List.map zB l))] (V.tup [(V.i r.1),(V.b r.2)]):=by
 refine zX Zh rfl ?_
 unfold Yb at hM
 refine X.sq (X.q rfl (X.q rfl ?_))
 refine X.nq ?_
 refine X.opW rfl rfl rfl rfl (GS.zC (GS.seq (X.sq (X.q rfl ?_))))
 refine X.opR rfl (X.lenF rfl rfl rfl) rfl (X.q rfl (GS.zC ?_))
 refine X.join (τ:=Int×Int×Int×Int×Int×Int×Int×Int) (fun v=>yJ v.1 v.2.1 v.2.2.1 v.2.2.2.1 v.2.2.2.2.1 v.2.2.2.2.2.1 v.2.2.2.2.2.2.1 v.2.2.2.2.2.2.2=some r) (fun v=>⟨[(4,(V.ptr 0 0 0))],[.rows 8 [(V.agg [(V.i v.1),(V.i v.2.1),(V.i v.2.2.1),(V.i v.2.2.2.1),(V.i v.2.2.2.2.1),(V.i v.2.2.2.2.2.1),(V.i v.2.2.2.2.2.2.1),(V.i v.2.2.2.2.2.2.2)])]],0,none,25⟩) ?_ ?_
 ·rintro ⟨ID,Case,Kind,Round,From,To,Voted,Finding⟩ hM
  replace hM:yJ ID Case Kind Round From To Voted Finding=some r:=hM
  unfold yJ at hM
  refine GS.seq ?_
  refine X.drawc (by kernel_rfl) rfl ?_
  iterate 7 refine X.cop rfl rfl rfl rfl ?_
  refine X.cnil ?_
  refine X.norm [(2,(V.i Finding)),(3,(V.b (decide (0<Voted))))] ?_ rfl (sr rfl)
  cases hM
  exact GS.ret ⟨_,rfl,⟨30,rfl⟩⟩
 intro hj_1
 refine GS.block ?_
 refine X.gc [some 0] (X.loop (σ:=(Int×Int×Int×Int×Int×Int×Int×Int×Int)) (fun v=>⟨[(4,(V.ptr 0 0 0)),(7,(V.sl (List.map zB l))),(8,(V.i (l.length:Int))),(9,(V.i v.1))],[.rows 8 [(V.agg [(V.i v.2.1),(V.i v.2.2.1),(V.i v.2.2.2.1),(V.i v.2.2.2.2.1),(V.i v.2.2.2.2.2.1),(V.i v.2.2.2.2.2.2.1),(V.i v.2.2.2.2.2.2.2.1),(V.i v.2.2.2.2.2.2.2.2)])]],0,none,25⟩) hM ?_ rfl) rfl rfl rfl (ga rfl rfl) (gb9 rfl rfl rfl zU)
 rintro ⟨x1,ID2,Case2,Kind2,Round2,From2,To2,Voted2,Finding2⟩ b_1 hM hc_2 hr_1
 rw [yK] at hM
 refine X.sq (X.q rfl (GS.zC (GS.seq ?_)))
 refine X.cond rfl (fun h_1=>?_) (fun h_1=>?_)
 ·replace hM:=Zb h_1 hM
  refine GS.skip (GS.seq ?_)
  refine X.join (τ:=Int×Int×Int×Int×Int×Int×Int×Int) (fun v=>Jb x1 v.1 v.2.1 v.2.2.1 v.2.2.2.1 v.2.2.2.2.1 v.2.2.2.2.2.1 v.2.2.2.2.2.2.1 v.2.2.2.2.2.2.2=some b_1) (fun v=>⟨[(4,(V.ptr 0 0 0)),(7,(V.sl (List.map zB l))),(8,(V.i (l.length:Int))),(9,(V.i x1))],[.rows 8 [(V.agg [(V.i v.1),(V.i v.2.1),(V.i v.2.2.1),(V.i v.2.2.2.1),(V.i v.2.2.2.2.1),(V.i v.2.2.2.2.2.1),(V.i v.2.2.2.2.2.2.1),(V.i v.2.2.2.2.2.2.2)])]],0,none,25⟩) ?_ ?_
  ·rintro ⟨ID1,Case1,Kind1,Round1,From1,To1,Voted1,Finding1⟩ hM
   replace hM:Jb x1 ID1 Case1 Kind1 Round1 From1 To1 Voted1 Finding1=some b_1:=hM
   unfold Jb at hM
   refine GS.region ?_
   refine X.opR rfl (X.addE rfl rfl) rfl (X.q rfl (GS.zC ?_))
   have hE:=Option.some.inj hM
   exact X.gc [some 0] (hc_2 (w64 (x1+1),ID1,Case1,Kind1,Round1,From1,To1,Voted1,Finding1) hE.symm) rfl rfl rfl (ga rfl rfl) (gb9 rfl rfl rfl zU)
  intro hj_3
  refine GS.block (GS.seq ?_)
  obtain ⟨x,h_2,hM⟩:=zM hM
  refine GS.region ?_
  refine X.opR rfl (X.yT (f:=zB) h_2 (fun _=>rfl) rfl rfl rfl rfl) rfl ?_
  refine X.opR rfl (X.Yx h_2 rfl rfl rfl) rfl ?_
  refine X.opW rfl rfl rfl rfl ?_
  refine X.op0W rfl rfl rfl (X.nq ?_)
  iterate 5 refine X.q rfl ?_
  refine GS.zC ?_
  refine X.cond rfl (fun h_3=>?_) (fun h_3=>?_)
  ·replace hM:=Zb h_3 hM
   refine GS.region (X.q rfl ?_)
   refine X.op0W rfl rfl rfl (GS.zC ?_)
   refine GS.endB ?_
   exact X.gc [some 0] (hj_3 (x.ID,x.Case,x.Kind,x.Round,x.From,x.To,x.Voted,x.Finding) hM) rfl rfl rfl (ga rfl rfl) (gb9 rfl rfl rfl zU)
  replace hM:=Zc h_3 hM
  refine GS.skip ?_
  refine GS.endB ?_
  exact X.gc [some 0] (hj_3 (ID2,Case2,Kind2,Round2,From2,To2,Voted2,Finding2) hM) rfl rfl rfl (ga rfl rfl) (gb9 rfl rfl rfl zU)
 replace hM:=Zc h_1 hM
 refine GS.exit rfl ?_
 obtain ⟨y_1,hM,hy⟩:=yR hM
 rw [hr_1 _ hy.symm] at hM
 exact X.gc [some 0] (hj_1 (ID2,Case2,Kind2,Round2,From2,To2,Voted2,Finding2) hM) rfl rfl rfl (ga rfl rfl) (gb9 rfl rfl rfl zU)
theorem zFy {c:zG} {arbiter:Int} {round:Int} {r:Int} (hM:Qi c arbiter round=some r):Ct Tryz.prog 56 [(zD c),(V.i arbiter),(V.i round)] (V.i r):=by
 refine zX Zh rfl ?_
 unfold Qi at hM
 refine X.sq ?_
 refine X.opW rfl rfl rfl rfl (X.q rfl (X.nq (X.q rfl ?_)))
 refine X.opR rfl (X.addE rfl rfl) rfl (X.q rfl (GS.zC (GS.seq ?_)))
 refine X.join (τ:=Int) (fun v=>YE v=some r) (fun v=>⟨[(7,(V.i v))],[],0,none,20⟩) ?_ ?_
 ·intro r_ hM
  replace hM:YE r_=some r:=hM
  unfold YE at hM
  refine X.sq (X.q rfl (X.q rfl ?_))
  refine GS.zC ?_
  cases hM
  exact GS.ret ⟨_,rfl,⟨30,rfl⟩⟩
 intro hj_1
 refine GS.block ?_
 refine X.gc [some 0] (X.loop (σ:=Int) (fun v=>⟨[(1,(V.i arbiter)),(3,(V.ptr 0 0 0)),(7,(V.i v))],[.rows 1 [(zD c)]],0,none,20⟩) hM ?_ rfl) rfl rfl rfl (ga rfl rfl) (gb9 rfl rfl rfl zU)
 intro r_1 b_1 hM hc_2 hr_1
 rw [qP] at hM
 iterate 2 refine GS.seq ?_
 obtain ⟨q,h_1,hM⟩:=zM hM
 refine GS.region (X.q rfl ?_)
 refine X.opR rfl (X.subE rfl rfl) rfl (X.q rfl (X.q rfl ?_))
 refine X.opR rfl (X.remE h_1 rfl rfl) rfl (X.q rfl (X.q rfl ?_))
 refine GS.zC ?_
 refine X.cond rfl (fun h_2=>?_) (fun h_2=>?_)
 ·replace hM:=Zb h_2 hM
  refine GS.skip (GS.block (GS.region (X.q rfl ?_)))
  refine X.opR rfl (X.addE rfl rfl) rfl (X.q rfl (GS.zC ?_))
  refine GS.endB ?_
  have hE:=Option.some.inj hM
  exact X.gc [some 0] (hc_2 (w64 (r_1+1)) hE.symm) rfl rfl rfl (ga rfl rfl) (gb9 rfl rfl rfl zU)
 replace hM:=Zc h_2 hM
 refine GS.exit rfl ?_
 obtain ⟨y_1,hM,hy⟩:=yR hM
 rw [hr_1 _ hy.symm] at hM
 exact X.gc [] (hj_1 r_1 hM) rfl rfl rfl (ga rfl rfl) (zU)
theorem Z6 (c:zG) (a:Int):Ct Tryz.prog 43 [(zD c),(V.i a)] (V.b (zN c a)):=by
 refine zX Zh rfl ?_
 generalize hM:zN c a=r
 unfold zN at hM
 refine X.sq ?_
 refine X.opW rfl rfl rfl rfl (X.q rfl (X.nq (X.q rfl (X.q rfl (X.q rfl ?_)))))
 refine X.opR rfl (X.subE rfl rfl) rfl ?_
 refine X.call (ZI a 0 (w64 (c.Arbiters - 1))) rfl rfl rfl (.cons (.shut (n:=9) rfl) (.cons (.shut (n:=9) rfl) (.cons (.shut (n:=9) rfl) .nil))) (X.q rfl (GS.zC ?_))
 subst hM
 exact GS.ret ⟨_,rfl,⟨30,rfl⟩⟩
theorem jZ (id:Int):Ct Tryz.prog 44 [(V.i id)] (V.b (zZ id)):=by
 refine zX Zh rfl ?_
 generalize hM:zZ id=r
 unfold zZ at hM
 refine X.sq (X.q rfl (X.nq (X.q rfl ?_)))
 refine X.call (ZI id 1 1099511627776) rfl rfl rfl (.cons (.shut (n:=9) rfl) (.cons (.shut (n:=9) rfl) (.cons (.shut (n:=9) rfl) .nil))) (X.q rfl (GS.zC ?_))
 subst hM
 exact GS.ret ⟨_,rfl,⟨30,rfl⟩⟩
theorem zAJ (n:Int):Ct Tryz.prog 51 [(V.i n)] (V.b (Zd n)):=by
 refine zX Zh rfl ?_
 generalize hM:Zd n=r
 unfold Zd at hM
 refine X.sq (X.q rfl (X.nq (X.q rfl ?_)))
 refine X.call (ZI n 0 65536) rfl rfl rfl (.cons (.shut (n:=9) rfl) (.cons (.shut (n:=9) rfl) (.cons (.shut (n:=9) rfl) .nil))) (X.q rfl (GS.zC ?_))
 subst hM
 exact GS.ret ⟨_,rfl,⟨30,rfl⟩⟩
theorem zDO {s:(List Int)} {v_:Int} {r:Int} (hM:slices_Index_int s v_=some r):Ct Tryz.prog 110 [(V.sl (List.map V.i s)),(V.i v_)] (V.i r):=by
 refine zX Zh rfl ?_
 unfold slices_Index_int at hM
 refine X.sq (X.q rfl (GS.zC (GS.seq (X.sq (X.q rfl ?_)))))
 refine X.opR rfl (X.lenF rfl rfl rfl) rfl (X.q rfl (GS.zC ?_))
 refine X.join (τ:=Unit) (fun v=>jc=some r) (fun v=>⟨[],[],0,none,19⟩) ?_ ?_
 ·intro _ hM
  replace hM:jc=some r:=hM
  unfold jc at hM
  refine X.sq (X.q rfl (GS.zC ?_))
  cases hM
  exact GS.ret ⟨_,rfl,⟨30,rfl⟩⟩
 intro hj_1
 refine GS.block ?_
 refine X.gc [] (X.loop (σ:=Int) (fun v=>⟨[(0,(V.sl (List.map V.i s))),(1,(V.i v_)),(7,(V.i (s.length:Int))),(8,(V.i v))],[],0,none,19⟩) hM ?_ rfl) rfl rfl rfl (ga rfl rfl) (zU)
 intro x1 b_1 hM hc_2 hr_1
 rw [yc] at hM
 refine X.sq (X.q rfl (GS.zC (GS.seq ?_)))
 refine X.cond rfl (fun h_1=>?_) (fun h_1=>?_)
 ·replace hM:=Zb h_1 hM
  refine GS.skip (GS.seq (GS.block (X.sq (X.q rfl (X.q rfl ?_)))))
  refine GS.zC (GS.seq ?_)
  obtain ⟨x,h_2,hM⟩:=zM hM
  refine GS.region (X.q rfl (X.q rfl (X.q rfl ?_)))
  refine X.opR rfl (X.yT (f:=V.i) h_2 (fun _=>rfl) rfl rfl rfl rfl) rfl ?_
  refine X.opR rfl (X.Yx h_2 rfl rfl rfl) rfl (X.q rfl (GS.zC ?_))
  refine X.cond rfl (fun h_3=>?_) (fun h_3=>?_)
  ·replace hM:=Zb h_3 hM
   refine X.sq (X.q rfl (X.q rfl ?_))
   refine GS.zC ?_
   have hE:=Option.some.inj hM
   replace hE:=hr_1 _ hE.symm
   subst hE
   exact GS.ret ⟨_,rfl,⟨30,rfl⟩⟩
  replace hM:=Zc h_3 hM
  refine GS.skip ?_
  refine GS.endB (GS.region ?_)
  refine X.opR rfl (X.addE rfl rfl) rfl (X.q rfl (GS.zC ?_))
  have hE:=Option.some.inj hM
  exact X.gc [] (hc_2 (w64 (x1+1)) hE.symm) rfl rfl rfl (ga rfl rfl) (zU)
 replace hM:=Zc h_1 hM
 refine GS.exit rfl ?_
 obtain ⟨y_1,hM,hy⟩:=yR hM
 rw [hr_1 _ hy.symm] at hM
 exact X.gc [] (hj_1 () hM) rfl rfl rfl (Jd) (zU)
theorem QW {s:(List Int)} {v_:Int} {r:Bool} (hM:slices_Contains_int s v_=some r):Ct Tryz.prog 92 [(V.sl (List.map V.i s)),(V.i v_)] (V.b r):=by
 refine zX Zh rfl ?_
 unfold slices_Contains_int at hM
 refine X.sq (X.q rfl (GS.zC (GS.seq ?_)))
 obtain ⟨y,h_1,hM⟩:=zM hM
 refine GS.region (X.q rfl (X.q rfl ?_))
 refine X.call (zDO h_1) rfl rfl rfl (.cons (.shut (n:=9) rfl) (.cons (.shut (n:=9) rfl) .nil)) (X.q rfl (X.q rfl ?_))
 refine GS.zC ?_
 cases hM
 exact GS.ret ⟨_,rfl,⟨30,rfl⟩⟩
theorem zBV (l:zA) (c:Int):Ct Tryz.prog 98 [(zB l),(V.fptr [(V.i c)] 0 0)] (V.b (JR l c)):=by
 refine zX Zh rfl ?_
 generalize hM:JR l c=r
 unfold JR at hM
 refine X.sq ?_
 refine X.opW rfl rfl rfl rfl (X.q rfl (X.nq ?_))
 iterate 5 refine X.q rfl ?_
 refine GS.zC ?_
 subst hM
 exact GS.ret ⟨_,rfl,⟨30,rfl⟩⟩
theorem Jj {s:(List zA)} {c:Int} {r:Int} (hM:ZL s c=some r):Ct Tryz.prog 91 [(V.sl (List.map zB s)),(V.fn 98 [(V.fptr [(V.i c)] 0 0)])] (V.i r):=by
 refine zX Zh rfl ?_
 unfold ZL at hM
 refine X.sq (X.q rfl (GS.zC (GS.seq (X.sq (X.q rfl ?_)))))
 refine X.opR rfl (X.lenF rfl rfl rfl) rfl (X.q rfl (GS.zC ?_))
 refine X.join (τ:=Unit) (fun v=>zi=some r) (fun v=>⟨[],[],0,none,19⟩) ?_ ?_
 ·intro _ hM
  replace hM:zi=some r:=hM
  unfold zi at hM
  refine X.sq (X.q rfl (GS.zC ?_))
  cases hM
  exact GS.ret ⟨_,rfl,⟨30,rfl⟩⟩
 intro hj_1
 refine GS.block ?_
 refine X.gc [] (X.loop (σ:=Int) (fun v=>⟨[(0,(V.sl (List.map zB s))),(1,(V.fn 98 [(V.fptr [(V.i c)] 0 0)])),(7,(V.i (s.length:Int))),(8,(V.i v))],[],0,none,19⟩) hM ?_ rfl) rfl rfl rfl (ga rfl rfl) (zU)
 intro x1 b_1 hM hc_2 hr_1
 rw [ZE] at hM
 refine X.sq (X.q rfl (GS.zC (GS.seq ?_)))
 refine X.cond rfl (fun h_1=>?_) (fun h_1=>?_)
 ·replace hM:=Zb h_1 hM
  refine GS.skip (GS.seq (GS.block (X.sq (X.q rfl (X.q rfl ?_)))))
  refine GS.zC (GS.seq ?_)
  obtain ⟨x,h_2,hM⟩:=zM hM
  refine GS.region (X.q rfl (X.q rfl (X.q rfl ?_)))
  refine X.opR rfl (X.yT (f:=zB) h_2 (fun _=>rfl) rfl rfl rfl rfl) rfl ?_
  refine X.opR rfl (X.Yx h_2 rfl rfl rfl) rfl ?_
  refine X.call (zBV x c) rfl rfl rfl (.cons (.shut (n:=9) rfl) (.cons (.shut (n:=9) rfl) .nil)) (GS.zC ?_)
  refine X.cond rfl (fun h_3=>?_) (fun h_3=>?_)
  ·replace hM:=Zb h_3 hM
   refine X.sq (X.q rfl (X.q rfl ?_))
   refine GS.zC ?_
   have hE:=Option.some.inj hM
   replace hE:=hr_1 _ hE.symm
   subst hE
   exact GS.ret ⟨_,rfl,⟨30,rfl⟩⟩
  replace hM:=Zc h_3 hM
  refine GS.skip ?_
  refine GS.endB (GS.region ?_)
  refine X.opR rfl (X.addE rfl rfl) rfl (X.q rfl (GS.zC ?_))
  have hE:=Option.some.inj hM
  exact X.gc [] (hc_2 (w64 (x1+1)) hE.symm) rfl rfl rfl (ga rfl rfl) (zU)
 replace hM:=Zc h_1 hM
 refine GS.exit rfl ?_
 obtain ⟨y_1,hM,hy⟩:=yR hM
 rw [hr_1 _ hy.symm] at hM
 exact X.gc [] (hj_1 () hM) rfl rfl rfl (Jd) (zU)
theorem zAK (x:zA) (c:zA):Ct Tryz.prog 96 [(zB x),(V.fptr [(zB c)] 0 0)] (V.b (jv x c)):=by
 refine zX Zh rfl ?_
 generalize hM:jv x c=r
 unfold jv at hM
 refine X.sq ?_
 refine X.opW rfl rfl rfl rfl (X.q rfl (X.nq ?_))
 iterate 6 refine X.q rfl ?_
 refine GS.zC ?_
 subst hM
 exact GS.ret ⟨_,rfl,⟨30,rfl⟩⟩
theorem JV {s:(List zA)} {c:zA} {r:Int} (hM:ZC s c=some r):Ct Tryz.prog 91 [(V.sl (List.map zB s)),(V.fn 96 [(V.fptr [(zB c)] 0 0)])] (V.i r):=by
 refine zX Zh rfl ?_
 unfold ZC at hM
 refine X.sq (X.q rfl (GS.zC (GS.seq (X.sq (X.q rfl ?_)))))
 refine X.opR rfl (X.lenF rfl rfl rfl) rfl (X.q rfl (GS.zC ?_))
 refine X.join (τ:=Unit) (fun v=>zb=some r) (fun v=>⟨[],[],0,none,19⟩) ?_ ?_
 ·intro _ hM
  replace hM:zb=some r:=hM
  unfold zb at hM
  refine X.sq (X.q rfl (GS.zC ?_))
  cases hM
  exact GS.ret ⟨_,rfl,⟨30,rfl⟩⟩
 intro hj_1
 refine GS.block ?_
 refine X.gc [] (X.loop (σ:=Int) (fun v=>⟨[(0,(V.sl (List.map zB s))),(1,(V.fn 96 [(V.fptr [(zB c)] 0 0)])),(7,(V.i (s.length:Int))),(8,(V.i v))],[],0,none,19⟩) hM ?_ rfl) rfl rfl rfl (ga rfl rfl) (zU)
 intro x1 b_1 hM hc_2 hr_1
 rw [zx] at hM
 refine X.sq (X.q rfl (GS.zC (GS.seq ?_)))
 refine X.cond rfl (fun h_1=>?_) (fun h_1=>?_)
 ·replace hM:=Zb h_1 hM
  refine GS.skip (GS.seq (GS.block (X.sq (X.q rfl (X.q rfl ?_)))))
  refine GS.zC (GS.seq ?_)
  obtain ⟨x,h_2,hM⟩:=zM hM
  refine GS.region (X.q rfl (X.q rfl (X.q rfl ?_)))
  refine X.opR rfl (X.yT (f:=zB) h_2 (fun _=>rfl) rfl rfl rfl rfl) rfl ?_
  refine X.opR rfl (X.Yx h_2 rfl rfl rfl) rfl ?_
  refine X.call (zAK x c) rfl rfl rfl (.cons (.shut (n:=9) rfl) (.cons (.shut (n:=9) rfl) .nil)) (GS.zC ?_)
  refine X.cond rfl (fun h_3=>?_) (fun h_3=>?_)
  ·replace hM:=Zb h_3 hM
   refine X.sq (X.q rfl (X.q rfl ?_))
   refine GS.zC ?_
   have hE:=Option.some.inj hM
   replace hE:=hr_1 _ hE.symm
   subst hE
   exact GS.ret ⟨_,rfl,⟨30,rfl⟩⟩
  replace hM:=Zc h_3 hM
  refine GS.skip ?_
  refine GS.endB (GS.region ?_)
  refine X.opR rfl (X.addE rfl rfl) rfl (X.q rfl (GS.zC ?_))
  have hE:=Option.some.inj hM
  exact X.gc [] (hc_2 (w64 (x1+1)) hE.symm) rfl rfl rfl (ga rfl rfl) (zU)
 replace hM:=Zc h_1 hM
 refine GS.exit rfl ?_
 obtain ⟨y_1,hM,hy⟩:=yR hM
 rw [hr_1 _ hy.symm] at hM
 exact X.gc [] (hj_1 () hM) rfl rfl rfl (Jd) (zU)
theorem JK {s:(List zA)} {c:zA} {r:Bool} (hM:ze s c=some r):Ct Tryz.prog 77 [(V.sl (List.map zB s)),(V.fn 96 [(V.fptr [(zB c)] 0 0)])] (V.b r):=by
 refine zX Zh rfl ?_
 unfold ze at hM
 refine X.sq (X.q rfl (GS.zC (GS.seq ?_)))
 obtain ⟨y,h_1,hM⟩:=zM hM
 refine GS.region (X.q rfl (X.q rfl ?_))
 refine X.call (JV h_1) rfl rfl rfl (.cons (.shut (n:=9) rfl) (.cons (.shut (n:=9) rfl) .nil)) (X.q rfl (X.q rfl ?_))
 refine GS.zC ?_
 cases hM
 exact GS.ret ⟨_,rfl,⟨30,rfl⟩⟩
theorem zBU (x:zA) (c:zA):Ct Tryz.prog 97 [(zB x),(V.fptr [(zB c)] 0 0)] (V.b (JP x c)):=by
 refine zX Zh rfl ?_
 generalize hM:JP x c=r
 unfold JP at hM
 refine X.sq ?_
 refine X.opW rfl rfl rfl rfl (X.q rfl (X.nq ?_))
 refine X.mid [(3,(V.b ((decide (x.From=c.From))&&(decide (x.Round=c.Round)))))] ?_ ?_
 ·intro hg
  refine X.split (decide (x.From=c.From)) (fun h_1=>?_) (fun h_1=>?_)
  ·iterate 6 refine X.q rfl ?_
   iterate 5 refine X.opR (X.on_t rfl rfl rfl h_1) rfl rfl ?_
   refine X.opR rfl (X.zm (y:=decide (x.Round=c.Round)) rfl h_1 rfl) rfl (X.q rfl (GS.zC ?_))
   exact X.norm _ hg rfl (sr rfl)
  iterate 6 refine X.q rfl ?_
  iterate 5 refine X.off (X.JA rfl rfl rfl h_1) rfl ?_
  refine X.opR rfl (X.ZJ (y:=decide (x.Round=c.Round)) rfl h_1 rfl) rfl (X.q rfl (GS.zC ?_))
  exact X.norm _ hg rfl (sr rfl)
 subst hM
 exact GS.ret ⟨_,rfl,⟨30,rfl⟩⟩
theorem Ji {s:(List zA)} {c:zA} {r:Int} (hM:ZK s c=some r):Ct Tryz.prog 91 [(V.sl (List.map zB s)),(V.fn 97 [(V.fptr [(zB c)] 0 0)])] (V.i r):=by
 refine zX Zh rfl ?_
 unfold ZK at hM
 refine X.sq (X.q rfl (GS.zC (GS.seq (X.sq (X.q rfl ?_)))))
 refine X.opR rfl (X.lenF rfl rfl rfl) rfl (X.q rfl (GS.zC ?_))
 refine X.join (τ:=Unit) (fun v=>zh=some r) (fun v=>⟨[],[],0,none,19⟩) ?_ ?_
 ·intro _ hM
  replace hM:zh=some r:=hM
  unfold zh at hM
  refine X.sq (X.q rfl (GS.zC ?_))
  cases hM
  exact GS.ret ⟨_,rfl,⟨30,rfl⟩⟩
 intro hj_1
 refine GS.block ?_
 refine X.gc [] (X.loop (σ:=Int) (fun v=>⟨[(0,(V.sl (List.map zB s))),(1,(V.fn 97 [(V.fptr [(zB c)] 0 0)])),(7,(V.i (s.length:Int))),(8,(V.i v))],[],0,none,19⟩) hM ?_ rfl) rfl rfl rfl (ga rfl rfl) (zU)
 intro x1 b_1 hM hc_2 hr_1
 rw [ZB] at hM
 refine X.sq (X.q rfl (GS.zC (GS.seq ?_)))
 refine X.cond rfl (fun h_1=>?_) (fun h_1=>?_)
 ·replace hM:=Zb h_1 hM
  refine GS.skip (GS.seq (GS.block (X.sq (X.q rfl (X.q rfl ?_)))))
  refine GS.zC (GS.seq ?_)
  obtain ⟨x,h_2,hM⟩:=zM hM
  refine GS.region (X.q rfl (X.q rfl (X.q rfl ?_)))
  refine X.opR rfl (X.yT (f:=zB) h_2 (fun _=>rfl) rfl rfl rfl rfl) rfl ?_
  refine X.opR rfl (X.Yx h_2 rfl rfl rfl) rfl ?_
  refine X.call (zBU x c) rfl rfl rfl (.cons (.shut (n:=9) rfl) (.cons (.shut (n:=9) rfl) .nil)) (GS.zC ?_)
  refine X.cond rfl (fun h_3=>?_) (fun h_3=>?_)
  ·replace hM:=Zb h_3 hM
   refine X.sq (X.q rfl (X.q rfl ?_))
   refine GS.zC ?_
   have hE:=Option.some.inj hM
   replace hE:=hr_1 _ hE.symm
   subst hE
   exact GS.ret ⟨_,rfl,⟨30,rfl⟩⟩
  replace hM:=Zc h_3 hM
  refine GS.skip ?_
  refine GS.endB (GS.region ?_)
  refine X.opR rfl (X.addE rfl rfl) rfl (X.q rfl (GS.zC ?_))
  have hE:=Option.some.inj hM
  exact X.gc [] (hc_2 (w64 (x1+1)) hE.symm) rfl rfl rfl (ga rfl rfl) (zU)
 replace hM:=Zc h_1 hM
 refine GS.exit rfl ?_
 obtain ⟨y_1,hM,hy⟩:=yR hM
 rw [hr_1 _ hy.symm] at hM
 exact X.gc [] (hj_1 () hM) rfl rfl rfl (Jd) (zU)
theorem JW {s:(List zA)} {c:zA} {r:Bool} (hM:zk s c=some r):Ct Tryz.prog 77 [(V.sl (List.map zB s)),(V.fn 97 [(V.fptr [(zB c)] 0 0)])] (V.b r):=by
 refine zX Zh rfl ?_
 unfold zk at hM
 refine X.sq (X.q rfl (GS.zC (GS.seq ?_)))
 obtain ⟨y,h_1,hM⟩:=zM hM
 refine GS.region (X.q rfl (X.q rfl ?_))
 refine X.call (Ji h_1) rfl rfl rfl (.cons (.shut (n:=9) rfl) (.cons (.shut (n:=9) rfl) .nil)) (X.q rfl (X.q rfl ?_))
 refine GS.zC ?_
 cases hM
 exact GS.ret ⟨_,rfl,⟨30,rfl⟩⟩
abbrev zJ (x:zF):V:=.agg [(V.i x.Case),(V.i x.Round),(V.i x.Finding)]
abbrev Zg : FK zF (List (Int×Bool)):=fkM zJ (fun _ _ _=>rfl) V.i V.b (fun _ _ _=>rfl) (fun _ _ _=>rfl)
theorem ym (a b:zF):Yy (zJ a) (zJ b)=some (decide (a=b)):=by
 have h:Yy (zJ a) (zJ b)=some (decide ([(IntKind.i64,a.Case),(IntKind.i64,a.Round),(IntKind.i64,a.Finding)]=[(IntKind.i64,b.Case),(IntKind.i64,b.Round),(IntKind.i64,b.Finding)])):=rfl
 rw [h]
 congr 1
 cases a
 cases b
 simp
theorem zBT (x:Int):Ct Tryz.prog 124 [(V.i x)] (V.b (cmp_isNaN_int x)):=by
 refine zX Zh rfl ?_
 generalize hM:cmp_isNaN_int x=r
 unfold cmp_isNaN_int at hM
 refine X.sq (X.q rfl (X.nq ?_))
 iterate 4 refine X.q rfl ?_
 refine GS.zC ?_
 subst hM
 exact GS.ret ⟨_,rfl,⟨30,rfl⟩⟩
theorem QB (x:Int) (y:Int):Ct Tryz.prog 109 [(V.i x),(V.i y)] (V.i (cmp_Compare_int x y)):=by
 refine zX Zh rfl ?_
 generalize hM:cmp_Compare_int x y=r
 unfold cmp_Compare_int at hM
 refine X.sq (X.q rfl (X.nq (X.q rfl ?_)))
 refine X.call (zBT x) rfl rfl rfl (.cons (.shut (n:=9) rfl) .nil) (X.q rfl (X.nq (X.q rfl ?_)))
 refine X.call (zBT y) rfl rfl rfl (.cons (.shut (n:=9) rfl) .nil) (X.q rfl (GS.zC (GS.seq (X.sq (X.q rfl (GS.zC ?_))))))
 refine X.cond rfl (fun h_1=>?_) (fun h_1=>?_)
 ·replace hM:=Zb h_1 hM
  refine GS.seq (X.sq (X.q rfl (GS.zC ?_)))
  refine X.cond rfl (fun h_2=>?_) (fun h_2=>?_)
  ·replace hM:=Zb h_2 hM
   refine X.sq (X.q rfl (GS.zC ?_))
   subst hM
   exact GS.ret ⟨_,rfl,⟨30,rfl⟩⟩
  replace hM:=Zc h_2 hM
  refine GS.skip (X.sq (X.q rfl (GS.zC ?_)))
  subst hM
  exact GS.ret ⟨_,rfl,⟨30,rfl⟩⟩
 replace hM:=Zc h_1 hM
 refine GS.skip (GS.seq (X.sq (X.q rfl (GS.zC ?_))))
 refine X.cond rfl (fun h_3=>?_) (fun h_3=>?_)
 ·replace hM:=Zb h_3 hM
  refine X.sq (X.q rfl (GS.zC ?_))
  subst hM
  exact GS.ret ⟨_,rfl,⟨30,rfl⟩⟩
 replace hM:=Zc h_3 hM
 refine GS.skip (GS.seq (X.sq (X.q rfl (X.q rfl (X.q rfl ?_)))))
 refine GS.zC ?_
 refine X.cond rfl (fun h_4=>?_) (fun h_4=>?_)
 ·replace hM:=Zb h_4 hM
  refine X.sq (X.q rfl (GS.zC ?_))
  subst hM
  exact GS.ret ⟨_,rfl,⟨30,rfl⟩⟩
 replace hM:=Zc h_4 hM
 refine GS.skip (GS.seq (X.sq (X.q rfl (X.q rfl (X.q rfl ?_)))))
 refine GS.zC ?_
 refine X.cond rfl (fun h_5=>?_) (fun h_5=>?_)
 ·replace hM:=Zb h_5 hM
  refine X.sq (X.q rfl (GS.zC ?_))
  subst hM
  exact GS.ret ⟨_,rfl,⟨30,rfl⟩⟩
 replace hM:=Zc h_5 hM
 refine GS.skip (X.sq (X.q rfl (GS.zC ?_)))
 subst hM
 exact GS.ret ⟨_,rfl,⟨30,rfl⟩⟩
theorem zHc {vals:(List Int)} {r:Int} (hM:zB5 vals=some r):Ct Tryz.prog 108 [(V.sl (List.map V.i vals))] (V.i r):=by
 refine zX Zh rfl ?_
 unfold zB5 at hM
 refine X.sq (X.q rfl (X.nq (X.q rfl (GS.zC (GS.seq (X.sq (X.q rfl ?_)))))))
 refine X.opR rfl (X.lenF rfl rfl rfl) rfl (X.q rfl (GS.zC ?_))
 refine X.join (τ:=Unit) (fun v=>Y2=some r) (fun v=>⟨[(3,(V.i 0))],[],0,none,18⟩) ?_ ?_
 ·intro _ hM
  replace hM:Y2=some r:=hM
  unfold Y2 at hM
  refine X.sq (X.q rfl (X.q rfl ?_))
  refine GS.zC ?_
  cases hM
  exact GS.ret ⟨_,rfl,⟨30,rfl⟩⟩
 intro hj_1
 refine GS.block ?_
 refine X.gc [] (X.loop (σ:=Int) (fun v=>⟨[(3,(V.i 0)),(6,(V.sl (List.map V.i vals))),(7,(V.i (vals.length:Int))),(8,(V.i v))],[],0,none,18⟩) hM ?_ rfl) rfl rfl rfl (ga rfl rfl) (zU)
 intro x1 b_1 hM hc_2 hr_1
 rw [Zr] at hM
 refine X.sq (X.q rfl (GS.zC (GS.seq ?_)))
 refine X.cond rfl (fun h_1=>?_) (fun h_1=>?_)
 ·replace hM:=Zb h_1 hM
  refine GS.skip (GS.seq (GS.block (GS.seq ?_)))
  obtain ⟨x,h_2,hM⟩:=zM hM
  refine GS.region ?_
  refine X.opR rfl (X.yT (f:=V.i) h_2 (fun _=>rfl) rfl rfl rfl rfl) rfl ?_
  refine X.opR rfl (X.Yx h_2 rfl rfl rfl) rfl (X.q rfl (X.nq (X.q rfl (X.q rfl (X.q rfl ?_)))))
  refine GS.zC ?_
  refine X.cond rfl (fun h_3=>?_) (fun h_3=>?_)
  ·replace hM:=Zb h_3 hM
   refine X.sq (X.q rfl (X.q rfl ?_))
   refine GS.zC ?_
   have hE:=Option.some.inj hM
   replace hE:=hr_1 _ hE.symm
   subst hE
   exact GS.ret ⟨_,rfl,⟨30,rfl⟩⟩
  replace hM:=Zc h_3 hM
  refine GS.skip ?_
  refine GS.endB (GS.region ?_)
  refine X.opR rfl (X.addE rfl rfl) rfl (X.q rfl (GS.zC ?_))
  have hE:=Option.some.inj hM
  exact X.gc [] (hc_2 (w64 (x1+1)) hE.symm) rfl rfl rfl (ga rfl rfl) (zU)
 replace hM:=Zc h_1 hM
 refine GS.exit rfl ?_
 obtain ⟨y_1,hM,hy⟩:=yR hM
 rw [hr_1 _ hy.symm] at hM
 exact X.gc [] (hj_1 () hM) rfl rfl rfl (ga rfl rfl) (zU)
theorem zFO {a:zF} {b:zF} {r:Int} (hM:Q5 a b=some r):Ct Tryz.prog 90 [(zJ a),(zJ b)] (V.i r):=by
 refine zX Zh rfl ?_
 unfold Q5 at hM
 refine X.sq ?_
 iterate 2 refine X.opW rfl rfl rfl rfl ?_
 refine X.q rfl (GS.zC (GS.seq ?_))
 obtain ⟨y,h_1,hM⟩:=zM hM
 refine X.draw (by kernel_rfl) ?_
 iterate 4 refine X.dop rfl rfl rfl rfl (by kernel_rfl) rfl rfl ?_
 refine X.dcall (QB a.Case b.Case) rfl rfl rfl (by kernel_rfl) rfl (.cons (.shut (n:=9) rfl) (.cons (.shut (n:=9) rfl) .nil)) ?_
 iterate 4 refine X.dop rfl rfl rfl rfl (by kernel_rfl) rfl rfl ?_
 refine X.dcall (QB a.Round b.Round) rfl rfl rfl (by kernel_rfl) rfl (.cons (.shut (n:=9) rfl) (.cons (.shut (n:=9) rfl) .nil)) ?_
 iterate 4 refine X.dop rfl rfl rfl rfl (by kernel_rfl) rfl rfl ?_
 refine X.dcall (QB a.Finding b.Finding) rfl rfl rfl (by kernel_rfl) rfl (.cons (.shut (n:=9) rfl) (.cons (.shut (n:=9) rfl) .nil)) ?_
 refine X.dbld rfl rfl rfl rfl rfl (by kernel_rfl) rfl ?_
 refine X.dcall (zHc h_1) rfl rfl rfl (by kernel_rfl) rfl (.cons (.shut (n:=9) rfl) .nil) ?_
 refine X.dop rfl rfl rfl rfl (by kernel_rfl) rfl rfl ?_
 refine X.dnil ?_
 refine X.norm [(4,(V.i y))] ?_ rfl (sr rfl)
 cases hM
 exact GS.ret ⟨_,rfl,⟨30,rfl⟩⟩
section
open Go.Wk Go.RowKit Go.Shelf
def zOV (x:zF):List Value:=[.int .i64 x.Case,.int .i64 x.Round,.int .i64 x.Finding]
theorem flatRul : X.Flat1 zOV 3 zJ:=by
 refine ⟨fun _=>rfl,fun x v hv=>?_,fun _=>rfl,fun x v hv c=>?_⟩ <;> simp only [zOV,List.mem_cons,List.not_mem_nil,or_false] at hv <;> rcases hv with rfl | rfl | rfl <;> first | rfl | (intro h; cases h)
def zOh (x y:zF):Int:=if cmp_Compare_int x.Case y.Case=0 then (if cmp_Compare_int x.Round y.Round=0 then cmp_Compare_int x.Finding y.Finding else cmp_Compare_int x.Round y.Round) else cmp_Compare_int x.Case y.Case
theorem cmpI (a b:Int):cmp_Compare_int a b=if a<b then -1 else if b<a then 1 else 0:=by
 unfold cmp_Compare_int cmp_isNaN_int
 simp
theorem ltRul (x y:zF):decide (zOh x y<0)=zQ x y:=by
 have h:∀ a b:Int,(cmp_Compare_int a b=0↔a=b)∧(cmp_Compare_int a b<0↔a<b):=fun a b=>by
  rw [cmpI]
  by_cases h1:a<b
  ·rw [if_pos h1]; exact ⟨⟨fun h=>by omega,fun h=>by omega⟩,⟨fun _=>h1,fun _=>by omega⟩⟩
  ·rw [if_neg h1]
   by_cases h2:b<a
   ·rw [if_pos h2]; exact ⟨⟨fun h=>by omega,fun h=>by omega⟩,⟨fun h=>by omega,fun h=>by omega⟩⟩
   ·rw [if_neg h2]; exact ⟨⟨fun h=>by omega,fun h=>by omega⟩,⟨fun h=>by omega,fun h=>by omega⟩⟩
 unfold zOh zQ
 rw [Bool.eq_iff_iff,decide_eq_true_eq]
 by_cases c1:x.Case=y.Case
 ·rw [if_pos ((h _ _).1.2 c1)]
  by_cases c2:x.Round=y.Round
  ·rw [if_pos ((h _ _).1.2 c2),(h _ _).2]
   simp [c1,c2]
  ·rw [if_neg (fun e=>c2 ((h _ _).1.1 e)),(h _ _).2]
   simp [c1,c2]
 ·rw [if_neg (fun e=>c1 ((h _ _).1.1 e)),(h _ _).2]
  simp [c1]
theorem zKl : Go.Sort.SWO zQ:=⟨fun x=>by unfold zQ; simp,fun x y z h1 h2=>by unfold zQ at *; simp at *; omega,fun x y z h1 h2=>by unfold zQ at *; simp at *; omega⟩
theorem cmpRul (x y:zF):Q5 x y=some (zOh x y):=by
 have key:∀ (a b c:Int) (m:Nat),Lp (Zr [a,b,c]) (m+4) 0=some (if a=0 then (if b=0 then c else b) else a):=fun a b c m=>by
  by_cases h1:a=0
  ·have e0:Zr [a,b,c] 0=some (.inl 1):=by simp [Zr,ix,w64,h1]
   rw [zF2 _ e0,if_pos h1]
   by_cases h2:b=0
   ·have e1:Zr [a,b,c] 1=some (.inl 2):=by simp [Zr,ix,w64,h2]
    rw [zF2 _ e1,if_pos h2]
    by_cases h3:c=0
    ·have e2:Zr [a,b,c] 2=some (.inl 3):=by simp [Zr,ix,w64,h3]
     have e3:Zr [a,b,c] 3=some (.inr 0):=by simp [Zr,Y2]
     rw [zF2 _ e2,zEd _ e3,h3]
    ·have e2:Zr [a,b,c] 2=some (.inr c):=by simp [Zr,ix,h3]
     rw [zEd _ e2]
   ·have e1:Zr [a,b,c] 1=some (.inr b):=by simp [Zr,ix,h2]
    rw [zEd _ e1,if_neg h2]
  ·have e0:Zr [a,b,c] 0=some (.inr a):=by simp [Zr,ix,h1]
   rw [zEd _ e0,if_neg h1]
 have h:=key (cmp_Compare_int x.Case y.Case) (cmp_Compare_int x.Round y.Round) (cmp_Compare_int x.Finding y.Finding) 18446744073709551612
 unfold Q5 zB5
 show Option.bind (Lp _ (18446744073709551612+4) 0) _=_
 rw [h]; rfl
theorem YL : X.zJK Tryz.prog 89 90 3 zJ zQ:=X.zMP Tryz.sortCl rfl (by decide) Tryz.isAgg57 Tryz.sizeOf57 flatRul ltRul zKl (enters_of Tryz.func89 (by kernel_rfl) rfl) (fun x y=>zFO (cmpRul x y))
end
theorem QM (c:zG):zJP (jC c) List.Perm:=by
 refine ⟨fun _=>List.Perm.refl _,fun _ _ _ h1 h2=>h1.trans h2,?_,?_⟩
 ·rintro ⟨k,v⟩ s s' t hp h
  unfold jC Zu at h ⊢
  obtain ⟨y,h1,h⟩:=zM h
  rw [h1]
  simp only [Option.bind_some]
  by_cases c:decide (y≤(v.length:Int))=true
  ·rw [if_pos c] at h ⊢
   obtain ⟨r,h2,h⟩:=zM h
   obtain ⟨h3,rfl⟩:=Yv h2
   simp only [Option.some.injEq] at h
   subst h
   refine ⟨s'++[k],?_,hp.append_right [k]⟩
   unfold app
   rw [if_pos (by rw [← hp.length_eq]; exact h3)]
   rfl
  ·rw [if_neg c] at h ⊢
   simp only [Option.some.injEq] at h
   subst h
   exact ⟨s',rfl,hp⟩
 ·rintro ⟨k,v⟩ ⟨k',v'⟩ s t u h h'
  unfold jC Zu at h h' ⊢
  obtain ⟨y,h1,h⟩:=zM h
  rw [h1] at h'
  rw [h1]
  simp only [Option.bind_some] at h' ⊢
  by_cases c:decide (y≤(v.length:Int))=true
  ·rw [if_pos c] at h
   obtain ⟨r,h2,h⟩:=zM h
   obtain ⟨h3,rfl⟩:=Yv h2
   simp only [Option.some.injEq] at h
   subst h
   by_cases c':decide (y≤(v'.length:Int))=true
   ·rw [if_pos c'] at h' ⊢
    obtain ⟨r,h4,h'⟩:=zM h'
    obtain ⟨h5,rfl⟩:=Yv h4
    simp only [Option.some.injEq] at h'
    subst h'
    simp only [List.length_append,List.length_singleton] at h3 h5
    refine ⟨s++[k'],s++[k']++[k],?_,?_,?_⟩
    ·unfold app; rw [if_pos (by simp only [List.length_singleton]; omega)]; rfl
    ·rw [if_pos c]; unfold app; rw [if_pos (by simp only [List.length_append,List.length_singleton]; omega)]; rfl
    ·rw [List.append_assoc,List.append_assoc]; exact List.Perm.append_left s (List.Perm.swap k' k [])
   ·rw [if_neg c'] at h' ⊢
    simp only [Option.some.injEq] at h'
    subst h'
    refine ⟨s,s++[k],rfl,?_,List.Perm.refl _⟩
    rw [if_pos c]; unfold app; rw [if_pos h3]; rfl
  ·rw [if_neg c] at h
   simp only [Option.some.injEq] at h
   subst h
   by_cases c':decide (y≤(v'.length:Int))=true
   ·rw [if_pos c'] at h' ⊢
    obtain ⟨r,h4,h'⟩:=zM h'
    obtain ⟨h5,rfl⟩:=Yv h4
    simp only [Option.some.injEq] at h'
    subst h'
    refine ⟨s++[k'],s++[k'],?_,?_,List.Perm.refl _⟩
    ·unfold app; rw [if_pos h5]; rfl
    ·rw [if_neg c]
   ·rw [if_neg c'] at h' ⊢
    simp only [Option.some.injEq] at h'
    subst h'
    exact ⟨s,s,rfl,by rw [if_neg c],List.Perm.refl _⟩
theorem sorted_perm {l l':List zF} (hp:l.Perm l'):srtF zQ l=srtF zQ l':=by
 obtain ⟨p1,s1⟩:=zBJ zKl l
 obtain ⟨p2,s2⟩:=zBJ zKl l'
 refine List.Perm.eq_of_pairwise (le:=fun x y=>zQ y x=false) (fun a b _ _ h1 h2=>?_) s1 s2 ((p1.trans hp).trans p2.symm)
 unfold zQ at h1 h2
 simp at h1 h2
 obtain ⟨a1,a2,a3⟩:=a
 obtain ⟨b1,b2,b3⟩:=b
 simp only at h1 h2
 have e1:a1=b1:=by omega
 subst e1
 have e2:a2=b2:=by
  have:=h1.2 rfl
  have:=h2.2 rfl
  omega
 subst e2
 have e3:a3=b3:=by
  have:=(h1.2 rfl).2 rfl
  have:=(h2.2 rfl).2 rfl
  omega
 subst e3
 rfl
theorem QZ {l l' r:List zF} (hp:l.Perm l') (h:jH l=some r):jH l'=some r:=by
 unfold jH jI zGH at h ⊢
 rw [hp.length_eq,sorted_perm hp] at h
 exact h
set_option maxHeartbeats 4000000 in
theorem zDy {c:zG} {l:(List zA)} {r:(List zF)} (hM:jY c l=some r):Ct Tryz.prog 42 [(zD c),(V.sl (List.map zB l))] (V.sl (List.map zJ r)):=by
 refine zX Zh rfl ?_
 unfold jY at hM
 refine X.sq ?_
 refine X.opW rfl rfl rfl rfl (X.q rfl (X.nq ?_))
 refine X.opW (H':=([.rows 1 [(zD c)],famM Zg 2 []]++famB Zg [])) rfl rfl rfl rfl (X.q rfl (GS.zC (GS.seq (X.sq (X.q rfl ?_)))))
 refine X.opR rfl (X.lenF rfl rfl rfl) rfl (X.q rfl (GS.zC ?_))
 refine X.join (τ:=(List (zF×(List (Int×Bool))))) (fun v=>jW c v=some r) (fun v=>⟨[(2,(V.ptr 0 0 0)),(5,(V.map 1))],([.rows 1 [(zD c)],famM Zg 2 v]++famB Zg v),0,none,61⟩) ?_ ?_
 ·intro m hM
  replace hM:jW c m=some r:=hM
  unfold jW at hM
  refine X.sq (X.q rfl (GS.zC ?_))
  iterate 2 refine GS.seq ?_
  refine GS.zL1 (K':=[(2,(V.fptr [(zD c)] 0 0)),(5,(V.fmap (List.map (fun p:zF×(List (Int×Bool))=>zJ p.1) m) (List.map (fun p:zF×(List (Int×Bool))=>(fun l=>V.fmap (List.map (fun p=>V.i p.1) l) (List.map (fun p=>V.b p.2) l)) p.2) m))),(9,V.nil)]) (X.zF4 rfl ⟨30,rfl⟩ (X.zF4 rfl (X.frM rfl rfl (fun _ _=>rfl) (fun _ _=>rfl) (fun _ _=>rfl)) (X.zOE rfl X.zOD))) (GS.region ?_)
  refine X.q rfl ?_
  refine X.opW (H':=[.iter (List.map (fun p:zF×(List (Int×Bool))=>zJ p.1) m) (List.map (fun p:zF×(List (Int×Bool))=>(fun l=>V.fmap (List.map (fun p=>V.i p.1) l) (List.map (fun p=>V.b p.2) l)) p.2) m) (idxs 0 (List.length (List.map (fun p:zF×(List (Int×Bool))=>zJ p.1) m))) none]) rfl rfl rfl rfl (GS.zC ?_)
  refine X.join (τ:=(List zF)) (fun v=>jI v=some r) (fun v=>⟨[(9,(ovl 0 v))],[obl 3 zJ v],0,none,61⟩) ?_ ?_
  ·intro l1 hM
   replace hM:jI l1=some r:=hM
   unfold jI at hM
   refine GS.seq ?_
   obtain ⟨l2,h_1,hM⟩:=zM hM
   refine GS.region (X.q rfl ?_)
   refine X.norm [(9,(ovl 0 l1)),(58,(ovl 0 l1))] ?_ rfl (sr rfl)
   refine X.sortF (z:=true) h_1 YL (fun _ _ _ h=>h) (K':=[(9,(ovl 0 l2)),(58,(ovl 0 l2))]) (H':=[obl 3 zJ l2]) rfl rfl rfl rfl rfl rfl ?_ ?_ ?_
   ·first | rfl | rw [X.zBS (X.QF YL.swo h_1)] | simp only [ovl,X.zBS (X.QF YL.swo h_1)] | simp only [X.QF YL.swo h_1]
   ·first | rfl | (simp only [hput]; rfl) | (simp only [ovl,obl]; rw [X.zBS (X.QF YL.swo h_1)] <;> rfl)
   refine X.nq (X.q rfl (X.q rfl ?_))
   refine GS.zC ?_
   have hE:=Option.some.inj hM
   subst hE
   exact GS.ret ⟨_,rfl,FR.ovl (f:=zJ) (l:=l2) 9 rfl rfl (fun _=>rfl)⟩
  intro hj_2
  refine GS.block ?_
  obtain ⟨vE_3,hF_3,hM⟩:=zM hM
  refine X.gc [none,some 0] (X.zNR (ga:=zJ) (gb:=(fun l=>V.fmap (List.map (fun p=>V.i p.1) l) (List.map (fun p=>V.b p.2) l))) (f0:=jC c) (fun v left last=>⟨[(2,(V.fptr [(zD c)] 0 0)),(9,(ovl 0 v)),(43,(V.ptr 1 0 0))],[obl 3 zJ v,.iter (List.map (fun p:zF×(List (Int×Bool))=>zJ p.1) m) (List.map (fun p:zF×(List (Int×Bool))=>(fun l=>V.fmap (List.map (fun p=>V.i p.1) l) (List.map (fun p=>V.b p.2) l)) p.2) m) left last],0,none,61⟩) hF_3 (QM c) ?_ ?_ rfl) rfl rfl rfl (ga rfl rfl) (gb_pad' rfl (X.zAq rfl rfl zU))
  ·intro l5 left last hne_3 hs_3
   refine X.sq ?_
   refine X.next rfl rfl rfl rfl rfl (fun e=>absurd e hne_3) (fun j_3 kv_3 vv_3 hj_3 hk_3 hv_3=>?_)
   obtain ⟨⟨k,v_⟩,w_3,rfl,rfl,hM,hc_3⟩:=hs_3 j_3 kv_3 vv_3 hj_3 hk_3 hv_3
   unfold jC at hM
   refine X.q rfl (GS.zC (GS.seq ?_))
   refine GS.zCJ rfl (GS.skip ?_)
   refine X.join (τ:=(List zF)) (fun v=>Zu v=some w_3) (fun v=>⟨[(2,(V.fptr [(zD c)] 0 0)),(9,(ovl 0 v)),(43,(V.ptr 1 0 0))],[obl 3 zJ v,.iter (List.map (fun p:zF×(List (Int×Bool))=>zJ p.1) m) (List.map (fun p:zF×(List (Int×Bool))=>(fun l=>V.fmap (List.map (fun p=>V.i p.1) l) (List.map (fun p=>V.b p.2) l)) p.2) m) (List.filter (fun i=>decide (i≠j_3)) left) (some j_3)],0,none,61⟩) ?_ ?_
   ·intro l3 hM
    replace hM:Zu l3=some w_3:=hM
    unfold Zu at hM
    have hE:=Option.some.inj hM
    subst hE
    exact X.gc [some 0,some 1] hc_3 rfl rfl rfl (zW rfl ⟨9,rfl⟩ (zW rfl (Qr rfl) (ga rfl rfl))) (Qx 9 rfl rfl (fun _=>rfl) (X.zAq rfl rfl zU))
   intro hj_4
   refine GS.block (X.sq ?_)
   refine X.entry rfl rfl rfl hk_3 hv_3 rfl (X.q rfl (X.q rfl ?_))
   refine X.opW rfl rfl rfl rfl ?_
   refine X.op0W rfl rfl rfl (X.q rfl (GS.zC (GS.seq ?_)))
   obtain ⟨y,h_2,hM⟩:=zM hM
   refine GS.region (X.q rfl ?_)
   refine X.opR rfl (X.lenMF rfl rfl rfl) rfl (X.q rfl ?_)
   refine X.call (Jg h_2) rfl rfl rfl (.cons (.shut (n:=9) rfl) .nil) (X.q rfl (GS.zC ?_))
   refine X.cond rfl (fun h_3=>?_) (fun h_3=>?_)
   ·replace hM:=Zb h_3 hM
    obtain ⟨l4,h_4,hM⟩:=zM hM
    refine GS.region (X.q rfl (X.q rfl ?_))
    refine X.opW (H':=[obl 3 zJ l5,.iter (List.map (fun p:zF×(List (Int×Bool))=>zJ p.1) m) (List.map (fun p:zF×(List (Int×Bool))=>(fun l=>V.fmap (List.map (fun p=>V.i p.1) l) (List.map (fun p=>V.b p.2) l)) p.2) m) (List.filter (fun i=>decide (i≠j_3)) left) (some j_3),.rows 3 [(zJ k)],.rows 3 (List.map zJ ([k]))]) rfl rfl rfl rfl ?_
    refine X.appN (f:=zJ) h_4 (fun _=>rfl) (by rfl) (by rfl) (by rfl) (by rfl) (by rfl) (by rfl) (by rfl) (by rfl) (by rfl) (by rfl) (by rfl) (by exact rfl) (by rfl) (by rfl) (X.q rfl (GS.zC ?_))
    refine GS.endB ?_
    exact X.gc [some 4,some 1] (hj_4 l4 hM) rfl rfl rfl (zW rfl ⟨9,rfl⟩ (zW rfl (rv_ne (zJH h_4) rfl) (ga rfl rfl))) (gb_obl' 9 (zJH h_4) rfl rfl (fun _=>rfl) (X.zAq rfl rfl zU))
   replace hM:=Zc h_3 hM
   refine GS.skip ?_
   refine GS.endB ?_
   exact X.gc [some 0,some 1] (hj_4 l5 hM) rfl rfl rfl (zW rfl ⟨9,rfl⟩ (zW rfl (Qr rfl) (ga rfl rfl))) (Qx 9 rfl rfl (fun _=>rfl) (X.zAq rfl rfl zU))
  intro l5 last hrel_3
  replace hM:jH l5=some r:=QZ hrel_3 hM
  unfold jH at hM
  refine X.sq ?_
  refine X.next rfl rfl rfl rfl rfl (fun _=>?_) (fun j_ kv_ vv_ hj_=>absurd hj_ List.not_mem_nil)
  refine X.q rfl (GS.zC (GS.seq ?_))
  refine GS.zAs rfl ?_
  refine GS.exit rfl ?_
  exact X.gc [some 0] (hj_2 l5 hM) rfl rfl rfl (zW rfl (Qr rfl) Jd) (Qx 9 rfl rfl (fun _=>rfl) zU)
 intro hj_1
 refine GS.block ?_
 refine X.Qm 2 2 1 1 [some 0,some 1] (P0:=[.rows 1 [(zD c)],.dead]) rfl (X.loop (σ:=(Int×(List (zF×(List (Int×Bool)))))) (fun v=>⟨[(2,(V.ptr 0 0 0)),(5,(V.map 1)),(13,(V.sl (List.map zB l))),(14,(V.i (l.length:Int))),(15,(V.i v.1))],([.rows 1 [(zD c)],famM Zg 2 v.2]++famB Zg v.2),0,none,61⟩) hM ?_ rfl) rfl rfl rfl rfl (ga rfl rfl) (gb9 rfl rfl rfl (Zp zU)) rfl rfl rfl rfl rfl
 rintro ⟨x1,m4⟩ b_1 hM hc_6 hr_1
 rw [J2] at hM
 refine X.sq (X.q rfl (GS.zC (GS.seq ?_)))
 refine X.cond rfl (fun h_5=>?_) (fun h_5=>?_)
 ·replace hM:=Zb h_5 hM
  refine GS.skip (GS.seq ?_)
  refine X.join (τ:=(List (zF×(List (Int×Bool))))) (fun v=>jG x1 v=some b_1) (fun v=>⟨[(2,(V.ptr 0 0 0)),(5,(V.map 1)),(13,(V.sl (List.map zB l))),(14,(V.i (l.length:Int))),(15,(V.i x1))],([.rows 1 [(zD c)],famM Zg 2 v]++famB Zg v),0,none,61⟩) ?_ ?_
  ·intro m1 hM
   replace hM:jG x1 m1=some b_1:=hM
   unfold jG at hM
   refine GS.region ?_
   refine X.opR rfl (X.addE rfl rfl) rfl (X.q rfl (GS.zC ?_))
   have hE:=Option.some.inj hM
   exact X.Qm 2 2 1 1 [some 0,some 1] (P0:=[.rows 1 [(zD c)],.dead]) rfl (hc_6 (w64 (x1+1),m1) hE.symm) rfl rfl rfl rfl (ga rfl rfl) (gb9 rfl rfl rfl (Zp zU)) rfl rfl rfl rfl rfl
  intro hj_7
  refine GS.block (GS.seq ?_)
  obtain ⟨x,h_6,hM⟩:=zM hM
  refine GS.region ?_
  refine X.opR rfl (X.yT (f:=zB) h_6 (fun _=>rfl) rfl rfl rfl rfl) rfl ?_
  refine X.opR rfl (X.Yx h_6 rfl rfl rfl) rfl ?_
  refine X.zCx (F:=Zg) (A:=m4) (P0:=[.rows 1 [(zD c)],.dead]) (P2:=[.rows 1 [(zD c)],famM Zg 3 m4,.rows 8 [(V.agg [(V.i 0),(V.i 0),(V.i 0),(V.i 0),(V.i 0),(V.i 0),(V.i 0),(V.i 0)])]]) 2 1 [some 0,some 1] [(2,(V.ptr 0 0 0)),(5,(V.map 1)),(13,(V.sl (List.map zB l))),(14,(V.i (l.length:Int))),(15,(V.i x1)),(18,(zB x))] rfl (fun _ _=>rfl) (by intro h; cases h) rfl rfl rfl rfl rfl rfl rfl rfl rfl rfl rfl (zW rfl ⟨9,rfl⟩ (zW rfl ⟨9,rfl⟩ (zW rfl ⟨9,rfl⟩ (zW rfl ⟨9,rfl⟩ (zW rfl ⟨9,rfl⟩ (zW rfl ⟨9,rfl⟩ Jd)))))) (Yu rfl rfl ⟨9,rfl⟩ (Zp zU)) rfl ?_
  refine X.op0W (H':=([.rows 1 [(zD c)],famM Zg 3 m4,.rows 8 [(zB x)]]++famB Zg m4)) rfl rfl rfl (GS.zC (GS.seq (X.sq (X.q rfl (X.q rfl (X.q rfl ?_))))))
  refine GS.zC ?_
  refine X.cond rfl (fun h_7=>?_) (fun h_7=>?_)
  ·replace hM:=Zb h_7 hM
   refine GS.exit rfl ?_
   exact X.Qm 3 2 1 1 [some 0,some 1] (P0:=[.rows 1 [(zD c)],.dead]) rfl (hj_7 m4 hM) rfl rfl rfl rfl (ga rfl rfl) (gb9 rfl rfl rfl (Zp zU)) rfl rfl rfl rfl rfl
  replace hM:=Zc h_7 hM
  refine GS.skip (X.sq ?_)
  iterate 7 refine X.q rfl ?_
  refine X.zCx (F:=Zg) (A:=m4) (P0:=[.rows 1 [(zD c)],.dead,.rows 8 [(zB x)]]) (P2:=[.rows 1 [(zD c)],famM Zg 4 m4,.rows 8 [(zB x)],.rows 3 [(V.agg [(V.i 0),(V.i 0),(V.i 0)])]]) 3 1 [some 0,some 1,some 2] [(2,(V.ptr 0 0 0)),(5,(V.map 1)),(7,(V.ptr 2 0 0)),(13,(V.sl (List.map zB l))),(14,(V.i (l.length:Int))),(15,(V.i x1)),(28,(V.agg [(V.i x.Case),(V.i x.Round),(V.i x.Finding)]))] rfl (fun _ _=>rfl) (by intro h; cases h) rfl rfl rfl rfl rfl rfl rfl rfl rfl rfl rfl (zW rfl ⟨9,rfl⟩ (zW rfl ⟨9,rfl⟩ (zW rfl ⟨9,rfl⟩ (zW rfl ⟨9,rfl⟩ (zW rfl ⟨9,rfl⟩ (zW rfl ⟨9,rfl⟩ (zW rfl ⟨9,rfl⟩ Jd))))))) (Yu rfl rfl ⟨9,rfl⟩ (Zp (Yu rfl rfl ⟨9,rfl⟩ zU))) rfl ?_
  refine X.op0W (H':=([.rows 1 [(zD c)],famM Zg 4 m4,.rows 8 [(zB x)],.rows 3 [(V.agg [(V.i x.Case),(V.i x.Round),(V.i x.Finding)])]]++famB Zg m4)) rfl rfl rfl (GS.zC (GS.seq (X.sq (X.q rfl (X.q rfl ?_)))))
  refine X.opR rfl (X.zBe (F:=Zg) (A:=m4) (b:=4) (k0:=(⟨x.Case,x.Round,x.Finding⟩:zF)) ym rfl rfl rfl rfl rfl rfl) rfl ?_
  refine X.opR rfl (X.zOP rfl rfl rfl rfl) rfl (GS.zC ?_)
  refine X.join (τ:=(List (zF×(List (Int×Bool))))) (fun v=>jF x1 x v=some b_1) (fun v=>⟨[(2,(V.ptr 0 0 0)),(5,(V.map 1)),(7,(V.ptr 2 0 0)),(8,(V.ptr 3 0 0)),(13,(V.sl (List.map zB l))),(14,(V.i (l.length:Int))),(15,(V.i x1))],([.rows 1 [(zD c)],famM Zg 4 v,.rows 8 [(zB x)],.rows 3 [(V.agg [(V.i x.Case),(V.i x.Round),(V.i x.Finding)])]]++famB Zg v),0,none,61⟩) ?_ ?_
  ·intro m2 hM
   replace hM:jF x1 x m2=some b_1:=hM
   unfold jF at hM
   refine X.zKO 5 rfl (by kernel_rfl) (by kernel_rfl) rfl ?_
   iterate 2 refine X.dop rfl rfl rfl rfl (by kernel_rfl) rfl rfl ?_
   refine X.dop rfl (X.zBe (F:=Zg) (A:=m2) (b:=4) (k0:=(⟨x.Case,x.Round,x.Finding⟩:zF)) ym rfl rfl rfl rfl rfl rfl) rfl rfl (by kernel_rfl) rfl rfl ?_
   iterate 2 refine X.dop rfl rfl rfl rfl (by kernel_rfl) rfl rfl ?_
   refine X.dnil ?_
   refine X.norm [(2,(V.ptr 0 0 0)),(5,(V.map 1)),(13,(V.sl (List.map zB l))),(14,(V.i (l.length:Int))),(15,(V.i x1)),(38,(YR Zg 4 m2 (⟨x.Case,x.Round,x.Finding⟩:zF))),(40,(V.i x.From))] ?_ rfl (sr rfl)
   obtain ⟨m3,h_8,hM⟩:=zM hM
   refine X.famIn (P:=[.rows 1 [(zD c)],famM Zg 4 m2,.rows 8 [(zB x)],.rows 3 [(V.agg [(V.i x.Case),(V.i x.Round),(V.i x.Finding)])]]) (b:=4) (g:=zJ) (f1:=V.i) (f2:=V.b) (A:=m2) (a:=x.From) (c:=true) (pos0:=posE) (pos1:=posI) (P2:=[.rows 1 [(zD c)],famM Zg 4 (putM posE m2 (⟨x.Case,x.Round,x.Finding⟩:zF) (putM posI m3 x.From true)),.rows 8 [(zB x)],.rows 3 [(V.agg [(V.i x.Case),(V.i x.Round),(V.i x.Finding)])]]) 1 h_8 X.yH (X.Y8 _) rfl rfl rfl rfl rfl rfl rfl rfl rfl rfl (GS.zC ?_)
   refine GS.endB ?_
   exact X.Qm 4 2 1 1 [some 0,some 1] (P0:=[.rows 1 [(zD c)],.dead]) rfl (hj_7 (putM posE m2 (⟨x.Case,x.Round,x.Finding⟩:zF) (putM posI m3 x.From true)) hM) rfl rfl rfl rfl (ga rfl rfl) (gb9 rfl rfl rfl (Zp zU)) rfl rfl rfl rfl rfl
  intro hj_8
  refine X.cond rfl (fun h_9=>?_) (fun h_9=>?_)
  ·replace hM:=Zb h_9 hM
   refine GS.region (X.q rfl (X.q rfl ?_))
   refine X.opW (H':=([.rows 1 [(zD c)],famM Zg 4 m4,.rows 8 [(zB x)],.rows 3 [(V.agg [(V.i x.Case),(V.i x.Round),(V.i x.Finding)])]]++famB Zg m4)++[.map [] []]) rfl rfl X.zBQ rfl ?_
   refine X.zIJ (F:=Zg) (A:=m4) (pos0:=posE) (P0:=[.rows 1 [(zD c)],.dead,.rows 8 [(zB x)],.rows 3 [(V.agg [(V.i x.Case),(V.i x.Round),(V.i x.Finding)])]]) (P2:=[.rows 1 [(zD c)],famM Zg 4 (putM posE m4 (⟨x.Case,x.Round,x.Finding⟩:zF) []),.rows 8 [(zB x)],.rows 3 [(V.agg [(V.i x.Case),(V.i x.Round),(V.i x.Finding)])]]) (x0:=[]) 4 1 [some 0,some 1,some 2,some 3] [(2,(V.ptr 0 0 0)),(5,(V.map 1)),(7,(V.ptr 2 0 0)),(8,(V.ptr 3 0 0)),(13,(V.sl (List.map zB l))),(14,(V.i (l.length:Int))),(15,(V.i x1))] rfl ym (fun l=>(X.zDF _ _).trans (List.length_map ..)) rfl rfl rfl rfl rfl rfl rfl rfl rfl rfl rfl rfl rfl rfl rfl (zW rfl ⟨9,rfl⟩ (zW rfl ⟨9,rfl⟩ (zW rfl ⟨9,rfl⟩ (zW rfl ⟨9,rfl⟩ (zW rfl ⟨9,rfl⟩ (zW rfl ⟨9,rfl⟩ (zW rfl ⟨9,rfl⟩ Jd))))))) (Yu rfl rfl ⟨9,rfl⟩ (Zp (Yu rfl rfl ⟨9,rfl⟩ (Yu rfl rfl ⟨9,rfl⟩ zU)))) rfl (GS.zC ?_)
   exact X.Qm 4 4 1 1 [some 0,some 1,some 2,some 3] (P0:=[.rows 1 [(zD c)],.dead,.rows 8 [(zB x)],.rows 3 [(V.agg [(V.i x.Case),(V.i x.Round),(V.i x.Finding)])]]) rfl (hj_8 (putM posE m4 (⟨x.Case,x.Round,x.Finding⟩:zF) []) hM) rfl rfl rfl rfl (ga rfl rfl) (gb9 rfl rfl rfl (Zp (gb9 rfl rfl rfl (gb9 rfl rfl rfl zU)))) rfl rfl rfl rfl rfl
  replace hM:=Zc h_9 hM
  refine GS.skip ?_
  exact X.Qm 4 4 1 1 [some 0,some 1,some 2,some 3] (P0:=[.rows 1 [(zD c)],.dead,.rows 8 [(zB x)],.rows 3 [(V.agg [(V.i x.Case),(V.i x.Round),(V.i x.Finding)])]]) rfl (hj_8 m4 hM) rfl rfl rfl rfl (ga rfl rfl) (gb9 rfl rfl rfl (Zp (gb9 rfl rfl rfl (gb9 rfl rfl rfl zU)))) rfl rfl rfl rfl rfl
 replace hM:=Zc h_5 hM
 refine GS.exit rfl ?_
 obtain ⟨y_1,hM,hy⟩:=yR hM
 rw [hr_1 _ hy.symm] at hM
 exact X.Qm 2 2 1 1 [some 0,some 1] (P0:=[.rows 1 [(zD c)],.dead]) rfl (hj_1 m4 hM) rfl rfl rfl rfl (ga rfl rfl) (gb9 rfl rfl rfl (Zp zU)) rfl rfl rfl rfl rfl
set_option maxHeartbeats 4000000 in
theorem zDN {c:zG} {l:(List zA)} {r:(List zF)} (hM:jY c l=some r):zDi Tryz.prog 42 [(zD c),(V.sl (List.map zB l))] (fun z=>(ovlz z 0 r)) (fun z=>(oblz z 3 zJ r)):=by
 refine zFN Zh rfl ?_
 unfold jY at hM
 refine X.sq ?_
 refine X.opW rfl rfl rfl rfl (X.q rfl (X.nq ?_))
 refine X.opW (H':=([.rows 1 [(zD c)],famM Zg 2 []]++famB Zg [])) rfl rfl rfl rfl (X.q rfl (GS.zC (GS.seq (X.sq (X.q rfl ?_)))))
 refine X.opR rfl (X.lenF rfl rfl rfl) rfl (X.q rfl (GS.zC ?_))
 refine X.join (τ:=(List (zF×(List (Int×Bool))))) (fun v=>jW c v=some r) (fun v=>⟨[(2,(V.ptr 0 0 0)),(5,(V.map 1))],([.rows 1 [(zD c)],famM Zg 2 v]++famB Zg v),0,none,61⟩) ?_ ?_
 ·intro m hM
  replace hM:jW c m=some r:=hM
  unfold jW at hM
  refine X.sq (X.q rfl (GS.zC ?_))
  iterate 2 refine GS.seq ?_
  refine GS.zL1 (K':=[(2,(V.fptr [(zD c)] 0 0)),(5,(V.fmap (List.map (fun p:zF×(List (Int×Bool))=>zJ p.1) m) (List.map (fun p:zF×(List (Int×Bool))=>(fun l=>V.fmap (List.map (fun p=>V.i p.1) l) (List.map (fun p=>V.b p.2) l)) p.2) m))),(9,V.nil)]) (X.zF4 rfl ⟨30,rfl⟩ (X.zF4 rfl (X.frM rfl rfl (fun _ _=>rfl) (fun _ _=>rfl) (fun _ _=>rfl)) (X.zOE rfl X.zOD))) (GS.region ?_)
  refine X.q rfl ?_
  refine X.opW (H':=[.iter (List.map (fun p:zF×(List (Int×Bool))=>zJ p.1) m) (List.map (fun p:zF×(List (Int×Bool))=>(fun l=>V.fmap (List.map (fun p=>V.i p.1) l) (List.map (fun p=>V.b p.2) l)) p.2) m) (idxs 0 (List.length (List.map (fun p:zF×(List (Int×Bool))=>zJ p.1) m))) none]) rfl rfl rfl rfl (GS.zC ?_)
  refine X.join (τ:=(List zF)) (fun v=>jI v=some r) (fun v=>⟨[(9,(ovl 0 v))],[obl 3 zJ v],0,none,61⟩) ?_ ?_
  ·intro l1 hM
   replace hM:jI l1=some r:=hM
   unfold jI at hM
   refine GS.seq ?_
   obtain ⟨l2,h_1,hM⟩:=zM hM
   refine GS.region (X.q rfl ?_)
   refine X.norm [(9,(ovl 0 l1)),(58,(ovl 0 l1))] ?_ rfl (sr rfl)
   refine X.sortF (z:=true) h_1 YL (fun _ _ _ h=>h) (K':=[(9,(ovl 0 l2)),(58,(ovl 0 l2))]) (H':=[obl 3 zJ l2]) rfl rfl rfl rfl rfl rfl ?_ ?_ ?_
   ·first | rfl | rw [X.zBS (X.QF YL.swo h_1)] | simp only [ovl,X.zBS (X.QF YL.swo h_1)] | simp only [X.QF YL.swo h_1]
   ·first | rfl | (simp only [hput]; rfl) | (simp only [ovl,obl]; rw [X.zBS (X.QF YL.swo h_1)] <;> rfl)
   refine X.nq (X.q rfl (X.q rfl ?_))
   refine GS.zC ?_
   have hE:=Option.some.inj hM
   subst hE
   refine X.gc [some 0] (H':=[obl 3 zJ l2]) (K':=[(4,(ovl 0 l2))]) ?_ rfl rfl rfl (zW rfl (Qr rfl) Jd) (Qx 9 rfl rfl (fun _=>rfl) zU)
   exact GS.ret ⟨true,rfl,rfl⟩
  intro hj_2
  refine GS.block ?_
  obtain ⟨vE_3,hF_3,hM⟩:=zM hM
  refine X.gc [none,some 0] (X.zNR (ga:=zJ) (gb:=(fun l=>V.fmap (List.map (fun p=>V.i p.1) l) (List.map (fun p=>V.b p.2) l))) (f0:=jC c) (fun v left last=>⟨[(2,(V.fptr [(zD c)] 0 0)),(9,(ovl 0 v)),(43,(V.ptr 1 0 0))],[obl 3 zJ v,.iter (List.map (fun p:zF×(List (Int×Bool))=>zJ p.1) m) (List.map (fun p:zF×(List (Int×Bool))=>(fun l=>V.fmap (List.map (fun p=>V.i p.1) l) (List.map (fun p=>V.b p.2) l)) p.2) m) left last],0,none,61⟩) hF_3 (QM c) ?_ ?_ rfl) rfl rfl rfl (ga rfl rfl) (gb_pad' rfl (X.zAq rfl rfl zU))
  ·intro l5 left last hne_3 hs_3
   refine X.sq ?_
   refine X.next rfl rfl rfl rfl rfl (fun e=>absurd e hne_3) (fun j_3 kv_3 vv_3 hj_3 hk_3 hv_3=>?_)
   obtain ⟨⟨k,v_⟩,w_3,rfl,rfl,hM,hc_3⟩:=hs_3 j_3 kv_3 vv_3 hj_3 hk_3 hv_3
   unfold jC at hM
   refine X.q rfl (GS.zC (GS.seq ?_))
   refine GS.zCJ rfl (GS.skip ?_)
   refine X.join (τ:=(List zF)) (fun v=>Zu v=some w_3) (fun v=>⟨[(2,(V.fptr [(zD c)] 0 0)),(9,(ovl 0 v)),(43,(V.ptr 1 0 0))],[obl 3 zJ v,.iter (List.map (fun p:zF×(List (Int×Bool))=>zJ p.1) m) (List.map (fun p:zF×(List (Int×Bool))=>(fun l=>V.fmap (List.map (fun p=>V.i p.1) l) (List.map (fun p=>V.b p.2) l)) p.2) m) (List.filter (fun i=>decide (i≠j_3)) left) (some j_3)],0,none,61⟩) ?_ ?_
   ·intro l3 hM
    replace hM:Zu l3=some w_3:=hM
    unfold Zu at hM
    have hE:=Option.some.inj hM
    subst hE
    exact X.gc [some 0,some 1] hc_3 rfl rfl rfl (zW rfl ⟨9,rfl⟩ (zW rfl (Qr rfl) (ga rfl rfl))) (Qx 9 rfl rfl (fun _=>rfl) (X.zAq rfl rfl zU))
   intro hj_4
   refine GS.block (X.sq ?_)
   refine X.entry rfl rfl rfl hk_3 hv_3 rfl (X.q rfl (X.q rfl ?_))
   refine X.opW rfl rfl rfl rfl ?_
   refine X.op0W rfl rfl rfl (X.q rfl (GS.zC (GS.seq ?_)))
   obtain ⟨y,h_2,hM⟩:=zM hM
   refine GS.region (X.q rfl ?_)
   refine X.opR rfl (X.lenMF rfl rfl rfl) rfl (X.q rfl ?_)
   refine X.call (Jg h_2) rfl rfl rfl (.cons (.shut (n:=9) rfl) .nil) (X.q rfl (GS.zC ?_))
   refine X.cond rfl (fun h_3=>?_) (fun h_3=>?_)
   ·replace hM:=Zb h_3 hM
    obtain ⟨l4,h_4,hM⟩:=zM hM
    refine GS.region (X.q rfl (X.q rfl ?_))
    refine X.opW (H':=[obl 3 zJ l5,.iter (List.map (fun p:zF×(List (Int×Bool))=>zJ p.1) m) (List.map (fun p:zF×(List (Int×Bool))=>(fun l=>V.fmap (List.map (fun p=>V.i p.1) l) (List.map (fun p=>V.b p.2) l)) p.2) m) (List.filter (fun i=>decide (i≠j_3)) left) (some j_3),.rows 3 [(zJ k)],.rows 3 (List.map zJ ([k]))]) rfl rfl rfl rfl ?_
    refine X.appN (f:=zJ) h_4 (fun _=>rfl) (by rfl) (by rfl) (by rfl) (by rfl) (by rfl) (by rfl) (by rfl) (by rfl) (by rfl) (by rfl) (by rfl) (by exact rfl) (by rfl) (by rfl) (X.q rfl (GS.zC ?_))
    refine GS.endB ?_
    exact X.gc [some 4,some 1] (hj_4 l4 hM) rfl rfl rfl (zW rfl ⟨9,rfl⟩ (zW rfl (rv_ne (zJH h_4) rfl) (ga rfl rfl))) (gb_obl' 9 (zJH h_4) rfl rfl (fun _=>rfl) (X.zAq rfl rfl zU))
   replace hM:=Zc h_3 hM
   refine GS.skip ?_
   refine GS.endB ?_
   exact X.gc [some 0,some 1] (hj_4 l5 hM) rfl rfl rfl (zW rfl ⟨9,rfl⟩ (zW rfl (Qr rfl) (ga rfl rfl))) (Qx 9 rfl rfl (fun _=>rfl) (X.zAq rfl rfl zU))
  intro l5 last hrel_3
  replace hM:jH l5=some r:=QZ hrel_3 hM
  unfold jH at hM
  refine X.sq ?_
  refine X.next rfl rfl rfl rfl rfl (fun _=>?_) (fun j_ kv_ vv_ hj_=>absurd hj_ List.not_mem_nil)
  refine X.q rfl (GS.zC (GS.seq ?_))
  refine GS.zAs rfl ?_
  refine GS.exit rfl ?_
  exact X.gc [some 0] (hj_2 l5 hM) rfl rfl rfl (zW rfl (Qr rfl) Jd) (Qx 9 rfl rfl (fun _=>rfl) zU)
 intro hj_1
 refine GS.block ?_
 refine X.Qm 2 2 1 1 [some 0,some 1] (P0:=[.rows 1 [(zD c)],.dead]) rfl (X.loop (σ:=(Int×(List (zF×(List (Int×Bool)))))) (fun v=>⟨[(2,(V.ptr 0 0 0)),(5,(V.map 1)),(13,(V.sl (List.map zB l))),(14,(V.i (l.length:Int))),(15,(V.i v.1))],([.rows 1 [(zD c)],famM Zg 2 v.2]++famB Zg v.2),0,none,61⟩) hM ?_ rfl) rfl rfl rfl rfl (ga rfl rfl) (gb9 rfl rfl rfl (Zp zU)) rfl rfl rfl rfl rfl
 rintro ⟨x1,m4⟩ b_1 hM hc_6 hr_1
 rw [J2] at hM
 refine X.sq (X.q rfl (GS.zC (GS.seq ?_)))
 refine X.cond rfl (fun h_5=>?_) (fun h_5=>?_)
 ·replace hM:=Zb h_5 hM
  refine GS.skip (GS.seq ?_)
  refine X.join (τ:=(List (zF×(List (Int×Bool))))) (fun v=>jG x1 v=some b_1) (fun v=>⟨[(2,(V.ptr 0 0 0)),(5,(V.map 1)),(13,(V.sl (List.map zB l))),(14,(V.i (l.length:Int))),(15,(V.i x1))],([.rows 1 [(zD c)],famM Zg 2 v]++famB Zg v),0,none,61⟩) ?_ ?_
  ·intro m1 hM
   replace hM:jG x1 m1=some b_1:=hM
   unfold jG at hM
   refine GS.region ?_
   refine X.opR rfl (X.addE rfl rfl) rfl (X.q rfl (GS.zC ?_))
   have hE:=Option.some.inj hM
   exact X.Qm 2 2 1 1 [some 0,some 1] (P0:=[.rows 1 [(zD c)],.dead]) rfl (hc_6 (w64 (x1+1),m1) hE.symm) rfl rfl rfl rfl (ga rfl rfl) (gb9 rfl rfl rfl (Zp zU)) rfl rfl rfl rfl rfl
  intro hj_7
  refine GS.block (GS.seq ?_)
  obtain ⟨x,h_6,hM⟩:=zM hM
  refine GS.region ?_
  refine X.opR rfl (X.yT (f:=zB) h_6 (fun _=>rfl) rfl rfl rfl rfl) rfl ?_
  refine X.opR rfl (X.Yx h_6 rfl rfl rfl) rfl ?_
  refine X.zCx (F:=Zg) (A:=m4) (P0:=[.rows 1 [(zD c)],.dead]) (P2:=[.rows 1 [(zD c)],famM Zg 3 m4,.rows 8 [(V.agg [(V.i 0),(V.i 0),(V.i 0),(V.i 0),(V.i 0),(V.i 0),(V.i 0),(V.i 0)])]]) 2 1 [some 0,some 1] [(2,(V.ptr 0 0 0)),(5,(V.map 1)),(13,(V.sl (List.map zB l))),(14,(V.i (l.length:Int))),(15,(V.i x1)),(18,(zB x))] rfl (fun _ _=>rfl) (by intro h; cases h) rfl rfl rfl rfl rfl rfl rfl rfl rfl rfl rfl (zW rfl ⟨9,rfl⟩ (zW rfl ⟨9,rfl⟩ (zW rfl ⟨9,rfl⟩ (zW rfl ⟨9,rfl⟩ (zW rfl ⟨9,rfl⟩ (zW rfl ⟨9,rfl⟩ Jd)))))) (Yu rfl rfl ⟨9,rfl⟩ (Zp zU)) rfl ?_
  refine X.op0W (H':=([.rows 1 [(zD c)],famM Zg 3 m4,.rows 8 [(zB x)]]++famB Zg m4)) rfl rfl rfl (GS.zC (GS.seq (X.sq (X.q rfl (X.q rfl (X.q rfl ?_))))))
  refine GS.zC ?_
  refine X.cond rfl (fun h_7=>?_) (fun h_7=>?_)
  ·replace hM:=Zb h_7 hM
   refine GS.exit rfl ?_
   exact X.Qm 3 2 1 1 [some 0,some 1] (P0:=[.rows 1 [(zD c)],.dead]) rfl (hj_7 m4 hM) rfl rfl rfl rfl (ga rfl rfl) (gb9 rfl rfl rfl (Zp zU)) rfl rfl rfl rfl rfl
  replace hM:=Zc h_7 hM
  refine GS.skip (X.sq ?_)
  iterate 7 refine X.q rfl ?_
  refine X.zCx (F:=Zg) (A:=m4) (P0:=[.rows 1 [(zD c)],.dead,.rows 8 [(zB x)]]) (P2:=[.rows 1 [(zD c)],famM Zg 4 m4,.rows 8 [(zB x)],.rows 3 [(V.agg [(V.i 0),(V.i 0),(V.i 0)])]]) 3 1 [some 0,some 1,some 2] [(2,(V.ptr 0 0 0)),(5,(V.map 1)),(7,(V.ptr 2 0 0)),(13,(V.sl (List.map zB l))),(14,(V.i (l.length:Int))),(15,(V.i x1)),(28,(V.agg [(V.i x.Case),(V.i x.Round),(V.i x.Finding)]))] rfl (fun _ _=>rfl) (by intro h; cases h) rfl rfl rfl rfl rfl rfl rfl rfl rfl rfl rfl (zW rfl ⟨9,rfl⟩ (zW rfl ⟨9,rfl⟩ (zW rfl ⟨9,rfl⟩ (zW rfl ⟨9,rfl⟩ (zW rfl ⟨9,rfl⟩ (zW rfl ⟨9,rfl⟩ (zW rfl ⟨9,rfl⟩ Jd))))))) (Yu rfl rfl ⟨9,rfl⟩ (Zp (Yu rfl rfl ⟨9,rfl⟩ zU))) rfl ?_
  refine X.op0W (H':=([.rows 1 [(zD c)],famM Zg 4 m4,.rows 8 [(zB x)],.rows 3 [(V.agg [(V.i x.Case),(V.i x.Round),(V.i x.Finding)])]]++famB Zg m4)) rfl rfl rfl (GS.zC (GS.seq (X.sq (X.q rfl (X.q rfl ?_)))))
  refine X.opR rfl (X.zBe (F:=Zg) (A:=m4) (b:=4) (k0:=(⟨x.Case,x.Round,x.Finding⟩:zF)) ym rfl rfl rfl rfl rfl rfl) rfl ?_
  refine X.opR rfl (X.zOP rfl rfl rfl rfl) rfl (GS.zC ?_)
  refine X.join (τ:=(List (zF×(List (Int×Bool))))) (fun v=>jF x1 x v=some b_1) (fun v=>⟨[(2,(V.ptr 0 0 0)),(5,(V.map 1)),(7,(V.ptr 2 0 0)),(8,(V.ptr 3 0 0)),(13,(V.sl (List.map zB l))),(14,(V.i (l.length:Int))),(15,(V.i x1))],([.rows 1 [(zD c)],famM Zg 4 v,.rows 8 [(zB x)],.rows 3 [(V.agg [(V.i x.Case),(V.i x.Round),(V.i x.Finding)])]]++famB Zg v),0,none,61⟩) ?_ ?_
  ·intro m2 hM
   replace hM:jF x1 x m2=some b_1:=hM
   unfold jF at hM
   refine X.zKO 5 rfl (by kernel_rfl) (by kernel_rfl) rfl ?_
   iterate 2 refine X.dop rfl rfl rfl rfl (by kernel_rfl) rfl rfl ?_
   refine X.dop rfl (X.zBe (F:=Zg) (A:=m2) (b:=4) (k0:=(⟨x.Case,x.Round,x.Finding⟩:zF)) ym rfl rfl rfl rfl rfl rfl) rfl rfl (by kernel_rfl) rfl rfl ?_
   iterate 2 refine X.dop rfl rfl rfl rfl (by kernel_rfl) rfl rfl ?_
   refine X.dnil ?_
   refine X.norm [(2,(V.ptr 0 0 0)),(5,(V.map 1)),(13,(V.sl (List.map zB l))),(14,(V.i (l.length:Int))),(15,(V.i x1)),(38,(YR Zg 4 m2 (⟨x.Case,x.Round,x.Finding⟩:zF))),(40,(V.i x.From))] ?_ rfl (sr rfl)
   obtain ⟨m3,h_8,hM⟩:=zM hM
   refine X.famIn (P:=[.rows 1 [(zD c)],famM Zg 4 m2,.rows 8 [(zB x)],.rows 3 [(V.agg [(V.i x.Case),(V.i x.Round),(V.i x.Finding)])]]) (b:=4) (g:=zJ) (f1:=V.i) (f2:=V.b) (A:=m2) (a:=x.From) (c:=true) (pos0:=posE) (pos1:=posI) (P2:=[.rows 1 [(zD c)],famM Zg 4 (putM posE m2 (⟨x.Case,x.Round,x.Finding⟩:zF) (putM posI m3 x.From true)),.rows 8 [(zB x)],.rows 3 [(V.agg [(V.i x.Case),(V.i x.Round),(V.i x.Finding)])]]) 1 h_8 X.yH (X.Y8 _) rfl rfl rfl rfl rfl rfl rfl rfl rfl rfl (GS.zC ?_)
   refine GS.endB ?_
   exact X.Qm 4 2 1 1 [some 0,some 1] (P0:=[.rows 1 [(zD c)],.dead]) rfl (hj_7 (putM posE m2 (⟨x.Case,x.Round,x.Finding⟩:zF) (putM posI m3 x.From true)) hM) rfl rfl rfl rfl (ga rfl rfl) (gb9 rfl rfl rfl (Zp zU)) rfl rfl rfl rfl rfl
  intro hj_8
  refine X.cond rfl (fun h_9=>?_) (fun h_9=>?_)
  ·replace hM:=Zb h_9 hM
   refine GS.region (X.q rfl (X.q rfl ?_))
   refine X.opW (H':=([.rows 1 [(zD c)],famM Zg 4 m4,.rows 8 [(zB x)],.rows 3 [(V.agg [(V.i x.Case),(V.i x.Round),(V.i x.Finding)])]]++famB Zg m4)++[.map [] []]) rfl rfl X.zBQ rfl ?_
   refine X.zIJ (F:=Zg) (A:=m4) (pos0:=posE) (P0:=[.rows 1 [(zD c)],.dead,.rows 8 [(zB x)],.rows 3 [(V.agg [(V.i x.Case),(V.i x.Round),(V.i x.Finding)])]]) (P2:=[.rows 1 [(zD c)],famM Zg 4 (putM posE m4 (⟨x.Case,x.Round,x.Finding⟩:zF) []),.rows 8 [(zB x)],.rows 3 [(V.agg [(V.i x.Case),(V.i x.Round),(V.i x.Finding)])]]) (x0:=[]) 4 1 [some 0,some 1,some 2,some 3] [(2,(V.ptr 0 0 0)),(5,(V.map 1)),(7,(V.ptr 2 0 0)),(8,(V.ptr 3 0 0)),(13,(V.sl (List.map zB l))),(14,(V.i (l.length:Int))),(15,(V.i x1))] rfl ym (fun l=>(X.zDF _ _).trans (List.length_map ..)) rfl rfl rfl rfl rfl rfl rfl rfl rfl rfl rfl rfl rfl rfl rfl (zW rfl ⟨9,rfl⟩ (zW rfl ⟨9,rfl⟩ (zW rfl ⟨9,rfl⟩ (zW rfl ⟨9,rfl⟩ (zW rfl ⟨9,rfl⟩ (zW rfl ⟨9,rfl⟩ (zW rfl ⟨9,rfl⟩ Jd))))))) (Yu rfl rfl ⟨9,rfl⟩ (Zp (Yu rfl rfl ⟨9,rfl⟩ (Yu rfl rfl ⟨9,rfl⟩ zU)))) rfl (GS.zC ?_)
   exact X.Qm 4 4 1 1 [some 0,some 1,some 2,some 3] (P0:=[.rows 1 [(zD c)],.dead,.rows 8 [(zB x)],.rows 3 [(V.agg [(V.i x.Case),(V.i x.Round),(V.i x.Finding)])]]) rfl (hj_8 (putM posE m4 (⟨x.Case,x.Round,x.Finding⟩:zF) []) hM) rfl rfl rfl rfl (ga rfl rfl) (gb9 rfl rfl rfl (Zp (gb9 rfl rfl rfl (gb9 rfl rfl rfl zU)))) rfl rfl rfl rfl rfl
  replace hM:=Zc h_9 hM
  refine GS.skip ?_
  exact X.Qm 4 4 1 1 [some 0,some 1,some 2,some 3] (P0:=[.rows 1 [(zD c)],.dead,.rows 8 [(zB x)],.rows 3 [(V.agg [(V.i x.Case),(V.i x.Round),(V.i x.Finding)])]]) rfl (hj_8 m4 hM) rfl rfl rfl rfl (ga rfl rfl) (gb9 rfl rfl rfl (Zp (gb9 rfl rfl rfl (gb9 rfl rfl rfl zU)))) rfl rfl rfl rfl rfl
 replace hM:=Zc h_5 hM
 refine GS.exit rfl ?_
 obtain ⟨y_1,hM,hy⟩:=yR hM
 rw [hr_1 _ hy.symm] at hM
 exact X.Qm 2 2 1 1 [some 0,some 1] (P0:=[.rows 1 [(zD c)],.dead]) rfl (hj_1 m4 hM) rfl rfl rfl rfl (ga rfl rfl) (gb9 rfl rfl rfl (Zp zU)) rfl rfl rfl rfl rfl
abbrev zB4 (x:Ye):V:=.agg [(V.i x.Promised),(V.i x.Voted),(V.i x.Finding),(V.i x.Opened)]
abbrev zL (x:Zn):V:=.agg [(V.i x.Kind),(V.i x.A),(V.i x.Case),(V.i x.Finding),(V.i x.N)]
end Go.Proofs.YtfoafeaplgmhmaaGreat
