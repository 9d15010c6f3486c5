/- The program's functions compute the plain ones. Conditions: none. Printed by a program (wip/tools/xg.py). -/
import Derived.Test.YtfoafeaplgmhmaaGreatTok
import Derived.Test.YtfoafeaplgmhmaaGreatSrt
import Derived.Test.YtfoafeaplgmhmaaGreatM
set_option linter.unusedVariables false
set_option linter.unusedSimpArgs false
namespace Go.Proofs.YtfoafeaplgmhmaaGreat
open Go Go.Am Go.Proofs Go.Mx
noncomputable def CC : Cfg:=cfg (Ct Tryz.prog)
theorem CC_ok : CC.OK:=cfg_ok fun f args v h=>h
abbrev e_api_Court (x:api_Court):V:=.agg [(V.i x.Arbiters)]
theorem ok_arbiter_within (n:Int) (lo:Int) (hi:Int):Ct Tryz.prog 49 [(V.i n),(V.i lo),(V.i hi)] (V.b (arbiter_within n lo hi)):=by
 refine ct_of_gs CC_ok rfl ?_
 generalize hM:arbiter_within n lo hi=r
 unfold arbiter_within at hM
 refine X.sq (X.q rfl (X.nq ?_))
 refine X.mid [(6,(V.b ((decide (lo≤n))&&(decide (n≤hi)))))] ?_ ?_
 ·intro hg
  refine X.split (decide (lo≤n)) (fun h_1=>?_) (fun h_1=>?_)
  ·iterate 4 refine X.q rfl ?_
   iterate 3 refine X.opR (X.on_t rfl rfl rfl h_1) rfl rfl ?_
   refine X.opR rfl (X.pickand_t (y:=decide (n≤hi)) rfl h_1 rfl) rfl (X.q rfl (GS.opsNil ?_))
   exact X.norm _ hg rfl (sr rfl)
  iterate 4 refine X.q rfl ?_
  iterate 3 refine X.off (X.off_t rfl rfl rfl h_1) rfl ?_
  refine X.opR rfl (X.pickand_f (y:=decide (n≤hi)) rfl h_1 rfl) rfl (X.q rfl (GS.opsNil ?_))
  exact X.norm _ hg rfl (sr rfl)
 subst hM
 exact GS.ret ⟨_,rfl,⟨30,rfl⟩⟩
theorem ok_arbiter_Check (c:api_Court):Ct Tryz.prog 21 [(e_api_Court c)] (V.i (arbiter_Check c)):=by
 refine ct_of_gs CC_ok rfl ?_
 generalize hM:arbiter_Check c=r
 unfold arbiter_Check at hM
 refine X.sq ?_
 refine X.opW rfl rfl rfl rfl (X.q rfl (GS.opsNil (GS.seq (X.sq (X.q rfl (X.q rfl ?_))))))
 refine X.call (ok_arbiter_within c.Arbiters 3 7) rfl rfl rfl (.cons (.shut (n:=9) rfl) (.cons (.shut (n:=9) rfl) (.cons (.shut (n:=9) rfl) .nil))) (X.q rfl (GS.opsNil ?_))
 refine X.cond rfl (fun h_1=>?_) (fun h_1=>?_)
 ·replace hM:=ite_t h_1 hM
  refine X.sq (X.q rfl (GS.opsNil ?_))
  subst hM
  exact GS.ret ⟨_,rfl,⟨30,rfl⟩⟩
 replace hM:=ite_f h_1 hM
 refine GS.skip (X.sq (X.q rfl (GS.opsNil ?_)))
 subst hM
 exact GS.ret ⟨_,rfl,⟨30,rfl⟩⟩
theorem ok_arbiter_Majority {c:api_Court} {r:Int} (hM:arbiter_Majority c=some r):Ct Tryz.prog 88 [(e_api_Court c)] (V.i r):=by
 refine ct_of_gs CC_ok rfl ?_
 unfold arbiter_Majority at hM
 refine X.sq ?_
 refine X.opW rfl rfl rfl rfl (X.q rfl (GS.opsNil (GS.seq (X.sq (X.q rfl ?_)))))
 refine X.call (ok_arbiter_Check c) rfl rfl rfl (.cons (.shut (n:=9) rfl) .nil) (X.q rfl (GS.opsNil ?_))
 refine X.cond rfl (fun h_1=>?_) (fun h_1=>?_)
 ·replace hM:=ite_t h_1 hM
  refine X.sq (X.q rfl (GS.opsNil ?_))
  cases hM
  exact GS.ret ⟨_,rfl,⟨30,rfl⟩⟩
 replace hM:=ite_f h_1 hM
 refine GS.skip (GS.seq ?_)
 obtain ⟨q,h_2,hM⟩:=bind_of hM
 refine GS.region (X.q rfl (X.q rfl ?_))
 refine X.opR rfl (X.quoE h_2 rfl rfl) rfl ?_
 refine X.opR rfl (X.addE rfl rfl) rfl (X.q rfl (GS.opsNil ?_))
 cases hM
 exact GS.ret ⟨_,rfl,⟨30,rfl⟩⟩
abbrev e_api_Letter (x:api_Letter):V:=.agg [(V.i x.ID),(V.i x.Case),(V.i x.Kind),(V.i x.Round),(V.i x.From),(V.i x.To),(V.i x.Voted),(V.i x.Finding)]
theorem ok_arbiter_picked {l:(List api_Letter)} {r:Int×Bool} (hM:arbiter_picked l=some r):Ct Tryz.prog 94 [(V.sl (List.map e_api_Letter l))] (V.tup [(V.i r.1),(V.b r.2)]):=by
 refine ct_of_gs CC_ok rfl ?_
 unfold arbiter_picked at hM
 refine X.sq (X.q rfl (X.q rfl ?_))
 refine X.nq ?_
 refine X.opW rfl rfl rfl rfl (GS.opsNil (GS.seq (X.sq (X.q rfl ?_))))
 refine X.opR rfl (X.lenF rfl rfl rfl) rfl (X.q rfl (GS.opsNil ?_))
 refine X.join (τ:=Int×Int×Int×Int×Int×Int×Int×Int) (fun v=>arbiter_picked_j1 v.1 v.2.1 v.2.2.1 v.2.2.2.1 v.2.2.2.2.1 v.2.2.2.2.2.1 v.2.2.2.2.2.2.1 v.2.2.2.2.2.2.2=some r) (fun v=>⟨[(4,(V.ptr 0 0 0))],[.rows 8 [(V.agg [(V.i v.1),(V.i v.2.1),(V.i v.2.2.1),(V.i v.2.2.2.1),(V.i v.2.2.2.2.1),(V.i v.2.2.2.2.2.1),(V.i v.2.2.2.2.2.2.1),(V.i v.2.2.2.2.2.2.2)])]],0,none,25⟩) ?_ ?_
 ·rintro ⟨ID,Case,Kind,Round,From,To,Voted,Finding⟩ hM
  replace hM:arbiter_picked_j1 ID Case Kind Round From To Voted Finding=some r:=hM
  unfold arbiter_picked_j1 at hM
  refine GS.seq ?_
  refine X.drawc (by kernel_rfl) rfl ?_
  iterate 7 refine X.cop rfl rfl rfl rfl ?_
  refine X.cnil ?_
  refine X.norm [(2,(V.i Finding)),(3,(V.b (decide (0<Voted))))] ?_ rfl (sr rfl)
  cases hM
  exact GS.ret ⟨_,rfl,⟨30,rfl⟩⟩
 intro hj_1
 refine GS.block ?_
 refine X.gc [some 0] (X.loop (σ:=(Int×Int×Int×Int×Int×Int×Int×Int×Int)) (fun v=>⟨[(4,(V.ptr 0 0 0)),(7,(V.sl (List.map e_api_Letter l))),(8,(V.i (l.length:Int))),(9,(V.i v.1))],[.rows 8 [(V.agg [(V.i v.2.1),(V.i v.2.2.1),(V.i v.2.2.2.1),(V.i v.2.2.2.2.1),(V.i v.2.2.2.2.2.1),(V.i v.2.2.2.2.2.2.1),(V.i v.2.2.2.2.2.2.2.1),(V.i v.2.2.2.2.2.2.2.2)])]],0,none,25⟩) hM ?_ rfl) rfl rfl rfl (ga rfl rfl) (gb9 rfl rfl rfl gb_nil)
 rintro ⟨x1,ID2,Case2,Kind2,Round2,From2,To2,Voted2,Finding2⟩ b_1 hM hc_2 hr_1
 rw [arbiter_picked_b2] at hM
 refine X.sq (X.q rfl (GS.opsNil (GS.seq ?_)))
 refine X.cond rfl (fun h_1=>?_) (fun h_1=>?_)
 ·replace hM:=ite_t h_1 hM
  refine GS.skip (GS.seq ?_)
  refine X.join (τ:=Int×Int×Int×Int×Int×Int×Int×Int) (fun v=>arbiter_picked_j3 x1 v.1 v.2.1 v.2.2.1 v.2.2.2.1 v.2.2.2.2.1 v.2.2.2.2.2.1 v.2.2.2.2.2.2.1 v.2.2.2.2.2.2.2=some b_1) (fun v=>⟨[(4,(V.ptr 0 0 0)),(7,(V.sl (List.map e_api_Letter l))),(8,(V.i (l.length:Int))),(9,(V.i x1))],[.rows 8 [(V.agg [(V.i v.1),(V.i v.2.1),(V.i v.2.2.1),(V.i v.2.2.2.1),(V.i v.2.2.2.2.1),(V.i v.2.2.2.2.2.1),(V.i v.2.2.2.2.2.2.1),(V.i v.2.2.2.2.2.2.2)])]],0,none,25⟩) ?_ ?_
  ·rintro ⟨ID1,Case1,Kind1,Round1,From1,To1,Voted1,Finding1⟩ hM
   replace hM:arbiter_picked_j3 x1 ID1 Case1 Kind1 Round1 From1 To1 Voted1 Finding1=some b_1:=hM
   unfold arbiter_picked_j3 at hM
   refine GS.region ?_
   refine X.opR rfl (X.addE rfl rfl) rfl (X.q rfl (GS.opsNil ?_))
   have hE:=Option.some.inj hM
   exact X.gc [some 0] (hc_2 (w64 (x1+1),ID1,Case1,Kind1,Round1,From1,To1,Voted1,Finding1) hE.symm) rfl rfl rfl (ga rfl rfl) (gb9 rfl rfl rfl gb_nil)
  intro hj_3
  refine GS.block (GS.seq ?_)
  obtain ⟨x,h_2,hM⟩:=bind_of hM
  refine GS.region ?_
  refine X.opR rfl (X.indexF (f:=e_api_Letter) h_2 (fun _=>rfl) rfl rfl rfl rfl) rfl ?_
  refine X.opR rfl (X.loadF h_2 rfl rfl rfl) rfl ?_
  refine X.opW rfl rfl rfl rfl ?_
  refine X.op0W rfl rfl rfl (X.nq ?_)
  iterate 5 refine X.q rfl ?_
  refine GS.opsNil ?_
  refine X.cond rfl (fun h_3=>?_) (fun h_3=>?_)
  ·replace hM:=ite_t h_3 hM
   refine GS.region (X.q rfl ?_)
   refine X.op0W rfl rfl rfl (GS.opsNil ?_)
   refine GS.endB ?_
   exact X.gc [some 0] (hj_3 (x.ID,x.Case,x.Kind,x.Round,x.From,x.To,x.Voted,x.Finding) hM) rfl rfl rfl (ga rfl rfl) (gb9 rfl rfl rfl gb_nil)
  replace hM:=ite_f h_3 hM
  refine GS.skip ?_
  refine GS.endB ?_
  exact X.gc [some 0] (hj_3 (ID2,Case2,Kind2,Round2,From2,To2,Voted2,Finding2) hM) rfl rfl rfl (ga rfl rfl) (gb9 rfl rfl rfl gb_nil)
 replace hM:=ite_f h_1 hM
 refine GS.exit rfl ?_
 obtain ⟨y_1,hM,hy⟩:=map_of hM
 rw [hr_1 _ hy.symm] at hM
 exact X.gc [some 0] (hj_1 (ID2,Case2,Kind2,Round2,From2,To2,Voted2,Finding2) hM) rfl rfl rfl (ga rfl rfl) (gb9 rfl rfl rfl gb_nil)
theorem ok_arbiter_next {c:api_Court} {arbiter:Int} {round:Int} {r:Int} (hM:arbiter_next c arbiter round=some r):Ct Tryz.prog 56 [(e_api_Court c),(V.i arbiter),(V.i round)] (V.i r):=by
 refine ct_of_gs CC_ok rfl ?_
 unfold arbiter_next at hM
 refine X.sq ?_
 refine X.opW rfl rfl rfl rfl (X.q rfl (X.nq (X.q rfl ?_)))
 refine X.opR rfl (X.addE rfl rfl) rfl (X.q rfl (GS.opsNil (GS.seq ?_)))
 refine X.join (τ:=Int) (fun v=>arbiter_next_j1 v=some r) (fun v=>⟨[(7,(V.i v))],[],0,none,20⟩) ?_ ?_
 ·intro r_ hM
  replace hM:arbiter_next_j1 r_=some r:=hM
  unfold arbiter_next_j1 at hM
  refine X.sq (X.q rfl (X.q rfl ?_))
  refine GS.opsNil ?_
  cases hM
  exact GS.ret ⟨_,rfl,⟨30,rfl⟩⟩
 intro hj_1
 refine GS.block ?_
 refine X.gc [some 0] (X.loop (σ:=Int) (fun v=>⟨[(1,(V.i arbiter)),(3,(V.ptr 0 0 0)),(7,(V.i v))],[.rows 1 [(e_api_Court c)]],0,none,20⟩) hM ?_ rfl) rfl rfl rfl (ga rfl rfl) (gb9 rfl rfl rfl gb_nil)
 intro r_1 b_1 hM hc_2 hr_1
 rw [arbiter_next_b2] at hM
 iterate 2 refine GS.seq ?_
 obtain ⟨q,h_1,hM⟩:=bind_of hM
 refine GS.region (X.q rfl ?_)
 refine X.opR rfl (X.subE rfl rfl) rfl (X.q rfl (X.q rfl ?_))
 refine X.opR rfl (X.remE h_1 rfl rfl) rfl (X.q rfl (X.q rfl ?_))
 refine GS.opsNil ?_
 refine X.cond rfl (fun h_2=>?_) (fun h_2=>?_)
 ·replace hM:=ite_t h_2 hM
  refine GS.skip (GS.block (GS.region (X.q rfl ?_)))
  refine X.opR rfl (X.addE rfl rfl) rfl (X.q rfl (GS.opsNil ?_))
  refine GS.endB ?_
  have hE:=Option.some.inj hM
  exact X.gc [some 0] (hc_2 (w64 (r_1+1)) hE.symm) rfl rfl rfl (ga rfl rfl) (gb9 rfl rfl rfl gb_nil)
 replace hM:=ite_f h_2 hM
 refine GS.exit rfl ?_
 obtain ⟨y_1,hM,hy⟩:=map_of hM
 rw [hr_1 _ hy.symm] at hM
 exact X.gc [] (hj_1 r_1 hM) rfl rfl rfl (ga rfl rfl) (gb_nil)
theorem ok_arbiter_judge (c:api_Court) (a:Int):Ct Tryz.prog 43 [(e_api_Court c),(V.i a)] (V.b (arbiter_judge c a)):=by
 refine ct_of_gs CC_ok rfl ?_
 generalize hM:arbiter_judge c a=r
 unfold arbiter_judge at hM
 refine X.sq ?_
 refine X.opW rfl rfl rfl rfl (X.q rfl (X.nq (X.q rfl (X.q rfl (X.q rfl ?_)))))
 refine X.opR rfl (X.subE rfl rfl) rfl ?_
 refine X.call (ok_arbiter_within a 0 (w64 (c.Arbiters - 1))) rfl rfl rfl (.cons (.shut (n:=9) rfl) (.cons (.shut (n:=9) rfl) (.cons (.shut (n:=9) rfl) .nil))) (X.q rfl (GS.opsNil ?_))
 subst hM
 exact GS.ret ⟨_,rfl,⟨30,rfl⟩⟩
theorem ok_arbiter_topic (id:Int):Ct Tryz.prog 44 [(V.i id)] (V.b (arbiter_topic id)):=by
 refine ct_of_gs CC_ok rfl ?_
 generalize hM:arbiter_topic id=r
 unfold arbiter_topic at hM
 refine X.sq (X.q rfl (X.nq (X.q rfl ?_)))
 refine X.call (ok_arbiter_within id 1 1099511627776) rfl rfl rfl (.cons (.shut (n:=9) rfl) (.cons (.shut (n:=9) rfl) (.cons (.shut (n:=9) rfl) .nil))) (X.q rfl (GS.opsNil ?_))
 subst hM
 exact GS.ret ⟨_,rfl,⟨30,rfl⟩⟩
theorem ok_arbiter_finding (n:Int):Ct Tryz.prog 51 [(V.i n)] (V.b (arbiter_finding n)):=by
 refine ct_of_gs CC_ok rfl ?_
 generalize hM:arbiter_finding n=r
 unfold arbiter_finding at hM
 refine X.sq (X.q rfl (X.nq (X.q rfl ?_)))
 refine X.call (ok_arbiter_within n 0 65536) rfl rfl rfl (.cons (.shut (n:=9) rfl) (.cons (.shut (n:=9) rfl) (.cons (.shut (n:=9) rfl) .nil))) (X.q rfl (GS.opsNil ?_))
 subst hM
 exact GS.ret ⟨_,rfl,⟨30,rfl⟩⟩
theorem ok_slices_Index_int {s:(List Int)} {v_:Int} {r:Int} (hM:slices_Index_int s v_=some r):Ct Tryz.prog 110 [(V.sl (List.map V.i s)),(V.i v_)] (V.i r):=by
 refine ct_of_gs CC_ok rfl ?_
 unfold slices_Index_int at hM
 refine X.sq (X.q rfl (GS.opsNil (GS.seq (X.sq (X.q rfl ?_)))))
 refine X.opR rfl (X.lenF rfl rfl rfl) rfl (X.q rfl (GS.opsNil ?_))
 refine X.join (τ:=Unit) (fun v=>slices_Index_int_j1=some r) (fun v=>⟨[],[],0,none,19⟩) ?_ ?_
 ·intro _ hM
  replace hM:slices_Index_int_j1=some r:=hM
  unfold slices_Index_int_j1 at hM
  refine X.sq (X.q rfl (GS.opsNil ?_))
  cases hM
  exact GS.ret ⟨_,rfl,⟨30,rfl⟩⟩
 intro hj_1
 refine GS.block ?_
 refine X.gc [] (X.loop (σ:=Int) (fun v=>⟨[(0,(V.sl (List.map V.i s))),(1,(V.i v_)),(7,(V.i (s.length:Int))),(8,(V.i v))],[],0,none,19⟩) hM ?_ rfl) rfl rfl rfl (ga rfl rfl) (gb_nil)
 intro x1 b_1 hM hc_2 hr_1
 rw [slices_Index_int_b2] at hM
 refine X.sq (X.q rfl (GS.opsNil (GS.seq ?_)))
 refine X.cond rfl (fun h_1=>?_) (fun h_1=>?_)
 ·replace hM:=ite_t h_1 hM
  refine GS.skip (GS.seq (GS.block (X.sq (X.q rfl (X.q rfl ?_)))))
  refine GS.opsNil (GS.seq ?_)
  obtain ⟨x,h_2,hM⟩:=bind_of hM
  refine GS.region (X.q rfl (X.q rfl (X.q rfl ?_)))
  refine X.opR rfl (X.indexF (f:=V.i) h_2 (fun _=>rfl) rfl rfl rfl rfl) rfl ?_
  refine X.opR rfl (X.loadF h_2 rfl rfl rfl) rfl (X.q rfl (GS.opsNil ?_))
  refine X.cond rfl (fun h_3=>?_) (fun h_3=>?_)
  ·replace hM:=ite_t h_3 hM
   refine X.sq (X.q rfl (X.q rfl ?_))
   refine GS.opsNil ?_
   have hE:=Option.some.inj hM
   replace hE:=hr_1 _ hE.symm
   subst hE
   exact GS.ret ⟨_,rfl,⟨30,rfl⟩⟩
  replace hM:=ite_f h_3 hM
  refine GS.skip ?_
  refine GS.endB (GS.region ?_)
  refine X.opR rfl (X.addE rfl rfl) rfl (X.q rfl (GS.opsNil ?_))
  have hE:=Option.some.inj hM
  exact X.gc [] (hc_2 (w64 (x1+1)) hE.symm) rfl rfl rfl (ga rfl rfl) (gb_nil)
 replace hM:=ite_f h_1 hM
 refine GS.exit rfl ?_
 obtain ⟨y_1,hM,hy⟩:=map_of hM
 rw [hr_1 _ hy.symm] at hM
 exact X.gc [] (hj_1 () hM) rfl rfl rfl (gk_nil) (gb_nil)
theorem ok_slices_Contains_int {s:(List Int)} {v_:Int} {r:Bool} (hM:slices_Contains_int s v_=some r):Ct Tryz.prog 92 [(V.sl (List.map V.i s)),(V.i v_)] (V.b r):=by
 refine ct_of_gs CC_ok rfl ?_
 unfold slices_Contains_int at hM
 refine X.sq (X.q rfl (GS.opsNil (GS.seq ?_)))
 obtain ⟨y,h_1,hM⟩:=bind_of hM
 refine GS.region (X.q rfl (X.q rfl ?_))
 refine X.call (ok_slices_Index_int h_1) rfl rfl rfl (.cons (.shut (n:=9) rfl) (.cons (.shut (n:=9) rfl) .nil)) (X.q rfl (X.q rfl ?_))
 refine GS.opsNil ?_
 cases hM
 exact GS.ret ⟨_,rfl,⟨30,rfl⟩⟩
theorem ok_arbiter_World_find_1 (l:api_Letter) (c:Int):Ct Tryz.prog 98 [(e_api_Letter l),(V.fptr [(V.i c)] 0 0)] (V.b (arbiter_World_find_1 l c)):=by
 refine ct_of_gs CC_ok rfl ?_
 generalize hM:arbiter_World_find_1 l c=r
 unfold arbiter_World_find_1 at hM
 refine X.sq ?_
 refine X.opW rfl rfl rfl rfl (X.q rfl (X.nq ?_))
 iterate 5 refine X.q rfl ?_
 refine GS.opsNil ?_
 subst hM
 exact GS.ret ⟨_,rfl,⟨30,rfl⟩⟩
theorem ok_slices_IndexFunc_api_Letter__arbiter_World_find_1 {s:(List api_Letter)} {c:Int} {r:Int} (hM:slices_IndexFunc_api_Letter__arbiter_World_find_1 s c=some r):Ct Tryz.prog 91 [(V.sl (List.map e_api_Letter s)),(V.fn 98 [(V.fptr [(V.i c)] 0 0)])] (V.i r):=by
 refine ct_of_gs CC_ok rfl ?_
 unfold slices_IndexFunc_api_Letter__arbiter_World_find_1 at hM
 refine X.sq (X.q rfl (GS.opsNil (GS.seq (X.sq (X.q rfl ?_)))))
 refine X.opR rfl (X.lenF rfl rfl rfl) rfl (X.q rfl (GS.opsNil ?_))
 refine X.join (τ:=Unit) (fun v=>slices_IndexFunc_api_Letter__arbiter_World_find_1_j1=some r) (fun v=>⟨[],[],0,none,19⟩) ?_ ?_
 ·intro _ hM
  replace hM:slices_IndexFunc_api_Letter__arbiter_World_find_1_j1=some r:=hM
  unfold slices_IndexFunc_api_Letter__arbiter_World_find_1_j1 at hM
  refine X.sq (X.q rfl (GS.opsNil ?_))
  cases hM
  exact GS.ret ⟨_,rfl,⟨30,rfl⟩⟩
 intro hj_1
 refine GS.block ?_
 refine X.gc [] (X.loop (σ:=Int) (fun v=>⟨[(0,(V.sl (List.map e_api_Letter s))),(1,(V.fn 98 [(V.fptr [(V.i c)] 0 0)])),(7,(V.i (s.length:Int))),(8,(V.i v))],[],0,none,19⟩) hM ?_ rfl) rfl rfl rfl (ga rfl rfl) (gb_nil)
 intro x1 b_1 hM hc_2 hr_1
 rw [slices_IndexFunc_api_Letter__arbiter_World_find_1_b2] at hM
 refine X.sq (X.q rfl (GS.opsNil (GS.seq ?_)))
 refine X.cond rfl (fun h_1=>?_) (fun h_1=>?_)
 ·replace hM:=ite_t h_1 hM
  refine GS.skip (GS.seq (GS.block (X.sq (X.q rfl (X.q rfl ?_)))))
  refine GS.opsNil (GS.seq ?_)
  obtain ⟨x,h_2,hM⟩:=bind_of hM
  refine GS.region (X.q rfl (X.q rfl (X.q rfl ?_)))
  refine X.opR rfl (X.indexF (f:=e_api_Letter) h_2 (fun _=>rfl) rfl rfl rfl rfl) rfl ?_
  refine X.opR rfl (X.loadF h_2 rfl rfl rfl) rfl ?_
  refine X.call (ok_arbiter_World_find_1 x c) rfl rfl rfl (.cons (.shut (n:=9) rfl) (.cons (.shut (n:=9) rfl) .nil)) (GS.opsNil ?_)
  refine X.cond rfl (fun h_3=>?_) (fun h_3=>?_)
  ·replace hM:=ite_t h_3 hM
   refine X.sq (X.q rfl (X.q rfl ?_))
   refine GS.opsNil ?_
   have hE:=Option.some.inj hM
   replace hE:=hr_1 _ hE.symm
   subst hE
   exact GS.ret ⟨_,rfl,⟨30,rfl⟩⟩
  replace hM:=ite_f h_3 hM
  refine GS.skip ?_
  refine GS.endB (GS.region ?_)
  refine X.opR rfl (X.addE rfl rfl) rfl (X.q rfl (GS.opsNil ?_))
  have hE:=Option.some.inj hM
  exact X.gc [] (hc_2 (w64 (x1+1)) hE.symm) rfl rfl rfl (ga rfl rfl) (gb_nil)
 replace hM:=ite_f h_1 hM
 refine GS.exit rfl ?_
 obtain ⟨y_1,hM,hy⟩:=map_of hM
 rw [hr_1 _ hy.symm] at hM
 exact X.gc [] (hj_1 () hM) rfl rfl rfl (gk_nil) (gb_nil)
theorem ok_arbiter_World_promise_1 (x:api_Letter) (c:api_Letter):Ct Tryz.prog 96 [(e_api_Letter x),(V.fptr [(e_api_Letter c)] 0 0)] (V.b (arbiter_World_promise_1 x c)):=by
 refine ct_of_gs CC_ok rfl ?_
 generalize hM:arbiter_World_promise_1 x c=r
 unfold arbiter_World_promise_1 at hM
 refine X.sq ?_
 refine X.opW rfl rfl rfl rfl (X.q rfl (X.nq ?_))
 iterate 6 refine X.q rfl ?_
 refine GS.opsNil ?_
 subst hM
 exact GS.ret ⟨_,rfl,⟨30,rfl⟩⟩
theorem ok_slices_IndexFunc_api_Letter__arbiter_World_promise_1 {s:(List api_Letter)} {c:api_Letter} {r:Int} (hM:slices_IndexFunc_api_Letter__arbiter_World_promise_1 s c=some r):Ct Tryz.prog 91 [(V.sl (List.map e_api_Letter s)),(V.fn 96 [(V.fptr [(e_api_Letter c)] 0 0)])] (V.i r):=by
 refine ct_of_gs CC_ok rfl ?_
 unfold slices_IndexFunc_api_Letter__arbiter_World_promise_1 at hM
 refine X.sq (X.q rfl (GS.opsNil (GS.seq (X.sq (X.q rfl ?_)))))
 refine X.opR rfl (X.lenF rfl rfl rfl) rfl (X.q rfl (GS.opsNil ?_))
 refine X.join (τ:=Unit) (fun v=>slices_IndexFunc_api_Letter__arbiter_World_promise_1_j1=some r) (fun v=>⟨[],[],0,none,19⟩) ?_ ?_
 ·intro _ hM
  replace hM:slices_IndexFunc_api_Letter__arbiter_World_promise_1_j1=some r:=hM
  unfold slices_IndexFunc_api_Letter__arbiter_World_promise_1_j1 at hM
  refine X.sq (X.q rfl (GS.opsNil ?_))
  cases hM
  exact GS.ret ⟨_,rfl,⟨30,rfl⟩⟩
 intro hj_1
 refine GS.block ?_
 refine X.gc [] (X.loop (σ:=Int) (fun v=>⟨[(0,(V.sl (List.map e_api_Letter s))),(1,(V.fn 96 [(V.fptr [(e_api_Letter c)] 0 0)])),(7,(V.i (s.length:Int))),(8,(V.i v))],[],0,none,19⟩) hM ?_ rfl) rfl rfl rfl (ga rfl rfl) (gb_nil)
 intro x1 b_1 hM hc_2 hr_1
 rw [slices_IndexFunc_api_Letter__arbiter_World_promise_1_b2] at hM
 refine X.sq (X.q rfl (GS.opsNil (GS.seq ?_)))
 refine X.cond rfl (fun h_1=>?_) (fun h_1=>?_)
 ·replace hM:=ite_t h_1 hM
  refine GS.skip (GS.seq (GS.block (X.sq (X.q rfl (X.q rfl ?_)))))
  refine GS.opsNil (GS.seq ?_)
  obtain ⟨x,h_2,hM⟩:=bind_of hM
  refine GS.region (X.q rfl (X.q rfl (X.q rfl ?_)))
  refine X.opR rfl (X.indexF (f:=e_api_Letter) h_2 (fun _=>rfl) rfl rfl rfl rfl) rfl ?_
  refine X.opR rfl (X.loadF h_2 rfl rfl rfl) rfl ?_
  refine X.call (ok_arbiter_World_promise_1 x c) rfl rfl rfl (.cons (.shut (n:=9) rfl) (.cons (.shut (n:=9) rfl) .nil)) (GS.opsNil ?_)
  refine X.cond rfl (fun h_3=>?_) (fun h_3=>?_)
  ·replace hM:=ite_t h_3 hM
   refine X.sq (X.q rfl (X.q rfl ?_))
   refine GS.opsNil ?_
   have hE:=Option.some.inj hM
   replace hE:=hr_1 _ hE.symm
   subst hE
   exact GS.ret ⟨_,rfl,⟨30,rfl⟩⟩
  replace hM:=ite_f h_3 hM
  refine GS.skip ?_
  refine GS.endB (GS.region ?_)
  refine X.opR rfl (X.addE rfl rfl) rfl (X.q rfl (GS.opsNil ?_))
  have hE:=Option.some.inj hM
  exact X.gc [] (hc_2 (w64 (x1+1)) hE.symm) rfl rfl rfl (ga rfl rfl) (gb_nil)
 replace hM:=ite_f h_1 hM
 refine GS.exit rfl ?_
 obtain ⟨y_1,hM,hy⟩:=map_of hM
 rw [hr_1 _ hy.symm] at hM
 exact X.gc [] (hj_1 () hM) rfl rfl rfl (gk_nil) (gb_nil)
theorem ok_slices_ContainsFunc_api_Letter__arbiter_World_promise_1 {s:(List api_Letter)} {c:api_Letter} {r:Bool} (hM:slices_ContainsFunc_api_Letter__arbiter_World_promise_1 s c=some r):Ct Tryz.prog 77 [(V.sl (List.map e_api_Letter s)),(V.fn 96 [(V.fptr [(e_api_Letter c)] 0 0)])] (V.b r):=by
 refine ct_of_gs CC_ok rfl ?_
 unfold slices_ContainsFunc_api_Letter__arbiter_World_promise_1 at hM
 refine X.sq (X.q rfl (GS.opsNil (GS.seq ?_)))
 obtain ⟨y,h_1,hM⟩:=bind_of hM
 refine GS.region (X.q rfl (X.q rfl ?_))
 refine X.call (ok_slices_IndexFunc_api_Letter__arbiter_World_promise_1 h_1) rfl rfl rfl (.cons (.shut (n:=9) rfl) (.cons (.shut (n:=9) rfl) .nil)) (X.q rfl (X.q rfl ?_))
 refine GS.opsNil ?_
 cases hM
 exact GS.ret ⟨_,rfl,⟨30,rfl⟩⟩
theorem ok_arbiter_World_vote_1 (x:api_Letter) (c:api_Letter):Ct Tryz.prog 97 [(e_api_Letter x),(V.fptr [(e_api_Letter c)] 0 0)] (V.b (arbiter_World_vote_1 x c)):=by
 refine ct_of_gs CC_ok rfl ?_
 generalize hM:arbiter_World_vote_1 x c=r
 unfold arbiter_World_vote_1 at hM
 refine X.sq ?_
 refine X.opW rfl rfl rfl rfl (X.q rfl (X.nq ?_))
 refine X.mid [(3,(V.b ((decide (x.From=c.From))&&(decide (x.Round=c.Round)))))] ?_ ?_
 ·intro hg
  refine X.split (decide (x.From=c.From)) (fun h_1=>?_) (fun h_1=>?_)
  ·iterate 6 refine X.q rfl ?_
   iterate 5 refine X.opR (X.on_t rfl rfl rfl h_1) rfl rfl ?_
   refine X.opR rfl (X.pickand_t (y:=decide (x.Round=c.Round)) rfl h_1 rfl) rfl (X.q rfl (GS.opsNil ?_))
   exact X.norm _ hg rfl (sr rfl)
  iterate 6 refine X.q rfl ?_
  iterate 5 refine X.off (X.off_t rfl rfl rfl h_1) rfl ?_
  refine X.opR rfl (X.pickand_f (y:=decide (x.Round=c.Round)) rfl h_1 rfl) rfl (X.q rfl (GS.opsNil ?_))
  exact X.norm _ hg rfl (sr rfl)
 subst hM
 exact GS.ret ⟨_,rfl,⟨30,rfl⟩⟩
theorem ok_slices_IndexFunc_api_Letter__arbiter_World_vote_1 {s:(List api_Letter)} {c:api_Letter} {r:Int} (hM:slices_IndexFunc_api_Letter__arbiter_World_vote_1 s c=some r):Ct Tryz.prog 91 [(V.sl (List.map e_api_Letter s)),(V.fn 97 [(V.fptr [(e_api_Letter c)] 0 0)])] (V.i r):=by
 refine ct_of_gs CC_ok rfl ?_
 unfold slices_IndexFunc_api_Letter__arbiter_World_vote_1 at hM
 refine X.sq (X.q rfl (GS.opsNil (GS.seq (X.sq (X.q rfl ?_)))))
 refine X.opR rfl (X.lenF rfl rfl rfl) rfl (X.q rfl (GS.opsNil ?_))
 refine X.join (τ:=Unit) (fun v=>slices_IndexFunc_api_Letter__arbiter_World_vote_1_j1=some r) (fun v=>⟨[],[],0,none,19⟩) ?_ ?_
 ·intro _ hM
  replace hM:slices_IndexFunc_api_Letter__arbiter_World_vote_1_j1=some r:=hM
  unfold slices_IndexFunc_api_Letter__arbiter_World_vote_1_j1 at hM
  refine X.sq (X.q rfl (GS.opsNil ?_))
  cases hM
  exact GS.ret ⟨_,rfl,⟨30,rfl⟩⟩
 intro hj_1
 refine GS.block ?_
 refine X.gc [] (X.loop (σ:=Int) (fun v=>⟨[(0,(V.sl (List.map e_api_Letter s))),(1,(V.fn 97 [(V.fptr [(e_api_Letter c)] 0 0)])),(7,(V.i (s.length:Int))),(8,(V.i v))],[],0,none,19⟩) hM ?_ rfl) rfl rfl rfl (ga rfl rfl) (gb_nil)
 intro x1 b_1 hM hc_2 hr_1
 rw [slices_IndexFunc_api_Letter__arbiter_World_vote_1_b2] at hM
 refine X.sq (X.q rfl (GS.opsNil (GS.seq ?_)))
 refine X.cond rfl (fun h_1=>?_) (fun h_1=>?_)
 ·replace hM:=ite_t h_1 hM
  refine GS.skip (GS.seq (GS.block (X.sq (X.q rfl (X.q rfl ?_)))))
  refine GS.opsNil (GS.seq ?_)
  obtain ⟨x,h_2,hM⟩:=bind_of hM
  refine GS.region (X.q rfl (X.q rfl (X.q rfl ?_)))
  refine X.opR rfl (X.indexF (f:=e_api_Letter) h_2 (fun _=>rfl) rfl rfl rfl rfl) rfl ?_
  refine X.opR rfl (X.loadF h_2 rfl rfl rfl) rfl ?_
  refine X.call (ok_arbiter_World_vote_1 x c) rfl rfl rfl (.cons (.shut (n:=9) rfl) (.cons (.shut (n:=9) rfl) .nil)) (GS.opsNil ?_)
  refine X.cond rfl (fun h_3=>?_) (fun h_3=>?_)
  ·replace hM:=ite_t h_3 hM
   refine X.sq (X.q rfl (X.q rfl ?_))
   refine GS.opsNil ?_
   have hE:=Option.some.inj hM
   replace hE:=hr_1 _ hE.symm
   subst hE
   exact GS.ret ⟨_,rfl,⟨30,rfl⟩⟩
  replace hM:=ite_f h_3 hM
  refine GS.skip ?_
  refine GS.endB (GS.region ?_)
  refine X.opR rfl (X.addE rfl rfl) rfl (X.q rfl (GS.opsNil ?_))
  have hE:=Option.some.inj hM
  exact X.gc [] (hc_2 (w64 (x1+1)) hE.symm) rfl rfl rfl (ga rfl rfl) (gb_nil)
 replace hM:=ite_f h_1 hM
 refine GS.exit rfl ?_
 obtain ⟨y_1,hM,hy⟩:=map_of hM
 rw [hr_1 _ hy.symm] at hM
 exact X.gc [] (hj_1 () hM) rfl rfl rfl (gk_nil) (gb_nil)
theorem ok_slices_ContainsFunc_api_Letter__arbiter_World_vote_1 {s:(List api_Letter)} {c:api_Letter} {r:Bool} (hM:slices_ContainsFunc_api_Letter__arbiter_World_vote_1 s c=some r):Ct Tryz.prog 77 [(V.sl (List.map e_api_Letter s)),(V.fn 97 [(V.fptr [(e_api_Letter c)] 0 0)])] (V.b r):=by
 refine ct_of_gs CC_ok rfl ?_
 unfold slices_ContainsFunc_api_Letter__arbiter_World_vote_1 at hM
 refine X.sq (X.q rfl (GS.opsNil (GS.seq ?_)))
 obtain ⟨y,h_1,hM⟩:=bind_of hM
 refine GS.region (X.q rfl (X.q rfl ?_))
 refine X.call (ok_slices_IndexFunc_api_Letter__arbiter_World_vote_1 h_1) rfl rfl rfl (.cons (.shut (n:=9) rfl) (.cons (.shut (n:=9) rfl) .nil)) (X.q rfl (X.q rfl ?_))
 refine GS.opsNil ?_
 cases hM
 exact GS.ret ⟨_,rfl,⟨30,rfl⟩⟩
abbrev e_api_Ruling (x:api_Ruling):V:=.agg [(V.i x.Case),(V.i x.Round),(V.i x.Finding)]
abbrev fk_122 : FK api_Ruling (List (Int×Bool)):=fkM e_api_Ruling (fun _ _ _=>rfl) V.i V.b (fun _ _ _=>rfl) (fun _ _ _=>rfl)
theorem key_api_Ruling (a b:api_Ruling):keyEq (e_api_Ruling a) (e_api_Ruling b)=some (decide (a=b)):=by
 have h:keyEq (e_api_Ruling a) (e_api_Ruling b)=some (decide ([(IntKind.i64,a.Case),(IntKind.i64,a.Round),(IntKind.i64,a.Finding)]=[(IntKind.i64,b.Case),(IntKind.i64,b.Round),(IntKind.i64,b.Finding)])):=rfl
 rw [h]
 congr 1
 cases a
 cases b
 simp
theorem ok_cmp_isNaN_int (x:Int):Ct Tryz.prog 124 [(V.i x)] (V.b (cmp_isNaN_int x)):=by
 refine ct_of_gs CC_ok rfl ?_
 generalize hM:cmp_isNaN_int x=r
 unfold cmp_isNaN_int at hM
 refine X.sq (X.q rfl (X.nq ?_))
 iterate 4 refine X.q rfl ?_
 refine GS.opsNil ?_
 subst hM
 exact GS.ret ⟨_,rfl,⟨30,rfl⟩⟩
theorem ok_cmp_Compare_int (x:Int) (y:Int):Ct Tryz.prog 109 [(V.i x),(V.i y)] (V.i (cmp_Compare_int x y)):=by
 refine ct_of_gs CC_ok rfl ?_
 generalize hM:cmp_Compare_int x y=r
 unfold cmp_Compare_int at hM
 refine X.sq (X.q rfl (X.nq (X.q rfl ?_)))
 refine X.call (ok_cmp_isNaN_int x) rfl rfl rfl (.cons (.shut (n:=9) rfl) .nil) (X.q rfl (X.nq (X.q rfl ?_)))
 refine X.call (ok_cmp_isNaN_int y) rfl rfl rfl (.cons (.shut (n:=9) rfl) .nil) (X.q rfl (GS.opsNil (GS.seq (X.sq (X.q rfl (GS.opsNil ?_))))))
 refine X.cond rfl (fun h_1=>?_) (fun h_1=>?_)
 ·replace hM:=ite_t h_1 hM
  refine GS.seq (X.sq (X.q rfl (GS.opsNil ?_)))
  refine X.cond rfl (fun h_2=>?_) (fun h_2=>?_)
  ·replace hM:=ite_t h_2 hM
   refine X.sq (X.q rfl (GS.opsNil ?_))
   subst hM
   exact GS.ret ⟨_,rfl,⟨30,rfl⟩⟩
  replace hM:=ite_f h_2 hM
  refine GS.skip (X.sq (X.q rfl (GS.opsNil ?_)))
  subst hM
  exact GS.ret ⟨_,rfl,⟨30,rfl⟩⟩
 replace hM:=ite_f h_1 hM
 refine GS.skip (GS.seq (X.sq (X.q rfl (GS.opsNil ?_))))
 refine X.cond rfl (fun h_3=>?_) (fun h_3=>?_)
 ·replace hM:=ite_t h_3 hM
  refine X.sq (X.q rfl (GS.opsNil ?_))
  subst hM
  exact GS.ret ⟨_,rfl,⟨30,rfl⟩⟩
 replace hM:=ite_f h_3 hM
 refine GS.skip (GS.seq (X.sq (X.q rfl (X.q rfl (X.q rfl ?_)))))
 refine GS.opsNil ?_
 refine X.cond rfl (fun h_4=>?_) (fun h_4=>?_)
 ·replace hM:=ite_t h_4 hM
  refine X.sq (X.q rfl (GS.opsNil ?_))
  subst hM
  exact GS.ret ⟨_,rfl,⟨30,rfl⟩⟩
 replace hM:=ite_f h_4 hM
 refine GS.skip (GS.seq (X.sq (X.q rfl (X.q rfl (X.q rfl ?_)))))
 refine GS.opsNil ?_
 refine X.cond rfl (fun h_5=>?_) (fun h_5=>?_)
 ·replace hM:=ite_t h_5 hM
  refine X.sq (X.q rfl (GS.opsNil ?_))
  subst hM
  exact GS.ret ⟨_,rfl,⟨30,rfl⟩⟩
 replace hM:=ite_f h_5 hM
 refine GS.skip (X.sq (X.q rfl (GS.opsNil ?_)))
 subst hM
 exact GS.ret ⟨_,rfl,⟨30,rfl⟩⟩
theorem ok_cmp_Or_int {vals:(List Int)} {r:Int} (hM:cmp_Or_int vals=some r):Ct Tryz.prog 108 [(V.sl (List.map V.i vals))] (V.i r):=by
 refine ct_of_gs CC_ok rfl ?_
 unfold cmp_Or_int at hM
 refine X.sq (X.q rfl (X.nq (X.q rfl (GS.opsNil (GS.seq (X.sq (X.q rfl ?_)))))))
 refine X.opR rfl (X.lenF rfl rfl rfl) rfl (X.q rfl (GS.opsNil ?_))
 refine X.join (τ:=Unit) (fun v=>cmp_Or_int_j1=some r) (fun v=>⟨[(3,(V.i 0))],[],0,none,18⟩) ?_ ?_
 ·intro _ hM
  replace hM:cmp_Or_int_j1=some r:=hM
  unfold cmp_Or_int_j1 at hM
  refine X.sq (X.q rfl (X.q rfl ?_))
  refine GS.opsNil ?_
  cases hM
  exact GS.ret ⟨_,rfl,⟨30,rfl⟩⟩
 intro hj_1
 refine GS.block ?_
 refine X.gc [] (X.loop (σ:=Int) (fun v=>⟨[(3,(V.i 0)),(6,(V.sl (List.map V.i vals))),(7,(V.i (vals.length:Int))),(8,(V.i v))],[],0,none,18⟩) hM ?_ rfl) rfl rfl rfl (ga rfl rfl) (gb_nil)
 intro x1 b_1 hM hc_2 hr_1
 rw [cmp_Or_int_b2] at hM
 refine X.sq (X.q rfl (GS.opsNil (GS.seq ?_)))
 refine X.cond rfl (fun h_1=>?_) (fun h_1=>?_)
 ·replace hM:=ite_t h_1 hM
  refine GS.skip (GS.seq (GS.block (GS.seq ?_)))
  obtain ⟨x,h_2,hM⟩:=bind_of hM
  refine GS.region ?_
  refine X.opR rfl (X.indexF (f:=V.i) h_2 (fun _=>rfl) rfl rfl rfl rfl) rfl ?_
  refine X.opR rfl (X.loadF h_2 rfl rfl rfl) rfl (X.q rfl (X.nq (X.q rfl (X.q rfl (X.q rfl ?_)))))
  refine GS.opsNil ?_
  refine X.cond rfl (fun h_3=>?_) (fun h_3=>?_)
  ·replace hM:=ite_t h_3 hM
   refine X.sq (X.q rfl (X.q rfl ?_))
   refine GS.opsNil ?_
   have hE:=Option.some.inj hM
   replace hE:=hr_1 _ hE.symm
   subst hE
   exact GS.ret ⟨_,rfl,⟨30,rfl⟩⟩
  replace hM:=ite_f h_3 hM
  refine GS.skip ?_
  refine GS.endB (GS.region ?_)
  refine X.opR rfl (X.addE rfl rfl) rfl (X.q rfl (GS.opsNil ?_))
  have hE:=Option.some.inj hM
  exact X.gc [] (hc_2 (w64 (x1+1)) hE.symm) rfl rfl rfl (ga rfl rfl) (gb_nil)
 replace hM:=ite_f h_1 hM
 refine GS.exit rfl ?_
 obtain ⟨y_1,hM,hy⟩:=map_of hM
 rw [hr_1 _ hy.symm] at hM
 exact X.gc [] (hj_1 () hM) rfl rfl rfl (ga rfl rfl) (gb_nil)
theorem ok_arbiter_order {a:api_Ruling} {b:api_Ruling} {r:Int} (hM:arbiter_order a b=some r):Ct Tryz.prog 90 [(e_api_Ruling a),(e_api_Ruling b)] (V.i r):=by
 refine ct_of_gs CC_ok rfl ?_
 unfold arbiter_order at hM
 refine X.sq ?_
 iterate 2 refine X.opW rfl rfl rfl rfl ?_
 refine X.q rfl (GS.opsNil (GS.seq ?_))
 obtain ⟨y,h_1,hM⟩:=bind_of hM
 refine X.draw (by kernel_rfl) ?_
 iterate 4 refine X.dop rfl rfl rfl rfl (by kernel_rfl) rfl rfl ?_
 refine X.dcall (ok_cmp_Compare_int a.Case b.Case) rfl rfl rfl (by kernel_rfl) rfl (.cons (.shut (n:=9) rfl) (.cons (.shut (n:=9) rfl) .nil)) ?_
 iterate 4 refine X.dop rfl rfl rfl rfl (by kernel_rfl) rfl rfl ?_
 refine X.dcall (ok_cmp_Compare_int a.Round b.Round) rfl rfl rfl (by kernel_rfl) rfl (.cons (.shut (n:=9) rfl) (.cons (.shut (n:=9) rfl) .nil)) ?_
 iterate 4 refine X.dop rfl rfl rfl rfl (by kernel_rfl) rfl rfl ?_
 refine X.dcall (ok_cmp_Compare_int a.Finding b.Finding) rfl rfl rfl (by kernel_rfl) rfl (.cons (.shut (n:=9) rfl) (.cons (.shut (n:=9) rfl) .nil)) ?_
 refine X.dbld rfl rfl rfl rfl rfl (by kernel_rfl) rfl ?_
 refine X.dcall (ok_cmp_Or_int h_1) rfl rfl rfl (by kernel_rfl) rfl (.cons (.shut (n:=9) rfl) .nil) ?_
 refine X.dop rfl rfl rfl rfl (by kernel_rfl) rfl rfl ?_
 refine X.dnil ?_
 refine X.norm [(4,(V.i y))] ?_ rfl (sr rfl)
 cases hM
 exact GS.ret ⟨_,rfl,⟨30,rfl⟩⟩
section
open Go.Wk Go.RowKit Go.Shelf
def encRul (x:api_Ruling):List Value:=[.int .i64 x.Case,.int .i64 x.Round,.int .i64 x.Finding]
theorem flatRul : X.Flat1 encRul 3 e_api_Ruling:=by
 refine ⟨fun _=>rfl,fun x v hv=>?_,fun _=>rfl,fun x v hv c=>?_⟩ <;> simp only [encRul,List.mem_cons,List.not_mem_nil,or_false] at hv <;> rcases hv with rfl | rfl | rfl <;> first | rfl | (intro h; cases h)
def cfRul (x y:api_Ruling):Int:=if cmp_Compare_int x.Case y.Case=0 then (if cmp_Compare_int x.Round y.Round=0 then cmp_Compare_int x.Finding y.Finding else cmp_Compare_int x.Round y.Round) else cmp_Compare_int x.Case y.Case
theorem cmpI (a b:Int):cmp_Compare_int a b=if a<b then -1 else if b<a then 1 else 0:=by
 unfold cmp_Compare_int cmp_isNaN_int
 simp
theorem ltRul (x y:api_Ruling):decide (cfRul x y<0)=lt_ruling x y:=by
 have h:∀ a b:Int,(cmp_Compare_int a b=0↔a=b)∧(cmp_Compare_int a b<0↔a<b):=fun a b=>by
  rw [cmpI]
  by_cases h1:a<b
  ·rw [if_pos h1]; exact ⟨⟨fun h=>by omega,fun h=>by omega⟩,⟨fun _=>h1,fun _=>by omega⟩⟩
  ·rw [if_neg h1]
   by_cases h2:b<a
   ·rw [if_pos h2]; exact ⟨⟨fun h=>by omega,fun h=>by omega⟩,⟨fun h=>by omega,fun h=>by omega⟩⟩
   ·rw [if_neg h2]; exact ⟨⟨fun h=>by omega,fun h=>by omega⟩,⟨fun h=>by omega,fun h=>by omega⟩⟩
 unfold cfRul lt_ruling
 rw [Bool.eq_iff_iff,decide_eq_true_eq]
 by_cases c1:x.Case=y.Case
 ·rw [if_pos ((h _ _).1.2 c1)]
  by_cases c2:x.Round=y.Round
  ·rw [if_pos ((h _ _).1.2 c2),(h _ _).2]
   simp [c1,c2]
  ·rw [if_neg (fun e=>c2 ((h _ _).1.1 e)),(h _ _).2]
   simp [c1,c2]
 ·rw [if_neg (fun e=>c1 ((h _ _).1.1 e)),(h _ _).2]
  simp [c1]
theorem swoRul : Go.Sort.SWO lt_ruling:=⟨fun x=>by unfold lt_ruling; simp,fun x y z h1 h2=>by unfold lt_ruling at *; simp at *; omega,fun x y z h1 h2=>by unfold lt_ruling at *; simp at *; omega⟩
theorem cmpRul (x y:api_Ruling):arbiter_order x y=some (cfRul x y):=by
 have key:∀ (a b c:Int) (m:Nat),Lp (cmp_Or_int_b2 [a,b,c]) (m+4) 0=some (if a=0 then (if b=0 then c else b) else a):=fun a b c m=>by
  by_cases h1:a=0
  ·have e0:cmp_Or_int_b2 [a,b,c] 0=some (.inl 1):=by simp [cmp_Or_int_b2,ix,w64,h1]
   rw [lp_next _ e0,if_pos h1]
   by_cases h2:b=0
   ·have e1:cmp_Or_int_b2 [a,b,c] 1=some (.inl 2):=by simp [cmp_Or_int_b2,ix,w64,h2]
    rw [lp_next _ e1,if_pos h2]
    by_cases h3:c=0
    ·have e2:cmp_Or_int_b2 [a,b,c] 2=some (.inl 3):=by simp [cmp_Or_int_b2,ix,w64,h3]
     have e3:cmp_Or_int_b2 [a,b,c] 3=some (.inr 0):=by simp [cmp_Or_int_b2,cmp_Or_int_j1]
     rw [lp_next _ e2,lp_done _ e3,h3]
    ·have e2:cmp_Or_int_b2 [a,b,c] 2=some (.inr c):=by simp [cmp_Or_int_b2,ix,h3]
     rw [lp_done _ e2]
   ·have e1:cmp_Or_int_b2 [a,b,c] 1=some (.inr b):=by simp [cmp_Or_int_b2,ix,h2]
    rw [lp_done _ e1,if_neg h2]
  ·have e0:cmp_Or_int_b2 [a,b,c] 0=some (.inr a):=by simp [cmp_Or_int_b2,ix,h1]
   rw [lp_done _ e0,if_neg h1]
 have h:=key (cmp_Compare_int x.Case y.Case) (cmp_Compare_int x.Round y.Round) (cmp_Compare_int x.Finding y.Finding) 18446744073709551612
 unfold arbiter_order cmp_Or_int
 show Option.bind (Lp _ (18446744073709551612+4) 0) _=_
 rw [h]; rfl
theorem by_ruling : X.SortBy Tryz.prog 89 90 3 e_api_Ruling lt_ruling:=X.sortBy_ct Tryz.sortCl rfl (by decide) Tryz.isAgg57 Tryz.sizeOf57 flatRul ltRul swoRul (enters_of Tryz.func89 (by kernel_rfl) rfl) (fun x y=>ok_arbiter_order (cmpRul x y))
end
theorem fold_arbiter_rulings_b3 (c:api_Court):FoldOK (arbiter_rulings_b3 c) List.Perm:=by
 refine ⟨fun _=>List.Perm.refl _,fun _ _ _ h1 h2=>h1.trans h2,?_,?_⟩
 ·rintro ⟨k,v⟩ s s' t hp h
  unfold arbiter_rulings_b3 arbiter_rulings_j4 at h ⊢
  obtain ⟨y,h1,h⟩:=bind_of h
  rw [h1]
  simp only [Option.bind_some]
  by_cases c:decide (y≤(v.length:Int))=true
  ·rw [if_pos c] at h ⊢
   obtain ⟨r,h2,h⟩:=bind_of h
   obtain ⟨h3,rfl⟩:=app_of h2
   simp only [Option.some.injEq] at h
   subst h
   refine ⟨s'++[k],?_,hp.append_right [k]⟩
   unfold app
   rw [if_pos (by rw [← hp.length_eq]; exact h3)]
   rfl
  ·rw [if_neg c] at h ⊢
   simp only [Option.some.injEq] at h
   subst h
   exact ⟨s',rfl,hp⟩
 ·rintro ⟨k,v⟩ ⟨k',v'⟩ s t u h h'
  unfold arbiter_rulings_b3 arbiter_rulings_j4 at h h' ⊢
  obtain ⟨y,h1,h⟩:=bind_of h
  rw [h1] at h'
  rw [h1]
  simp only [Option.bind_some] at h' ⊢
  by_cases c:decide (y≤(v.length:Int))=true
  ·rw [if_pos c] at h
   obtain ⟨r,h2,h⟩:=bind_of h
   obtain ⟨h3,rfl⟩:=app_of h2
   simp only [Option.some.injEq] at h
   subst h
   by_cases c':decide (y≤(v'.length:Int))=true
   ·rw [if_pos c'] at h' ⊢
    obtain ⟨r,h4,h'⟩:=bind_of h'
    obtain ⟨h5,rfl⟩:=app_of h4
    simp only [Option.some.injEq] at h'
    subst h'
    simp only [List.length_append,List.length_singleton] at h3 h5
    refine ⟨s++[k'],s++[k']++[k],?_,?_,?_⟩
    ·unfold app; rw [if_pos (by simp only [List.length_singleton]; omega)]; rfl
    ·rw [if_pos c]; unfold app; rw [if_pos (by simp only [List.length_append,List.length_singleton]; omega)]; rfl
    ·rw [List.append_assoc,List.append_assoc]; exact List.Perm.append_left s (List.Perm.swap k' k [])
   ·rw [if_neg c'] at h' ⊢
    simp only [Option.some.injEq] at h'
    subst h'
    refine ⟨s,s++[k],rfl,?_,List.Perm.refl _⟩
    rw [if_pos c]; unfold app; rw [if_pos h3]; rfl
  ·rw [if_neg c] at h
   simp only [Option.some.injEq] at h
   subst h
   by_cases c':decide (y≤(v'.length:Int))=true
   ·rw [if_pos c'] at h' ⊢
    obtain ⟨r,h4,h'⟩:=bind_of h'
    obtain ⟨h5,rfl⟩:=app_of h4
    simp only [Option.some.injEq] at h'
    subst h'
    refine ⟨s++[k'],s++[k'],?_,?_,List.Perm.refl _⟩
    ·unfold app; rw [if_pos h5]; rfl
    ·rw [if_neg c]
   ·rw [if_neg c'] at h' ⊢
    simp only [Option.some.injEq] at h'
    subst h'
    exact ⟨s,s,rfl,by rw [if_neg c],List.Perm.refl _⟩
theorem sorted_perm {l l':List api_Ruling} (hp:l.Perm l'):srtF lt_ruling l=srtF lt_ruling l':=by
 obtain ⟨p1,s1⟩:=srtF_spec swoRul l
 obtain ⟨p2,s2⟩:=srtF_spec swoRul l'
 refine List.Perm.eq_of_pairwise (le:=fun x y=>lt_ruling y x=false) (fun a b _ _ h1 h2=>?_) s1 s2 ((p1.trans hp).trans p2.symm)
 unfold lt_ruling at h1 h2
 simp at h1 h2
 obtain ⟨a1,a2,a3⟩:=a
 obtain ⟨b1,b2,b3⟩:=b
 simp only at h1 h2
 have e1:a1=b1:=by omega
 subst e1
 have e2:a2=b2:=by
  have:=h1.2 rfl
  have:=h2.2 rfl
  omega
 subst e2
 have e3:a3=b3:=by
  have:=(h1.2 rfl).2 rfl
  have:=(h2.2 rfl).2 rfl
  omega
 subst e3
 rfl
theorem inv_arbiter_rulings_j5 {l l' r:List api_Ruling} (hp:l.Perm l') (h:arbiter_rulings_j5 l=some r):arbiter_rulings_j5 l'=some r:=by
 unfold arbiter_rulings_j5 arbiter_rulings_j2 srtFO at h ⊢
 rw [hp.length_eq,sorted_perm hp] at h
 exact h
set_option maxHeartbeats 4000000 in
theorem own_arbiter_rulings {c:api_Court} {l:(List api_Letter)} {r:(List api_Ruling)} (hM:arbiter_rulings c l=some r):OwnCt Tryz.prog 42 [(e_api_Court c),(V.sl (List.map e_api_Letter l))] (fun z=>(ovlz z 0 r)) (fun z=>(oblz z 3 e_api_Ruling r)):=by
 refine own_of_gs CC_ok rfl ?_
 unfold arbiter_rulings at hM
 refine X.sq ?_
 refine X.opW rfl rfl rfl rfl (X.q rfl (X.nq ?_))
 refine X.opW (H':=([.rows 1 [(e_api_Court c)],famM fk_122 2 []]++famB fk_122 [])) rfl rfl rfl rfl (X.q rfl (GS.opsNil (GS.seq (X.sq (X.q rfl ?_)))))
 refine X.opR rfl (X.lenF rfl rfl rfl) rfl (X.q rfl (GS.opsNil ?_))
 refine X.join (τ:=(List (api_Ruling×(List (Int×Bool))))) (fun v=>arbiter_rulings_j1 c v=some r) (fun v=>⟨[(2,(V.ptr 0 0 0)),(5,(V.map 1))],([.rows 1 [(e_api_Court c)],famM fk_122 2 v]++famB fk_122 v),0,none,61⟩) ?_ ?_
 ·intro m hM
  replace hM:arbiter_rulings_j1 c m=some r:=hM
  unfold arbiter_rulings_j1 at hM
  refine X.sq (X.q rfl (GS.opsNil ?_))
  iterate 2 refine GS.seq ?_
  refine GS.freezeW (K':=[(2,(V.fptr [(e_api_Court c)] 0 0)),(5,(V.fmap (List.map (fun p:api_Ruling×(List (Int×Bool))=>e_api_Ruling p.1) m) (List.map (fun p:api_Ruling×(List (Int×Bool))=>(fun l=>V.fmap (List.map (fun p=>V.i p.1) l) (List.map (fun p=>V.b p.2) l)) p.2) m))),(9,V.nil)]) (X.fw_cons rfl ⟨30,rfl⟩ (X.fw_cons rfl (X.frM rfl rfl (fun _ _=>rfl) (fun _ _=>rfl) (fun _ _=>rfl)) (X.fw_lit rfl X.fw_nil))) (GS.region ?_)
  refine X.q rfl ?_
  refine X.opW (H':=[.iter (List.map (fun p:api_Ruling×(List (Int×Bool))=>e_api_Ruling p.1) m) (List.map (fun p:api_Ruling×(List (Int×Bool))=>(fun l=>V.fmap (List.map (fun p=>V.i p.1) l) (List.map (fun p=>V.b p.2) l)) p.2) m) (idxs 0 (List.length (List.map (fun p:api_Ruling×(List (Int×Bool))=>e_api_Ruling p.1) m))) none]) rfl rfl rfl rfl (GS.opsNil ?_)
  refine X.join (τ:=(List api_Ruling)) (fun v=>arbiter_rulings_j2 v=some r) (fun v=>⟨[(9,(ovl 0 v))],[obl 3 e_api_Ruling v],0,none,61⟩) ?_ ?_
  ·intro l1 hM
   replace hM:arbiter_rulings_j2 l1=some r:=hM
   unfold arbiter_rulings_j2 at hM
   refine GS.seq ?_
   obtain ⟨l2,h_1,hM⟩:=bind_of hM
   refine GS.region (X.q rfl ?_)
   refine X.norm [(9,(ovl 0 l1)),(58,(ovl 0 l1))] ?_ rfl (sr rfl)
   refine X.sortF (z:=true) h_1 by_ruling (fun _ _ _ h=>h) (K':=[(9,(ovl 0 l2)),(58,(ovl 0 l2))]) (H':=[obl 3 e_api_Ruling l2]) rfl rfl rfl rfl rfl rfl ?_ ?_ ?_
   ·first | rfl | rw [X.ovlz_len (X.srtFO_len by_ruling.swo h_1)] | simp only [ovl,X.ovlz_len (X.srtFO_len by_ruling.swo h_1)] | simp only [X.srtFO_len by_ruling.swo h_1]
   ·first | rfl | (simp only [hput]; rfl) | (simp only [ovl,obl]; rw [X.ovlz_len (X.srtFO_len by_ruling.swo h_1)] <;> rfl)
   refine X.nq (X.q rfl (X.q rfl ?_))
   refine GS.opsNil ?_
   have hE:=Option.some.inj hM
   subst hE
   refine X.gc [some 0] (H':=[obl 3 e_api_Ruling l2]) (K':=[(4,(ovl 0 l2))]) ?_ rfl rfl rfl (gk_cons rfl (rn_ovl rfl) gk_nil) (gb_obl 9 rfl rfl (fun _=>rfl) gb_nil)
   exact GS.ret ⟨true,rfl,rfl⟩
  intro hj_2
  refine GS.block ?_
  obtain ⟨vE_3,hF_3,hM⟩:=bind_of hM
  refine X.gc [none,some 0] (X.rangeM (ga:=e_api_Ruling) (gb:=(fun l=>V.fmap (List.map (fun p=>V.i p.1) l) (List.map (fun p=>V.b p.2) l))) (f0:=arbiter_rulings_b3 c) (fun v left last=>⟨[(2,(V.fptr [(e_api_Court c)] 0 0)),(9,(ovl 0 v)),(43,(V.ptr 1 0 0))],[obl 3 e_api_Ruling v,.iter (List.map (fun p:api_Ruling×(List (Int×Bool))=>e_api_Ruling p.1) m) (List.map (fun p:api_Ruling×(List (Int×Bool))=>(fun l=>V.fmap (List.map (fun p=>V.i p.1) l) (List.map (fun p=>V.b p.2) l)) p.2) m) left last],0,none,61⟩) hF_3 (fold_arbiter_rulings_b3 c) ?_ ?_ rfl) rfl rfl rfl (ga rfl rfl) (gb_pad' rfl (X.gb_iter rfl rfl gb_nil))
  ·intro l5 left last hne_3 hs_3
   refine X.sq ?_
   refine X.next rfl rfl rfl rfl rfl (fun e=>absurd e hne_3) (fun j_3 kv_3 vv_3 hj_3 hk_3 hv_3=>?_)
   obtain ⟨⟨k,v_⟩,w_3,rfl,rfl,hM,hc_3⟩:=hs_3 j_3 kv_3 vv_3 hj_3 hk_3 hv_3
   unfold arbiter_rulings_b3 at hM
   refine X.q rfl (GS.opsNil (GS.seq ?_))
   refine GS.condT rfl (GS.skip ?_)
   refine X.join (τ:=(List api_Ruling)) (fun v=>arbiter_rulings_j4 v=some w_3) (fun v=>⟨[(2,(V.fptr [(e_api_Court c)] 0 0)),(9,(ovl 0 v)),(43,(V.ptr 1 0 0))],[obl 3 e_api_Ruling v,.iter (List.map (fun p:api_Ruling×(List (Int×Bool))=>e_api_Ruling p.1) m) (List.map (fun p:api_Ruling×(List (Int×Bool))=>(fun l=>V.fmap (List.map (fun p=>V.i p.1) l) (List.map (fun p=>V.b p.2) l)) p.2) m) (List.filter (fun i=>decide (i≠j_3)) left) (some j_3)],0,none,61⟩) ?_ ?_
   ·intro l3 hM
    replace hM:arbiter_rulings_j4 l3=some w_3:=hM
    unfold arbiter_rulings_j4 at hM
    have hE:=Option.some.inj hM
    subst hE
    exact X.gc [some 0,some 1] hc_3 rfl rfl rfl (gk_cons rfl ⟨9,rfl⟩ (gk_cons rfl (rn_ovl rfl) (ga rfl rfl))) (gb_obl 9 rfl rfl (fun _=>rfl) (X.gb_iter rfl rfl gb_nil))
   intro hj_4
   refine GS.block (X.sq ?_)
   refine X.entry rfl rfl rfl hk_3 hv_3 rfl (X.q rfl (X.q rfl ?_))
   refine X.opW rfl rfl rfl rfl ?_
   refine X.op0W rfl rfl rfl (X.q rfl (GS.opsNil (GS.seq ?_)))
   obtain ⟨y,h_2,hM⟩:=bind_of hM
   refine GS.region (X.q rfl ?_)
   refine X.opR rfl (X.lenMF rfl rfl rfl) rfl (X.q rfl ?_)
   refine X.call (ok_arbiter_Majority h_2) rfl rfl rfl (.cons (.shut (n:=9) rfl) .nil) (X.q rfl (GS.opsNil ?_))
   refine X.cond rfl (fun h_3=>?_) (fun h_3=>?_)
   ·replace hM:=ite_t h_3 hM
    obtain ⟨l4,h_4,hM⟩:=bind_of hM
    refine GS.region (X.q rfl (X.q rfl ?_))
    refine X.opW (H':=[obl 3 e_api_Ruling l5,.iter (List.map (fun p:api_Ruling×(List (Int×Bool))=>e_api_Ruling p.1) m) (List.map (fun p:api_Ruling×(List (Int×Bool))=>(fun l=>V.fmap (List.map (fun p=>V.i p.1) l) (List.map (fun p=>V.b p.2) l)) p.2) m) (List.filter (fun i=>decide (i≠j_3)) left) (some j_3),.rows 3 [(e_api_Ruling k)],.rows 3 (List.map e_api_Ruling ([k]))]) rfl rfl rfl rfl ?_
    refine X.appN (f:=e_api_Ruling) h_4 (fun _=>rfl) (by rfl) (by rfl) (by rfl) (by rfl) (by rfl) (by rfl) (by rfl) (by rfl) (by rfl) (by rfl) (by rfl) (by exact rfl) (by rfl) (by rfl) (X.q rfl (GS.opsNil ?_))
    refine GS.endB ?_
    exact X.gc [some 4,some 1] (hj_4 l4 hM) rfl rfl rfl (gk_cons rfl ⟨9,rfl⟩ (gk_cons rfl (rv_ne (app_ne h_4) rfl) (ga rfl rfl))) (gb_obl' 9 (app_ne h_4) rfl rfl (fun _=>rfl) (X.gb_iter rfl rfl gb_nil))
   replace hM:=ite_f h_3 hM
   refine GS.skip ?_
   refine GS.endB ?_
   exact X.gc [some 0,some 1] (hj_4 l5 hM) rfl rfl rfl (gk_cons rfl ⟨9,rfl⟩ (gk_cons rfl (rn_ovl rfl) (ga rfl rfl))) (gb_obl 9 rfl rfl (fun _=>rfl) (X.gb_iter rfl rfl gb_nil))
  intro l5 last hrel_3
  replace hM:arbiter_rulings_j5 l5=some r:=inv_arbiter_rulings_j5 hrel_3 hM
  unfold arbiter_rulings_j5 at hM
  refine X.sq ?_
  refine X.next rfl rfl rfl rfl rfl (fun _=>?_) (fun j_ kv_ vv_ hj_=>absurd hj_ List.not_mem_nil)
  refine X.q rfl (GS.opsNil (GS.seq ?_))
  refine GS.condF rfl ?_
  refine GS.exit rfl ?_
  exact X.gc [some 0] (hj_2 l5 hM) rfl rfl rfl (gk_cons rfl (rn_ovl rfl) gk_nil) (gb_obl 9 rfl rfl (fun _=>rfl) gb_nil)
 intro hj_1
 refine GS.block ?_
 refine X.gcFam 2 2 1 1 [some 0,some 1] (P0:=[.rows 1 [(e_api_Court c)],.dead]) rfl (X.loop (σ:=(Int×(List (api_Ruling×(List (Int×Bool)))))) (fun v=>⟨[(2,(V.ptr 0 0 0)),(5,(V.map 1)),(13,(V.sl (List.map e_api_Letter l))),(14,(V.i (l.length:Int))),(15,(V.i v.1))],([.rows 1 [(e_api_Court c)],famM fk_122 2 v.2]++famB fk_122 v.2),0,none,61⟩) hM ?_ rfl) rfl rfl rfl rfl (ga rfl rfl) (gb9 rfl rfl rfl (gb_pad gb_nil)) rfl rfl rfl rfl rfl
 rintro ⟨x1,m4⟩ b_1 hM hc_6 hr_1
 rw [arbiter_rulings_b6] at hM
 refine X.sq (X.q rfl (GS.opsNil (GS.seq ?_)))
 refine X.cond rfl (fun h_5=>?_) (fun h_5=>?_)
 ·replace hM:=ite_t h_5 hM
  refine GS.skip (GS.seq ?_)
  refine X.join (τ:=(List (api_Ruling×(List (Int×Bool))))) (fun v=>arbiter_rulings_j7 x1 v=some b_1) (fun v=>⟨[(2,(V.ptr 0 0 0)),(5,(V.map 1)),(13,(V.sl (List.map e_api_Letter l))),(14,(V.i (l.length:Int))),(15,(V.i x1))],([.rows 1 [(e_api_Court c)],famM fk_122 2 v]++famB fk_122 v),0,none,61⟩) ?_ ?_
  ·intro m1 hM
   replace hM:arbiter_rulings_j7 x1 m1=some b_1:=hM
   unfold arbiter_rulings_j7 at hM
   refine GS.region ?_
   refine X.opR rfl (X.addE rfl rfl) rfl (X.q rfl (GS.opsNil ?_))
   have hE:=Option.some.inj hM
   exact X.gcFam 2 2 1 1 [some 0,some 1] (P0:=[.rows 1 [(e_api_Court c)],.dead]) rfl (hc_6 (w64 (x1+1),m1) hE.symm) rfl rfl rfl rfl (ga rfl rfl) (gb9 rfl rfl rfl (gb_pad gb_nil)) rfl rfl rfl rfl rfl
  intro hj_7
  refine GS.block (GS.seq ?_)
  obtain ⟨x,h_6,hM⟩:=bind_of hM
  refine GS.region ?_
  refine X.opR rfl (X.indexF (f:=e_api_Letter) h_6 (fun _=>rfl) rfl rfl rfl rfl) rfl ?_
  refine X.opR rfl (X.loadF h_6 rfl rfl rfl) rfl ?_
  refine X.famAlloc (F:=fk_122) (A:=m4) (P0:=[.rows 1 [(e_api_Court c)],.dead]) (P2:=[.rows 1 [(e_api_Court c)],famM fk_122 3 m4,.rows 8 [(V.agg [(V.i 0),(V.i 0),(V.i 0),(V.i 0),(V.i 0),(V.i 0),(V.i 0),(V.i 0)])]]) 2 1 [some 0,some 1] [(2,(V.ptr 0 0 0)),(5,(V.map 1)),(13,(V.sl (List.map e_api_Letter l))),(14,(V.i (l.length:Int))),(15,(V.i x1)),(18,(e_api_Letter x))] rfl (fun _ _=>rfl) (by intro h; cases h) rfl rfl rfl rfl rfl rfl rfl rfl rfl rfl rfl (gk_cons rfl ⟨9,rfl⟩ (gk_cons rfl ⟨9,rfl⟩ (gk_cons rfl ⟨9,rfl⟩ (gk_cons rfl ⟨9,rfl⟩ (gk_cons rfl ⟨9,rfl⟩ (gk_cons rfl ⟨9,rfl⟩ gk_nil)))))) (gb_box rfl rfl ⟨9,rfl⟩ (gb_pad gb_nil)) rfl ?_
  refine X.op0W (H':=([.rows 1 [(e_api_Court c)],famM fk_122 3 m4,.rows 8 [(e_api_Letter x)]]++famB fk_122 m4)) rfl rfl rfl (GS.opsNil (GS.seq (X.sq (X.q rfl (X.q rfl (X.q rfl ?_))))))
  refine GS.opsNil ?_
  refine X.cond rfl (fun h_7=>?_) (fun h_7=>?_)
  ·replace hM:=ite_t h_7 hM
   refine GS.exit rfl ?_
   exact X.gcFam 3 2 1 1 [some 0,some 1] (P0:=[.rows 1 [(e_api_Court c)],.dead]) rfl (hj_7 m4 hM) rfl rfl rfl rfl (ga rfl rfl) (gb9 rfl rfl rfl (gb_pad gb_nil)) rfl rfl rfl rfl rfl
  replace hM:=ite_f h_7 hM
  refine GS.skip (X.sq ?_)
  iterate 7 refine X.q rfl ?_
  refine X.famAlloc (F:=fk_122) (A:=m4) (P0:=[.rows 1 [(e_api_Court c)],.dead,.rows 8 [(e_api_Letter x)]]) (P2:=[.rows 1 [(e_api_Court c)],famM fk_122 4 m4,.rows 8 [(e_api_Letter x)],.rows 3 [(V.agg [(V.i 0),(V.i 0),(V.i 0)])]]) 3 1 [some 0,some 1,some 2] [(2,(V.ptr 0 0 0)),(5,(V.map 1)),(7,(V.ptr 2 0 0)),(13,(V.sl (List.map e_api_Letter l))),(14,(V.i (l.length:Int))),(15,(V.i x1)),(28,(V.agg [(V.i x.Case),(V.i x.Round),(V.i x.Finding)]))] rfl (fun _ _=>rfl) (by intro h; cases h) rfl rfl rfl rfl rfl rfl rfl rfl rfl rfl rfl (gk_cons rfl ⟨9,rfl⟩ (gk_cons rfl ⟨9,rfl⟩ (gk_cons rfl ⟨9,rfl⟩ (gk_cons rfl ⟨9,rfl⟩ (gk_cons rfl ⟨9,rfl⟩ (gk_cons rfl ⟨9,rfl⟩ (gk_cons rfl ⟨9,rfl⟩ gk_nil))))))) (gb_box rfl rfl ⟨9,rfl⟩ (gb_pad (gb_box rfl rfl ⟨9,rfl⟩ gb_nil))) rfl ?_
  refine X.op0W (H':=([.rows 1 [(e_api_Court c)],famM fk_122 4 m4,.rows 8 [(e_api_Letter x)],.rows 3 [(V.agg [(V.i x.Case),(V.i x.Round),(V.i x.Finding)])]]++famB fk_122 m4)) rfl rfl rfl (GS.opsNil (GS.seq (X.sq (X.q rfl (X.q rfl ?_)))))
  refine X.opR rfl (X.famLookE (F:=fk_122) (A:=m4) (b:=4) (k0:=(⟨x.Case,x.Round,x.Finding⟩:api_Ruling)) key_api_Ruling rfl rfl rfl rfl rfl rfl) rfl ?_
  refine X.opR rfl (X.famNil rfl rfl rfl rfl) rfl (GS.opsNil ?_)
  refine X.join (τ:=(List (api_Ruling×(List (Int×Bool))))) (fun v=>arbiter_rulings_j8 x1 x v=some b_1) (fun v=>⟨[(2,(V.ptr 0 0 0)),(5,(V.map 1)),(7,(V.ptr 2 0 0)),(8,(V.ptr 3 0 0)),(13,(V.sl (List.map e_api_Letter l))),(14,(V.i (l.length:Int))),(15,(V.i x1))],([.rows 1 [(e_api_Court c)],famM fk_122 4 v,.rows 8 [(e_api_Letter x)],.rows 3 [(V.agg [(V.i x.Case),(V.i x.Round),(V.i x.Finding)])]]++famB fk_122 v),0,none,61⟩) ?_ ?_
  ·intro m2 hM
   replace hM:arbiter_rulings_j8 x1 x m2=some b_1:=hM
   unfold arbiter_rulings_j8 at hM
   refine X.drawCut0 5 rfl (by kernel_rfl) (by kernel_rfl) rfl ?_
   iterate 2 refine X.dop rfl rfl rfl rfl (by kernel_rfl) rfl rfl ?_
   refine X.dop rfl (X.famLookE (F:=fk_122) (A:=m2) (b:=4) (k0:=(⟨x.Case,x.Round,x.Finding⟩:api_Ruling)) key_api_Ruling rfl rfl rfl rfl rfl rfl) rfl rfl (by kernel_rfl) rfl rfl ?_
   iterate 2 refine X.dop rfl rfl rfl rfl (by kernel_rfl) rfl rfl ?_
   refine X.dnil ?_
   refine X.norm [(2,(V.ptr 0 0 0)),(5,(V.map 1)),(13,(V.sl (List.map e_api_Letter l))),(14,(V.i (l.length:Int))),(15,(V.i x1)),(38,(famLook fk_122 4 m2 (⟨x.Case,x.Round,x.Finding⟩:api_Ruling))),(40,(V.i x.From))] ?_ rfl (sr rfl)
   obtain ⟨m3,h_8,hM⟩:=bind_of hM
   refine X.famIn (P:=[.rows 1 [(e_api_Court c)],famM fk_122 4 m2,.rows 8 [(e_api_Letter x)],.rows 3 [(V.agg [(V.i x.Case),(V.i x.Round),(V.i x.Finding)])]]) (b:=4) (g:=e_api_Ruling) (f1:=V.i) (f2:=V.b) (A:=m2) (a:=x.From) (c:=true) (pos0:=posE) (pos1:=posI) (P2:=[.rows 1 [(e_api_Court c)],famM fk_122 4 (putM posE m2 (⟨x.Case,x.Round,x.Finding⟩:api_Ruling) (putM posI m3 x.From true)),.rows 8 [(e_api_Letter x)],.rows 3 [(V.agg [(V.i x.Case),(V.i x.Round),(V.i x.Finding)])]]) 1 h_8 X.keyEq_i (X.posI_ok _) rfl rfl rfl rfl rfl rfl rfl rfl rfl rfl (GS.opsNil ?_)
   refine GS.endB ?_
   exact X.gcFam 4 2 1 1 [some 0,some 1] (P0:=[.rows 1 [(e_api_Court c)],.dead]) rfl (hj_7 (putM posE m2 (⟨x.Case,x.Round,x.Finding⟩:api_Ruling) (putM posI m3 x.From true)) hM) rfl rfl rfl rfl (ga rfl rfl) (gb9 rfl rfl rfl (gb_pad gb_nil)) rfl rfl rfl rfl rfl
  intro hj_8
  refine X.cond rfl (fun h_9=>?_) (fun h_9=>?_)
  ·replace hM:=ite_t h_9 hM
   refine GS.region (X.q rfl (X.q rfl ?_))
   refine X.opW (H':=([.rows 1 [(e_api_Court c)],famM fk_122 4 m4,.rows 8 [(e_api_Letter x)],.rows 3 [(V.agg [(V.i x.Case),(V.i x.Round),(V.i x.Finding)])]]++famB fk_122 m4)++[.map [] []]) rfl rfl X.puts_end rfl ?_
   refine X.famPutNew (F:=fk_122) (A:=m4) (pos0:=posE) (P0:=[.rows 1 [(e_api_Court c)],.dead,.rows 8 [(e_api_Letter x)],.rows 3 [(V.agg [(V.i x.Case),(V.i x.Round),(V.i x.Finding)])]]) (P2:=[.rows 1 [(e_api_Court c)],famM fk_122 4 (putM posE m4 (⟨x.Case,x.Round,x.Finding⟩:api_Ruling) []),.rows 8 [(e_api_Letter x)],.rows 3 [(V.agg [(V.i x.Case),(V.i x.Round),(V.i x.Finding)])]]) (x0:=[]) 4 1 [some 0,some 1,some 2,some 3] [(2,(V.ptr 0 0 0)),(5,(V.map 1)),(7,(V.ptr 2 0 0)),(8,(V.ptr 3 0 0)),(13,(V.sl (List.map e_api_Letter l))),(14,(V.i (l.length:Int))),(15,(V.i x1))] rfl key_api_Ruling (fun l=>(X.insAt_agg _ _).trans (List.length_map ..)) rfl rfl rfl rfl rfl rfl rfl rfl rfl rfl rfl rfl rfl rfl rfl (gk_cons rfl ⟨9,rfl⟩ (gk_cons rfl ⟨9,rfl⟩ (gk_cons rfl ⟨9,rfl⟩ (gk_cons rfl ⟨9,rfl⟩ (gk_cons rfl ⟨9,rfl⟩ (gk_cons rfl ⟨9,rfl⟩ (gk_cons rfl ⟨9,rfl⟩ gk_nil))))))) (gb_box rfl rfl ⟨9,rfl⟩ (gb_pad (gb_box rfl rfl ⟨9,rfl⟩ (gb_box rfl rfl ⟨9,rfl⟩ gb_nil)))) rfl (GS.opsNil ?_)
   exact X.gcFam 4 4 1 1 [some 0,some 1,some 2,some 3] (P0:=[.rows 1 [(e_api_Court c)],.dead,.rows 8 [(e_api_Letter x)],.rows 3 [(V.agg [(V.i x.Case),(V.i x.Round),(V.i x.Finding)])]]) rfl (hj_8 (putM posE m4 (⟨x.Case,x.Round,x.Finding⟩:api_Ruling) []) hM) rfl rfl rfl rfl (ga rfl rfl) (gb9 rfl rfl rfl (gb_pad (gb9 rfl rfl rfl (gb9 rfl rfl rfl gb_nil)))) rfl rfl rfl rfl rfl
  replace hM:=ite_f h_9 hM
  refine GS.skip ?_
  exact X.gcFam 4 4 1 1 [some 0,some 1,some 2,some 3] (P0:=[.rows 1 [(e_api_Court c)],.dead,.rows 8 [(e_api_Letter x)],.rows 3 [(V.agg [(V.i x.Case),(V.i x.Round),(V.i x.Finding)])]]) rfl (hj_8 m4 hM) rfl rfl rfl rfl (ga rfl rfl) (gb9 rfl rfl rfl (gb_pad (gb9 rfl rfl rfl (gb9 rfl rfl rfl gb_nil)))) rfl rfl rfl rfl rfl
 replace hM:=ite_f h_5 hM
 refine GS.exit rfl ?_
 obtain ⟨y_1,hM,hy⟩:=map_of hM
 rw [hr_1 _ hy.symm] at hM
 exact X.gcFam 2 2 1 1 [some 0,some 1] (P0:=[.rows 1 [(e_api_Court c)],.dead]) rfl (hj_1 m4 hM) rfl rfl rfl rfl (ga rfl rfl) (gb9 rfl rfl rfl (gb_pad gb_nil)) rfl rfl rfl rfl rfl
theorem ok_ref09_in (n:Int) (lo:Int) (hi:Int):Ct Tryz.prog 50 [(V.i n),(V.i lo),(V.i hi)] (V.b (ref09_in n lo hi)):=by
 refine ct_of_gs CC_ok rfl ?_
 generalize hM:ref09_in n lo hi=r
 unfold ref09_in at hM
 refine X.sq (X.q rfl (X.nq ?_))
 refine X.mid [(6,(V.b ((decide (lo≤n))&&(decide (n≤hi)))))] ?_ ?_
 ·intro hg
  refine X.split (decide (lo≤n)) (fun h_1=>?_) (fun h_1=>?_)
  ·iterate 4 refine X.q rfl ?_
   iterate 3 refine X.opR (X.on_t rfl rfl rfl h_1) rfl rfl ?_
   refine X.opR rfl (X.pickand_t (y:=decide (n≤hi)) rfl h_1 rfl) rfl (X.q rfl (GS.opsNil ?_))
   exact X.norm _ hg rfl (sr rfl)
  iterate 4 refine X.q rfl ?_
  iterate 3 refine X.off (X.off_t rfl rfl rfl h_1) rfl ?_
  refine X.opR rfl (X.pickand_f (y:=decide (n≤hi)) rfl h_1 rfl) rfl (X.q rfl (GS.opsNil ?_))
  exact X.norm _ hg rfl (sr rfl)
 subst hM
 exact GS.ret ⟨_,rfl,⟨30,rfl⟩⟩
theorem ok_ref09_Check (c:api_Court):Ct Tryz.prog 22 [(e_api_Court c)] (V.i (ref09_Check c)):=by
 refine ct_of_gs CC_ok rfl ?_
 generalize hM:ref09_Check c=r
 unfold ref09_Check at hM
 refine X.sq ?_
 refine X.opW rfl rfl rfl rfl (X.q rfl (GS.opsNil (GS.seq (X.sq (X.q rfl (X.q rfl ?_))))))
 refine X.call (ok_ref09_in c.Arbiters 3 7) rfl rfl rfl (.cons (.shut (n:=9) rfl) (.cons (.shut (n:=9) rfl) (.cons (.shut (n:=9) rfl) .nil))) (X.q rfl (GS.opsNil ?_))
 refine X.cond rfl (fun h_1=>?_) (fun h_1=>?_)
 ·replace hM:=ite_t h_1 hM
  refine X.sq (X.q rfl (GS.opsNil ?_))
  subst hM
  exact GS.ret ⟨_,rfl,⟨30,rfl⟩⟩
 replace hM:=ite_f h_1 hM
 refine GS.skip (X.sq (X.q rfl (GS.opsNil ?_)))
 subst hM
 exact GS.ret ⟨_,rfl,⟨30,rfl⟩⟩
abbrev e_api_Note (x:api_Note):V:=.agg [(V.i x.Promised),(V.i x.Voted),(V.i x.Finding),(V.i x.Opened)]
abbrev e_ref09_Seat (x:ref09_Seat):V:=.agg [(V.i x.Arbiter),(V.i x.Case),(V.i x.Book.Promised),(V.i x.Book.Voted),(V.i x.Book.Finding),(V.i x.Book.Opened),(V.i x.Wish),(V.b x.Wishes),(V.i x.Round),(V.sl (List.map e_api_Letter x.List)),(V.b x.Proposed)]
abbrev e_ref09_World (x:ref09_World):V:=.agg [(V.i x.C.Arbiters),(V.sl (List.map V.i x.Named)),(V.sl (List.map e_ref09_Seat x.Seats)),(V.sl (List.map e_api_Letter x.Got)),(V.sl (List.map e_api_Letter x.Way)),(V.sl (List.map e_api_Letter x.All)),(V.i x.Number)]
abbrev e_ref09_Made (x:ref09_Made):V:=.agg [(V.i x.W.C.Arbiters),(V.sl (List.map V.i x.W.Named)),(V.sl (List.map e_ref09_Seat x.W.Seats)),(V.sl (List.map e_api_Letter x.W.Got)),(V.sl (List.map e_api_Letter x.W.Way)),(V.sl (List.map e_api_Letter x.W.All)),(V.i x.W.Number),(V.i x.E)]
theorem ok_ref09_New (c:api_Court):Ct Tryz.prog 7 [(e_api_Court c)] (e_ref09_Made (ref09_New c)):=by
 refine ct_of_gs CC_ok rfl ?_
 generalize hM:ref09_New c=r
 unfold ref09_New at hM
 refine X.sq ?_
 iterate 2 refine X.opW rfl rfl rfl rfl ?_
 refine GS.opsNil (GS.seq ?_)
 refine X.draw (by kernel_rfl) ?_
 iterate 3 refine X.dop rfl rfl rfl rfl (by kernel_rfl) rfl rfl ?_
 refine X.dcall (ok_ref09_Check c) rfl rfl rfl (by kernel_rfl) rfl (.cons (.shut (n:=9) rfl) .nil) ?_
 refine X.dop rfl rfl rfl rfl (by kernel_rfl) rfl rfl ?_
 refine X.dop0 rfl rfl rfl rfl (by kernel_rfl) rfl ?_
 refine X.dnil ?_
 refine X.norm [(2,(V.ptr 1 0 0))] ?_ rfl (sr rfl)
 subst hM
 exact GS.ret ⟨_,rfl,⟨30,rfl⟩⟩
abbrev e_api_Act (x:api_Act):V:=.agg [(V.i x.Kind),(V.i x.A),(V.i x.Case),(V.i x.Finding),(V.i x.N)]
theorem ok_ref09_named {w:ref09_World} {id:Int} {r:Bool} (hM:ref09_named w id=some r):Ct Tryz.prog 99 [(e_ref09_World w),(V.i id)] (V.b r):=by
 refine ct_of_gs CC_ok rfl ?_
 unfold ref09_named at hM
 refine X.sq ?_
 refine X.opW rfl rfl rfl rfl (X.q rfl (GS.opsNil (GS.seq (X.sq (X.q rfl (GS.opsNil ?_))))))
 refine X.join (τ:=Unit) (fun v=>ref09_named_j1=some r) (fun v=>⟨[],[],0,none,20⟩) ?_ ?_
 ·intro _ hM
  replace hM:ref09_named_j1=some r:=hM
  unfold ref09_named_j1 at hM
  refine X.sq (X.q rfl (GS.opsNil ?_))
  cases hM
  exact GS.ret ⟨_,rfl,⟨30,rfl⟩⟩
 intro hj_1
 refine GS.block ?_
 refine X.gc [some 0] (X.loop (σ:=Int) (fun v=>⟨[(1,(V.i id)),(2,(V.ptr 0 0 0)),(5,(V.i v))],[.rows 7 [(e_ref09_World w)]],0,none,20⟩) hM ?_ rfl) rfl rfl rfl (ga rfl rfl) (gb9 rfl rfl rfl gb_nil)
 intro i b_1 hM hc_2 hr_1
 rw [ref09_named_b2] at hM
 refine GS.seq (X.sq (X.q rfl (X.q rfl (X.q rfl ?_))))
 refine X.opR rfl (X.lenF rfl rfl rfl) rfl (X.q rfl (GS.opsNil ?_))
 refine X.cond rfl (fun h_1=>?_) (fun h_1=>?_)
 ·replace hM:=ite_t h_1 hM
  refine GS.skip (GS.seq (GS.block (GS.seq ?_)))
  obtain ⟨x,h_2,hM⟩:=bind_of hM
  refine GS.region (X.q rfl (X.q rfl (X.q rfl ?_)))
  refine X.opR rfl (X.indexF (f:=V.i) h_2 (fun _=>rfl) rfl rfl rfl rfl) rfl ?_
  refine X.opR rfl (X.loadF h_2 rfl rfl rfl) rfl (X.q rfl (X.q rfl ?_))
  refine GS.opsNil ?_
  refine X.cond rfl (fun h_3=>?_) (fun h_3=>?_)
  ·replace hM:=ite_t h_3 hM
   refine X.sq (X.q rfl (GS.opsNil ?_))
   have hE:=Option.some.inj hM
   replace hE:=hr_1 _ hE.symm
   subst hE
   exact GS.ret ⟨_,rfl,⟨30,rfl⟩⟩
  replace hM:=ite_f h_3 hM
  refine GS.skip ?_
  refine GS.endB (GS.region (X.q rfl ?_))
  refine X.opR rfl (X.addE rfl rfl) rfl (X.q rfl (GS.opsNil ?_))
  have hE:=Option.some.inj hM
  exact X.gc [some 0] (hc_2 (w64 (i+1)) hE.symm) rfl rfl rfl (ga rfl rfl) (gb9 rfl rfl rfl gb_nil)
 replace hM:=ite_f h_1 hM
 refine GS.exit rfl ?_
 obtain ⟨y_1,hM,hy⟩:=map_of hM
 rw [hr_1 _ hy.symm] at hM
 exact X.gc [] (hj_1 () hM) rfl rfl rfl (gk_nil) (gb_nil)
theorem ok_ref09_fresh {w:ref09_World} {id:Int} {r:Bool} (hM:ref09_fresh w id=some r):Ct Tryz.prog 66 [(e_ref09_World w),(V.i id)] (V.b r):=by
 refine ct_of_gs CC_ok rfl ?_
 unfold ref09_fresh at hM
 refine X.sq ?_
 refine X.opW rfl rfl rfl rfl (X.q rfl (GS.opsNil (GS.seq ?_)))
 obtain ⟨y,h_1,hM⟩:=bind_of hM
 refine GS.region (X.q rfl (X.q rfl ?_))
 refine X.call (ok_ref09_named h_1) rfl rfl rfl (.cons (.shut (n:=9) rfl) (.cons (.shut (n:=9) rfl) .nil)) (X.q rfl (X.nq ?_))
 refine X.mid [(4,(V.b (y||(decide ((w.Named.length:Int)<40)))))] ?_ ?_
 ·intro hg
  refine X.split (y) (fun h_2=>?_) (fun h_2=>?_)
  ·iterate 2 refine X.q rfl ?_
   iterate 4 refine X.off (X.off_f rfl rfl rfl h_2) rfl ?_
   refine X.opR rfl (X.pickor_t (y:=decide ((w.Named.length:Int)<40)) rfl h_2 rfl) rfl (X.q rfl (GS.opsNil ?_))
   exact X.norm _ hg rfl (sr rfl)
  refine X.q rfl (X.q rfl ?_)
  iterate 2 refine X.opR (X.on_f rfl rfl rfl h_2) rfl rfl ?_
  refine X.opR (X.on_f rfl rfl rfl h_2) (X.lenF rfl rfl rfl) rfl ?_
  refine X.opR (X.on_f rfl rfl rfl h_2) rfl rfl ?_
  refine X.opR rfl (X.pickor_f (y:=decide ((w.Named.length:Int)<40)) rfl h_2 rfl) rfl (X.q rfl (GS.opsNil ?_))
  exact X.norm _ hg rfl (sr rfl)
 cases hM
 exact GS.ret ⟨_,rfl,⟨30,rfl⟩⟩
theorem ok_ref09_at {w:ref09_World} {arbiter:Int} {id:Int} {r:Int} (hM:ref09_at w arbiter id=some r):Ct Tryz.prog 75 [(e_ref09_World w),(V.i arbiter),(V.i id)] (V.i r):=by
 refine ct_of_gs CC_ok rfl ?_
 unfold ref09_at at hM
 refine X.sq ?_
 refine X.opW rfl rfl rfl rfl (X.q rfl (GS.opsNil (GS.seq (X.sq (X.q rfl (GS.opsNil ?_))))))
 refine X.join (τ:=Unit) (fun v=>ref09_at_j1=some r) (fun v=>⟨[],[],0,none,34⟩) ?_ ?_
 ·intro _ hM
  replace hM:ref09_at_j1=some r:=hM
  unfold ref09_at_j1 at hM
  refine X.sq (X.q rfl (GS.opsNil ?_))
  cases hM
  exact GS.ret ⟨_,rfl,⟨30,rfl⟩⟩
 intro hj_1
 refine GS.block ?_
 refine X.gc [some 0] (X.loop (σ:=Int) (fun v=>⟨[(1,(V.i arbiter)),(2,(V.i id)),(3,(V.ptr 0 0 0)),(7,(V.i v))],[.rows 7 [(e_ref09_World w)]],0,none,34⟩) hM ?_ rfl) rfl rfl rfl (ga rfl rfl) (gb9 rfl rfl rfl gb_nil)
 intro i b_1 hM hc_2 hr_1
 rw [ref09_at_b2] at hM
 refine GS.seq (X.sq (X.q rfl (X.q rfl (X.q rfl ?_))))
 refine X.opR rfl (X.lenF rfl rfl rfl) rfl (X.q rfl (GS.opsNil ?_))
 refine X.cond rfl (fun h_1=>?_) (fun h_1=>?_)
 ·replace hM:=ite_t h_1 hM
  refine GS.skip (GS.seq (GS.block (GS.seq ?_)))
  obtain ⟨x,h_2,hM⟩:=bind_of hM
  obtain ⟨x1,h_3,hM⟩:=gb_of hM
  refine GS.region ?_
  refine X.mid [(1,(V.i arbiter)),(2,(V.i id)),(3,(V.ptr 0 0 0)),(7,(V.i i)),(32,(V.b ((decide (x.Arbiter=arbiter))&&(decide (x1.Case=id)))))] ?_ ?_
  ·intro hg
   refine X.split (decide (x.Arbiter=arbiter)) (fun h_4=>?_) (fun h_4=>?_)
   ·iterate 3 refine X.q rfl ?_
    refine X.opR rfl (X.indexF (f:=e_ref09_Seat) h_2 (fun _=>rfl) rfl rfl rfl rfl) rfl (X.q rfl ?_)
    refine X.opR rfl (X.loadF h_2 rfl rfl rfl) rfl (X.q rfl (X.q rfl (X.q rfl ?_)))
    iterate 3 refine X.opR (X.on_t rfl rfl rfl h_4) rfl rfl ?_
    refine X.opR (X.on_t rfl rfl rfl h_4) (X.indexF (f:=e_ref09_Seat) (h_3 h_4) (fun _=>rfl) rfl rfl rfl rfl) rfl ?_
    refine X.opR (X.on_t rfl rfl rfl h_4) rfl rfl ?_
    refine X.opR (X.on_t rfl rfl rfl h_4) (X.loadF (h_3 h_4) rfl rfl rfl) rfl ?_
    iterate 2 refine X.opR (X.on_t rfl rfl rfl h_4) rfl rfl ?_
    refine X.opR rfl (X.pickand_t (y:=decide (x1.Case=id)) rfl h_4 rfl) rfl (GS.opsNil ?_)
    exact X.norm _ hg rfl (sr rfl)
   iterate 3 refine X.q rfl ?_
   refine X.opR rfl (X.indexF (f:=e_ref09_Seat) h_2 (fun _=>rfl) rfl rfl rfl rfl) rfl (X.q rfl ?_)
   refine X.opR rfl (X.loadF h_2 rfl rfl rfl) rfl (X.q rfl (X.q rfl (X.q rfl ?_)))
   iterate 8 refine X.off (X.off_t rfl rfl rfl h_4) rfl ?_
   refine X.opR rfl (X.pickand_f (y:=decide (x1.Case=id)) rfl h_4 rfl) rfl (GS.opsNil ?_)
   exact X.norm _ hg rfl (sr rfl)
  refine X.cond rfl (fun h_5=>?_) (fun h_5=>?_)
  ·replace hM:=ite_t h_5 hM
   refine X.sq (X.q rfl (X.q rfl ?_))
   refine GS.opsNil ?_
   have hE:=Option.some.inj hM
   replace hE:=hr_1 _ hE.symm
   subst hE
   exact GS.ret ⟨_,rfl,⟨30,rfl⟩⟩
  replace hM:=ite_f h_5 hM
  refine GS.skip ?_
  refine GS.endB (GS.region (X.q rfl ?_))
  refine X.opR rfl (X.addE rfl rfl) rfl (X.q rfl (GS.opsNil ?_))
  have hE:=Option.some.inj hM
  exact X.gc [some 0] (hc_2 (w64 (i+1)) hE.symm) rfl rfl rfl (ga rfl rfl) (gb9 rfl rfl rfl gb_nil)
 replace hM:=ite_f h_1 hM
 refine GS.exit rfl ?_
 obtain ⟨y_1,hM,hy⟩:=map_of hM
 rw [hr_1 _ hy.symm] at hM
 exact X.gc [] (hj_1 () hM) rfl rfl rfl (gk_nil) (gb_nil)
theorem ok_ref09_Sit {w:ref09_World} {arbiter:Int} {id:Int} {r:ref09_Seat} (hM:ref09_Sit w arbiter id=some r):Ct Tryz.prog 35 [(e_ref09_World w),(V.i arbiter),(V.i id)] (e_ref09_Seat r):=by
 refine ct_of_gs CC_ok rfl ?_
 unfold ref09_Sit at hM
 refine X.sq ?_
 iterate 2 refine X.opW rfl rfl rfl rfl ?_
 refine GS.opsNil (GS.seq ?_)
 obtain ⟨y,h_1,hM⟩:=bind_of hM
 refine GS.region (X.q rfl (X.q rfl (X.q rfl ?_)))
 refine X.call (ok_ref09_at h_1) rfl rfl rfl (.cons (.shut (n:=9) rfl) (.cons (.shut (n:=9) rfl) (.cons (.shut (n:=9) rfl) .nil))) (X.q rfl (GS.opsNil (GS.seq (X.sq (X.q rfl (X.q rfl ?_))))))
 refine GS.opsNil ?_
 refine X.cond rfl (fun h_2=>?_) (fun h_2=>?_)
 ·replace hM:=ite_t h_2 hM
  refine X.sq (X.q rfl (X.q rfl (X.q rfl ?_)))
  refine X.op0W rfl rfl rfl (GS.opsNil ?_)
  cases hM
  exact GS.ret ⟨_,rfl,⟨30,rfl⟩⟩
 replace hM:=ite_f h_2 hM
 refine GS.skip (GS.seq ?_)
 obtain ⟨x,h_3,hM⟩:=bind_of hM
 refine GS.region (X.q rfl (X.q rfl (X.q rfl ?_)))
 refine X.opR rfl (X.indexF (f:=e_ref09_Seat) h_3 (fun _=>rfl) rfl rfl rfl rfl) rfl ?_
 refine X.opR rfl (X.loadF h_3 rfl rfl rfl) rfl ?_
 refine X.op0W rfl rfl rfl (GS.opsNil ?_)
 cases hM
 exact GS.ret ⟨_,rfl,⟨30,rfl⟩⟩
theorem ok_ref09_name {w:ref09_World} {id:Int} {r:ref09_World} (hM:ref09_name w id=some r):Ct Tryz.prog 67 [(e_ref09_World w),(V.i id)] (e_ref09_World r):=by
 refine ct_of_gs CC_ok rfl ?_
 unfold ref09_name at hM
 refine X.sq ?_
 iterate 2 refine X.opW rfl rfl rfl rfl ?_
 refine GS.opsNil (GS.seq ?_)
 obtain ⟨y,h_1,hM⟩:=bind_of hM
 refine GS.region (X.q rfl (X.q rfl ?_))
 refine X.call (ok_ref09_named h_1) rfl rfl rfl (.cons (.shut (n:=9) rfl) (.cons (.shut (n:=9) rfl) .nil)) (X.q rfl (GS.opsNil (GS.seq (X.sq (X.q rfl (GS.opsNil ?_))))))
 refine X.cond rfl (fun h_2=>?_) (fun h_2=>?_)
 ·replace hM:=ite_t h_2 hM
  refine X.sq (X.q rfl ?_)
  refine X.op0W rfl rfl rfl (GS.opsNil ?_)
  cases hM
  exact GS.ret ⟨_,rfl,⟨30,rfl⟩⟩
 replace hM:=ite_f h_2 hM
 refine GS.skip (X.sq (X.q rfl (GS.opsNil (GS.seq ?_))))
 refine X.join (τ:=Int) (fun v=>ref09_name_j1 w id v=some r) (fun v=>⟨[(1,(V.i id)),(2,(V.ptr 0 0 0)),(4,(V.ptr 1 0 0)),(6,(V.i v))],[.rows 7 [(e_ref09_World w)],.rows 7 [(V.agg [(V.i 0),V.nil,V.nil,V.nil,V.nil,V.nil,(V.i 0)])]],0,none,47⟩) ?_ ?_
 ·intro k hM
  replace hM:ref09_name_j1 w id k=some r:=hM
  unfold ref09_name_j1 at hM
  refine X.sq (X.q rfl (GS.opsNil (GS.seq ?_)))
  obtain ⟨l,h_3,hM⟩:=bind_of hM
  obtain ⟨l1,h_4,hM⟩:=bind_of hM
  refine GS.region ?_
  iterate 4 refine X.q rfl ?_
  refine X.opR rfl (X.sliceF (f:=V.i) h_3 (fun _=>rfl) rfl rfl rfl rfl rfl rfl (X.boundA_int rfl)) rfl ?_
  refine X.appNilS (f:=V.i) (m:=2) (by rfl) h_4 (fun _=>rfl) (by rfl) (by rfl) (by rfl) (by rfl) (by rfl) (by rfl) (by rfl) (by rfl) (by exact rfl) (by rfl) (by rfl) (X.q rfl (GS.opsNil (GS.seq ?_)))
  obtain ⟨l2,h_5,hM⟩:=bind_of hM
  refine GS.region (X.q rfl (X.q rfl ?_))
  refine X.opW (H':=[.rows 7 [(e_ref09_World w)],.rows 7 [(V.agg [(V.i 0),V.nil,V.nil,V.nil,V.nil,V.nil,(V.i 0)])],obl 1 V.i l1,.rows 1 (List.map V.i ([id]))]) rfl rfl rfl rfl ?_
  refine X.appN (f:=V.i) h_5 (fun _=>rfl) (by rfl) (by rfl) (by rfl) (by rfl) (by rfl) (by rfl) (by rfl) (by rfl) (by rfl) (by rfl) (by rfl) (by exact rfl) (by rfl) (by rfl) (X.q rfl (GS.opsNil (GS.seq ?_)))
  obtain ⟨l3,h_6,hM⟩:=bind_of hM
  obtain ⟨l4,h_7,hM⟩:=bind_of hM
  refine GS.region ?_
  iterate 4 refine X.q rfl ?_
  refine X.opR rfl (X.sliceF (f:=V.i) h_6 (fun _=>rfl) rfl rfl rfl rfl rfl (X.boundA_int rfl) rfl) rfl ?_
  refine X.opW (H':=[.rows 7 [(e_ref09_World w)],.rows 7 [(V.agg [(V.i 0),V.nil,V.nil,V.nil,V.nil,V.nil,(V.i 0)])],.dead,.rows 1 (List.map V.i ([id])),.dead,.rows 1 (List.map V.i l4)]) rfl (X.appO (f:=V.i) h_7 (fun _=>rfl) rfl rfl rfl rfl rfl rfl rfl rfl rfl rfl) rfl rfl (X.q rfl ?_)
  refine X.op0W (H':=[.rows 7 [(V.agg [(V.i w.C.Arbiters),(V.osl 5 0 (List.length l4)),(V.sl (List.map e_ref09_Seat w.Seats)),(V.sl (List.map e_api_Letter w.Got)),(V.sl (List.map e_api_Letter w.Way)),(V.sl (List.map e_api_Letter w.All)),(V.i w.Number)])],.rows 7 [(V.agg [(V.i 0),V.nil,V.nil,V.nil,V.nil,V.nil,(V.i 0)])],.dead,.rows 1 (List.map V.i ([id])),.dead,.rows 1 (List.map V.i l4)]) rfl rfl rfl (X.nq ?_)
  refine X.q rfl ?_
  refine X.op0W (H':=[.rows 7 [(V.agg [(V.i w.C.Arbiters),(V.osl 5 0 (List.length l4)),(V.sl (List.map e_ref09_Seat w.Seats)),(V.sl (List.map e_api_Letter w.Got)),(V.sl (List.map e_api_Letter w.Way)),(V.sl (List.map e_api_Letter w.All)),(V.i w.Number)])],.rows 7 [(V.agg [(V.i w.C.Arbiters),(V.osl 5 0 (List.length l4)),(V.sl (List.map e_ref09_Seat w.Seats)),(V.sl (List.map e_api_Letter w.Got)),(V.sl (List.map e_api_Letter w.Way)),(V.sl (List.map e_api_Letter w.All)),(V.i w.Number)])],.dead,.rows 1 (List.map V.i ([id])),.dead,.rows 1 (List.map V.i l4)]) rfl rfl rfl (GS.opsNil ?_)
  have hE:=Option.some.inj hM
  subst hE
  exact GS.ret ⟨_,rfl,FR.agg (.cons ⟨30,rfl⟩ (.cons (FR.osl (f:=V.i) (l:=l4) 9 rfl rfl (fun _=>rfl)) (.cons ⟨30,rfl⟩ (.cons ⟨30,rfl⟩ (.cons ⟨30,rfl⟩ (.cons ⟨30,rfl⟩ (.cons ⟨30,rfl⟩ .nil)))))))⟩
 intro hj_1
 refine GS.block ?_
 refine X.gc [some 0,some 1] (X.loop (σ:=Int) (fun v=>⟨[(1,(V.i id)),(2,(V.ptr 0 0 0)),(4,(V.ptr 1 0 0)),(6,(V.i v))],[.rows 7 [(e_ref09_World w)],.rows 7 [(V.agg [(V.i 0),V.nil,V.nil,V.nil,V.nil,V.nil,(V.i 0)])]],0,none,47⟩) hM ?_ rfl) rfl rfl rfl (ga rfl rfl) (gb9 rfl rfl rfl (gb9 rfl rfl rfl gb_nil))
 intro k1 b_1 hM hc_2 hr_1
 rw [ref09_name_b2] at hM
 iterate 2 refine GS.seq ?_
 obtain ⟨x,h_8,hM⟩:=gb_of hM
 refine GS.region ?_
 refine X.mid [(1,(V.i id)),(2,(V.ptr 0 0 0)),(4,(V.ptr 1 0 0)),(6,(V.i k1)),(26,(V.b ((decide (k1<(w.Named.length:Int)))&&(decide (x<id)))))] ?_ ?_
 ·intro hg
  refine X.split (decide (k1<(w.Named.length:Int))) (fun h_9=>?_) (fun h_9=>?_)
  ·iterate 3 refine X.q rfl ?_
   refine X.opR rfl (X.lenF rfl rfl rfl) rfl (X.q rfl (X.q rfl ?_))
   iterate 3 refine X.opR (X.on_t rfl rfl rfl h_9) rfl rfl ?_
   refine X.opR (X.on_t rfl rfl rfl h_9) (X.indexF (f:=V.i) (h_8 h_9) (fun _=>rfl) rfl rfl rfl rfl) rfl ?_
   refine X.opR (X.on_t rfl rfl rfl h_9) (X.loadF (h_8 h_9) rfl rfl rfl) rfl ?_
   iterate 2 refine X.opR (X.on_t rfl rfl rfl h_9) rfl rfl ?_
   refine X.opR rfl (X.pickand_t (y:=decide (x<id)) rfl h_9 rfl) rfl (GS.opsNil ?_)
   exact X.norm _ hg rfl (sr rfl)
  iterate 3 refine X.q rfl ?_
  refine X.opR rfl (X.lenF rfl rfl rfl) rfl (X.q rfl (X.q rfl ?_))
  iterate 7 refine X.off (X.off_t rfl rfl rfl h_9) rfl ?_
  refine X.opR rfl (X.pickand_f (y:=decide (x<id)) rfl h_9 rfl) rfl (GS.opsNil ?_)
  exact X.norm _ hg rfl (sr rfl)
 refine X.cond rfl (fun h_10=>?_) (fun h_10=>?_)
 ·replace hM:=ite_t h_10 hM
  refine GS.skip (GS.block (GS.region (X.q rfl ?_)))
  refine X.opR rfl (X.addE rfl rfl) rfl (X.q rfl (GS.opsNil ?_))
  refine GS.endB ?_
  have hE:=Option.some.inj hM
  exact X.gc [some 0,some 1] (hc_2 (w64 (k1+1)) hE.symm) rfl rfl rfl (ga rfl rfl) (gb9 rfl rfl rfl (gb9 rfl rfl rfl gb_nil))
 replace hM:=ite_f h_10 hM
 refine GS.exit rfl ?_
 obtain ⟨y_1,hM,hy⟩:=map_of hM
 rw [hr_1 _ hy.symm] at hM
 exact X.gc [some 0,some 1] (hj_1 k1 hM) rfl rfl rfl (ga rfl rfl) (gb9 rfl rfl rfl (gb9 rfl rfl rfl gb_nil))
theorem ok_ref09_put {w:ref09_World} {s:ref09_Seat} {r:ref09_World} (hM:ref09_put w s=some r):Ct Tryz.prog 69 [(e_ref09_World w),(e_ref09_Seat s)] (e_ref09_World r):=by
 refine ct_of_gs CC_ok rfl ?_
 unfold ref09_put at hM
 refine X.sq ?_
 iterate 3 refine X.opW rfl rfl rfl rfl ?_
 refine GS.opsNil (GS.seq ?_)
 obtain ⟨y,h_1,hM⟩:=bind_of hM
 refine GS.region ?_
 iterate 5 refine X.q rfl ?_
 refine X.call (ok_ref09_at h_1) rfl rfl rfl (.cons (.shut (n:=9) rfl) (.cons (.shut (n:=9) rfl) (.cons (.shut (n:=9) rfl) .nil))) (X.q rfl (X.nq (X.q rfl (GS.opsNil (GS.seq ?_)))))
 obtain ⟨l,h_2,hM⟩:=bind_of hM
 refine GS.region (X.q rfl (X.q rfl (X.q rfl ?_)))
 refine X.appNilS (f:=e_ref09_Seat) (m:=3) (by rfl) h_2 (fun _=>rfl) (by rfl) (by rfl) (by rfl) (by rfl) (by rfl) (by rfl) (by rfl) (by rfl) (by exact rfl) (by rfl) (by rfl) (X.q rfl (GS.opsNil (GS.seq (X.sq (X.q rfl (X.q rfl ?_))))))
 refine GS.opsNil ?_
 refine X.join (τ:=(List ref09_Seat)) (fun v=>ref09_put_j1 w v=some r) (fun v=>⟨[(2,(V.ptr 0 0 0)),(4,(V.ptr 1 0 0)),(6,(ovl 2 v))],[.rows 7 [(e_ref09_World w)],.rows 7 [(V.agg [(V.i 0),V.nil,V.nil,V.nil,V.nil,V.nil,(V.i 0)])],obl 11 e_ref09_Seat v],0,none,30⟩) ?_ ?_
 ·intro l1 hM
  replace hM:ref09_put_j1 w l1=some r:=hM
  unfold ref09_put_j1 at hM
  refine X.sq (X.q rfl (X.q rfl ?_))
  refine X.op0W rfl (v:=undefV) (wr:=[(0,.rows 7 [(V.agg [(V.i w.C.Arbiters),(V.sl (List.map V.i w.Named)),(ovl 2 l1),(V.sl (List.map e_api_Letter w.Got)),(V.sl (List.map e_api_Letter w.Way)),(V.sl (List.map e_api_Letter w.All)),(V.i w.Number)])])]) (by rcases X.ovl_or (z:=true) 2 l1 with h0 | ⟨n0,h0⟩ <;> simp only [h0] <;> rfl) rfl (X.nq (X.q rfl ?_))
  refine X.op0W rfl (v:=undefV) (wr:=[(1,.rows 7 [(V.agg [(V.i w.C.Arbiters),(V.sl (List.map V.i w.Named)),(ovl 2 l1),(V.sl (List.map e_api_Letter w.Got)),(V.sl (List.map e_api_Letter w.Way)),(V.sl (List.map e_api_Letter w.All)),(V.i w.Number)])])]) (by rcases X.ovl_or (z:=true) 2 l1 with h0 | ⟨n0,h0⟩ <;> simp only [h0] <;> rfl) rfl (GS.opsNil ?_)
  have hE:=Option.some.inj hM
  subst hE
  exact GS.ret ⟨_,rfl,FR.agg (.cons ⟨30,rfl⟩ (.cons ⟨30,rfl⟩ (.cons (FR.ovl (f:=e_ref09_Seat) (l:=l1) 9 rfl rfl (fun _=>rfl)) (.cons ⟨30,rfl⟩ (.cons ⟨30,rfl⟩ (.cons ⟨30,rfl⟩ (.cons ⟨30,rfl⟩ .nil)))))))⟩
 intro hj_1
 refine X.cond rfl (fun h_3=>?_) (fun h_3=>?_)
 ·replace hM:=ite_t h_3 hM
  obtain ⟨l2,h_4,hM⟩:=bind_of hM
  refine GS.region (X.q rfl (X.q rfl ?_))
  refine X.opW (H':=[.rows 7 [(e_ref09_World w)],.rows 11 [(e_ref09_Seat s)],.rows 7 [(V.agg [(V.i 0),V.nil,V.nil,V.nil,V.nil,V.nil,(V.i 0)])],obl 11 e_ref09_Seat l,.rows 11 (List.map e_ref09_Seat ([s]))]) rfl rfl rfl rfl ?_
  refine X.appN (f:=e_ref09_Seat) h_4 (fun _=>rfl) (by rfl) (by rfl) (by rfl) (by rfl) (by rfl) (by rfl) (by rfl) (by rfl) (by rfl) (by rfl) (by rfl) (by exact rfl) (by rfl) (by rfl) (X.q rfl (GS.opsNil ?_))
  exact X.gc [some 0,some 2,some 5] (hj_1 l2 hM) rfl rfl rfl (gk_cons rfl ⟨9,rfl⟩ (gk_cons rfl ⟨9,rfl⟩ (gk_cons rfl (rv_ne (app_ne h_4) rfl) gk_nil))) (gb9 rfl rfl rfl (gb9 rfl rfl rfl (gb_obl' 9 (app_ne h_4) rfl rfl (fun _=>rfl) gb_nil)))
 replace hM:=ite_f h_3 hM
 obtain ⟨x,h_5,hM⟩:=bind_of hM
 refine GS.region (X.q rfl (X.q rfl (X.q rfl ?_)))
 refine X.opR rfl (X.indexN h_5 rfl rfl rfl rfl rfl) rfl ?_
 refine X.op0W (H':=[.rows 7 [(e_ref09_World w)],.rows 11 [(e_ref09_Seat s)],.rows 7 [(V.agg [(V.i 0),V.nil,V.nil,V.nil,V.nil,V.nil,(V.i 0)])],obl 11 e_ref09_Seat (put l y s)]) rfl (X.storeN (b:=s) h_5 rfl rfl rfl rfl rfl rfl rfl) rfl (GS.opsNil ?_)
 exact X.gc [some 0,some 2,some 3] (hj_1 (put l y s) hM) rfl rfl rfl (gk_cons rfl ⟨9,rfl⟩ (gk_cons rfl ⟨9,rfl⟩ (gk_cons rfl (rv_eq X.ovl_put (rn_ovl rfl)) gk_nil))) (gb9 rfl rfl rfl (gb9 rfl rfl rfl (gb_obl 9 rfl rfl (fun _=>rfl) gb_nil)))
theorem ok_ref09_Majority {c:api_Court} {r:Int} (hM:ref09_Majority c=some r):Ct Tryz.prog 100 [(e_api_Court c)] (V.i r):=by
 refine ct_of_gs CC_ok rfl ?_
 unfold ref09_Majority at hM
 refine X.sq ?_
 refine X.opW rfl rfl rfl rfl (X.q rfl (GS.opsNil (GS.seq (X.sq (X.q rfl ?_)))))
 refine X.call (ok_ref09_Check c) rfl rfl rfl (.cons (.shut (n:=9) rfl) .nil) (X.q rfl (GS.opsNil ?_))
 refine X.cond rfl (fun h_1=>?_) (fun h_1=>?_)
 ·replace hM:=ite_t h_1 hM
  refine X.sq (X.q rfl (GS.opsNil ?_))
  cases hM
  exact GS.ret ⟨_,rfl,⟨30,rfl⟩⟩
 replace hM:=ite_f h_1 hM
 refine GS.skip (GS.seq ?_)
 obtain ⟨q,h_2,hM⟩:=bind_of hM
 refine GS.region (X.q rfl (X.q rfl ?_))
 refine X.opR rfl (X.quoE h_2 rfl rfl) rfl ?_
 refine X.opR rfl (X.addE rfl rfl) rfl (X.q rfl (GS.opsNil ?_))
 cases hM
 exact GS.ret ⟨_,rfl,⟨30,rfl⟩⟩
theorem ok_ref09_pick {l:(List api_Letter)} {r:Int×Bool} (hM:ref09_pick l=some r):Ct Tryz.prog 101 [(V.sl (List.map e_api_Letter l))] (V.tup [(V.i r.1),(V.b r.2)]):=by
 refine ct_of_gs CC_ok rfl ?_
 unfold ref09_pick at hM
 refine X.sq (X.q rfl (X.q rfl ?_))
 refine X.nq (X.q rfl (X.nq (X.q rfl (GS.opsNil (GS.seq (X.sq (X.q rfl (GS.opsNil ?_))))))))
 refine X.join (τ:=Int×Int) (fun v=>ref09_pick_j1 v.1 v.2=some r) (fun v=>⟨[(4,(V.i v.1)),(5,(V.i v.2))],[],0,none,33⟩) ?_ ?_
 ·rintro ⟨best,out⟩ hM
  replace hM:ref09_pick_j1 best out=some r:=hM
  unfold ref09_pick_j1 at hM
  refine X.sq ?_
  iterate 5 refine X.q rfl ?_
  refine GS.opsNil ?_
  cases hM
  exact GS.ret ⟨_,rfl,⟨30,rfl⟩⟩
 intro hj_1
 refine GS.block ?_
 refine X.gc [] (X.loop (σ:=(Int×Int×Int)) (fun v=>⟨[(0,(V.sl (List.map e_api_Letter l))),(4,(V.i v.1)),(5,(V.i v.2.1)),(6,(V.i v.2.2))],[],0,none,33⟩) hM ?_ rfl) rfl rfl rfl (ga rfl rfl) (gb_nil)
 rintro ⟨best2,out2,i⟩ b_1 hM hc_2 hr_1
 rw [ref09_pick_b2] at hM
 refine GS.seq (X.sq (X.q rfl (X.q rfl ?_)))
 refine X.opR rfl (X.lenF rfl rfl rfl) rfl (X.q rfl (GS.opsNil ?_))
 refine X.cond rfl (fun h_1=>?_) (fun h_1=>?_)
 ·replace hM:=ite_t h_1 hM
  refine GS.skip (GS.seq ?_)
  refine X.join (τ:=Int×Int) (fun v=>ref09_pick_j3 i v.1 v.2=some b_1) (fun v=>⟨[(0,(V.sl (List.map e_api_Letter l))),(4,(V.i v.1)),(5,(V.i v.2)),(6,(V.i i))],[],0,none,33⟩) ?_ ?_
  ·rintro ⟨best1,out1⟩ hM
   replace hM:ref09_pick_j3 i best1 out1=some b_1:=hM
   unfold ref09_pick_j3 at hM
   refine GS.region (X.q rfl ?_)
   refine X.opR rfl (X.addE rfl rfl) rfl (X.q rfl (GS.opsNil ?_))
   have hE:=Option.some.inj hM
   exact X.gc [] (hc_2 (best1,out1,w64 (i+1)) hE.symm) rfl rfl rfl (ga rfl rfl) (gb_nil)
  intro hj_3
  refine GS.block (GS.seq ?_)
  obtain ⟨x,h_2,hM⟩:=bind_of hM
  refine GS.region (X.q rfl (X.q rfl ?_))
  refine X.opR rfl (X.indexF (f:=e_api_Letter) h_2 (fun _=>rfl) rfl rfl rfl rfl) rfl (X.q rfl ?_)
  refine X.opR rfl (X.loadF h_2 rfl rfl rfl) rfl (X.q rfl (X.q rfl ?_))
  refine GS.opsNil ?_
  refine X.cond rfl (fun h_3=>?_) (fun h_3=>?_)
  ·replace hM:=ite_t h_3 hM
   refine GS.seq ?_
   obtain ⟨x1,h_4,hM⟩:=bind_of hM
   refine GS.region (X.q rfl (X.q rfl ?_))
   refine X.opR rfl (X.indexF (f:=e_api_Letter) h_4 (fun _=>rfl) rfl rfl rfl rfl) rfl (X.q rfl ?_)
   refine X.opR rfl (X.loadF h_4 rfl rfl rfl) rfl (X.q rfl (GS.opsNil ?_))
   obtain ⟨x2,h_5,hM⟩:=bind_of hM
   refine GS.region (X.q rfl (X.q rfl ?_))
   refine X.opR rfl (X.indexF (f:=e_api_Letter) h_5 (fun _=>rfl) rfl rfl rfl rfl) rfl (X.q rfl ?_)
   refine X.opR rfl (X.loadF h_5 rfl rfl rfl) rfl (X.q rfl (GS.opsNil ?_))
   refine GS.endB ?_
   exact X.gc [] (hj_3 (x1.Voted,x2.Finding) hM) rfl rfl rfl (ga rfl rfl) (gb_nil)
  replace hM:=ite_f h_3 hM
  refine GS.skip ?_
  refine GS.endB ?_
  exact X.gc [] (hj_3 (best2,out2) hM) rfl rfl rfl (ga rfl rfl) (gb_nil)
 replace hM:=ite_f h_1 hM
 refine GS.exit rfl ?_
 obtain ⟨y_1,hM,hy⟩:=map_of hM
 rw [hr_1 _ hy.symm] at hM
 exact X.gc [] (hj_1 (best2,out2) hM) rfl rfl rfl (ga rfl rfl) (gb_nil)
set_option maxHeartbeats 4000000 in
theorem ok_ref09_send {w:ref09_World} {l:api_Letter} {r:ref09_World} (hM:ref09_send w l=some r):Ct Tryz.prog 73 [(e_ref09_World w),(e_api_Letter l)] (e_ref09_World r):=by
 refine ct_of_gs CC_ok rfl ?_
 unfold ref09_send at hM
 refine X.sq ?_
 iterate 3 refine X.opW rfl rfl rfl rfl ?_
 refine X.nq (X.q rfl (X.q rfl ?_))
 refine X.opR rfl (X.addE rfl rfl) rfl (X.q rfl ?_)
 refine X.op0W rfl rfl rfl (X.nq (X.q rfl (X.q rfl (X.q rfl ?_))))
 refine X.op0W rfl rfl rfl (X.nq (X.q rfl (GS.opsNil (GS.seq ?_))))
 obtain ⟨l1,h_1,hM⟩:=bind_of hM
 refine GS.region (X.q rfl (X.q rfl (X.q rfl ?_)))
 refine X.appNilS (f:=e_api_Letter) (m:=3) (by rfl) h_1 (fun _=>rfl) (by rfl) (by rfl) (by rfl) (by rfl) (by rfl) (by rfl) (by rfl) (by rfl) (by exact rfl) (by rfl) (by rfl) (X.q rfl (GS.opsNil (GS.seq ?_)))
 obtain ⟨l2,h_2,hM⟩:=bind_of hM
 refine GS.region (X.q rfl (X.q rfl ?_))
 refine X.opW (H':=[.rows 7 [(V.agg [(V.i w.C.Arbiters),(V.sl (List.map V.i w.Named)),(V.sl (List.map e_ref09_Seat w.Seats)),(V.sl (List.map e_api_Letter w.Got)),(V.sl (List.map e_api_Letter w.Way)),(V.sl (List.map e_api_Letter w.All)),(V.i (w64 (w.Number+1)))])],.rows 8 [(V.agg [(V.i (w64 (w.Number+1))),(V.i l.Case),(V.i l.Kind),(V.i l.Round),(V.i l.From),(V.i l.To),(V.i l.Voted),(V.i l.Finding)])],.rows 7 [(V.agg [(V.i 0),V.nil,V.nil,V.nil,V.nil,V.nil,(V.i 0)])],obl 8 e_api_Letter l1,.rows 8 (List.map e_api_Letter ([(⟨w64 (w.Number+1),l.Case,l.Kind,l.Round,l.From,l.To,l.Voted,l.Finding⟩:api_Letter)]))]) rfl rfl rfl rfl ?_
 refine X.appN (f:=e_api_Letter) h_2 (fun _=>rfl) (by rfl) (by rfl) (by rfl) (by rfl) (by rfl) (by rfl) (by rfl) (by rfl) (by rfl) (by rfl) (by rfl) (by exact rfl) (by rfl) (by rfl) (X.q rfl ?_)
 refine X.op0W (H':=[.rows 7 [(V.agg [(V.i w.C.Arbiters),(V.sl (List.map V.i w.Named)),(V.sl (List.map e_ref09_Seat w.Seats)),(V.sl (List.map e_api_Letter w.Got)),(V.sl (List.map e_api_Letter w.Way)),(V.osl 5 0 (List.length l2)),(V.i (w64 (w.Number+1)))])],.rows 8 [(V.agg [(V.i (w64 (w.Number+1))),(V.i l.Case),(V.i l.Kind),(V.i l.Round),(V.i l.From),(V.i l.To),(V.i l.Voted),(V.i l.Finding)])],.rows 7 [(V.agg [(V.i 0),V.nil,V.nil,V.nil,V.nil,V.nil,(V.i 0)])],.dead,.rows 8 (List.map e_api_Letter ([(⟨w64 (w.Number+1),l.Case,l.Kind,l.Round,l.From,l.To,l.Voted,l.Finding⟩:api_Letter)])),.rows 8 (List.map e_api_Letter l2)]) rfl rfl rfl (GS.opsNil (GS.seq (X.sq ?_)))
 refine X.q rfl (X.q rfl ?_)
 refine X.opR rfl (X.lenF rfl rfl rfl) rfl (X.q rfl (GS.opsNil ?_))
 refine X.join (τ:=(List api_Letter)) (fun v=>ref09_send_j1 w l2 v=some r) (fun v=>⟨[(2,(V.ptr 0 0 0)),(4,(V.ptr 1 0 0))],[.rows 7 [(V.agg [(V.i w.C.Arbiters),(V.sl (List.map V.i w.Named)),(V.sl (List.map e_ref09_Seat w.Seats)),(V.sl (List.map e_api_Letter w.Got)),(V.sl (List.map e_api_Letter v)),(V.sl (List.map e_api_Letter l2)),(V.i (w64 (w.Number+1)))])],.rows 7 [(V.agg [(V.i 0),V.nil,V.nil,V.nil,V.nil,V.nil,(V.i 0)])]],0,none,37⟩) ?_ ?_
 ·intro Way hM
  replace hM:ref09_send_j1 w l2 Way=some r:=hM
  unfold ref09_send_j1 at hM
  refine X.sq (X.q rfl ?_)
  refine X.op0W rfl rfl rfl (GS.opsNil ?_)
  cases hM
  exact GS.ret ⟨_,rfl,⟨30,rfl⟩⟩
 intro hj_1
 refine X.cond rfl (fun h_3=>?_) (fun h_3=>?_)
 ·replace hM:=ite_t h_3 hM
  refine X.sq (X.q rfl (GS.opsNil (GS.seq ?_)))
  obtain ⟨l3,h_4,hM⟩:=bind_of hM
  refine GS.region (X.q rfl (X.q rfl (X.q rfl ?_)))
  refine X.appNilS (f:=e_api_Letter) (m:=6) (by rfl) h_4 (fun _=>rfl) (by rfl) (by rfl) (by rfl) (by rfl) (by rfl) (by rfl) (by rfl) (by rfl) (by exact rfl) (by rfl) (by rfl) (X.q rfl (GS.opsNil ?_))
  obtain ⟨l4,h_5,hM⟩:=bind_of hM
  refine GS.region (X.q rfl (X.q rfl ?_))
  refine X.opW (H':=[.rows 7 [(V.agg [(V.i w.C.Arbiters),(V.sl (List.map V.i w.Named)),(V.sl (List.map e_ref09_Seat w.Seats)),(V.sl (List.map e_api_Letter w.Got)),(V.sl (List.map e_api_Letter w.Way)),(V.osl 5 0 (List.length l2)),(V.i (w64 (w.Number+1)))])],.rows 8 [(V.agg [(V.i (w64 (w.Number+1))),(V.i l.Case),(V.i l.Kind),(V.i l.Round),(V.i l.From),(V.i l.To),(V.i l.Voted),(V.i l.Finding)])],.rows 7 [(V.agg [(V.i 0),V.nil,V.nil,V.nil,V.nil,V.nil,(V.i 0)])],.dead,.rows 8 (List.map e_api_Letter ([(⟨w64 (w.Number+1),l.Case,l.Kind,l.Round,l.From,l.To,l.Voted,l.Finding⟩:api_Letter)])),.rows 8 (List.map e_api_Letter l2),obl 8 e_api_Letter l3,.rows 8 (List.map e_api_Letter ([(⟨w64 (w.Number+1),l.Case,l.Kind,l.Round,l.From,l.To,l.Voted,l.Finding⟩:api_Letter)]))]) rfl rfl rfl rfl ?_
  refine X.appN (f:=e_api_Letter) h_5 (fun _=>rfl) (by rfl) (by rfl) (by rfl) (by rfl) (by rfl) (by rfl) (by rfl) (by rfl) (by rfl) (by rfl) (by rfl) (by exact rfl) (by rfl) (by rfl) (X.q rfl ?_)
  refine X.op0W (H':=[.rows 7 [(V.agg [(V.i w.C.Arbiters),(V.sl (List.map V.i w.Named)),(V.sl (List.map e_ref09_Seat w.Seats)),(V.sl (List.map e_api_Letter w.Got)),(V.osl 8 0 (List.length l4)),(V.osl 5 0 (List.length l2)),(V.i (w64 (w.Number+1)))])],.rows 8 [(V.agg [(V.i (w64 (w.Number+1))),(V.i l.Case),(V.i l.Kind),(V.i l.Round),(V.i l.From),(V.i l.To),(V.i l.Voted),(V.i l.Finding)])],.rows 7 [(V.agg [(V.i 0),V.nil,V.nil,V.nil,V.nil,V.nil,(V.i 0)])],.dead,.rows 8 (List.map e_api_Letter ([(⟨w64 (w.Number+1),l.Case,l.Kind,l.Round,l.From,l.To,l.Voted,l.Finding⟩:api_Letter)])),.rows 8 (List.map e_api_Letter l2),.dead,.rows 8 (List.map e_api_Letter ([(⟨w64 (w.Number+1),l.Case,l.Kind,l.Round,l.From,l.To,l.Voted,l.Finding⟩:api_Letter)])),.rows 8 (List.map e_api_Letter l4)]) rfl rfl rfl (GS.opsNil ?_)
  refine X.freezeBox (z:=false) (f:=e_api_Letter) (l:=l4) (es:=8) (H':=[.rows 7 [(V.agg [(V.i w.C.Arbiters),(V.sl (List.map V.i w.Named)),(V.sl (List.map e_ref09_Seat w.Seats)),(V.sl (List.map e_api_Letter w.Got)),(V.sl (List.map e_api_Letter l4)),(V.osl 5 0 (List.length l2)),(V.i (w64 (w.Number+1)))])],.rows 8 [(V.agg [(V.i (w64 (w.Number+1))),(V.i l.Case),(V.i l.Kind),(V.i l.Round),(V.i l.From),(V.i l.To),(V.i l.Voted),(V.i l.Finding)])],.rows 7 [(V.agg [(V.i 0),V.nil,V.nil,V.nil,V.nil,V.nil,(V.i 0)])],.dead,.rows 8 (List.map e_api_Letter ([(⟨w64 (w.Number+1),l.Case,l.Kind,l.Round,l.From,l.To,l.Voted,l.Finding⟩:api_Letter)])),.rows 8 (List.map e_api_Letter l2),.dead,.rows 8 (List.map e_api_Letter ([(⟨w64 (w.Number+1),l.Case,l.Kind,l.Round,l.From,l.To,l.Voted,l.Finding⟩:api_Letter)])),.dead]) (c:=fun x=>V.agg ([(V.i w.C.Arbiters),(V.sl (List.map V.i w.Named)),(V.sl (List.map e_ref09_Seat w.Seats)),(V.sl (List.map e_api_Letter w.Got))]++x :: [(V.osl 5 0 (List.length l2)),(V.i (w64 (w.Number+1)))])) 0 (ctx_agg _ _) rfl rfl rfl rfl rfl rfl (fun _=>rfl) rfl ?_
  refine X.freezeBox (z:=false) (f:=e_api_Letter) (l:=l2) (es:=8) (H':=[.rows 7 [(V.agg [(V.i w.C.Arbiters),(V.sl (List.map V.i w.Named)),(V.sl (List.map e_ref09_Seat w.Seats)),(V.sl (List.map e_api_Letter w.Got)),(V.sl (List.map e_api_Letter l4)),(V.sl (List.map e_api_Letter l2)),(V.i (w64 (w.Number+1)))])],.rows 8 [(V.agg [(V.i (w64 (w.Number+1))),(V.i l.Case),(V.i l.Kind),(V.i l.Round),(V.i l.From),(V.i l.To),(V.i l.Voted),(V.i l.Finding)])],.rows 7 [(V.agg [(V.i 0),V.nil,V.nil,V.nil,V.nil,V.nil,(V.i 0)])],.dead,.rows 8 (List.map e_api_Letter ([(⟨w64 (w.Number+1),l.Case,l.Kind,l.Round,l.From,l.To,l.Voted,l.Finding⟩:api_Letter)])),.dead,.dead,.rows 8 (List.map e_api_Letter ([(⟨w64 (w.Number+1),l.Case,l.Kind,l.Round,l.From,l.To,l.Voted,l.Finding⟩:api_Letter)])),.dead]) (c:=fun x=>V.agg ([(V.i w.C.Arbiters),(V.sl (List.map V.i w.Named)),(V.sl (List.map e_ref09_Seat w.Seats)),(V.sl (List.map e_api_Letter w.Got)),(V.sl (List.map e_api_Letter l4))]++x :: [(V.i (w64 (w.Number+1)))])) 0 (ctx_agg _ _) rfl rfl rfl rfl rfl rfl (fun _=>rfl) rfl ?_
  exact X.gc [some 0,some 2] (hj_1 l4 hM) rfl rfl rfl (ga rfl rfl) (gb9 rfl rfl rfl (gb9 rfl rfl rfl gb_nil))
 replace hM:=ite_f h_3 hM
 refine GS.skip ?_
 refine X.freezeBox (z:=false) (f:=e_api_Letter) (l:=l2) (es:=8) (H':=[.rows 7 [(V.agg [(V.i w.C.Arbiters),(V.sl (List.map V.i w.Named)),(V.sl (List.map e_ref09_Seat w.Seats)),(V.sl (List.map e_api_Letter w.Got)),(V.sl (List.map e_api_Letter w.Way)),(V.sl (List.map e_api_Letter l2)),(V.i (w64 (w.Number+1)))])],.rows 8 [(V.agg [(V.i (w64 (w.Number+1))),(V.i l.Case),(V.i l.Kind),(V.i l.Round),(V.i l.From),(V.i l.To),(V.i l.Voted),(V.i l.Finding)])],.rows 7 [(V.agg [(V.i 0),V.nil,V.nil,V.nil,V.nil,V.nil,(V.i 0)])],.dead,.rows 8 (List.map e_api_Letter ([(⟨w64 (w.Number+1),l.Case,l.Kind,l.Round,l.From,l.To,l.Voted,l.Finding⟩:api_Letter)])),.dead]) (c:=fun x=>V.agg ([(V.i w.C.Arbiters),(V.sl (List.map V.i w.Named)),(V.sl (List.map e_ref09_Seat w.Seats)),(V.sl (List.map e_api_Letter w.Got)),(V.sl (List.map e_api_Letter w.Way))]++x :: [(V.i (w64 (w.Number+1)))])) 0 (ctx_agg _ _) rfl rfl rfl rfl rfl rfl (fun _=>rfl) rfl ?_
 exact X.gc [some 0,some 2] (hj_1 w.Way hM) rfl rfl rfl (ga rfl rfl) (gb9 rfl rfl rfl (gb9 rfl rfl rfl gb_nil))
theorem ok_ref09_sendAll {w:ref09_World} {l:api_Letter} {r:ref09_World} (hM:ref09_sendAll w l=some r):Ct Tryz.prog 71 [(e_ref09_World w),(e_api_Letter l)] (e_ref09_World r):=by
 refine ct_of_gs CC_ok rfl ?_
 unfold ref09_sendAll at hM
 refine X.sq ?_
 iterate 3 refine X.opW rfl rfl rfl rfl ?_
 refine GS.opsNil (GS.seq (X.sq (X.q rfl (GS.opsNil ?_))))
 refine X.join (τ:=Int×(List Int)×(List ref09_Seat)×(List api_Letter)×(List api_Letter)×(List api_Letter)×Int) (fun v=>ref09_sendAll_j1 v.1 v.2.1 v.2.2.1 v.2.2.2.1 v.2.2.2.2.1 v.2.2.2.2.2.1 v.2.2.2.2.2.2=some r) (fun v=>⟨[(2,(V.ptr 0 0 0)),(4,(V.ptr 1 0 0))],[.rows 7 [(V.agg [(V.i v.1),(V.sl (List.map V.i v.2.1)),(V.sl (List.map e_ref09_Seat v.2.2.1)),(V.sl (List.map e_api_Letter v.2.2.2.1)),(V.sl (List.map e_api_Letter v.2.2.2.2.1)),(V.sl (List.map e_api_Letter v.2.2.2.2.2.1)),(V.i v.2.2.2.2.2.2)])],.rows 7 [(V.agg [(V.i 0),V.nil,V.nil,V.nil,V.nil,V.nil,(V.i 0)])]],0,none,19⟩) ?_ ?_
 ·rintro ⟨Arbiters,Named,Seats,Got,Way,All,Number⟩ hM
  replace hM:ref09_sendAll_j1 Arbiters Named Seats Got Way All Number=some r:=hM
  unfold ref09_sendAll_j1 at hM
  refine X.sq (X.q rfl ?_)
  refine X.op0W rfl rfl rfl (GS.opsNil ?_)
  cases hM
  exact GS.ret ⟨_,rfl,⟨30,rfl⟩⟩
 intro hj_1
 refine GS.block ?_
 refine X.gc [some 0,some 1,some 2] (X.loop (σ:=(Int×Int×(List Int)×(List ref09_Seat)×(List api_Letter)×(List api_Letter)×(List api_Letter)×Int×Int)) (fun v=>⟨[(2,(V.ptr 0 0 0)),(3,(V.ptr 1 0 0)),(4,(V.ptr 2 0 0)),(5,(V.i v.1))],[.rows 7 [(V.agg [(V.i v.2.1),(V.sl (List.map V.i v.2.2.1)),(V.sl (List.map e_ref09_Seat v.2.2.2.1)),(V.sl (List.map e_api_Letter v.2.2.2.2.1)),(V.sl (List.map e_api_Letter v.2.2.2.2.2.1)),(V.sl (List.map e_api_Letter v.2.2.2.2.2.2.1)),(V.i v.2.2.2.2.2.2.2.1)])],.rows 8 [(V.agg [(V.i l.ID),(V.i l.Case),(V.i l.Kind),(V.i l.Round),(V.i l.From),(V.i v.2.2.2.2.2.2.2.2),(V.i l.Voted),(V.i l.Finding)])],.rows 7 [(V.agg [(V.i 0),V.nil,V.nil,V.nil,V.nil,V.nil,(V.i 0)])]],0,none,19⟩) hM ?_ rfl) rfl rfl rfl (ga rfl rfl) (gb9 rfl rfl rfl (gb9 rfl rfl rfl (gb9 rfl rfl rfl gb_nil)))
 rintro ⟨a,Arbiters1,Named1,Seats1,Got1,Way1,All1,Number1,To⟩ b_1 hM hc_2 hr_1
 rw [ref09_sendAll_b2] at hM
 refine GS.seq (X.sq ?_)
 iterate 5 refine X.q rfl ?_
 refine GS.opsNil ?_
 refine X.cond rfl (fun h_1=>?_) (fun h_1=>?_)
 ·replace hM:=ite_t h_1 hM
  refine GS.skip (GS.seq (GS.block (X.sq (X.q rfl (X.q rfl ?_)))))
  refine X.op0W rfl rfl rfl (GS.opsNil ?_)
  obtain ⟨y,h_2,hM⟩:=bind_of hM
  refine GS.region (X.q rfl (X.q rfl ?_))
  refine X.call (ok_ref09_send h_2) rfl rfl rfl (.cons (.shut (n:=9) rfl) (.cons (.shut (n:=9) rfl) .nil)) ?_
  refine X.op0W rfl rfl rfl (GS.opsNil ?_)
  refine GS.endB (GS.region (X.q rfl ?_))
  refine X.opR rfl (X.addE rfl rfl) rfl (X.q rfl (GS.opsNil ?_))
  have hE:=Option.some.inj hM
  exact X.gc [some 0,some 1,some 2] (hc_2 (w64 (a+1),y.C.Arbiters,y.Named,y.Seats,y.Got,y.Way,y.All,y.Number,a) hE.symm) rfl rfl rfl (ga rfl rfl) (gb9 rfl rfl rfl (gb9 rfl rfl rfl (gb9 rfl rfl rfl gb_nil)))
 replace hM:=ite_f h_1 hM
 refine GS.exit rfl ?_
 obtain ⟨y_1,hM,hy⟩:=map_of hM
 rw [hr_1 _ hy.symm] at hM
 exact X.gc [some 0,some 2] (hj_1 (Arbiters1,Named1,Seats1,Got1,Way1,All1,Number1) hM) rfl rfl rfl (ga rfl rfl) (gb9 rfl rfl rfl (gb9 rfl rfl rfl gb_nil))
theorem ok_ref09_propose {w:ref09_World} {s:ref09_Seat} {r:ref09_World} (hM:ref09_propose w s=some r):Ct Tryz.prog 68 [(e_ref09_World w),(e_ref09_Seat s)] (e_ref09_World r):=by
 refine ct_of_gs CC_ok rfl ?_
 unfold ref09_propose at hM
 refine X.sq ?_
 iterate 3 refine X.opW rfl rfl rfl rfl ?_
 refine GS.opsNil ?_
 iterate 2 refine GS.seq ?_
 obtain ⟨y,h_1,hM⟩:=gb_of hM
 refine X.mid [(2,(V.ptr 0 0 0)),(3,(V.ptr 1 0 0)),(4,(V.ptr 2 0 0)),(22,(V.b (((decide (s.Round=0))||s.Proposed)||(decide ((s.List.length:Int)<y)))))] ?_ ?_
 ·intro hg
  refine X.split (decide (s.Round=0)) (fun h_2=>?_) (fun h_2=>?_)
  ·refine X.drawc (by kernel_rfl) rfl ?_
   iterate 4 refine X.cop rfl rfl rfl rfl ?_
   iterate 2 refine X.coff (X.off_f rfl rfl rfl h_2) rfl rfl ?_
   refine X.cop rfl (X.pickor_t (y:=s.Proposed) rfl h_2 rfl) rfl rfl ?_
   refine X.cop rfl rfl rfl rfl ?_
   iterate 7 refine X.coff (X.off_f rfl rfl rfl (X.or_tt h_2)) rfl rfl ?_
   refine X.cop rfl (X.pickor_t (y:=decide ((s.List.length:Int)<y)) rfl (X.or_tt h_2) rfl) rfl rfl ?_
   refine X.cnil ?_
   exact X.norm _ hg rfl (sr rfl)
  refine X.split (((decide (s.Round=0))||s.Proposed)) (fun h_3=>?_) (fun h_3=>?_)
  ·refine X.drawc (by kernel_rfl) rfl ?_
   iterate 4 refine X.cop rfl rfl rfl rfl ?_
   iterate 2 refine X.cop (X.on_f rfl rfl rfl h_2) rfl rfl rfl ?_
   refine X.cop rfl (X.pickor_f (y:=s.Proposed) rfl h_2 rfl) rfl rfl ?_
   refine X.cop rfl rfl rfl rfl ?_
   iterate 7 refine X.coff (X.off_f rfl rfl rfl h_3) rfl rfl ?_
   refine X.cop rfl (X.pickor_t (y:=decide ((s.List.length:Int)<y)) rfl h_3 rfl) rfl rfl ?_
   refine X.cnil ?_
   exact X.norm _ hg rfl (sr rfl)
  refine X.drawc (by kernel_rfl) rfl ?_
  iterate 4 refine X.cop rfl rfl rfl rfl ?_
  iterate 2 refine X.cop (X.on_f rfl rfl rfl h_2) rfl rfl rfl ?_
  refine X.cop rfl (X.pickor_f (y:=s.Proposed) rfl h_2 rfl) rfl rfl ?_
  refine X.cop rfl rfl rfl rfl ?_
  iterate 2 refine X.cop (X.on_f rfl rfl rfl h_3) rfl rfl rfl ?_
  refine X.cop (X.on_f rfl rfl rfl h_3) (X.lenF rfl rfl rfl) rfl rfl ?_
  iterate 2 refine X.cop (X.on_f rfl rfl rfl h_3) rfl rfl rfl ?_
  refine X.ccall (ok_ref09_Majority (h_1 (X.nt h_3))) (X.on_f rfl rfl rfl h_3) rfl rfl rfl (.cons (.shut (n:=9) rfl) .nil) ?_
  refine X.cop (X.on_f rfl rfl rfl h_3) rfl rfl rfl ?_
  refine X.cop rfl (X.pickor_f (y:=decide ((s.List.length:Int)<y)) rfl h_3 rfl) rfl rfl ?_
  refine X.cnil ?_
  exact X.norm _ hg rfl (sr rfl)
 refine X.cond rfl (fun h_4=>?_) (fun h_4=>?_)
 ·replace hM:=ite_t h_4 hM
  refine X.sq (X.q rfl ?_)
  refine X.op0W rfl rfl rfl (GS.opsNil ?_)
  cases hM
  exact GS.ret ⟨_,rfl,⟨30,rfl⟩⟩
 replace hM:=ite_f h_4 hM
 refine GS.skip (GS.seq ?_)
 obtain ⟨y1,h_5,hM⟩:=bind_of hM
 refine GS.region (X.q rfl (X.q rfl ?_))
 refine X.call (ok_ref09_pick h_5) rfl rfl rfl (.cons (.shut (n:=9) rfl) .nil) ?_
 iterate 5 refine X.q rfl ?_
 refine GS.opsNil (GS.seq (X.sq ?_))
 refine X.mid [(2,(V.ptr 0 0 0)),(3,(V.ptr 1 0 0)),(4,(V.ptr 2 0 0)),(5,(V.i y1.1)),(6,(V.b y1.2)),(36,(V.b ((!y1.2)&&(!s.Wishes))))] ?_ ?_
 ·intro hg
  refine X.split (!y1.2) (fun h_6=>?_) (fun h_6=>?_)
  ·iterate 3 refine X.q rfl ?_
   iterate 3 refine X.opR (X.on_t rfl rfl rfl h_6) rfl rfl ?_
   refine X.opR rfl (X.pickand_t (y := !s.Wishes) rfl h_6 rfl) rfl (GS.opsNil ?_)
   exact X.norm _ hg rfl (sr rfl)
  iterate 3 refine X.q rfl ?_
  iterate 3 refine X.off (X.off_t rfl rfl rfl h_6) rfl ?_
  refine X.opR rfl (X.pickand_f (y := !s.Wishes) rfl h_6 rfl) rfl (GS.opsNil ?_)
  exact X.norm _ hg rfl (sr rfl)
 refine X.cond rfl (fun h_7=>?_) (fun h_7=>?_)
 ·replace hM:=ite_t h_7 hM
  refine X.sq (X.q rfl ?_)
  refine X.op0W rfl rfl rfl (GS.opsNil ?_)
  cases hM
  exact GS.ret ⟨_,rfl,⟨30,rfl⟩⟩
 replace hM:=ite_f h_7 hM
 refine GS.skip (GS.seq (X.sq (X.q rfl (X.q rfl ?_))))
 refine GS.opsNil ?_
 refine X.join (τ:=Int) (fun v=>ref09_propose_j1 w s v=some r) (fun v=>⟨[(2,(V.ptr 0 0 0)),(3,(V.ptr 1 0 0)),(4,(V.ptr 2 0 0)),(5,(V.i v))],[.rows 7 [(e_ref09_World w)],.rows 11 [(e_ref09_Seat s)],.rows 7 [(V.agg [(V.i 0),V.nil,V.nil,V.nil,V.nil,V.nil,(V.i 0)])]],0,none,56⟩) ?_ ?_
 ·intro finding hM
  replace hM:ref09_propose_j1 w s finding=some r:=hM
  unfold ref09_propose_j1 at hM
  refine X.sq (X.q rfl ?_)
  refine X.op0W rfl rfl rfl (GS.opsNil (GS.seq ?_))
  obtain ⟨y2,h_8,hM⟩:=bind_of hM
  refine GS.region (X.q rfl (X.q rfl ?_))
  refine X.call (ok_ref09_put h_8) rfl rfl rfl (.cons (.shut (n:=9) rfl) (.cons (.shut (n:=9) rfl) .nil)) ?_
  refine X.op0W rfl rfl rfl (GS.opsNil (GS.seq ?_))
  obtain ⟨y3,h_9,hM⟩:=bind_of hM
  refine GS.region ?_
  iterate 9 refine X.q rfl ?_
  refine X.call (ok_ref09_sendAll h_9) rfl rfl rfl (.cons (.shut (n:=9) rfl) (.cons (.shut (n:=9) rfl) .nil)) ?_
  refine X.op0W rfl rfl rfl (GS.opsNil ?_)
  cases hM
  exact GS.ret ⟨_,rfl,⟨30,rfl⟩⟩
 intro hj_1
 refine X.cond rfl (fun h_10=>?_) (fun h_10=>?_)
 ·replace hM:=ite_t h_10 hM
  refine GS.region (X.q rfl (X.q rfl (X.q rfl ?_)))
  refine GS.opsNil ?_
  exact X.gc [some 0,some 1,some 2] (hj_1 s.Wish hM) rfl rfl rfl (ga rfl rfl) (gb9 rfl rfl rfl (gb9 rfl rfl rfl (gb9 rfl rfl rfl gb_nil)))
 replace hM:=ite_f h_10 hM
 refine GS.skip ?_
 exact X.gc [some 0,some 1,some 2] (hj_1 y1.1 hM) rfl rfl rfl (ga rfl rfl) (gb9 rfl rfl rfl (gb9 rfl rfl rfl (gb9 rfl rfl rfl gb_nil)))
set_option maxHeartbeats 4000000 in
theorem ok_ref09_wish {w:ref09_World} {a:api_Act} {r:ref09_World×Int} (hM:ref09_wish w a=some r):Ct Tryz.prog 29 [(e_ref09_World w),(e_api_Act a)] (V.tup [(e_ref09_World r.1),(V.i r.2)]):=by
 refine ct_of_gs CC_ok rfl ?_
 unfold ref09_wish at hM
 refine X.sq ?_
 iterate 3 refine X.opW rfl rfl rfl rfl ?_
 refine X.q rfl (GS.opsNil (GS.seq (X.sq ?_)))
 refine X.mid [(2,(V.ptr 0 0 0)),(3,(V.ptr 1 0 0)),(4,(V.ptr 2 0 0)),(32,(V.b ((((!(ref09_in a.A 0 (w64 (w.C.Arbiters - 1))))||(!(ref09_in a.Case 1 1099511627776)))||(!(ref09_in a.Finding 0 65536)))||(!decide (a.N=0)))))] ?_ ?_
 ·intro hg
  refine X.split (!(ref09_in a.A 0 (w64 (w.C.Arbiters - 1)))) (fun h_1=>?_) (fun h_1=>?_)
  ·iterate 5 refine X.q rfl ?_
   refine X.opR rfl (X.subE rfl rfl) rfl ?_
   refine X.call (ok_ref09_in a.A 0 (w64 (w.C.Arbiters - 1))) rfl rfl rfl (.cons (.shut (n:=9) rfl) (.cons (.shut (n:=9) rfl) (.cons (.shut (n:=9) rfl) .nil))) (X.q rfl (X.q rfl ?_))
   iterate 4 refine X.off (X.off_f rfl rfl rfl h_1) rfl ?_
   refine X.opR rfl (X.pickor_t (y := !(ref09_in a.Case 1 1099511627776)) rfl h_1 rfl) rfl (X.q rfl ?_)
   iterate 4 refine X.off (X.off_f rfl rfl rfl (X.or_tt h_1)) rfl ?_
   refine X.opR rfl (X.pickor_t (y := !(ref09_in a.Finding 0 65536)) rfl (X.or_tt h_1) rfl) rfl (X.q rfl ?_)
   iterate 3 refine X.off (X.off_f rfl rfl rfl (X.or_tt (X.or_tt h_1))) rfl ?_
   refine X.opR rfl (X.pickor_t (y := !decide (a.N=0)) rfl (X.or_tt (X.or_tt h_1)) rfl) rfl (GS.opsNil ?_)
   exact X.norm _ hg rfl (sr rfl)
  refine X.split (((!(ref09_in a.A 0 (w64 (w.C.Arbiters - 1))))||(!(ref09_in a.Case 1 1099511627776)))) (fun h_2=>?_) (fun h_2=>?_)
  ·iterate 5 refine X.q rfl ?_
   refine X.opR rfl (X.subE rfl rfl) rfl ?_
   refine X.call (ok_ref09_in a.A 0 (w64 (w.C.Arbiters - 1))) rfl rfl rfl (.cons (.shut (n:=9) rfl) (.cons (.shut (n:=9) rfl) (.cons (.shut (n:=9) rfl) .nil))) (X.q rfl (X.q rfl ?_))
   iterate 2 refine X.opR (X.on_f rfl rfl rfl h_1) rfl rfl ?_
   refine X.call (ok_ref09_in a.Case 1 1099511627776) (X.on_f rfl rfl rfl h_1) rfl rfl (.cons (.shut (n:=9) rfl) (.cons (.shut (n:=9) rfl) (.cons (.shut (n:=9) rfl) .nil))) ?_
   refine X.opR (X.on_f rfl rfl rfl h_1) rfl rfl ?_
   refine X.opR rfl (X.pickor_f (y := !(ref09_in a.Case 1 1099511627776)) rfl h_1 rfl) rfl (X.q rfl ?_)
   iterate 4 refine X.off (X.off_f rfl rfl rfl h_2) rfl ?_
   refine X.opR rfl (X.pickor_t (y := !(ref09_in a.Finding 0 65536)) rfl h_2 rfl) rfl (X.q rfl ?_)
   iterate 3 refine X.off (X.off_f rfl rfl rfl (X.or_tt h_2)) rfl ?_
   refine X.opR rfl (X.pickor_t (y := !decide (a.N=0)) rfl (X.or_tt h_2) rfl) rfl (GS.opsNil ?_)
   exact X.norm _ hg rfl (sr rfl)
  refine X.split ((((!(ref09_in a.A 0 (w64 (w.C.Arbiters - 1))))||(!(ref09_in a.Case 1 1099511627776)))||(!(ref09_in a.Finding 0 65536)))) (fun h_3=>?_) (fun h_3=>?_)
  ·iterate 5 refine X.q rfl ?_
   refine X.opR rfl (X.subE rfl rfl) rfl ?_
   refine X.call (ok_ref09_in a.A 0 (w64 (w.C.Arbiters - 1))) rfl rfl rfl (.cons (.shut (n:=9) rfl) (.cons (.shut (n:=9) rfl) (.cons (.shut (n:=9) rfl) .nil))) (X.q rfl (X.q rfl ?_))
   iterate 2 refine X.opR (X.on_f rfl rfl rfl h_1) rfl rfl ?_
   refine X.call (ok_ref09_in a.Case 1 1099511627776) (X.on_f rfl rfl rfl h_1) rfl rfl (.cons (.shut (n:=9) rfl) (.cons (.shut (n:=9) rfl) (.cons (.shut (n:=9) rfl) .nil))) ?_
   refine X.opR (X.on_f rfl rfl rfl h_1) rfl rfl ?_
   refine X.opR rfl (X.pickor_f (y := !(ref09_in a.Case 1 1099511627776)) rfl h_1 rfl) rfl (X.q rfl ?_)
   iterate 2 refine X.opR (X.on_f rfl rfl rfl h_2) rfl rfl ?_
   refine X.call (ok_ref09_in a.Finding 0 65536) (X.on_f rfl rfl rfl h_2) rfl rfl (.cons (.shut (n:=9) rfl) (.cons (.shut (n:=9) rfl) (.cons (.shut (n:=9) rfl) .nil))) ?_
   refine X.opR (X.on_f rfl rfl rfl h_2) rfl rfl ?_
   refine X.opR rfl (X.pickor_f (y := !(ref09_in a.Finding 0 65536)) rfl h_2 rfl) rfl (X.q rfl ?_)
   iterate 3 refine X.off (X.off_f rfl rfl rfl h_3) rfl ?_
   refine X.opR rfl (X.pickor_t (y := !decide (a.N=0)) rfl h_3 rfl) rfl (GS.opsNil ?_)
   exact X.norm _ hg rfl (sr rfl)
  iterate 5 refine X.q rfl ?_
  refine X.opR rfl (X.subE rfl rfl) rfl ?_
  refine X.call (ok_ref09_in a.A 0 (w64 (w.C.Arbiters - 1))) rfl rfl rfl (.cons (.shut (n:=9) rfl) (.cons (.shut (n:=9) rfl) (.cons (.shut (n:=9) rfl) .nil))) (X.q rfl (X.q rfl ?_))
  iterate 2 refine X.opR (X.on_f rfl rfl rfl h_1) rfl rfl ?_
  refine X.call (ok_ref09_in a.Case 1 1099511627776) (X.on_f rfl rfl rfl h_1) rfl rfl (.cons (.shut (n:=9) rfl) (.cons (.shut (n:=9) rfl) (.cons (.shut (n:=9) rfl) .nil))) ?_
  refine X.opR (X.on_f rfl rfl rfl h_1) rfl rfl ?_
  refine X.opR rfl (X.pickor_f (y := !(ref09_in a.Case 1 1099511627776)) rfl h_1 rfl) rfl (X.q rfl ?_)
  iterate 2 refine X.opR (X.on_f rfl rfl rfl h_2) rfl rfl ?_
  refine X.call (ok_ref09_in a.Finding 0 65536) (X.on_f rfl rfl rfl h_2) rfl rfl (.cons (.shut (n:=9) rfl) (.cons (.shut (n:=9) rfl) (.cons (.shut (n:=9) rfl) .nil))) ?_
  refine X.opR (X.on_f rfl rfl rfl h_2) rfl rfl ?_
  refine X.opR rfl (X.pickor_f (y := !(ref09_in a.Finding 0 65536)) rfl h_2 rfl) rfl (X.q rfl ?_)
  iterate 3 refine X.opR (X.on_f rfl rfl rfl h_3) rfl rfl ?_
  refine X.opR rfl (X.pickor_f (y := !decide (a.N=0)) rfl h_3 rfl) rfl (GS.opsNil ?_)
  exact X.norm _ hg rfl (sr rfl)
 refine X.cond rfl (fun h_4=>?_) (fun h_4=>?_)
 ·replace hM:=ite_t h_4 hM
  refine X.sq (X.q rfl ?_)
  refine X.op0W rfl rfl rfl (X.q rfl (GS.opsNil ?_))
  cases hM
  exact GS.ret ⟨_,rfl,⟨30,rfl⟩⟩
 replace hM:=ite_f h_4 hM
 refine GS.skip (GS.seq ?_)
 obtain ⟨y,h_5,hM⟩:=bind_of hM
 refine GS.region (X.q rfl (X.q rfl (X.q rfl ?_)))
 refine X.call (ok_ref09_fresh h_5) rfl rfl rfl (.cons (.shut (n:=9) rfl) (.cons (.shut (n:=9) rfl) .nil)) (X.q rfl (GS.opsNil (GS.seq (X.sq (X.q rfl (X.q rfl ?_))))))
 refine GS.opsNil ?_
 refine X.cond rfl (fun h_6=>?_) (fun h_6=>?_)
 ·replace hM:=ite_t h_6 hM
  refine X.sq (X.q rfl ?_)
  refine X.op0W rfl rfl rfl (X.q rfl (GS.opsNil ?_))
  cases hM
  exact GS.ret ⟨_,rfl,⟨30,rfl⟩⟩
 replace hM:=ite_f h_6 hM
 refine GS.skip (GS.seq ?_)
 obtain ⟨y1,h_7,hM⟩:=bind_of hM
 refine GS.region ?_
 iterate 5 refine X.q rfl ?_
 refine X.call (ok_ref09_Sit h_7) rfl rfl rfl (.cons (.shut (n:=9) rfl) (.cons (.shut (n:=9) rfl) (.cons (.shut (n:=9) rfl) .nil))) ?_
 refine X.opW (H':=[.rows 7 [(e_ref09_World w)],.rows 5 [(e_api_Act a)],.rows 7 [(V.agg [(V.i 0),V.nil,V.nil,V.nil,V.nil,V.nil,(V.i 0)])],.rows 11 [(V.agg [(V.i 0),(V.i 0),(V.i 0),(V.i 0),(V.i 0),(V.i 0),(V.i 0),(V.b false),(V.i 0),V.nil,(V.b false)])]]) rfl rfl rfl rfl ?_
 refine X.op0W (H':=[.rows 7 [(e_ref09_World w)],.rows 5 [(e_api_Act a)],.rows 7 [(V.agg [(V.i 0),V.nil,V.nil,V.nil,V.nil,V.nil,(V.i 0)])],.rows 11 [(e_ref09_Seat y1)]]) rfl rfl rfl (GS.opsNil (GS.seq (X.sq (X.q rfl (X.q rfl ?_)))))
 refine GS.opsNil ?_
 refine X.cond rfl (fun h_8=>?_) (fun h_8=>?_)
 ·replace hM:=ite_t h_8 hM
  refine X.sq (X.q rfl ?_)
  refine X.op0W (H':=[.rows 7 [(e_ref09_World w)],.rows 5 [(e_api_Act a)],.rows 7 [(e_ref09_World w)],.rows 11 [(e_ref09_Seat y1)]]) rfl rfl rfl (X.q rfl (GS.opsNil ?_))
  cases hM
  exact GS.ret ⟨_,rfl,⟨30,rfl⟩⟩
 replace hM:=ite_f h_8 hM
 refine GS.skip (GS.seq ?_)
 obtain ⟨y2,h_9,hM⟩:=bind_of hM
 refine GS.region (X.q rfl (X.q rfl (X.q rfl ?_)))
 refine X.call (ok_ref09_name h_9) rfl rfl rfl (.cons (.shut (n:=9) rfl) (.cons (.shut (n:=9) rfl) .nil)) ?_
 refine X.op0W (H':=[.rows 7 [(e_ref09_World y2)],.rows 5 [(e_api_Act a)],.rows 7 [(V.agg [(V.i 0),V.nil,V.nil,V.nil,V.nil,V.nil,(V.i 0)])],.rows 11 [(e_ref09_Seat y1)]]) rfl rfl rfl (X.nq (X.q rfl ?_))
 refine X.op0W (H':=[.rows 7 [(e_ref09_World y2)],.rows 5 [(e_api_Act a)],.rows 7 [(V.agg [(V.i 0),V.nil,V.nil,V.nil,V.nil,V.nil,(V.i 0)])],.rows 11 [(V.agg [(V.i y1.Arbiter),(V.i y1.Case),(V.i y1.Book.Promised),(V.i y1.Book.Voted),(V.i y1.Book.Finding),(V.i y1.Book.Opened),(V.i y1.Wish),(V.b true),(V.i y1.Round),(V.sl (List.map e_api_Letter y1.List)),(V.b y1.Proposed)])]]) rfl rfl rfl (X.nq ?_)
 iterate 3 refine X.q rfl ?_
 refine X.op0W (H':=[.rows 7 [(e_ref09_World y2)],.rows 5 [(e_api_Act a)],.rows 7 [(V.agg [(V.i 0),V.nil,V.nil,V.nil,V.nil,V.nil,(V.i 0)])],.rows 11 [(V.agg [(V.i y1.Arbiter),(V.i y1.Case),(V.i y1.Book.Promised),(V.i y1.Book.Voted),(V.i y1.Book.Finding),(V.i y1.Book.Opened),(V.i a.Finding),(V.b true),(V.i y1.Round),(V.sl (List.map e_api_Letter y1.List)),(V.b y1.Proposed)])]]) rfl rfl rfl (GS.opsNil (GS.seq ?_))
 obtain ⟨y3,h_10,hM⟩:=bind_of hM
 obtain ⟨y4,h_11,hM⟩:=bind_of hM
 refine X.draw (by kernel_rfl) ?_
 iterate 2 refine X.dop rfl rfl rfl rfl (by kernel_rfl) rfl rfl ?_
 refine X.dcall (ok_ref09_put h_10) rfl rfl rfl (by kernel_rfl) rfl (.cons (.shut (n:=9) rfl) (.cons (.shut (n:=9) rfl) .nil)) ?_
 refine X.dop rfl rfl rfl rfl (by kernel_rfl) rfl rfl ?_
 refine X.dcall (ok_ref09_propose h_11) rfl rfl rfl (by kernel_rfl) rfl (.cons (.shut (n:=9) rfl) (.cons (.shut (n:=9) rfl) .nil)) ?_
 refine X.dop0 rfl rfl rfl rfl (by kernel_rfl) rfl ?_
 refine X.dop rfl rfl rfl rfl (by kernel_rfl) rfl rfl ?_
 refine X.dnil ?_
 refine X.norm [(4,(V.ptr 2 0 0)),(5,(V.i 0))] ?_ rfl (sr rfl)
 cases hM
 exact GS.ret ⟨_,rfl,⟨30,rfl⟩⟩
theorem ok_ref09_Next {c:api_Court} {arbiter:Int} {round:Int} {r:Int×Int} (hM:ref09_Next c arbiter round=some r):Ct Tryz.prog 70 [(e_api_Court c),(V.i arbiter),(V.i round)] (V.tup [(V.i r.1),(V.i r.2)]):=by
 refine ct_of_gs CC_ok rfl ?_
 unfold ref09_Next at hM
 refine X.sq ?_
 refine X.opW rfl rfl rfl rfl (X.q rfl (X.q rfl ?_))
 refine X.nq (X.q rfl ?_)
 refine X.call (ok_ref09_Check c) rfl rfl rfl (.cons (.shut (n:=9) rfl) .nil) (X.q rfl (GS.opsNil (GS.seq (X.sq (X.q rfl (X.q rfl ?_))))))
 refine GS.opsNil ?_
 refine X.cond rfl (fun h_1=>?_) (fun h_1=>?_)
 ·replace hM:=ite_t h_1 hM
  refine X.sq (X.q rfl (X.q rfl (X.q rfl ?_)))
  refine GS.opsNil ?_
  cases hM
  exact GS.ret ⟨_,rfl,⟨30,rfl⟩⟩
 replace hM:=ite_f h_1 hM
 refine GS.skip (GS.seq (X.sq ?_))
 refine X.mid [(1,(V.i arbiter)),(2,(V.i round)),(3,(V.ptr 0 0 0)),(25,(V.b ((!(ref09_in arbiter 0 (w64 (c.Arbiters - 1))))||(!(ref09_in round 0 1048576)))))] ?_ ?_
 ·intro hg
  refine X.split (!(ref09_in arbiter 0 (w64 (c.Arbiters - 1)))) (fun h_2=>?_) (fun h_2=>?_)
  ·iterate 3 refine X.q rfl ?_
   refine X.opR rfl (X.subE rfl rfl) rfl ?_
   refine X.call (ok_ref09_in arbiter 0 (w64 (c.Arbiters - 1))) rfl rfl rfl (.cons (.shut (n:=9) rfl) (.cons (.shut (n:=9) rfl) (.cons (.shut (n:=9) rfl) .nil))) (X.q rfl (X.q rfl ?_))
   iterate 3 refine X.off (X.off_f rfl rfl rfl h_2) rfl ?_
   refine X.opR rfl (X.pickor_t (y := !(ref09_in round 0 1048576)) rfl h_2 rfl) rfl (GS.opsNil ?_)
   exact X.norm _ hg rfl (sr rfl)
  iterate 3 refine X.q rfl ?_
  refine X.opR rfl (X.subE rfl rfl) rfl ?_
  refine X.call (ok_ref09_in arbiter 0 (w64 (c.Arbiters - 1))) rfl rfl rfl (.cons (.shut (n:=9) rfl) (.cons (.shut (n:=9) rfl) (.cons (.shut (n:=9) rfl) .nil))) (X.q rfl (X.q rfl ?_))
  refine X.opR (X.on_f rfl rfl rfl h_2) rfl rfl ?_
  refine X.call (ok_ref09_in round 0 1048576) (X.on_f rfl rfl rfl h_2) rfl rfl (.cons (.shut (n:=9) rfl) (.cons (.shut (n:=9) rfl) (.cons (.shut (n:=9) rfl) .nil))) ?_
  refine X.opR (X.on_f rfl rfl rfl h_2) rfl rfl ?_
  refine X.opR rfl (X.pickor_f (y := !(ref09_in round 0 1048576)) rfl h_2 rfl) rfl (GS.opsNil ?_)
  exact X.norm _ hg rfl (sr rfl)
 refine X.cond rfl (fun h_3=>?_) (fun h_3=>?_)
 ·replace hM:=ite_t h_3 hM
  refine X.sq (X.q rfl (X.q rfl ?_))
  refine GS.opsNil ?_
  cases hM
  exact GS.ret ⟨_,rfl,⟨30,rfl⟩⟩
 replace hM:=ite_f h_3 hM
 refine GS.skip (X.sq (X.q rfl ?_))
 refine X.opR rfl (X.addE rfl rfl) rfl (X.q rfl (GS.opsNil (GS.seq ?_)))
 refine X.join (τ:=Int) (fun v=>ref09_Next_j1 v=some r) (fun v=>⟨[(9,(V.i v))],[],0,none,40⟩) ?_ ?_
 ·intro r_ hM
  replace hM:ref09_Next_j1 r_=some r:=hM
  unfold ref09_Next_j1 at hM
  refine GS.seq (X.sq (X.q rfl (X.q rfl ?_)))
  refine GS.opsNil ?_
  refine X.cond rfl (fun h_4=>?_) (fun h_4=>?_)
  ·replace hM:=ite_t h_4 hM
   refine X.sq (X.q rfl (X.q rfl ?_))
   refine GS.opsNil ?_
   cases hM
   exact GS.ret ⟨_,rfl,⟨30,rfl⟩⟩
  replace hM:=ite_f h_4 hM
  refine GS.skip (X.sq (X.q rfl (X.q rfl (X.q rfl ?_))))
  refine GS.opsNil ?_
  cases hM
  exact GS.ret ⟨_,rfl,⟨30,rfl⟩⟩
 intro hj_1
 refine GS.block ?_
 refine X.gc [some 0] (X.loop (σ:=Int) (fun v=>⟨[(1,(V.i arbiter)),(3,(V.ptr 0 0 0)),(9,(V.i v))],[.rows 1 [(e_api_Court c)]],0,none,40⟩) hM ?_ rfl) rfl rfl rfl (ga rfl rfl) (gb9 rfl rfl rfl gb_nil)
 intro r_1 b_1 hM hc_2 hr_1
 rw [ref09_Next_b2] at hM
 iterate 2 refine GS.seq ?_
 obtain ⟨q,h_5,hM⟩:=bind_of hM
 refine GS.region (X.q rfl ?_)
 refine X.opR rfl (X.subE rfl rfl) rfl (X.q rfl (X.q rfl ?_))
 refine X.opR rfl (X.remE h_5 rfl rfl) rfl (X.q rfl (X.q rfl ?_))
 refine GS.opsNil ?_
 refine X.cond rfl (fun h_6=>?_) (fun h_6=>?_)
 ·replace hM:=ite_t h_6 hM
  refine GS.skip (GS.block (GS.region (X.q rfl ?_)))
  refine X.opR rfl (X.addE rfl rfl) rfl (X.q rfl (GS.opsNil ?_))
  refine GS.endB ?_
  have hE:=Option.some.inj hM
  exact X.gc [some 0] (hc_2 (w64 (r_1+1)) hE.symm) rfl rfl rfl (ga rfl rfl) (gb9 rfl rfl rfl gb_nil)
 replace hM:=ite_f h_6 hM
 refine GS.exit rfl ?_
 obtain ⟨y_1,hM,hy⟩:=map_of hM
 rw [hr_1 _ hy.symm] at hM
 exact X.gc [] (hj_1 r_1 hM) rfl rfl rfl (ga rfl rfl) (gb_nil)
set_option maxHeartbeats 4000000 in
theorem ok_ref09_begin {w:ref09_World} {a:api_Act} {r:ref09_World×Int} (hM:ref09_begin w a=some r):Ct Tryz.prog 30 [(e_ref09_World w),(e_api_Act a)] (V.tup [(e_ref09_World r.1),(V.i r.2)]):=by
 refine ct_of_gs CC_ok rfl ?_
 unfold ref09_begin at hM
 refine X.sq ?_
 iterate 3 refine X.opW rfl rfl rfl rfl ?_
 refine X.q rfl (GS.opsNil (GS.seq (X.sq ?_)))
 refine X.mid [(2,(V.ptr 0 0 0)),(3,(V.ptr 1 0 0)),(4,(V.ptr 2 0 0)),(33,(V.b ((((!(ref09_in a.A 0 (w64 (w.C.Arbiters - 1))))||(!(ref09_in a.Case 1 1099511627776)))||(!decide (a.Finding=0)))||(!decide (a.N=0)))))] ?_ ?_
 ·intro hg
  refine X.split (!(ref09_in a.A 0 (w64 (w.C.Arbiters - 1)))) (fun h_1=>?_) (fun h_1=>?_)
  ·iterate 5 refine X.q rfl ?_
   refine X.opR rfl (X.subE rfl rfl) rfl ?_
   refine X.call (ok_ref09_in a.A 0 (w64 (w.C.Arbiters - 1))) rfl rfl rfl (.cons (.shut (n:=9) rfl) (.cons (.shut (n:=9) rfl) (.cons (.shut (n:=9) rfl) .nil))) (X.q rfl (X.q rfl ?_))
   iterate 4 refine X.off (X.off_f rfl rfl rfl h_1) rfl ?_
   refine X.opR rfl (X.pickor_t (y := !(ref09_in a.Case 1 1099511627776)) rfl h_1 rfl) rfl (X.q rfl ?_)
   iterate 3 refine X.off (X.off_f rfl rfl rfl (X.or_tt h_1)) rfl ?_
   refine X.opR rfl (X.pickor_t (y := !decide (a.Finding=0)) rfl (X.or_tt h_1) rfl) rfl (X.q rfl ?_)
   iterate 3 refine X.off (X.off_f rfl rfl rfl (X.or_tt (X.or_tt h_1))) rfl ?_
   refine X.opR rfl (X.pickor_t (y := !decide (a.N=0)) rfl (X.or_tt (X.or_tt h_1)) rfl) rfl (GS.opsNil ?_)
   exact X.norm _ hg rfl (sr rfl)
  refine X.split (((!(ref09_in a.A 0 (w64 (w.C.Arbiters - 1))))||(!(ref09_in a.Case 1 1099511627776)))) (fun h_2=>?_) (fun h_2=>?_)
  ·iterate 5 refine X.q rfl ?_
   refine X.opR rfl (X.subE rfl rfl) rfl ?_
   refine X.call (ok_ref09_in a.A 0 (w64 (w.C.Arbiters - 1))) rfl rfl rfl (.cons (.shut (n:=9) rfl) (.cons (.shut (n:=9) rfl) (.cons (.shut (n:=9) rfl) .nil))) (X.q rfl (X.q rfl ?_))
   iterate 2 refine X.opR (X.on_f rfl rfl rfl h_1) rfl rfl ?_
   refine X.call (ok_ref09_in a.Case 1 1099511627776) (X.on_f rfl rfl rfl h_1) rfl rfl (.cons (.shut (n:=9) rfl) (.cons (.shut (n:=9) rfl) (.cons (.shut (n:=9) rfl) .nil))) ?_
   refine X.opR (X.on_f rfl rfl rfl h_1) rfl rfl ?_
   refine X.opR rfl (X.pickor_f (y := !(ref09_in a.Case 1 1099511627776)) rfl h_1 rfl) rfl (X.q rfl ?_)
   iterate 3 refine X.off (X.off_f rfl rfl rfl h_2) rfl ?_
   refine X.opR rfl (X.pickor_t (y := !decide (a.Finding=0)) rfl h_2 rfl) rfl (X.q rfl ?_)
   iterate 3 refine X.off (X.off_f rfl rfl rfl (X.or_tt h_2)) rfl ?_
   refine X.opR rfl (X.pickor_t (y := !decide (a.N=0)) rfl (X.or_tt h_2) rfl) rfl (GS.opsNil ?_)
   exact X.norm _ hg rfl (sr rfl)
  refine X.split ((((!(ref09_in a.A 0 (w64 (w.C.Arbiters - 1))))||(!(ref09_in a.Case 1 1099511627776)))||(!decide (a.Finding=0)))) (fun h_3=>?_) (fun h_3=>?_)
  ·iterate 5 refine X.q rfl ?_
   refine X.opR rfl (X.subE rfl rfl) rfl ?_
   refine X.call (ok_ref09_in a.A 0 (w64 (w.C.Arbiters - 1))) rfl rfl rfl (.cons (.shut (n:=9) rfl) (.cons (.shut (n:=9) rfl) (.cons (.shut (n:=9) rfl) .nil))) (X.q rfl (X.q rfl ?_))
   iterate 2 refine X.opR (X.on_f rfl rfl rfl h_1) rfl rfl ?_
   refine X.call (ok_ref09_in a.Case 1 1099511627776) (X.on_f rfl rfl rfl h_1) rfl rfl (.cons (.shut (n:=9) rfl) (.cons (.shut (n:=9) rfl) (.cons (.shut (n:=9) rfl) .nil))) ?_
   refine X.opR (X.on_f rfl rfl rfl h_1) rfl rfl ?_
   refine X.opR rfl (X.pickor_f (y := !(ref09_in a.Case 1 1099511627776)) rfl h_1 rfl) rfl (X.q rfl ?_)
   iterate 3 refine X.opR (X.on_f rfl rfl rfl h_2) rfl rfl ?_
   refine X.opR rfl (X.pickor_f (y := !decide (a.Finding=0)) rfl h_2 rfl) rfl (X.q rfl ?_)
   iterate 3 refine X.off (X.off_f rfl rfl rfl h_3) rfl ?_
   refine X.opR rfl (X.pickor_t (y := !decide (a.N=0)) rfl h_3 rfl) rfl (GS.opsNil ?_)
   exact X.norm _ hg rfl (sr rfl)
  iterate 5 refine X.q rfl ?_
  refine X.opR rfl (X.subE rfl rfl) rfl ?_
  refine X.call (ok_ref09_in a.A 0 (w64 (w.C.Arbiters - 1))) rfl rfl rfl (.cons (.shut (n:=9) rfl) (.cons (.shut (n:=9) rfl) (.cons (.shut (n:=9) rfl) .nil))) (X.q rfl (X.q rfl ?_))
  iterate 2 refine X.opR (X.on_f rfl rfl rfl h_1) rfl rfl ?_
  refine X.call (ok_ref09_in a.Case 1 1099511627776) (X.on_f rfl rfl rfl h_1) rfl rfl (.cons (.shut (n:=9) rfl) (.cons (.shut (n:=9) rfl) (.cons (.shut (n:=9) rfl) .nil))) ?_
  refine X.opR (X.on_f rfl rfl rfl h_1) rfl rfl ?_
  refine X.opR rfl (X.pickor_f (y := !(ref09_in a.Case 1 1099511627776)) rfl h_1 rfl) rfl (X.q rfl ?_)
  iterate 3 refine X.opR (X.on_f rfl rfl rfl h_2) rfl rfl ?_
  refine X.opR rfl (X.pickor_f (y := !decide (a.Finding=0)) rfl h_2 rfl) rfl (X.q rfl ?_)
  iterate 3 refine X.opR (X.on_f rfl rfl rfl h_3) rfl rfl ?_
  refine X.opR rfl (X.pickor_f (y := !decide (a.N=0)) rfl h_3 rfl) rfl (GS.opsNil ?_)
  exact X.norm _ hg rfl (sr rfl)
 refine X.cond rfl (fun h_4=>?_) (fun h_4=>?_)
 ·replace hM:=ite_t h_4 hM
  refine X.sq (X.q rfl ?_)
  refine X.op0W rfl rfl rfl (X.q rfl (GS.opsNil ?_))
  cases hM
  exact GS.ret ⟨_,rfl,⟨30,rfl⟩⟩
 replace hM:=ite_f h_4 hM
 refine GS.skip (GS.seq ?_)
 obtain ⟨y,h_5,hM⟩:=bind_of hM
 refine GS.region (X.q rfl (X.q rfl (X.q rfl ?_)))
 refine X.call (ok_ref09_fresh h_5) rfl rfl rfl (.cons (.shut (n:=9) rfl) (.cons (.shut (n:=9) rfl) .nil)) (X.q rfl (GS.opsNil (GS.seq ?_)))
 obtain ⟨y1,h_6,hM⟩:=bind_of hM
 refine GS.region ?_
 iterate 5 refine X.q rfl ?_
 refine X.call (ok_ref09_Sit h_6) rfl rfl rfl (.cons (.shut (n:=9) rfl) (.cons (.shut (n:=9) rfl) (.cons (.shut (n:=9) rfl) .nil))) ?_
 refine X.opW (H':=[.rows 7 [(e_ref09_World w)],.rows 5 [(e_api_Act a)],.rows 7 [(V.agg [(V.i 0),V.nil,V.nil,V.nil,V.nil,V.nil,(V.i 0)])],.rows 11 [(V.agg [(V.i 0),(V.i 0),(V.i 0),(V.i 0),(V.i 0),(V.i 0),(V.i 0),(V.b false),(V.i 0),V.nil,(V.b false)])]]) rfl rfl rfl rfl ?_
 refine X.op0W (H':=[.rows 7 [(e_ref09_World w)],.rows 5 [(e_api_Act a)],.rows 7 [(V.agg [(V.i 0),V.nil,V.nil,V.nil,V.nil,V.nil,(V.i 0)])],.rows 11 [(e_ref09_Seat y1)]]) rfl rfl rfl (GS.opsNil (GS.seq ?_))
 obtain ⟨y2,h_7,hM⟩:=bind_of hM
 refine GS.region ?_
 iterate 10 refine X.q rfl ?_
 refine X.opR rfl (X.maxE rfl rfl) rfl ?_
 refine X.call (ok_ref09_Next h_7) rfl rfl rfl (.cons (.shut (n:=9) rfl) (.cons (.shut (n:=9) rfl) (.cons (.shut (n:=9) rfl) .nil))) ?_
 iterate 5 refine X.q rfl ?_
 refine GS.opsNil (GS.seq (X.sq ?_))
 refine X.mid [(2,(V.ptr 0 0 0)),(3,(V.ptr 1 0 0)),(4,(V.ptr 2 0 0)),(7,(V.ptr 3 0 0)),(8,(V.i y2.1)),(65,(V.b ((!y)||(!decide (y2.2=0)))))] ?_ ?_
 ·intro hg
  refine X.split (!y) (fun h_8=>?_) (fun h_8=>?_)
  ·iterate 3 refine X.q rfl ?_
   iterate 2 refine X.off (X.off_f rfl rfl rfl h_8) rfl ?_
   refine X.opR rfl (X.pickor_t (y := !decide (y2.2=0)) rfl h_8 rfl) rfl (GS.opsNil ?_)
   exact X.norm _ hg rfl (sr rfl)
  iterate 3 refine X.q rfl ?_
  iterate 2 refine X.opR (X.on_f rfl rfl rfl h_8) rfl rfl ?_
  refine X.opR rfl (X.pickor_f (y := !decide (y2.2=0)) rfl h_8 rfl) rfl (GS.opsNil ?_)
  exact X.norm _ hg rfl (sr rfl)
 refine X.cond rfl (fun h_9=>?_) (fun h_9=>?_)
 ·replace hM:=ite_t h_9 hM
  refine X.sq (X.q rfl ?_)
  refine X.op0W (H':=[.rows 7 [(e_ref09_World w)],.rows 5 [(e_api_Act a)],.rows 7 [(e_ref09_World w)],.rows 11 [(e_ref09_Seat y1)]]) rfl rfl rfl (X.q rfl (GS.opsNil ?_))
  cases hM
  exact GS.ret ⟨_,rfl,⟨30,rfl⟩⟩
 replace hM:=ite_f h_9 hM
 refine GS.skip (GS.seq ?_)
 obtain ⟨y3,h_10,hM⟩:=bind_of hM
 refine GS.region (X.q rfl (X.q rfl (X.q rfl ?_)))
 refine X.call (ok_ref09_name h_10) rfl rfl rfl (.cons (.shut (n:=9) rfl) (.cons (.shut (n:=9) rfl) .nil)) ?_
 refine X.op0W (H':=[.rows 7 [(e_ref09_World y3)],.rows 5 [(e_api_Act a)],.rows 7 [(V.agg [(V.i 0),V.nil,V.nil,V.nil,V.nil,V.nil,(V.i 0)])],.rows 11 [(e_ref09_Seat y1)]]) rfl rfl rfl (X.nq (X.q rfl (X.q rfl (X.q rfl ?_))))
 refine X.op0W (H':=[.rows 7 [(e_ref09_World y3)],.rows 5 [(e_api_Act a)],.rows 7 [(V.agg [(V.i 0),V.nil,V.nil,V.nil,V.nil,V.nil,(V.i 0)])],.rows 11 [(V.agg [(V.i y1.Arbiter),(V.i y1.Case),(V.i y1.Book.Promised),(V.i y1.Book.Voted),(V.i y1.Book.Finding),(V.i y2.1),(V.i y1.Wish),(V.b y1.Wishes),(V.i y1.Round),(V.sl (List.map e_api_Letter y1.List)),(V.b y1.Proposed)])]]) rfl rfl rfl (X.nq ?_)
 refine X.q rfl (X.q rfl ?_)
 refine X.op0W (H':=[.rows 7 [(e_ref09_World y3)],.rows 5 [(e_api_Act a)],.rows 7 [(V.agg [(V.i 0),V.nil,V.nil,V.nil,V.nil,V.nil,(V.i 0)])],.rows 11 [(V.agg [(V.i y1.Arbiter),(V.i y1.Case),(V.i y1.Book.Promised),(V.i y1.Book.Voted),(V.i y1.Book.Finding),(V.i y2.1),(V.i y1.Wish),(V.b y1.Wishes),(V.i y2.1),(V.sl (List.map e_api_Letter y1.List)),(V.b y1.Proposed)])]]) rfl rfl rfl (X.nq ?_)
 refine X.q rfl ?_
 refine X.op0W (H':=[.rows 7 [(e_ref09_World y3)],.rows 5 [(e_api_Act a)],.rows 7 [(V.agg [(V.i 0),V.nil,V.nil,V.nil,V.nil,V.nil,(V.i 0)])],.rows 11 [(V.agg [(V.i y1.Arbiter),(V.i y1.Case),(V.i y1.Book.Promised),(V.i y1.Book.Voted),(V.i y1.Book.Finding),(V.i y2.1),(V.i y1.Wish),(V.b y1.Wishes),(V.i y2.1),V.nil,(V.b y1.Proposed)])]]) rfl rfl rfl (X.nq (X.q rfl ?_))
 refine X.op0W (H':=[.rows 7 [(e_ref09_World y3)],.rows 5 [(e_api_Act a)],.rows 7 [(V.agg [(V.i 0),V.nil,V.nil,V.nil,V.nil,V.nil,(V.i 0)])],.rows 11 [(V.agg [(V.i y1.Arbiter),(V.i y1.Case),(V.i y1.Book.Promised),(V.i y1.Book.Voted),(V.i y1.Book.Finding),(V.i y2.1),(V.i y1.Wish),(V.b y1.Wishes),(V.i y2.1),V.nil,(V.b false)])]]) rfl rfl rfl (GS.opsNil (GS.seq ?_))
 obtain ⟨y4,h_11,hM⟩:=bind_of hM
 refine GS.region (X.q rfl (X.q rfl ?_))
 refine X.call (ok_ref09_put h_11) rfl rfl rfl (.cons (.shut (n:=9) rfl) (.cons (.nil (n:=9) rfl) .nil)) ?_
 refine X.op0W (H':=[.rows 7 [(e_ref09_World y4)],.rows 5 [(e_api_Act a)],.rows 7 [(V.agg [(V.i 0),V.nil,V.nil,V.nil,V.nil,V.nil,(V.i 0)])],.rows 11 [(V.agg [(V.i y1.Arbiter),(V.i y1.Case),(V.i y1.Book.Promised),(V.i y1.Book.Voted),(V.i y1.Book.Finding),(V.i y2.1),(V.i y1.Wish),(V.b y1.Wishes),(V.i y2.1),V.nil,(V.b false)])]]) rfl rfl rfl (GS.opsNil (GS.seq ?_))
 obtain ⟨y5,h_12,hM⟩:=bind_of hM
 refine GS.region ?_
 iterate 7 refine X.q rfl ?_
 refine X.call (ok_ref09_sendAll h_12) rfl rfl rfl (.cons (.shut (n:=9) rfl) (.cons (.shut (n:=9) rfl) .nil)) ?_
 refine X.op0W (H':=[.rows 7 [(e_ref09_World y4)],.rows 5 [(e_api_Act a)],.rows 7 [(e_ref09_World y5)],.rows 11 [(V.agg [(V.i y1.Arbiter),(V.i y1.Case),(V.i y1.Book.Promised),(V.i y1.Book.Voted),(V.i y1.Book.Finding),(V.i y2.1),(V.i y1.Wish),(V.b y1.Wishes),(V.i y2.1),V.nil,(V.b false)])]]) rfl rfl rfl (X.q rfl (GS.opsNil ?_))
 cases hM
 exact GS.ret ⟨_,rfl,⟨30,rfl⟩⟩
theorem ok_ref09_way {w:ref09_World} {id:Int} {r:Int} (hM:ref09_way w id=some r):Ct Tryz.prog 72 [(e_ref09_World w),(V.i id)] (V.i r):=by
 refine ct_of_gs CC_ok rfl ?_
 unfold ref09_way at hM
 refine X.sq ?_
 refine X.opW rfl rfl rfl rfl (X.q rfl (GS.opsNil (GS.seq (X.sq (X.q rfl (GS.opsNil ?_))))))
 refine X.join (τ:=Unit) (fun v=>ref09_way_j1=some r) (fun v=>⟨[],[],0,none,22⟩) ?_ ?_
 ·intro _ hM
  replace hM:ref09_way_j1=some r:=hM
  unfold ref09_way_j1 at hM
  refine X.sq (X.q rfl (GS.opsNil ?_))
  cases hM
  exact GS.ret ⟨_,rfl,⟨30,rfl⟩⟩
 intro hj_1
 refine GS.block ?_
 refine X.gc [some 0] (X.loop (σ:=Int) (fun v=>⟨[(1,(V.i id)),(2,(V.ptr 0 0 0)),(5,(V.i v))],[.rows 7 [(e_ref09_World w)]],0,none,22⟩) hM ?_ rfl) rfl rfl rfl (ga rfl rfl) (gb9 rfl rfl rfl gb_nil)
 intro i b_1 hM hc_2 hr_1
 rw [ref09_way_b2] at hM
 refine GS.seq (X.sq (X.q rfl (X.q rfl (X.q rfl ?_))))
 refine X.opR rfl (X.lenF rfl rfl rfl) rfl (X.q rfl (GS.opsNil ?_))
 refine X.cond rfl (fun h_1=>?_) (fun h_1=>?_)
 ·replace hM:=ite_t h_1 hM
  refine GS.skip (GS.seq (GS.block (GS.seq ?_)))
  obtain ⟨x,h_2,hM⟩:=bind_of hM
  refine GS.region (X.q rfl (X.q rfl (X.q rfl ?_)))
  refine X.opR rfl (X.indexF (f:=e_api_Letter) h_2 (fun _=>rfl) rfl rfl rfl rfl) rfl (X.q rfl ?_)
  refine X.opR rfl (X.loadF h_2 rfl rfl rfl) rfl (X.q rfl (X.q rfl ?_))
  refine GS.opsNil ?_
  refine X.cond rfl (fun h_3=>?_) (fun h_3=>?_)
  ·replace hM:=ite_t h_3 hM
   refine X.sq (X.q rfl (X.q rfl ?_))
   refine GS.opsNil ?_
   have hE:=Option.some.inj hM
   replace hE:=hr_1 _ hE.symm
   subst hE
   exact GS.ret ⟨_,rfl,⟨30,rfl⟩⟩
  replace hM:=ite_f h_3 hM
  refine GS.skip ?_
  refine GS.endB (GS.region (X.q rfl ?_))
  refine X.opR rfl (X.addE rfl rfl) rfl (X.q rfl (GS.opsNil ?_))
  have hE:=Option.some.inj hM
  exact X.gc [some 0] (hc_2 (w64 (i+1)) hE.symm) rfl rfl rfl (ga rfl rfl) (gb9 rfl rfl rfl gb_nil)
 replace hM:=ite_f h_1 hM
 refine GS.exit rfl ?_
 obtain ⟨y_1,hM,hy⟩:=map_of hM
 rw [hr_1 _ hy.symm] at hM
 exact X.gc [] (hj_1 () hM) rfl rfl rfl (gk_nil) (gb_nil)
set_option maxHeartbeats 4000000 in
theorem ok_ref09_read {w:ref09_World} {l:api_Letter} {r:ref09_World} (hM:ref09_read w l=some r):Ct Tryz.prog 74 [(e_ref09_World w),(e_api_Letter l)] (e_ref09_World r):=by
 refine ct_of_gs CC_ok rfl ?_
 unfold ref09_read at hM
 refine X.sq ?_
 iterate 3 refine X.opW rfl rfl rfl rfl ?_
 refine GS.opsNil (GS.seq ?_)
 obtain ⟨y,h_1,hM⟩:=bind_of hM
 refine GS.region ?_
 iterate 5 refine X.q rfl ?_
 refine X.call (ok_ref09_Sit h_1) rfl rfl rfl (.cons (.shut (n:=9) rfl) (.cons (.shut (n:=9) rfl) (.cons (.shut (n:=9) rfl) .nil))) ?_
 refine X.opW (H':=[.rows 7 [(e_ref09_World w)],.rows 8 [(e_api_Letter l)],.rows 7 [(V.agg [(V.i 0),V.nil,V.nil,V.nil,V.nil,V.nil,(V.i 0)])],.rows 11 [(V.agg [(V.i 0),(V.i 0),(V.i 0),(V.i 0),(V.i 0),(V.i 0),(V.i 0),(V.b false),(V.i 0),V.nil,(V.b false)])]]) rfl rfl rfl rfl ?_
 refine X.op0W (H':=[.rows 7 [(e_ref09_World w)],.rows 8 [(e_api_Letter l)],.rows 7 [(V.agg [(V.i 0),V.nil,V.nil,V.nil,V.nil,V.nil,(V.i 0)])],.rows 11 [(e_ref09_Seat y)]]) rfl rfl rfl (GS.opsNil (GS.seq (X.sq (X.q rfl (X.q rfl (X.q rfl ?_))))))
 refine GS.opsNil ?_
 refine X.cond rfl (fun h_2=>?_) (fun h_2=>?_)
 ·replace hM:=ite_t h_2 hM
  refine GS.seq (X.sq ?_)
  refine X.mid [(2,(V.ptr 0 0 0)),(3,(V.ptr 1 0 0)),(4,(V.ptr 2 0 0)),(5,(V.ptr 3 0 0)),(31,(V.b ((decide (l.Round<y.Book.Promised))||(decide (l.Round≤y.Book.Voted)))))] ?_ ?_
  ·intro hg
   refine X.split (decide (l.Round<y.Book.Promised)) (fun h_3=>?_) (fun h_3=>?_)
   ·iterate 7 refine X.q rfl ?_
    iterate 6 refine X.off (X.off_f rfl rfl rfl h_3) rfl ?_
    refine X.opR rfl (X.pickor_t (y:=decide (l.Round≤y.Book.Voted)) rfl h_3 rfl) rfl (GS.opsNil ?_)
    exact X.norm _ hg rfl (sr rfl)
   iterate 7 refine X.q rfl ?_
   iterate 6 refine X.opR (X.on_f rfl rfl rfl h_3) rfl rfl ?_
   refine X.opR rfl (X.pickor_f (y:=decide (l.Round≤y.Book.Voted)) rfl h_3 rfl) rfl (GS.opsNil ?_)
   exact X.norm _ hg rfl (sr rfl)
  refine X.cond rfl (fun h_4=>?_) (fun h_4=>?_)
  ·replace hM:=ite_t h_4 hM
   refine X.sq (X.q rfl ?_)
   refine X.op0W (H':=[.rows 7 [(e_ref09_World w)],.rows 8 [(e_api_Letter l)],.rows 7 [(e_ref09_World w)],.rows 11 [(e_ref09_Seat y)]]) rfl rfl rfl (GS.opsNil ?_)
   cases hM
   exact GS.ret ⟨_,rfl,⟨30,rfl⟩⟩
  replace hM:=ite_f h_4 hM
  refine GS.skip (X.sq ?_)
  iterate 4 refine X.q rfl ?_
  refine X.op0W (H':=[.rows 7 [(e_ref09_World w)],.rows 8 [(e_api_Letter l)],.rows 7 [(V.agg [(V.i 0),V.nil,V.nil,V.nil,V.nil,V.nil,(V.i 0)])],.rows 11 [(V.agg [(V.i y.Arbiter),(V.i y.Case),(V.i l.Round),(V.i y.Book.Voted),(V.i y.Book.Finding),(V.i y.Book.Opened),(V.i y.Wish),(V.b y.Wishes),(V.i y.Round),(V.sl (List.map e_api_Letter y.List)),(V.b y.Proposed)])]]) rfl rfl rfl (GS.opsNil (GS.seq ?_))
  obtain ⟨y1,h_5,hM⟩:=bind_of hM
  obtain ⟨y2,h_6,hM⟩:=bind_of hM
  refine X.draw (by kernel_rfl) ?_
  iterate 2 refine X.dop rfl rfl rfl rfl (by kernel_rfl) rfl rfl ?_
  refine X.dcall (ok_ref09_put h_5) rfl rfl rfl (by kernel_rfl) rfl (.cons (.shut (n:=9) rfl) (.cons (.shut (n:=9) rfl) .nil)) ?_
  iterate 15 refine X.dop rfl rfl rfl rfl (by kernel_rfl) rfl rfl ?_
  refine X.dcall (ok_ref09_send h_6) rfl rfl rfl (by kernel_rfl) rfl (.cons (.shut (n:=9) rfl) (.cons (.shut (n:=9) rfl) .nil)) ?_
  refine X.dop0 rfl rfl rfl rfl (by kernel_rfl) rfl ?_
  refine X.dnil ?_
  refine X.norm [(4,(V.ptr 2 0 0))] ?_ rfl (sr rfl)
  cases hM
  exact GS.ret ⟨_,rfl,⟨30,rfl⟩⟩
 replace hM:=ite_f h_2 hM
 refine GS.skip (GS.seq (X.sq (X.q rfl (X.q rfl (X.q rfl ?_)))))
 refine GS.opsNil ?_
 refine X.cond rfl (fun h_7=>?_) (fun h_7=>?_)
 ·replace hM:=ite_t h_7 hM
  refine GS.seq (X.sq ?_)
  iterate 5 refine X.q rfl ?_
  refine GS.opsNil ?_
  refine X.cond rfl (fun h_8=>?_) (fun h_8=>?_)
  ·replace hM:=ite_t h_8 hM
   refine X.sq (X.q rfl ?_)
   refine X.op0W (H':=[.rows 7 [(e_ref09_World w)],.rows 8 [(e_api_Letter l)],.rows 7 [(e_ref09_World w)],.rows 11 [(e_ref09_Seat y)]]) rfl rfl rfl (GS.opsNil ?_)
   cases hM
   exact GS.ret ⟨_,rfl,⟨30,rfl⟩⟩
  replace hM:=ite_f h_8 hM
  refine GS.skip (GS.seq (X.sq (X.q rfl (GS.opsNil ?_))))
  refine X.join (τ:=Unit) (fun v=>ref09_read_j1 w l y=some r) (fun v=>⟨[(2,(V.ptr 0 0 0)),(3,(V.ptr 1 0 0)),(4,(V.ptr 2 0 0)),(5,(V.ptr 3 0 0))],[.rows 7 [(e_ref09_World w)],.rows 8 [(e_api_Letter l)],.rows 7 [(V.agg [(V.i 0),V.nil,V.nil,V.nil,V.nil,V.nil,(V.i 0)])],.rows 11 [(e_ref09_Seat y)]],0,none,141⟩) ?_ ?_
  ·intro _ hM
   replace hM:ref09_read_j1 w l y=some r:=hM
   unfold ref09_read_j1 at hM
   refine X.sq (X.q rfl (GS.opsNil (GS.seq ?_)))
   obtain ⟨l1,h_9,hM⟩:=bind_of hM
   refine GS.region (X.q rfl (X.q rfl (X.q rfl ?_)))
   refine X.appNilS (f:=e_api_Letter) (m:=4) (by rfl) h_9 (fun _=>rfl) (by rfl) (by rfl) (by rfl) (by rfl) (by rfl) (by rfl) (by rfl) (by rfl) (by exact rfl) (by rfl) (by rfl) (X.q rfl (GS.opsNil (GS.seq ?_)))
   obtain ⟨l2,h_10,hM⟩:=bind_of hM
   refine GS.region (X.q rfl (X.q rfl ?_))
   refine X.opW (H':=[.rows 7 [(e_ref09_World w)],.rows 8 [(e_api_Letter l)],.rows 7 [(V.agg [(V.i 0),V.nil,V.nil,V.nil,V.nil,V.nil,(V.i 0)])],.rows 11 [(e_ref09_Seat y)],obl 8 e_api_Letter l1,.rows 8 (List.map e_api_Letter ([l]))]) rfl rfl rfl rfl ?_
   refine X.appN (f:=e_api_Letter) h_10 (fun _=>rfl) (by rfl) (by rfl) (by rfl) (by rfl) (by rfl) (by rfl) (by rfl) (by rfl) (by rfl) (by rfl) (by rfl) (by exact rfl) (by rfl) (by rfl) (X.q rfl ?_)
   refine X.op0W (H':=[.rows 7 [(e_ref09_World w)],.rows 8 [(e_api_Letter l)],.rows 7 [(V.agg [(V.i 0),V.nil,V.nil,V.nil,V.nil,V.nil,(V.i 0)])],.rows 11 [(V.agg [(V.i y.Arbiter),(V.i y.Case),(V.i y.Book.Promised),(V.i y.Book.Voted),(V.i y.Book.Finding),(V.i y.Book.Opened),(V.i y.Wish),(V.b y.Wishes),(V.i y.Round),(V.osl 6 0 (List.length l2)),(V.b y.Proposed)])],.dead,.rows 8 (List.map e_api_Letter ([l])),.rows 8 (List.map e_api_Letter l2)]) rfl rfl rfl (GS.opsNil (GS.seq ?_))
   refine X.freezeBox (z:=false) (f:=e_api_Letter) (l:=l2) (es:=8) (H':=[.rows 7 [(e_ref09_World w)],.rows 8 [(e_api_Letter l)],.rows 7 [(V.agg [(V.i 0),V.nil,V.nil,V.nil,V.nil,V.nil,(V.i 0)])],.rows 11 [(V.agg [(V.i y.Arbiter),(V.i y.Case),(V.i y.Book.Promised),(V.i y.Book.Voted),(V.i y.Book.Finding),(V.i y.Book.Opened),(V.i y.Wish),(V.b y.Wishes),(V.i y.Round),(V.sl (List.map e_api_Letter l2)),(V.b y.Proposed)])],.dead,.rows 8 (List.map e_api_Letter ([l])),.dead]) (c:=fun x=>V.agg ([(V.i y.Arbiter),(V.i y.Case),(V.i y.Book.Promised),(V.i y.Book.Voted),(V.i y.Book.Finding),(V.i y.Book.Opened),(V.i y.Wish),(V.b y.Wishes),(V.i y.Round)]++x :: [(V.b y.Proposed)])) 3 (ctx_agg _ _) rfl rfl rfl rfl rfl rfl (fun _=>rfl) rfl ?_
   obtain ⟨y4,h_12,hM⟩:=bind_of hM
   obtain ⟨y5,h_13,hM⟩:=bind_of hM
   refine X.draw (by kernel_rfl) ?_
   iterate 2 refine X.dop rfl rfl rfl rfl (by kernel_rfl) rfl rfl ?_
   refine X.dcall (ok_ref09_put h_12) rfl rfl rfl (by kernel_rfl) rfl (.cons (.shut (n:=9) rfl) (.cons (.shut (n:=9) rfl) .nil)) ?_
   refine X.dop rfl rfl rfl rfl (by kernel_rfl) rfl rfl ?_
   refine X.dcall (ok_ref09_propose h_13) rfl rfl rfl (by kernel_rfl) rfl (.cons (.shut (n:=9) rfl) (.cons (.shut (n:=9) rfl) .nil)) ?_
   refine X.dop0 rfl rfl rfl rfl (by kernel_rfl) rfl ?_
   refine X.dnil ?_
   refine X.norm [(4,(V.ptr 2 0 0))] ?_ rfl (sr rfl)
   cases hM
   exact GS.ret ⟨_,rfl,⟨30,rfl⟩⟩
  intro hj_1
  refine GS.block ?_
  refine X.gc [some 0,some 1,some 2,some 3] (X.loop (σ:=Int) (fun v=>⟨[(2,(V.ptr 0 0 0)),(3,(V.ptr 1 0 0)),(4,(V.ptr 2 0 0)),(5,(V.ptr 3 0 0)),(6,(V.i v))],[.rows 7 [(e_ref09_World w)],.rows 8 [(e_api_Letter l)],.rows 7 [(V.agg [(V.i 0),V.nil,V.nil,V.nil,V.nil,V.nil,(V.i 0)])],.rows 11 [(e_ref09_Seat y)]],0,none,141⟩) hM ?_ rfl) rfl rfl rfl (ga rfl rfl) (gb9 rfl rfl rfl (gb9 rfl rfl rfl (gb9 rfl rfl rfl (gb9 rfl rfl rfl gb_nil))))
  intro i b_1 hM hc_2 hr_1
  rw [ref09_read_b2] at hM
  refine GS.seq (X.sq (X.q rfl (X.q rfl (X.q rfl ?_))))
  refine X.opR rfl (X.lenF rfl rfl rfl) rfl (X.q rfl (GS.opsNil ?_))
  refine X.cond rfl (fun h_14=>?_) (fun h_14=>?_)
  ·replace hM:=ite_t h_14 hM
   refine GS.skip (GS.seq (GS.block (GS.seq ?_)))
   obtain ⟨x,h_15,hM⟩:=bind_of hM
   refine X.drawc (by kernel_rfl) rfl ?_
   iterate 3 refine X.cop rfl rfl rfl rfl ?_
   refine X.cop rfl (X.indexF (f:=e_api_Letter) h_15 (fun _=>rfl) rfl rfl rfl rfl) rfl rfl ?_
   refine X.cop rfl rfl rfl rfl ?_
   refine X.cop rfl (X.loadF h_15 rfl rfl rfl) rfl rfl ?_
   iterate 3 refine X.cop rfl rfl rfl rfl ?_
   refine X.cnil ?_
   refine X.norm [(2,(V.ptr 0 0 0)),(3,(V.ptr 1 0 0)),(4,(V.ptr 2 0 0)),(5,(V.ptr 3 0 0)),(6,(V.i i)),(80,(V.b (decide (x.From=l.From))))] ?_ rfl (sr rfl)
   refine X.cond rfl (fun h_16=>?_) (fun h_16=>?_)
   ·replace hM:=ite_t h_16 hM
    refine X.sq (X.q rfl ?_)
    refine X.op0W (H':=[.rows 7 [(e_ref09_World w)],.rows 8 [(e_api_Letter l)],.rows 7 [(e_ref09_World w)],.rows 11 [(e_ref09_Seat y)]]) rfl rfl rfl (GS.opsNil ?_)
    have hE:=Option.some.inj hM
    replace hE:=hr_1 _ hE.symm
    subst hE
    exact GS.ret ⟨_,rfl,⟨30,rfl⟩⟩
   replace hM:=ite_f h_16 hM
   refine GS.skip ?_
   refine GS.endB (GS.region (X.q rfl ?_))
   refine X.opR rfl (X.addE rfl rfl) rfl (X.q rfl (GS.opsNil ?_))
   have hE:=Option.some.inj hM
   exact X.gc [some 0,some 1,some 2,some 3] (hc_2 (w64 (i+1)) hE.symm) rfl rfl rfl (ga rfl rfl) (gb9 rfl rfl rfl (gb9 rfl rfl rfl (gb9 rfl rfl rfl (gb9 rfl rfl rfl gb_nil))))
  replace hM:=ite_f h_14 hM
  refine GS.exit rfl ?_
  obtain ⟨y_1,hM,hy⟩:=map_of hM
  rw [hr_1 _ hy.symm] at hM
  exact X.gc [some 0,some 1,some 2,some 3] (hj_1 () hM) rfl rfl rfl (ga rfl rfl) (gb9 rfl rfl rfl (gb9 rfl rfl rfl (gb9 rfl rfl rfl (gb9 rfl rfl rfl gb_nil))))
 replace hM:=ite_f h_7 hM
 refine GS.skip (GS.seq (X.sq (X.q rfl (X.q rfl (X.q rfl ?_)))))
 refine GS.opsNil ?_
 refine X.cond rfl (fun h_17=>?_) (fun h_17=>?_)
 ·replace hM:=ite_t h_17 hM
  refine GS.seq (X.sq ?_)
  iterate 6 refine X.q rfl ?_
  refine GS.opsNil ?_
  refine X.cond rfl (fun h_18=>?_) (fun h_18=>?_)
  ·replace hM:=ite_t h_18 hM
   refine X.sq (X.q rfl ?_)
   refine X.op0W (H':=[.rows 7 [(e_ref09_World w)],.rows 8 [(e_api_Letter l)],.rows 7 [(e_ref09_World w)],.rows 11 [(e_ref09_Seat y)]]) rfl rfl rfl (GS.opsNil ?_)
   cases hM
   exact GS.ret ⟨_,rfl,⟨30,rfl⟩⟩
  replace hM:=ite_f h_18 hM
  refine GS.skip (X.sq ?_)
  iterate 4 refine X.q rfl ?_
  refine X.op0W (H':=[.rows 7 [(e_ref09_World w)],.rows 8 [(e_api_Letter l)],.rows 7 [(V.agg [(V.i 0),V.nil,V.nil,V.nil,V.nil,V.nil,(V.i 0)])],.rows 11 [(V.agg [(V.i y.Arbiter),(V.i y.Case),(V.i l.Round),(V.i y.Book.Voted),(V.i y.Book.Finding),(V.i y.Book.Opened),(V.i y.Wish),(V.b y.Wishes),(V.i y.Round),(V.sl (List.map e_api_Letter y.List)),(V.b y.Proposed)])]]) rfl rfl rfl (X.nq ?_)
  iterate 4 refine X.q rfl ?_
  refine X.op0W (H':=[.rows 7 [(e_ref09_World w)],.rows 8 [(e_api_Letter l)],.rows 7 [(V.agg [(V.i 0),V.nil,V.nil,V.nil,V.nil,V.nil,(V.i 0)])],.rows 11 [(V.agg [(V.i y.Arbiter),(V.i y.Case),(V.i l.Round),(V.i l.Round),(V.i y.Book.Finding),(V.i y.Book.Opened),(V.i y.Wish),(V.b y.Wishes),(V.i y.Round),(V.sl (List.map e_api_Letter y.List)),(V.b y.Proposed)])]]) rfl rfl rfl (X.nq ?_)
  iterate 4 refine X.q rfl ?_
  refine X.op0W (H':=[.rows 7 [(e_ref09_World w)],.rows 8 [(e_api_Letter l)],.rows 7 [(V.agg [(V.i 0),V.nil,V.nil,V.nil,V.nil,V.nil,(V.i 0)])],.rows 11 [(V.agg [(V.i y.Arbiter),(V.i y.Case),(V.i l.Round),(V.i l.Round),(V.i l.Finding),(V.i y.Book.Opened),(V.i y.Wish),(V.b y.Wishes),(V.i y.Round),(V.sl (List.map e_api_Letter y.List)),(V.b y.Proposed)])]]) rfl rfl rfl (GS.opsNil (GS.seq ?_))
  obtain ⟨y6,h_19,hM⟩:=bind_of hM
  obtain ⟨y7,h_20,hM⟩:=bind_of hM
  refine X.draw (by kernel_rfl) ?_
  iterate 2 refine X.dop rfl rfl rfl rfl (by kernel_rfl) rfl rfl ?_
  refine X.dcall (ok_ref09_put h_19) rfl rfl rfl (by kernel_rfl) rfl (.cons (.shut (n:=9) rfl) (.cons (.shut (n:=9) rfl) .nil)) ?_
  iterate 9 refine X.dop rfl rfl rfl rfl (by kernel_rfl) rfl rfl ?_
  refine X.dcall (ok_ref09_sendAll h_20) rfl rfl rfl (by kernel_rfl) rfl (.cons (.shut (n:=9) rfl) (.cons (.shut (n:=9) rfl) .nil)) ?_
  refine X.dop0 rfl rfl rfl rfl (by kernel_rfl) rfl ?_
  refine X.dnil ?_
  refine X.norm [(4,(V.ptr 2 0 0))] ?_ rfl (sr rfl)
  cases hM
  exact GS.ret ⟨_,rfl,⟨30,rfl⟩⟩
 replace hM:=ite_f h_17 hM
 refine GS.skip (X.sq (X.q rfl (GS.opsNil (GS.seq ?_))))
 obtain ⟨l3,h_21,hM⟩:=bind_of hM
 refine GS.region (X.q rfl (X.q rfl (X.q rfl ?_)))
 refine X.appNilS (f:=e_api_Letter) (m:=4) (by rfl) h_21 (fun _=>rfl) (by rfl) (by rfl) (by rfl) (by rfl) (by rfl) (by rfl) (by rfl) (by rfl) (by exact rfl) (by rfl) (by rfl) (X.q rfl (GS.opsNil (GS.seq ?_)))
 obtain ⟨l4,h_22,hM⟩:=bind_of hM
 refine GS.region (X.q rfl (X.q rfl ?_))
 refine X.opW (H':=[.rows 7 [(e_ref09_World w)],.rows 8 [(e_api_Letter l)],.rows 7 [(V.agg [(V.i 0),V.nil,V.nil,V.nil,V.nil,V.nil,(V.i 0)])],.rows 11 [(e_ref09_Seat y)],obl 8 e_api_Letter l3,.rows 8 (List.map e_api_Letter ([l]))]) rfl rfl rfl rfl ?_
 refine X.appN (f:=e_api_Letter) h_22 (fun _=>rfl) (by rfl) (by rfl) (by rfl) (by rfl) (by rfl) (by rfl) (by rfl) (by rfl) (by rfl) (by rfl) (by rfl) (by exact rfl) (by rfl) (by rfl) (X.q rfl ?_)
 refine X.op0W (H':=[.rows 7 [(V.agg [(V.i w.C.Arbiters),(V.sl (List.map V.i w.Named)),(V.sl (List.map e_ref09_Seat w.Seats)),(V.osl 6 0 (List.length l4)),(V.sl (List.map e_api_Letter w.Way)),(V.sl (List.map e_api_Letter w.All)),(V.i w.Number)])],.rows 8 [(e_api_Letter l)],.rows 7 [(V.agg [(V.i 0),V.nil,V.nil,V.nil,V.nil,V.nil,(V.i 0)])],.rows 11 [(e_ref09_Seat y)],.dead,.rows 8 (List.map e_api_Letter ([l])),.rows 8 (List.map e_api_Letter l4)]) rfl rfl rfl (X.nq ?_)
 refine X.q rfl ?_
 refine X.op0W (H':=[.rows 7 [(V.agg [(V.i w.C.Arbiters),(V.sl (List.map V.i w.Named)),(V.sl (List.map e_ref09_Seat w.Seats)),(V.osl 6 0 (List.length l4)),(V.sl (List.map e_api_Letter w.Way)),(V.sl (List.map e_api_Letter w.All)),(V.i w.Number)])],.rows 8 [(e_api_Letter l)],.rows 7 [(V.agg [(V.i w.C.Arbiters),(V.sl (List.map V.i w.Named)),(V.sl (List.map e_ref09_Seat w.Seats)),(V.osl 6 0 (List.length l4)),(V.sl (List.map e_api_Letter w.Way)),(V.sl (List.map e_api_Letter w.All)),(V.i w.Number)])],.rows 11 [(e_ref09_Seat y)],.dead,.rows 8 (List.map e_api_Letter ([l])),.rows 8 (List.map e_api_Letter l4)]) rfl rfl rfl (GS.opsNil ?_)
 have hE:=Option.some.inj hM
 subst hE
 exact GS.ret ⟨_,rfl,FR.agg (.cons ⟨30,rfl⟩ (.cons ⟨30,rfl⟩ (.cons ⟨30,rfl⟩ (.cons (FR.osl (f:=e_api_Letter) (l:=l4) 9 rfl rfl (fun _=>rfl)) (.cons ⟨30,rfl⟩ (.cons ⟨30,rfl⟩ (.cons ⟨30,rfl⟩ .nil)))))))⟩
set_option maxHeartbeats 4000000 in
theorem ok_ref09_post {w:ref09_World} {a:api_Act} {r:ref09_World×Int} (hM:ref09_post w a=some r):Ct Tryz.prog 31 [(e_ref09_World w),(e_api_Act a)] (V.tup [(e_ref09_World r.1),(V.i r.2)]):=by
 refine ct_of_gs CC_ok rfl ?_
 unfold ref09_post at hM
 refine X.sq ?_
 iterate 3 refine X.opW rfl rfl rfl rfl ?_
 refine X.q rfl (GS.opsNil (GS.seq (X.sq ?_)))
 refine X.mid [(2,(V.ptr 0 0 0)),(3,(V.ptr 1 0 0)),(4,(V.ptr 2 0 0)),(21,(V.b (((!decide (a.A=0))||(!decide (a.Case=0)))||(!decide (a.Finding=0)))))] ?_ ?_
 ·intro hg
  refine X.split (!decide (a.A=0)) (fun h_1=>?_) (fun h_1=>?_)
  ·iterate 4 refine X.q rfl ?_
   iterate 3 refine X.off (X.off_f rfl rfl rfl h_1) rfl ?_
   refine X.opR rfl (X.pickor_t (y := !decide (a.Case=0)) rfl h_1 rfl) rfl (X.q rfl ?_)
   iterate 3 refine X.off (X.off_f rfl rfl rfl (X.or_tt h_1)) rfl ?_
   refine X.opR rfl (X.pickor_t (y := !decide (a.Finding=0)) rfl (X.or_tt h_1) rfl) rfl (GS.opsNil ?_)
   exact X.norm _ hg rfl (sr rfl)
  refine X.split (((!decide (a.A=0))||(!decide (a.Case=0)))) (fun h_2=>?_) (fun h_2=>?_)
  ·iterate 4 refine X.q rfl ?_
   iterate 3 refine X.opR (X.on_f rfl rfl rfl h_1) rfl rfl ?_
   refine X.opR rfl (X.pickor_f (y := !decide (a.Case=0)) rfl h_1 rfl) rfl (X.q rfl ?_)
   iterate 3 refine X.off (X.off_f rfl rfl rfl h_2) rfl ?_
   refine X.opR rfl (X.pickor_t (y := !decide (a.Finding=0)) rfl h_2 rfl) rfl (GS.opsNil ?_)
   exact X.norm _ hg rfl (sr rfl)
  iterate 4 refine X.q rfl ?_
  iterate 3 refine X.opR (X.on_f rfl rfl rfl h_1) rfl rfl ?_
  refine X.opR rfl (X.pickor_f (y := !decide (a.Case=0)) rfl h_1 rfl) rfl (X.q rfl ?_)
  iterate 3 refine X.opR (X.on_f rfl rfl rfl h_2) rfl rfl ?_
  refine X.opR rfl (X.pickor_f (y := !decide (a.Finding=0)) rfl h_2 rfl) rfl (GS.opsNil ?_)
  exact X.norm _ hg rfl (sr rfl)
 refine X.cond rfl (fun h_3=>?_) (fun h_3=>?_)
 ·replace hM:=ite_t h_3 hM
  refine X.sq (X.q rfl ?_)
  refine X.op0W rfl rfl rfl (X.q rfl (GS.opsNil ?_))
  cases hM
  exact GS.ret ⟨_,rfl,⟨30,rfl⟩⟩
 replace hM:=ite_f h_3 hM
 refine GS.skip (GS.seq ?_)
 obtain ⟨y,h_4,hM⟩:=bind_of hM
 refine GS.region (X.q rfl (X.q rfl (X.q rfl ?_)))
 refine X.call (ok_ref09_way h_4) rfl rfl rfl (.cons (.shut (n:=9) rfl) (.cons (.shut (n:=9) rfl) .nil)) (X.q rfl (GS.opsNil (GS.seq (X.sq (X.q rfl (X.q rfl ?_))))))
 refine GS.opsNil ?_
 refine X.cond rfl (fun h_5=>?_) (fun h_5=>?_)
 ·replace hM:=ite_t h_5 hM
  refine X.sq (X.q rfl ?_)
  refine X.op0W rfl rfl rfl (X.q rfl (GS.opsNil ?_))
  cases hM
  exact GS.ret ⟨_,rfl,⟨30,rfl⟩⟩
 replace hM:=ite_f h_5 hM
 refine GS.skip (GS.seq ?_)
 obtain ⟨x,h_6,hM⟩:=bind_of hM
 refine GS.region (X.q rfl (X.q rfl (X.q rfl ?_)))
 refine X.opR rfl (X.indexF (f:=e_api_Letter) h_6 (fun _=>rfl) rfl rfl rfl rfl) rfl ?_
 refine X.opR rfl (X.loadF h_6 rfl rfl rfl) rfl ?_
 refine X.opW (H':=[.rows 7 [(e_ref09_World w)],.rows 5 [(e_api_Act a)],.rows 7 [(V.agg [(V.i 0),V.nil,V.nil,V.nil,V.nil,V.nil,(V.i 0)])],.rows 8 [(V.agg [(V.i 0),(V.i 0),(V.i 0),(V.i 0),(V.i 0),(V.i 0),(V.i 0),(V.i 0)])]]) rfl rfl rfl rfl ?_
 refine X.op0W (H':=[.rows 7 [(e_ref09_World w)],.rows 5 [(e_api_Act a)],.rows 7 [(V.agg [(V.i 0),V.nil,V.nil,V.nil,V.nil,V.nil,(V.i 0)])],.rows 8 [(e_api_Letter x)]]) rfl rfl rfl (GS.opsNil (GS.seq (X.sq (X.q rfl (X.q rfl (X.q rfl ?_))))))
 refine GS.opsNil ?_
 refine X.cond rfl (fun h_7=>?_) (fun h_7=>?_)
 ·replace hM:=ite_t h_7 hM
  refine GS.seq (X.sq (X.q rfl (X.q rfl ?_)))
  refine X.opR rfl (X.lenF rfl rfl rfl) rfl (X.q rfl (GS.opsNil ?_))
  refine X.cond rfl (fun h_8=>?_) (fun h_8=>?_)
  ·replace hM:=ite_t h_8 hM
   refine X.sq (X.q rfl ?_)
   refine X.op0W (H':=[.rows 7 [(e_ref09_World w)],.rows 5 [(e_api_Act a)],.rows 7 [(e_ref09_World w)],.rows 8 [(e_api_Letter x)]]) rfl rfl rfl (X.q rfl (GS.opsNil ?_))
   cases hM
   exact GS.ret ⟨_,rfl,⟨30,rfl⟩⟩
  replace hM:=ite_f h_8 hM
  refine GS.skip (GS.seq ?_)
  obtain ⟨y1,h_9,hM⟩:=bind_of hM
  refine GS.region (X.q rfl (X.q rfl ?_))
  refine X.call (ok_ref09_send h_9) rfl rfl rfl (.cons (.shut (n:=9) rfl) (.cons (.shut (n:=9) rfl) .nil)) ?_
  refine X.op0W (H':=[.rows 7 [(e_ref09_World w)],.rows 5 [(e_api_Act a)],.rows 7 [(e_ref09_World y1)],.rows 8 [(e_api_Letter x)]]) rfl rfl rfl (X.q rfl (GS.opsNil ?_))
  cases hM
  exact GS.ret ⟨_,rfl,⟨30,rfl⟩⟩
 replace hM:=ite_f h_7 hM
 refine GS.skip (X.sq (X.q rfl (GS.opsNil (GS.seq ?_))))
 obtain ⟨l,h_10,hM⟩:=bind_of hM
 obtain ⟨l1,h_11,hM⟩:=bind_of hM
 refine GS.region ?_
 iterate 4 refine X.q rfl ?_
 refine X.opR rfl (X.sliceF (f:=e_api_Letter) h_10 (fun _=>rfl) rfl rfl rfl rfl rfl rfl (X.boundA_int rfl)) rfl ?_
 refine X.appNilS (f:=e_api_Letter) (m:=4) (by rfl) h_11 (fun _=>rfl) (by rfl) (by rfl) (by rfl) (by rfl) (by rfl) (by rfl) (by rfl) (by rfl) (by exact rfl) (by rfl) (by rfl) (X.q rfl (GS.opsNil (GS.seq ?_)))
 obtain ⟨l2,h_12,hM⟩:=bind_of hM
 obtain ⟨l3,h_13,hM⟩:=bind_of hM
 refine GS.region ?_
 iterate 4 refine X.q rfl ?_
 refine X.opR rfl (X.addE rfl rfl) rfl ?_
 refine X.opR rfl (X.sliceF (f:=e_api_Letter) h_12 (fun _=>rfl) rfl rfl rfl rfl rfl (X.boundA_int rfl) rfl) rfl ?_
 refine X.appNS (z:=true) (f:=e_api_Letter) (l:=l1) (m:=5) (by rfl) h_13 (fun _=>rfl) (by rfl) (by rfl) (by rfl) (by rfl) (by rfl) (by rfl) (by rfl) (by rfl) (by rfl) (by rfl) (by rfl) (by exact rfl) (by rfl) (by rfl) (X.q rfl ?_)
 refine X.op0W (H':=[.rows 7 [(V.agg [(V.i w.C.Arbiters),(V.sl (List.map V.i w.Named)),(V.sl (List.map e_ref09_Seat w.Seats)),(V.sl (List.map e_api_Letter w.Got)),(ovl 5 l3),(V.sl (List.map e_api_Letter w.All)),(V.i w.Number)])],.rows 5 [(e_api_Act a)],.rows 7 [(V.agg [(V.i 0),V.nil,V.nil,V.nil,V.nil,V.nil,(V.i 0)])],.rows 8 [(e_api_Letter x)],.dead,obl 8 e_api_Letter l3]) rfl (v:=undefV) (wr:=[(0,.rows 7 [(V.agg [(V.i w.C.Arbiters),(V.sl (List.map V.i w.Named)),(V.sl (List.map e_ref09_Seat w.Seats)),(V.sl (List.map e_api_Letter w.Got)),(ovl 5 l3),(V.sl (List.map e_api_Letter w.All)),(V.i w.Number)])])]) (by rcases X.ovl_or (z:=true) 5 l3 with h0 | ⟨n0,h0⟩ <;> simp only [h0] <;> rfl) rfl (GS.opsNil (GS.seq (X.sq ?_)))
 iterate 3 refine X.q rfl ?_
 refine GS.opsNil ?_
 refine X.join (τ:=Int×(List Int)×(List ref09_Seat)×(List api_Letter)×(List api_Letter)×(List api_Letter)×Int) (fun v=>ref09_post_j1 v.1 v.2.1 v.2.2.1 v.2.2.2.1 v.2.2.2.2.1 v.2.2.2.2.2.1 v.2.2.2.2.2.2=some r) (fun v=>⟨[(2,(V.ptr 0 0 0)),(4,(V.ptr 1 0 0))],[.rows 7 [(V.agg [(V.i v.1),(V.sl (List.map V.i v.2.1)),(V.sl (List.map e_ref09_Seat v.2.2.1)),(V.sl (List.map e_api_Letter v.2.2.2.1)),(V.sl (List.map e_api_Letter v.2.2.2.2.1)),(V.sl (List.map e_api_Letter v.2.2.2.2.2.1)),(V.i v.2.2.2.2.2.2)])],.rows 7 [(V.agg [(V.i 0),V.nil,V.nil,V.nil,V.nil,V.nil,(V.i 0)])]],0,none,67⟩) ?_ ?_
 ·rintro ⟨Arbiters,Named,Seats,Got,Way,All,Number⟩ hM
  replace hM:ref09_post_j1 Arbiters Named Seats Got Way All Number=some r:=hM
  unfold ref09_post_j1 at hM
  refine X.sq (X.q rfl ?_)
  refine X.op0W rfl rfl rfl (X.q rfl (GS.opsNil ?_))
  cases hM
  exact GS.ret ⟨_,rfl,⟨30,rfl⟩⟩
 intro hj_1
 refine X.cond rfl (fun h_14=>?_) (fun h_14=>?_)
 ·replace hM:=ite_t h_14 hM
  refine X.freezeBox (z:=true) (f:=e_api_Letter) (l:=l3) (es:=8) (H':=[.rows 7 [(V.agg [(V.i w.C.Arbiters),(V.sl (List.map V.i w.Named)),(V.sl (List.map e_ref09_Seat w.Seats)),(V.sl (List.map e_api_Letter w.Got)),(V.sl (List.map e_api_Letter l3)),(V.sl (List.map e_api_Letter w.All)),(V.i w.Number)])],.rows 5 [(e_api_Act a)],.rows 7 [(V.agg [(V.i 0),V.nil,V.nil,V.nil,V.nil,V.nil,(V.i 0)])],.rows 8 [(e_api_Letter x)],.dead,.dead]) (c:=fun x=>V.agg ([(V.i w.C.Arbiters),(V.sl (List.map V.i w.Named)),(V.sl (List.map e_ref09_Seat w.Seats)),(V.sl (List.map e_api_Letter w.Got))]++x :: [(V.sl (List.map e_api_Letter w.All)),(V.i w.Number)])) 0 (ctx_agg _ _) rfl rfl rfl rfl rfl rfl (fun _=>rfl) rfl ?_
  obtain ⟨y3,h_16,hM⟩:=bind_of hM
  refine GS.region (X.q rfl (X.q rfl ?_))
  refine X.call (ok_ref09_read h_16) rfl rfl rfl (.cons (.shut (n:=9) rfl) (.cons (.shut (n:=9) rfl) .nil)) ?_
  refine X.op0W (H':=[.rows 7 [(e_ref09_World y3)],.rows 5 [(e_api_Act a)],.rows 7 [(V.agg [(V.i 0),V.nil,V.nil,V.nil,V.nil,V.nil,(V.i 0)])],.rows 8 [(e_api_Letter x)],.dead,.dead]) rfl rfl rfl (GS.opsNil ?_)
  exact X.gc [some 0,some 2] (hj_1 (y3.C.Arbiters,y3.Named,y3.Seats,y3.Got,y3.Way,y3.All,y3.Number) hM) rfl rfl rfl (ga rfl rfl) (gb9 rfl rfl rfl (gb9 rfl rfl rfl gb_nil))
 replace hM:=ite_f h_14 hM
 refine GS.skip ?_
 refine X.freezeBox (z:=true) (f:=e_api_Letter) (l:=l3) (es:=8) (H':=[.rows 7 [(V.agg [(V.i w.C.Arbiters),(V.sl (List.map V.i w.Named)),(V.sl (List.map e_ref09_Seat w.Seats)),(V.sl (List.map e_api_Letter w.Got)),(V.sl (List.map e_api_Letter l3)),(V.sl (List.map e_api_Letter w.All)),(V.i w.Number)])],.rows 5 [(e_api_Act a)],.rows 7 [(V.agg [(V.i 0),V.nil,V.nil,V.nil,V.nil,V.nil,(V.i 0)])],.rows 8 [(e_api_Letter x)],.dead,.dead]) (c:=fun x=>V.agg ([(V.i w.C.Arbiters),(V.sl (List.map V.i w.Named)),(V.sl (List.map e_ref09_Seat w.Seats)),(V.sl (List.map e_api_Letter w.Got))]++x :: [(V.sl (List.map e_api_Letter w.All)),(V.i w.Number)])) 0 (ctx_agg _ _) rfl rfl rfl rfl rfl rfl (fun _=>rfl) rfl ?_
 exact X.gc [some 0,some 2] (hj_1 (w.C.Arbiters,w.Named,w.Seats,w.Got,l3,w.All,w.Number) hM) rfl rfl rfl (ga rfl rfl) (gb9 rfl rfl rfl (gb9 rfl rfl rfl gb_nil))
set_option maxHeartbeats 4000000 in
theorem ok_ref09_forget {w:ref09_World} {a:api_Act} {r:ref09_World×Int} (hM:ref09_forget w a=some r):Ct Tryz.prog 32 [(e_ref09_World w),(e_api_Act a)] (V.tup [(e_ref09_World r.1),(V.i r.2)]):=by
 refine ct_of_gs CC_ok rfl ?_
 unfold ref09_forget at hM
 refine X.sq ?_
 iterate 3 refine X.opW rfl rfl rfl rfl ?_
 refine X.q rfl (GS.opsNil (GS.seq (X.sq ?_)))
 refine X.mid [(2,(V.ptr 0 0 0)),(3,(V.ptr 1 0 0)),(4,(V.ptr 2 0 0)),(31,(V.b ((((!(ref09_in a.A 0 (w64 (w.C.Arbiters - 1))))||(!decide (a.Case=0)))||(!decide (a.Finding=0)))||(!decide (a.N=0)))))] ?_ ?_
 ·intro hg
  refine X.split (!(ref09_in a.A 0 (w64 (w.C.Arbiters - 1)))) (fun h_1=>?_) (fun h_1=>?_)
  ·iterate 5 refine X.q rfl ?_
   refine X.opR rfl (X.subE rfl rfl) rfl ?_
   refine X.call (ok_ref09_in a.A 0 (w64 (w.C.Arbiters - 1))) rfl rfl rfl (.cons (.shut (n:=9) rfl) (.cons (.shut (n:=9) rfl) (.cons (.shut (n:=9) rfl) .nil))) (X.q rfl (X.q rfl ?_))
   iterate 3 refine X.off (X.off_f rfl rfl rfl h_1) rfl ?_
   refine X.opR rfl (X.pickor_t (y := !decide (a.Case=0)) rfl h_1 rfl) rfl (X.q rfl ?_)
   iterate 3 refine X.off (X.off_f rfl rfl rfl (X.or_tt h_1)) rfl ?_
   refine X.opR rfl (X.pickor_t (y := !decide (a.Finding=0)) rfl (X.or_tt h_1) rfl) rfl (X.q rfl ?_)
   iterate 3 refine X.off (X.off_f rfl rfl rfl (X.or_tt (X.or_tt h_1))) rfl ?_
   refine X.opR rfl (X.pickor_t (y := !decide (a.N=0)) rfl (X.or_tt (X.or_tt h_1)) rfl) rfl (GS.opsNil ?_)
   exact X.norm _ hg rfl (sr rfl)
  refine X.split (((!(ref09_in a.A 0 (w64 (w.C.Arbiters - 1))))||(!decide (a.Case=0)))) (fun h_2=>?_) (fun h_2=>?_)
  ·iterate 5 refine X.q rfl ?_
   refine X.opR rfl (X.subE rfl rfl) rfl ?_
   refine X.call (ok_ref09_in a.A 0 (w64 (w.C.Arbiters - 1))) rfl rfl rfl (.cons (.shut (n:=9) rfl) (.cons (.shut (n:=9) rfl) (.cons (.shut (n:=9) rfl) .nil))) (X.q rfl (X.q rfl ?_))
   iterate 3 refine X.opR (X.on_f rfl rfl rfl h_1) rfl rfl ?_
   refine X.opR rfl (X.pickor_f (y := !decide (a.Case=0)) rfl h_1 rfl) rfl (X.q rfl ?_)
   iterate 3 refine X.off (X.off_f rfl rfl rfl h_2) rfl ?_
   refine X.opR rfl (X.pickor_t (y := !decide (a.Finding=0)) rfl h_2 rfl) rfl (X.q rfl ?_)
   iterate 3 refine X.off (X.off_f rfl rfl rfl (X.or_tt h_2)) rfl ?_
   refine X.opR rfl (X.pickor_t (y := !decide (a.N=0)) rfl (X.or_tt h_2) rfl) rfl (GS.opsNil ?_)
   exact X.norm _ hg rfl (sr rfl)
  refine X.split ((((!(ref09_in a.A 0 (w64 (w.C.Arbiters - 1))))||(!decide (a.Case=0)))||(!decide (a.Finding=0)))) (fun h_3=>?_) (fun h_3=>?_)
  ·iterate 5 refine X.q rfl ?_
   refine X.opR rfl (X.subE rfl rfl) rfl ?_
   refine X.call (ok_ref09_in a.A 0 (w64 (w.C.Arbiters - 1))) rfl rfl rfl (.cons (.shut (n:=9) rfl) (.cons (.shut (n:=9) rfl) (.cons (.shut (n:=9) rfl) .nil))) (X.q rfl (X.q rfl ?_))
   iterate 3 refine X.opR (X.on_f rfl rfl rfl h_1) rfl rfl ?_
   refine X.opR rfl (X.pickor_f (y := !decide (a.Case=0)) rfl h_1 rfl) rfl (X.q rfl ?_)
   iterate 3 refine X.opR (X.on_f rfl rfl rfl h_2) rfl rfl ?_
   refine X.opR rfl (X.pickor_f (y := !decide (a.Finding=0)) rfl h_2 rfl) rfl (X.q rfl ?_)
   iterate 3 refine X.off (X.off_f rfl rfl rfl h_3) rfl ?_
   refine X.opR rfl (X.pickor_t (y := !decide (a.N=0)) rfl h_3 rfl) rfl (GS.opsNil ?_)
   exact X.norm _ hg rfl (sr rfl)
  iterate 5 refine X.q rfl ?_
  refine X.opR rfl (X.subE rfl rfl) rfl ?_
  refine X.call (ok_ref09_in a.A 0 (w64 (w.C.Arbiters - 1))) rfl rfl rfl (.cons (.shut (n:=9) rfl) (.cons (.shut (n:=9) rfl) (.cons (.shut (n:=9) rfl) .nil))) (X.q rfl (X.q rfl ?_))
  iterate 3 refine X.opR (X.on_f rfl rfl rfl h_1) rfl rfl ?_
  refine X.opR rfl (X.pickor_f (y := !decide (a.Case=0)) rfl h_1 rfl) rfl (X.q rfl ?_)
  iterate 3 refine X.opR (X.on_f rfl rfl rfl h_2) rfl rfl ?_
  refine X.opR rfl (X.pickor_f (y := !decide (a.Finding=0)) rfl h_2 rfl) rfl (X.q rfl ?_)
  iterate 3 refine X.opR (X.on_f rfl rfl rfl h_3) rfl rfl ?_
  refine X.opR rfl (X.pickor_f (y := !decide (a.N=0)) rfl h_3 rfl) rfl (GS.opsNil ?_)
  exact X.norm _ hg rfl (sr rfl)
 refine X.cond rfl (fun h_4=>?_) (fun h_4=>?_)
 ·replace hM:=ite_t h_4 hM
  refine X.sq (X.q rfl ?_)
  refine X.op0W rfl rfl rfl (X.q rfl (GS.opsNil ?_))
  cases hM
  exact GS.ret ⟨_,rfl,⟨30,rfl⟩⟩
 replace hM:=ite_f h_4 hM
 refine GS.skip (X.sq (X.q rfl (GS.opsNil (GS.seq (X.sq (X.q rfl (GS.opsNil ?_)))))))
 refine X.join (τ:=(List ref09_Seat)) (fun v=>ref09_forget_j1 w v=some r) (fun v=>⟨[(2,(V.ptr 0 0 0)),(4,(V.ptr 1 0 0)),(6,(ovl 2 v))],[.rows 7 [(e_ref09_World w)],.rows 7 [(V.agg [(V.i 0),V.nil,V.nil,V.nil,V.nil,V.nil,(V.i 0)])],obl 11 e_ref09_Seat v],0,none,60⟩) ?_ ?_
 ·intro l hM
  replace hM:ref09_forget_j1 w l=some r:=hM
  unfold ref09_forget_j1 at hM
  refine X.sq (X.q rfl (X.q rfl ?_))
  refine X.op0W rfl (v:=undefV) (wr:=[(0,.rows 7 [(V.agg [(V.i w.C.Arbiters),(V.sl (List.map V.i w.Named)),(ovl 2 l),(V.sl (List.map e_api_Letter w.Got)),(V.sl (List.map e_api_Letter w.Way)),(V.sl (List.map e_api_Letter w.All)),(V.i w.Number)])])]) (by rcases X.ovl_or (z:=true) 2 l with h0 | ⟨n0,h0⟩ <;> simp only [h0] <;> rfl) rfl (X.nq (X.q rfl ?_))
  refine X.op0W rfl (v:=undefV) (wr:=[(1,.rows 7 [(V.agg [(V.i w.C.Arbiters),(V.sl (List.map V.i w.Named)),(ovl 2 l),(V.sl (List.map e_api_Letter w.Got)),(V.sl (List.map e_api_Letter w.Way)),(V.sl (List.map e_api_Letter w.All)),(V.i w.Number)])])]) (by rcases X.ovl_or (z:=true) 2 l with h0 | ⟨n0,h0⟩ <;> simp only [h0] <;> rfl) rfl (X.q rfl (GS.opsNil ?_))
  have hE:=Option.some.inj hM
  subst hE
  exact GS.ret ⟨_,rfl,FR.tup (.cons (FR.agg (.cons ⟨30,rfl⟩ (.cons ⟨30,rfl⟩ (.cons (FR.ovl (f:=e_ref09_Seat) (l:=l) 9 rfl rfl (fun _=>rfl)) (.cons ⟨30,rfl⟩ (.cons ⟨30,rfl⟩ (.cons ⟨30,rfl⟩ (.cons ⟨30,rfl⟩ .nil)))))))) (.cons ⟨30,rfl⟩ .nil))⟩
 intro hj_1
 refine GS.block ?_
 refine X.gc [some 0,some 1,some 2,none] (X.loop (σ:=(Int×(List ref09_Seat))) (fun v=>⟨[(2,(V.ptr 0 0 0)),(3,(V.ptr 1 0 0)),(4,(V.ptr 2 0 0)),(6,(ovl 3 v.2)),(7,(V.i v.1))],[.rows 7 [(e_ref09_World w)],.rows 5 [(e_api_Act a)],.rows 7 [(V.agg [(V.i 0),V.nil,V.nil,V.nil,V.nil,V.nil,(V.i 0)])],obl 11 e_ref09_Seat v.2],0,none,60⟩) hM ?_ rfl) rfl rfl rfl (ga rfl rfl) (gb9 rfl rfl rfl (gb9 rfl rfl rfl (gb9 rfl rfl rfl (gb_pad' rfl gb_nil))))
 rintro ⟨i,l2⟩ b_1 hM hc_2 hr_1
 rw [ref09_forget_b2] at hM
 refine GS.seq (X.sq (X.q rfl (X.q rfl (X.q rfl ?_))))
 refine X.opR rfl (X.lenF rfl rfl rfl) rfl (X.q rfl (GS.opsNil ?_))
 refine X.cond rfl (fun h_5=>?_) (fun h_5=>?_)
 ·replace hM:=ite_t h_5 hM
  refine GS.skip (GS.seq (GS.block (GS.seq ?_)))
  obtain ⟨x,h_6,hM⟩:=bind_of hM
  refine GS.region (X.q rfl (X.q rfl (X.q rfl ?_)))
  refine X.opR rfl (X.indexF (f:=e_ref09_Seat) h_6 (fun _=>rfl) rfl rfl rfl rfl) rfl ?_
  refine X.opR rfl (X.loadF h_6 rfl rfl rfl) rfl ?_
  refine X.opW (H':=[.rows 7 [(e_ref09_World w)],.rows 5 [(e_api_Act a)],.rows 7 [(V.agg [(V.i 0),V.nil,V.nil,V.nil,V.nil,V.nil,(V.i 0)])],obl 11 e_ref09_Seat l2,.rows 11 [(V.agg [(V.i 0),(V.i 0),(V.i 0),(V.i 0),(V.i 0),(V.i 0),(V.i 0),(V.b false),(V.i 0),V.nil,(V.b false)])]]) rfl rfl rfl rfl ?_
  refine X.op0W (H':=[.rows 7 [(e_ref09_World w)],.rows 5 [(e_api_Act a)],.rows 7 [(V.agg [(V.i 0),V.nil,V.nil,V.nil,V.nil,V.nil,(V.i 0)])],obl 11 e_ref09_Seat l2,.rows 11 [(e_ref09_Seat x)]]) rfl rfl rfl (GS.opsNil (GS.seq (X.sq ?_)))
  iterate 5 refine X.q rfl ?_
  refine GS.opsNil ?_
  refine X.join (τ:=Int×(List api_Letter)×Bool) (fun v=>ref09_forget_j3 i l2 x v.1 v.2.1 v.2.2=some b_1) (fun v=>⟨[(2,(V.ptr 0 0 0)),(3,(V.ptr 1 0 0)),(4,(V.ptr 2 0 0)),(6,(ovl 3 l2)),(7,(V.i i)),(8,(V.ptr 4 0 0))],[.rows 7 [(e_ref09_World w)],.rows 5 [(e_api_Act a)],.rows 7 [(V.agg [(V.i 0),V.nil,V.nil,V.nil,V.nil,V.nil,(V.i 0)])],obl 11 e_ref09_Seat l2,.rows 11 [(V.agg [(V.i x.Arbiter),(V.i x.Case),(V.i x.Book.Promised),(V.i x.Book.Voted),(V.i x.Book.Finding),(V.i x.Book.Opened),(V.i x.Wish),(V.b x.Wishes),(V.i v.1),(V.sl (List.map e_api_Letter v.2.1)),(V.b v.2.2)])]],0,none,60⟩) ?_ ?_
  ·rintro ⟨Round,List_,Proposed⟩ hM
   replace hM:ref09_forget_j3 i l2 x Round List_ Proposed=some b_1:=hM
   unfold ref09_forget_j3 at hM
   obtain ⟨l1,h_7,hM⟩:=bind_of hM
   refine GS.region (X.q rfl (X.q rfl ?_))
   refine X.opW (H':=[.rows 7 [(e_ref09_World w)],.rows 5 [(e_api_Act a)],.rows 7 [(V.agg [(V.i 0),V.nil,V.nil,V.nil,V.nil,V.nil,(V.i 0)])],obl 11 e_ref09_Seat l2,.rows 11 [(V.agg [(V.i x.Arbiter),(V.i x.Case),(V.i x.Book.Promised),(V.i x.Book.Voted),(V.i x.Book.Finding),(V.i x.Book.Opened),(V.i x.Wish),(V.b x.Wishes),(V.i Round),(V.sl (List.map e_api_Letter List_)),(V.b Proposed)])],.rows 11 (List.map e_ref09_Seat ([(⟨x.Arbiter,x.Case,x.Book,x.Wish,x.Wishes,Round,List_,Proposed⟩:ref09_Seat)]))]) rfl rfl rfl rfl ?_
   refine X.appN (f:=e_ref09_Seat) h_7 (fun _=>rfl) (by rfl) (by rfl) (by rfl) (by rfl) (by rfl) (by rfl) (by rfl) (by rfl) (by rfl) (by rfl) (by rfl) (by exact rfl) (by rfl) (by rfl) (X.q rfl (GS.opsNil ?_))
   refine GS.endB (GS.region (X.q rfl ?_))
   refine X.opR rfl (X.addE rfl rfl) rfl (X.q rfl (GS.opsNil ?_))
   have hE:=Option.some.inj hM
   exact X.gc [some 0,some 1,some 2,some 6] (hc_2 (w64 (i+1),l1) hE.symm) rfl rfl rfl (gk_cons rfl ⟨9,rfl⟩ (gk_cons rfl ⟨9,rfl⟩ (gk_cons rfl ⟨9,rfl⟩ (gk_cons rfl (rv_ne (app_ne h_7) rfl) (ga rfl rfl))))) (gb9 rfl rfl rfl (gb9 rfl rfl rfl (gb9 rfl rfl rfl (gb_obl' 9 (app_ne h_7) rfl rfl (fun _=>rfl) gb_nil))))
  intro hj_3
  refine X.cond rfl (fun h_8=>?_) (fun h_8=>?_)
  ·replace hM:=ite_t h_8 hM
   refine X.sq (X.q rfl ?_)
   refine X.op0W (H':=[.rows 7 [(e_ref09_World w)],.rows 5 [(e_api_Act a)],.rows 7 [(V.agg [(V.i 0),V.nil,V.nil,V.nil,V.nil,V.nil,(V.i 0)])],obl 11 e_ref09_Seat l2,.rows 11 [(V.agg [(V.i x.Arbiter),(V.i x.Case),(V.i x.Book.Promised),(V.i x.Book.Voted),(V.i x.Book.Finding),(V.i x.Book.Opened),(V.i x.Wish),(V.b x.Wishes),(V.i 0),(V.sl (List.map e_api_Letter x.List)),(V.b x.Proposed)])]]) rfl rfl rfl (X.nq ?_)
   refine X.q rfl ?_
   refine X.op0W (H':=[.rows 7 [(e_ref09_World w)],.rows 5 [(e_api_Act a)],.rows 7 [(V.agg [(V.i 0),V.nil,V.nil,V.nil,V.nil,V.nil,(V.i 0)])],obl 11 e_ref09_Seat l2,.rows 11 [(V.agg [(V.i x.Arbiter),(V.i x.Case),(V.i x.Book.Promised),(V.i x.Book.Voted),(V.i x.Book.Finding),(V.i x.Book.Opened),(V.i x.Wish),(V.b x.Wishes),(V.i 0),V.nil,(V.b x.Proposed)])]]) rfl rfl rfl ?_
   refine X.nilBoxC (H':=[.rows 7 [(e_ref09_World w)],.rows 5 [(e_api_Act a)],.rows 7 [(V.agg [(V.i 0),V.nil,V.nil,V.nil,V.nil,V.nil,(V.i 0)])],obl 11 e_ref09_Seat l2,.rows 11 [(V.agg [(V.i x.Arbiter),(V.i x.Case),(V.i x.Book.Promised),(V.i x.Book.Voted),(V.i x.Book.Finding),(V.i x.Book.Opened),(V.i x.Wish),(V.b x.Wishes),(V.i 0),(V.sl (List.map e_api_Letter [])),(V.b x.Proposed)])]]) (c:=fun y_=>V.agg ([(V.i x.Arbiter),(V.i x.Case),(V.i x.Book.Promised),(V.i x.Book.Voted),(V.i x.Book.Finding),(V.i x.Book.Opened),(V.i x.Wish),(V.b x.Wishes),(V.i 0)]++y_ :: [(V.b x.Proposed)])) 4 (ctx_agg _ _) rfl rfl rfl (X.mq ?_)
   refine X.q rfl ?_
   refine X.op0W (H':=[.rows 7 [(e_ref09_World w)],.rows 5 [(e_api_Act a)],.rows 7 [(V.agg [(V.i 0),V.nil,V.nil,V.nil,V.nil,V.nil,(V.i 0)])],obl 11 e_ref09_Seat l2,.rows 11 [(V.agg [(V.i x.Arbiter),(V.i x.Case),(V.i x.Book.Promised),(V.i x.Book.Voted),(V.i x.Book.Finding),(V.i x.Book.Opened),(V.i x.Wish),(V.b x.Wishes),(V.i 0),(V.sl (List.map e_api_Letter [])),(V.b false)])]]) rfl rfl rfl (GS.opsNil ?_)
   exact X.gc [some 0,some 1,some 2,some 3,some 4] (hj_3 (0,[],false) hM) rfl rfl rfl (gk_cons rfl ⟨9,rfl⟩ (gk_cons rfl ⟨9,rfl⟩ (gk_cons rfl ⟨9,rfl⟩ (gk_cons rfl (rn_ovl rfl) (ga rfl rfl))))) (gb9 rfl rfl rfl (gb9 rfl rfl rfl (gb9 rfl rfl rfl (gb_obl 9 rfl rfl (fun _=>rfl) (gb9 rfl rfl rfl gb_nil)))))
  replace hM:=ite_f h_8 hM
  refine GS.skip ?_
  exact X.gc [some 0,some 1,some 2,some 3,some 4] (hj_3 (x.Round,x.List,x.Proposed) hM) rfl rfl rfl (gk_cons rfl ⟨9,rfl⟩ (gk_cons rfl ⟨9,rfl⟩ (gk_cons rfl ⟨9,rfl⟩ (gk_cons rfl (rn_ovl rfl) (ga rfl rfl))))) (gb9 rfl rfl rfl (gb9 rfl rfl rfl (gb9 rfl rfl rfl (gb_obl 9 rfl rfl (fun _=>rfl) (gb9 rfl rfl rfl gb_nil)))))
 replace hM:=ite_f h_5 hM
 refine GS.exit rfl ?_
 obtain ⟨y_1,hM,hy⟩:=map_of hM
 rw [hr_1 _ hy.symm] at hM
 exact X.gc [some 0,some 2,some 3] (hj_1 l2 hM) rfl rfl rfl (gk_cons rfl ⟨9,rfl⟩ (gk_cons rfl ⟨9,rfl⟩ (gk_cons rfl (rn_ovl rfl) gk_nil))) (gb9 rfl rfl rfl (gb9 rfl rfl rfl (gb_obl 9 rfl rfl (fun _=>rfl) gb_nil)))
theorem ok_ref09_Do {w:ref09_World} {a:api_Act} {r:ref09_World×Int} (hM:ref09_Do w a=some r):Ct Tryz.prog 9 [(e_ref09_World w),(e_api_Act a)] (V.tup [(e_ref09_World r.1),(V.i r.2)]):=by
 refine ct_of_gs CC_ok rfl ?_
 unfold ref09_Do at hM
 refine X.sq ?_
 iterate 3 refine X.opW rfl rfl rfl rfl ?_
 refine X.q rfl (GS.opsNil (GS.seq (X.sq (X.q rfl (X.q rfl (X.q rfl ?_))))))
 refine GS.opsNil ?_
 refine X.cond rfl (fun h_1=>?_) (fun h_1=>?_)
 ·replace hM:=ite_t h_1 hM
  refine GS.seq ?_
  obtain ⟨y,h_2,hM⟩:=bind_of hM
  refine GS.region (X.q rfl (X.q rfl ?_))
  refine X.call (ok_ref09_wish h_2) rfl rfl rfl (.cons (.shut (n:=9) rfl) (.cons (.shut (n:=9) rfl) .nil)) (X.q rfl (X.q rfl ?_))
  refine X.op0W rfl rfl rfl (X.q rfl (GS.opsNil ?_))
  cases hM
  exact GS.ret ⟨_,rfl,⟨30,rfl⟩⟩
 replace hM:=ite_f h_1 hM
 refine GS.skip (GS.seq (X.sq (X.q rfl (X.q rfl (X.q rfl ?_)))))
 refine GS.opsNil ?_
 refine X.cond rfl (fun h_3=>?_) (fun h_3=>?_)
 ·replace hM:=ite_t h_3 hM
  refine GS.seq ?_
  obtain ⟨y1,h_4,hM⟩:=bind_of hM
  refine GS.region (X.q rfl (X.q rfl ?_))
  refine X.call (ok_ref09_begin h_4) rfl rfl rfl (.cons (.shut (n:=9) rfl) (.cons (.shut (n:=9) rfl) .nil)) (X.q rfl (X.q rfl ?_))
  refine X.op0W rfl rfl rfl (X.q rfl (GS.opsNil ?_))
  cases hM
  exact GS.ret ⟨_,rfl,⟨30,rfl⟩⟩
 replace hM:=ite_f h_3 hM
 refine GS.skip (GS.seq (X.sq ?_))
 refine X.mid [(2,(V.ptr 0 0 0)),(3,(V.ptr 1 0 0)),(4,(V.ptr 2 0 0)),(34,(V.b (((decide (a.Kind=3))||(decide (a.Kind=4)))||(decide (a.Kind=5)))))] ?_ ?_
 ·intro hg
  refine X.split (decide (a.Kind=3)) (fun h_5=>?_) (fun h_5=>?_)
  ·iterate 4 refine X.q rfl ?_
   iterate 3 refine X.off (X.off_f rfl rfl rfl h_5) rfl ?_
   refine X.opR rfl (X.pickor_t (y:=decide (a.Kind=4)) rfl h_5 rfl) rfl (X.q rfl ?_)
   iterate 3 refine X.off (X.off_f rfl rfl rfl (X.or_tt h_5)) rfl ?_
   refine X.opR rfl (X.pickor_t (y:=decide (a.Kind=5)) rfl (X.or_tt h_5) rfl) rfl (GS.opsNil ?_)
   exact X.norm _ hg rfl (sr rfl)
  refine X.split (((decide (a.Kind=3))||(decide (a.Kind=4)))) (fun h_6=>?_) (fun h_6=>?_)
  ·iterate 4 refine X.q rfl ?_
   iterate 3 refine X.opR (X.on_f rfl rfl rfl h_5) rfl rfl ?_
   refine X.opR rfl (X.pickor_f (y:=decide (a.Kind=4)) rfl h_5 rfl) rfl (X.q rfl ?_)
   iterate 3 refine X.off (X.off_f rfl rfl rfl h_6) rfl ?_
   refine X.opR rfl (X.pickor_t (y:=decide (a.Kind=5)) rfl h_6 rfl) rfl (GS.opsNil ?_)
   exact X.norm _ hg rfl (sr rfl)
  iterate 4 refine X.q rfl ?_
  iterate 3 refine X.opR (X.on_f rfl rfl rfl h_5) rfl rfl ?_
  refine X.opR rfl (X.pickor_f (y:=decide (a.Kind=4)) rfl h_5 rfl) rfl (X.q rfl ?_)
  iterate 3 refine X.opR (X.on_f rfl rfl rfl h_6) rfl rfl ?_
  refine X.opR rfl (X.pickor_f (y:=decide (a.Kind=5)) rfl h_6 rfl) rfl (GS.opsNil ?_)
  exact X.norm _ hg rfl (sr rfl)
 refine X.cond rfl (fun h_7=>?_) (fun h_7=>?_)
 ·replace hM:=ite_t h_7 hM
  refine GS.seq ?_
  obtain ⟨y2,h_8,hM⟩:=bind_of hM
  refine GS.region (X.q rfl (X.q rfl ?_))
  refine X.call (ok_ref09_post h_8) rfl rfl rfl (.cons (.shut (n:=9) rfl) (.cons (.shut (n:=9) rfl) .nil)) (X.q rfl (X.q rfl ?_))
  refine X.op0W rfl rfl rfl (X.q rfl (GS.opsNil ?_))
  cases hM
  exact GS.ret ⟨_,rfl,⟨30,rfl⟩⟩
 replace hM:=ite_f h_7 hM
 refine GS.skip (GS.seq (X.sq (X.q rfl (X.q rfl (X.q rfl ?_)))))
 refine GS.opsNil ?_
 refine X.cond rfl (fun h_9=>?_) (fun h_9=>?_)
 ·replace hM:=ite_t h_9 hM
  refine GS.seq ?_
  obtain ⟨y3,h_10,hM⟩:=bind_of hM
  refine GS.region (X.q rfl (X.q rfl ?_))
  refine X.call (ok_ref09_forget h_10) rfl rfl rfl (.cons (.shut (n:=9) rfl) (.cons (.shut (n:=9) rfl) .nil)) (X.q rfl (X.q rfl ?_))
  refine X.op0W rfl rfl rfl (X.q rfl (GS.opsNil ?_))
  cases hM
  exact GS.ret ⟨_,rfl,⟨30,rfl⟩⟩
 replace hM:=ite_f h_9 hM
 refine GS.skip (X.sq (X.q rfl ?_))
 refine X.op0W rfl rfl rfl (X.q rfl (GS.opsNil ?_))
 cases hM
 exact GS.ret ⟨_,rfl,⟨30,rfl⟩⟩
theorem eq_api_Letter (a b:api_Letter):eqA CC.ty 70 (e_api_Letter a) (e_api_Letter b)=some (decide (a=b)):=by
 refine (X.eqa rfl rfl (X.eqp rfl rfl rfl (X.eqp rfl rfl rfl (X.eqp rfl rfl rfl (X.eqp rfl rfl rfl (X.eqp rfl rfl rfl (X.eqp rfl rfl rfl (X.eqp rfl rfl rfl (X.eqp rfl rfl rfl X.eqn'))))))))).trans ?_
 congr 1
 rw [Bool.eq_iff_iff]
 simp only [Bool.and_eq_true,decide_eq_true_eq,beq_iff_eq,and_true]
 constructor
 ·intro h
  obtain ⟨a1,a2,a3,a4,a5,a6,a7,a8⟩:=a
  obtain ⟨b9,b10,b11,b12,b13,b14,b15,b16⟩:=b
  simp at h
  simp [h]
 ·rintro rfl
  simp
theorem ok_ref09_SameLetters {a:(List api_Letter)} {b:(List api_Letter)} {r:Bool} (hM:ref09_SameLetters a b=some r):Ct Tryz.prog 10 [(V.sl (List.map e_api_Letter a)),(V.sl (List.map e_api_Letter b))] (V.b r):=by
 refine ct_of_gs CC_ok rfl ?_
 unfold ref09_SameLetters at hM
 refine X.sq (X.q rfl (GS.opsNil (GS.seq (X.sq (X.q rfl ?_)))))
 refine X.opR rfl (X.lenF rfl rfl rfl) rfl (X.q rfl ?_)
 refine X.opR rfl (X.lenF rfl rfl rfl) rfl (X.q rfl (GS.opsNil ?_))
 refine X.cond rfl (fun h_1=>?_) (fun h_1=>?_)
 ·replace hM:=ite_t h_1 hM
  refine X.sq (X.q rfl (GS.opsNil ?_))
  cases hM
  exact GS.ret ⟨_,rfl,⟨30,rfl⟩⟩
 replace hM:=ite_f h_1 hM
 refine GS.skip (GS.seq (X.sq (X.q rfl (GS.opsNil ?_))))
 refine X.join (τ:=Unit) (fun v=>ref09_SameLetters_j1=some r) (fun v=>⟨[],[],0,none,26⟩) ?_ ?_
 ·intro _ hM
  replace hM:ref09_SameLetters_j1=some r:=hM
  unfold ref09_SameLetters_j1 at hM
  refine X.sq (X.q rfl (GS.opsNil ?_))
  cases hM
  exact GS.ret ⟨_,rfl,⟨30,rfl⟩⟩
 intro hj_1
 refine GS.block ?_
 refine X.gc [] (X.loop (σ:=Int) (fun v=>⟨[(0,(V.sl (List.map e_api_Letter a))),(1,(V.sl (List.map e_api_Letter b))),(5,(V.i v))],[],0,none,26⟩) hM ?_ rfl) rfl rfl rfl (ga rfl rfl) (gb_nil)
 intro i b_1 hM hc_2 hr_1
 rw [ref09_SameLetters_b2] at hM
 refine GS.seq (X.sq (X.q rfl (X.q rfl ?_)))
 refine X.opR rfl (X.lenF rfl rfl rfl) rfl (X.q rfl (GS.opsNil ?_))
 refine X.cond rfl (fun h_2=>?_) (fun h_2=>?_)
 ·replace hM:=ite_t h_2 hM
  refine GS.skip (GS.seq (GS.block (GS.seq ?_)))
  obtain ⟨x,h_3,hM⟩:=bind_of hM
  obtain ⟨x1,h_4,hM⟩:=bind_of hM
  refine X.drawc (by kernel_rfl) rfl ?_
  iterate 2 refine X.cop rfl rfl rfl rfl ?_
  refine X.cop rfl (X.indexF (f:=e_api_Letter) h_3 (fun _=>rfl) rfl rfl rfl rfl) rfl rfl ?_
  refine X.cop rfl (X.loadF h_3 rfl rfl rfl) rfl rfl ?_
  iterate 2 refine X.cop rfl rfl rfl rfl ?_
  refine X.cop rfl (X.indexF (f:=e_api_Letter) h_4 (fun _=>rfl) rfl rfl rfl rfl) rfl rfl ?_
  refine X.cop rfl (X.loadF h_4 rfl rfl rfl) rfl rfl ?_
  refine X.cop rfl (X.neqE (eq_api_Letter x x1) rfl rfl) rfl rfl ?_
  refine X.cnil ?_
  refine X.norm [(0,(V.sl (List.map e_api_Letter a))),(1,(V.sl (List.map e_api_Letter b))),(5,(V.i i)),(25,(V.b (!decide (x=x1))))] ?_ rfl (sr rfl)
  refine X.cond rfl (fun h_5=>?_) (fun h_5=>?_)
  ·replace hM:=ite_t h_5 hM
   refine X.sq (X.q rfl (GS.opsNil ?_))
   have hE:=Option.some.inj hM
   replace hE:=hr_1 _ hE.symm
   subst hE
   exact GS.ret ⟨_,rfl,⟨30,rfl⟩⟩
  replace hM:=ite_f h_5 hM
  refine GS.skip ?_
  refine GS.endB (GS.region (X.q rfl ?_))
  refine X.opR rfl (X.addE rfl rfl) rfl (X.q rfl (GS.opsNil ?_))
  have hE:=Option.some.inj hM
  exact X.gc [] (hc_2 (w64 (i+1)) hE.symm) rfl rfl rfl (ga rfl rfl) (gb_nil)
 replace hM:=ite_f h_2 hM
 refine GS.exit rfl ?_
 obtain ⟨y_1,hM,hy⟩:=map_of hM
 rw [hr_1 _ hy.symm] at hM
 exact X.gc [] (hj_1 () hM) rfl rfl rfl (gk_nil) (gb_nil)
theorem ok_ref09_SameInts {a:(List Int)} {b:(List Int)} {r:Bool} (hM:ref09_SameInts a b=some r):Ct Tryz.prog 12 [(V.sl (List.map V.i a)),(V.sl (List.map V.i b))] (V.b r):=by
 refine ct_of_gs CC_ok rfl ?_
 unfold ref09_SameInts at hM
 refine X.sq (X.q rfl (GS.opsNil (GS.seq (X.sq (X.q rfl ?_)))))
 refine X.opR rfl (X.lenF rfl rfl rfl) rfl (X.q rfl ?_)
 refine X.opR rfl (X.lenF rfl rfl rfl) rfl (X.q rfl (GS.opsNil ?_))
 refine X.cond rfl (fun h_1=>?_) (fun h_1=>?_)
 ·replace hM:=ite_t h_1 hM
  refine X.sq (X.q rfl (GS.opsNil ?_))
  cases hM
  exact GS.ret ⟨_,rfl,⟨30,rfl⟩⟩
 replace hM:=ite_f h_1 hM
 refine GS.skip (GS.seq (X.sq (X.q rfl (GS.opsNil ?_))))
 refine X.join (τ:=Unit) (fun v=>ref09_SameInts_j1=some r) (fun v=>⟨[],[],0,none,26⟩) ?_ ?_
 ·intro _ hM
  replace hM:ref09_SameInts_j1=some r:=hM
  unfold ref09_SameInts_j1 at hM
  refine X.sq (X.q rfl (GS.opsNil ?_))
  cases hM
  exact GS.ret ⟨_,rfl,⟨30,rfl⟩⟩
 intro hj_1
 refine GS.block ?_
 refine X.gc [] (X.loop (σ:=Int) (fun v=>⟨[(0,(V.sl (List.map V.i a))),(1,(V.sl (List.map V.i b))),(5,(V.i v))],[],0,none,26⟩) hM ?_ rfl) rfl rfl rfl (ga rfl rfl) (gb_nil)
 intro i b_1 hM hc_2 hr_1
 rw [ref09_SameInts_b2] at hM
 refine GS.seq (X.sq (X.q rfl (X.q rfl ?_)))
 refine X.opR rfl (X.lenF rfl rfl rfl) rfl (X.q rfl (GS.opsNil ?_))
 refine X.cond rfl (fun h_2=>?_) (fun h_2=>?_)
 ·replace hM:=ite_t h_2 hM
  refine GS.skip (GS.seq (GS.block (GS.seq ?_)))
  obtain ⟨x,h_3,hM⟩:=bind_of hM
  obtain ⟨x1,h_4,hM⟩:=bind_of hM
  refine X.drawc (by kernel_rfl) rfl ?_
  iterate 2 refine X.cop rfl rfl rfl rfl ?_
  refine X.cop rfl (X.indexF (f:=V.i) h_3 (fun _=>rfl) rfl rfl rfl rfl) rfl rfl ?_
  refine X.cop rfl (X.loadF h_3 rfl rfl rfl) rfl rfl ?_
  iterate 2 refine X.cop rfl rfl rfl rfl ?_
  refine X.cop rfl (X.indexF (f:=V.i) h_4 (fun _=>rfl) rfl rfl rfl rfl) rfl rfl ?_
  refine X.cop rfl (X.loadF h_4 rfl rfl rfl) rfl rfl ?_
  refine X.cop rfl rfl rfl rfl ?_
  refine X.cnil ?_
  refine X.norm [(0,(V.sl (List.map V.i a))),(1,(V.sl (List.map V.i b))),(5,(V.i i)),(25,(V.b (!decide (x=x1))))] ?_ rfl (sr rfl)
  refine X.cond rfl (fun h_5=>?_) (fun h_5=>?_)
  ·replace hM:=ite_t h_5 hM
   refine X.sq (X.q rfl (GS.opsNil ?_))
   have hE:=Option.some.inj hM
   replace hE:=hr_1 _ hE.symm
   subst hE
   exact GS.ret ⟨_,rfl,⟨30,rfl⟩⟩
  replace hM:=ite_f h_5 hM
  refine GS.skip ?_
  refine GS.endB (GS.region (X.q rfl ?_))
  refine X.opR rfl (X.addE rfl rfl) rfl (X.q rfl (GS.opsNil ?_))
  have hE:=Option.some.inj hM
  exact X.gc [] (hc_2 (w64 (i+1)) hE.symm) rfl rfl rfl (ga rfl rfl) (gb_nil)
 replace hM:=ite_f h_2 hM
 refine GS.exit rfl ?_
 obtain ⟨y_1,hM,hy⟩:=map_of hM
 rw [hr_1 _ hy.symm] at hM
 exact X.gc [] (hj_1 () hM) rfl rfl rfl (gk_nil) (gb_nil)
theorem eq_api_Ruling (a b:api_Ruling):eqA CC.ty 57 (e_api_Ruling a) (e_api_Ruling b)=some (decide (a=b)):=by
 refine (X.eqa rfl rfl (X.eqp rfl rfl rfl (X.eqp rfl rfl rfl (X.eqp rfl rfl rfl X.eqn')))).trans ?_
 congr 1
 rw [Bool.eq_iff_iff]
 simp only [Bool.and_eq_true,decide_eq_true_eq,beq_iff_eq,and_true]
 constructor
 ·intro h
  obtain ⟨a1,a2,a3⟩:=a
  obtain ⟨b4,b5,b6⟩:=b
  simp at h
  simp [h]
 ·rintro rfl
  simp
theorem ok_ref09_SameRulings {a:(List api_Ruling)} {b:(List api_Ruling)} {r:Bool} (hM:ref09_SameRulings a b=some r):Ct Tryz.prog 37 [(V.sl (List.map e_api_Ruling a)),(V.sl (List.map e_api_Ruling b))] (V.b r):=by
 refine ct_of_gs CC_ok rfl ?_
 unfold ref09_SameRulings at hM
 refine X.sq (X.q rfl (GS.opsNil (GS.seq (X.sq (X.q rfl ?_)))))
 refine X.opR rfl (X.lenF rfl rfl rfl) rfl (X.q rfl ?_)
 refine X.opR rfl (X.lenF rfl rfl rfl) rfl (X.q rfl (GS.opsNil ?_))
 refine X.cond rfl (fun h_1=>?_) (fun h_1=>?_)
 ·replace hM:=ite_t h_1 hM
  refine X.sq (X.q rfl (GS.opsNil ?_))
  cases hM
  exact GS.ret ⟨_,rfl,⟨30,rfl⟩⟩
 replace hM:=ite_f h_1 hM
 refine GS.skip (GS.seq (X.sq (X.q rfl (GS.opsNil ?_))))
 refine X.join (τ:=Unit) (fun v=>ref09_SameRulings_j1=some r) (fun v=>⟨[],[],0,none,26⟩) ?_ ?_
 ·intro _ hM
  replace hM:ref09_SameRulings_j1=some r:=hM
  unfold ref09_SameRulings_j1 at hM
  refine X.sq (X.q rfl (GS.opsNil ?_))
  cases hM
  exact GS.ret ⟨_,rfl,⟨30,rfl⟩⟩
 intro hj_1
 refine GS.block ?_
 refine X.gc [] (X.loop (σ:=Int) (fun v=>⟨[(0,(V.sl (List.map e_api_Ruling a))),(1,(V.sl (List.map e_api_Ruling b))),(5,(V.i v))],[],0,none,26⟩) hM ?_ rfl) rfl rfl rfl (ga rfl rfl) (gb_nil)
 intro i b_1 hM hc_2 hr_1
 rw [ref09_SameRulings_b2] at hM
 refine GS.seq (X.sq (X.q rfl (X.q rfl ?_)))
 refine X.opR rfl (X.lenF rfl rfl rfl) rfl (X.q rfl (GS.opsNil ?_))
 refine X.cond rfl (fun h_2=>?_) (fun h_2=>?_)
 ·replace hM:=ite_t h_2 hM
  refine GS.skip (GS.seq (GS.block (GS.seq ?_)))
  obtain ⟨x,h_3,hM⟩:=bind_of hM
  obtain ⟨x1,h_4,hM⟩:=bind_of hM
  refine X.drawc (by kernel_rfl) rfl ?_
  iterate 2 refine X.cop rfl rfl rfl rfl ?_
  refine X.cop rfl (X.indexF (f:=e_api_Ruling) h_3 (fun _=>rfl) rfl rfl rfl rfl) rfl rfl ?_
  refine X.cop rfl (X.loadF h_3 rfl rfl rfl) rfl rfl ?_
  iterate 2 refine X.cop rfl rfl rfl rfl ?_
  refine X.cop rfl (X.indexF (f:=e_api_Ruling) h_4 (fun _=>rfl) rfl rfl rfl rfl) rfl rfl ?_
  refine X.cop rfl (X.loadF h_4 rfl rfl rfl) rfl rfl ?_
  refine X.cop rfl (X.neqE (eq_api_Ruling x x1) rfl rfl) rfl rfl ?_
  refine X.cnil ?_
  refine X.norm [(0,(V.sl (List.map e_api_Ruling a))),(1,(V.sl (List.map e_api_Ruling b))),(5,(V.i i)),(25,(V.b (!decide (x=x1))))] ?_ rfl (sr rfl)
  refine X.cond rfl (fun h_5=>?_) (fun h_5=>?_)
  ·replace hM:=ite_t h_5 hM
   refine X.sq (X.q rfl (GS.opsNil ?_))
   have hE:=Option.some.inj hM
   replace hE:=hr_1 _ hE.symm
   subst hE
   exact GS.ret ⟨_,rfl,⟨30,rfl⟩⟩
  replace hM:=ite_f h_5 hM
  refine GS.skip ?_
  refine GS.endB (GS.region (X.q rfl ?_))
  refine X.opR rfl (X.addE rfl rfl) rfl (X.q rfl (GS.opsNil ?_))
  have hE:=Option.some.inj hM
  exact X.gc [] (hc_2 (w64 (i+1)) hE.symm) rfl rfl rfl (ga rfl rfl) (gb_nil)
 replace hM:=ite_f h_2 hM
 refine GS.exit rfl ?_
 obtain ⟨y_1,hM,hy⟩:=map_of hM
 rw [hr_1 _ hy.symm] at hM
 exact X.gc [] (hj_1 () hM) rfl rfl rfl (gk_nil) (gb_nil)
theorem ok_ref09_votesFor (l:api_Letter) (r_:api_Ruling):Ct Tryz.prog 112 [(e_api_Letter l),(e_api_Ruling r_)] (V.b (ref09_votesFor l r_)):=by
 refine ct_of_gs CC_ok rfl ?_
 generalize hM:ref09_votesFor l r_=r
 unfold ref09_votesFor at hM
 refine X.sq ?_
 iterate 2 refine X.opW rfl rfl rfl rfl ?_
 refine X.q rfl (X.nq ?_)
 refine X.mid [(4,(V.b ((((decide (l.Kind=4))&&(decide (l.Case=r_.Case)))&&(decide (l.Round=r_.Round)))&&(decide (l.Finding=r_.Finding)))))] ?_ ?_
 ·intro hg
  refine X.split (decide (l.Kind=4)) (fun h_1=>?_) (fun h_1=>?_)
  ·refine X.split (((decide (l.Kind=4))&&(decide (l.Case=r_.Case)))) (fun h_2=>?_) (fun h_2=>?_)
   ·refine X.split ((((decide (l.Kind=4))&&(decide (l.Case=r_.Case)))&&(decide (l.Round=r_.Round)))) (fun h_3=>?_) (fun h_3=>?_)
    ·iterate 4 refine X.q rfl ?_
     iterate 5 refine X.opR (X.on_t rfl rfl rfl h_1) rfl rfl ?_
     refine X.opR rfl (X.pickand_t (y:=decide (l.Case=r_.Case)) rfl h_1 rfl) rfl (X.q rfl ?_)
     iterate 5 refine X.opR (X.on_t rfl rfl rfl h_2) rfl rfl ?_
     refine X.opR rfl (X.pickand_t (y:=decide (l.Round=r_.Round)) rfl h_2 rfl) rfl (X.q rfl ?_)
     iterate 5 refine X.opR (X.on_t rfl rfl rfl h_3) rfl rfl ?_
     refine X.opR rfl (X.pickand_t (y:=decide (l.Finding=r_.Finding)) rfl h_3 rfl) rfl (X.q rfl (GS.opsNil ?_))
     exact X.norm _ hg rfl (sr rfl)
    iterate 4 refine X.q rfl ?_
    iterate 5 refine X.opR (X.on_t rfl rfl rfl h_1) rfl rfl ?_
    refine X.opR rfl (X.pickand_t (y:=decide (l.Case=r_.Case)) rfl h_1 rfl) rfl (X.q rfl ?_)
    iterate 5 refine X.opR (X.on_t rfl rfl rfl h_2) rfl rfl ?_
    refine X.opR rfl (X.pickand_t (y:=decide (l.Round=r_.Round)) rfl h_2 rfl) rfl (X.q rfl ?_)
    iterate 5 refine X.off (X.off_t rfl rfl rfl h_3) rfl ?_
    refine X.opR rfl (X.pickand_f (y:=decide (l.Finding=r_.Finding)) rfl h_3 rfl) rfl (X.q rfl (GS.opsNil ?_))
    exact X.norm _ hg rfl (sr rfl)
   iterate 4 refine X.q rfl ?_
   iterate 5 refine X.opR (X.on_t rfl rfl rfl h_1) rfl rfl ?_
   refine X.opR rfl (X.pickand_t (y:=decide (l.Case=r_.Case)) rfl h_1 rfl) rfl (X.q rfl ?_)
   iterate 5 refine X.off (X.off_t rfl rfl rfl h_2) rfl ?_
   refine X.opR rfl (X.pickand_f (y:=decide (l.Round=r_.Round)) rfl h_2 rfl) rfl (X.q rfl ?_)
   iterate 5 refine X.off (X.off_t rfl rfl rfl (X.and_ff h_2)) rfl ?_
   refine X.opR rfl (X.pickand_f (y:=decide (l.Finding=r_.Finding)) rfl (X.and_ff h_2) rfl) rfl (X.q rfl (GS.opsNil ?_))
   exact X.norm _ hg rfl (sr rfl)
  iterate 4 refine X.q rfl ?_
  iterate 5 refine X.off (X.off_t rfl rfl rfl h_1) rfl ?_
  refine X.opR rfl (X.pickand_f (y:=decide (l.Case=r_.Case)) rfl h_1 rfl) rfl (X.q rfl ?_)
  iterate 5 refine X.off (X.off_t rfl rfl rfl (X.and_ff h_1)) rfl ?_
  refine X.opR rfl (X.pickand_f (y:=decide (l.Round=r_.Round)) rfl (X.and_ff h_1) rfl) rfl (X.q rfl ?_)
  iterate 5 refine X.off (X.off_t rfl rfl rfl (X.and_ff (X.and_ff h_1))) rfl ?_
  refine X.opR rfl (X.pickand_f (y:=decide (l.Finding=r_.Finding)) rfl (X.and_ff (X.and_ff h_1)) rfl) rfl (X.q rfl (GS.opsNil ?_))
  exact X.norm _ hg rfl (sr rfl)
 subst hM
 exact GS.ret ⟨_,rfl,⟨30,rfl⟩⟩
theorem ok_ref09_votes {c:api_Court} {l:(List api_Letter)} {r_:api_Ruling} {r:Int} (hM:ref09_votes c l r_=some r):Ct Tryz.prog 102 [(e_api_Court c),(V.sl (List.map e_api_Letter l)),(e_api_Ruling r_)] (V.i r):=by
 refine ct_of_gs CC_ok rfl ?_
 unfold ref09_votes at hM
 refine X.sq ?_
 iterate 2 refine X.opW rfl rfl rfl rfl ?_
 refine X.q rfl (X.nq (X.q rfl (GS.opsNil (GS.seq (X.sq (X.q rfl (GS.opsNil ?_)))))))
 refine X.join (τ:=Int) (fun v=>ref09_votes_j1 v=some r) (fun v=>⟨[(7,(V.i v))],[],0,none,45⟩) ?_ ?_
 ·intro n hM
  replace hM:ref09_votes_j1 n=some r:=hM
  unfold ref09_votes_j1 at hM
  refine X.sq (X.q rfl (X.q rfl ?_))
  refine GS.opsNil ?_
  cases hM
  exact GS.ret ⟨_,rfl,⟨30,rfl⟩⟩
 intro hj_1
 refine GS.block ?_
 refine X.gc [some 0,some 1] (X.loop (σ:=(Int×Int)) (fun v=>⟨[(1,(V.sl (List.map e_api_Letter l))),(3,(V.ptr 0 0 0)),(5,(V.ptr 1 0 0)),(7,(V.i v.1)),(8,(V.i v.2))],[.rows 1 [(e_api_Court c)],.rows 3 [(e_api_Ruling r_)]],0,none,45⟩) hM ?_ rfl) rfl rfl rfl (ga rfl rfl) (gb9 rfl rfl rfl (gb9 rfl rfl rfl gb_nil))
 rintro ⟨n2,a⟩ b_1 hM hc_2 hr_1
 rw [ref09_votes_b2] at hM
 refine GS.seq (X.sq ?_)
 iterate 4 refine X.q rfl ?_
 refine GS.opsNil ?_
 refine X.cond rfl (fun h_1=>?_) (fun h_1=>?_)
 ·replace hM:=ite_t h_1 hM
  refine GS.skip (GS.seq ?_)
  refine X.join (τ:=Int) (fun v=>ref09_votes_j3 a v=some b_1) (fun v=>⟨[(1,(V.sl (List.map e_api_Letter l))),(3,(V.ptr 0 0 0)),(5,(V.ptr 1 0 0)),(7,(V.i v)),(8,(V.i a))],[.rows 1 [(e_api_Court c)],.rows 3 [(e_api_Ruling r_)]],0,none,45⟩) ?_ ?_
  ·intro n1 hM
   replace hM:ref09_votes_j3 a n1=some b_1:=hM
   unfold ref09_votes_j3 at hM
   refine GS.region (X.q rfl ?_)
   refine X.opR rfl (X.addE rfl rfl) rfl (X.q rfl (GS.opsNil ?_))
   have hE:=Option.some.inj hM
   exact X.gc [some 0,some 1] (hc_2 (n1,w64 (a+1)) hE.symm) rfl rfl rfl (ga rfl rfl) (gb9 rfl rfl rfl (gb9 rfl rfl rfl gb_nil))
  intro hj_3
  refine GS.block (X.sq (X.q rfl (GS.opsNil (GS.seq (X.sq (X.q rfl (GS.opsNil ?_)))))))
  refine X.join (τ:=Bool) (fun v=>ref09_votes_j4 n2 a v=some b_1) (fun v=>⟨[(1,(V.sl (List.map e_api_Letter l))),(3,(V.ptr 0 0 0)),(5,(V.ptr 1 0 0)),(7,(V.i n2)),(8,(V.i a)),(9,(V.b v))],[.rows 1 [(e_api_Court c)],.rows 3 [(e_api_Ruling r_)]],0,none,45⟩) ?_ ?_
  ·intro found hM
   replace hM:ref09_votes_j4 n2 a found=some b_1:=hM
   unfold ref09_votes_j4 at hM
   refine X.sq (X.q rfl (GS.opsNil ?_))
   refine X.cond rfl (fun h_2=>?_) (fun h_2=>?_)
   ·replace hM:=ite_t h_2 hM
    refine GS.region (X.q rfl ?_)
    refine X.opR rfl (X.addE rfl rfl) rfl (X.q rfl (GS.opsNil ?_))
    refine GS.endB ?_
    exact X.gc [some 0,some 1] (hj_3 (w64 (n2+1)) hM) rfl rfl rfl (ga rfl rfl) (gb9 rfl rfl rfl (gb9 rfl rfl rfl gb_nil))
   replace hM:=ite_f h_2 hM
   refine GS.skip ?_
   refine GS.endB ?_
   exact X.gc [some 0,some 1] (hj_3 n2 hM) rfl rfl rfl (ga rfl rfl) (gb9 rfl rfl rfl (gb9 rfl rfl rfl gb_nil))
  intro hj_4
  refine GS.block ?_
  refine X.gc [some 0,some 1] (X.loop (σ:=(Bool×Int)) (fun v=>⟨[(1,(V.sl (List.map e_api_Letter l))),(3,(V.ptr 0 0 0)),(5,(V.ptr 1 0 0)),(7,(V.i n2)),(8,(V.i a)),(9,(V.b v.1)),(10,(V.i v.2))],[.rows 1 [(e_api_Court c)],.rows 3 [(e_api_Ruling r_)]],0,none,45⟩) hM ?_ rfl) rfl rfl rfl (ga rfl rfl) (gb9 rfl rfl rfl (gb9 rfl rfl rfl gb_nil))
  rintro ⟨found1,i⟩ b_2 hM hc_5 hr_2
  rw [ref09_votes_b5] at hM
  refine GS.seq (X.sq (X.q rfl (X.q rfl ?_)))
  refine X.opR rfl (X.lenF rfl rfl rfl) rfl (X.q rfl (GS.opsNil ?_))
  refine X.cond rfl (fun h_3=>?_) (fun h_3=>?_)
  ·replace hM:=ite_t h_3 hM
   refine GS.skip (GS.seq (GS.block ?_))
   obtain ⟨x,h_4,hM⟩:=gb_of hM
   obtain ⟨x1,h_5,hM⟩:=gb_of hM
   refine X.mid [(1,(V.sl (List.map e_api_Letter l))),(3,(V.ptr 0 0 0)),(5,(V.ptr 1 0 0)),(7,(V.i n2)),(8,(V.i a)),(9,(V.b (found1||((ref09_votesFor x r_)&&(decide (x1.From=a)))))),(10,(V.i i))] ?_ ?_
   ·intro hg
    refine X.split (found1) (fun h_6=>?_) (fun h_6=>?_)
    ·refine X.drawc (by kernel_rfl) rfl ?_
     iterate 2 refine X.cop rfl rfl rfl rfl ?_
     iterate 7 refine X.coff (X.off_f rfl rfl rfl h_6) rfl rfl ?_
     iterate 7 refine X.coff rfl rfl rfl ?_
     refine X.coff (X.off_f rfl rfl rfl h_6) rfl rfl ?_
     refine X.cop rfl (X.pickor_t (y:=((ref09_votesFor x r_)&&(decide (x1.From=a)))) rfl h_6 rfl) rfl rfl ?_
     refine X.cop rfl rfl rfl rfl ?_
     refine X.cnil ?_
     exact X.norm _ hg rfl (sr rfl)
    refine X.split ((ref09_votesFor x r_)) (fun h_7=>?_) (fun h_7=>?_)
    ·refine X.drawc (by kernel_rfl) rfl ?_
     iterate 2 refine X.cop rfl rfl rfl rfl ?_
     iterate 2 refine X.cop (X.on_f rfl rfl rfl h_6) rfl rfl rfl ?_
     refine X.cop (X.on_f rfl rfl rfl h_6) (X.indexF (f:=e_api_Letter) (h_4 (X.nt h_6)) (fun _=>rfl) rfl rfl rfl rfl) rfl rfl ?_
     refine X.cop (X.on_f rfl rfl rfl h_6) (X.loadF (h_4 (X.nt h_6)) rfl rfl rfl) rfl rfl ?_
     refine X.cop (X.on_f rfl rfl rfl h_6) rfl rfl rfl ?_
     refine X.ccall (ok_ref09_votesFor x r_) (X.on_f rfl rfl rfl h_6) rfl rfl rfl (.cons (.shut (n:=9) rfl) (.cons (.shut (n:=9) rfl) .nil)) ?_
     refine X.cop (X.on_f rfl rfl rfl h_6) rfl rfl rfl ?_
     iterate 2 refine X.cop (X.on_t rfl rfl rfl h_7) rfl rfl rfl ?_
     refine X.cop (X.on_t rfl rfl rfl h_7) (X.indexF (f:=e_api_Letter) (h_5 (X.and_tt (X.nt h_6) h_7)) (fun _=>rfl) rfl rfl rfl rfl) rfl rfl ?_
     refine X.cop (X.on_t rfl rfl rfl h_7) rfl rfl rfl ?_
     refine X.cop (X.on_t rfl rfl rfl h_7) (X.loadF (h_5 (X.and_tt (X.nt h_6) h_7)) rfl rfl rfl) rfl rfl ?_
     iterate 2 refine X.cop (X.on_t rfl rfl rfl h_7) rfl rfl rfl ?_
     refine X.cop (X.on_f rfl rfl rfl h_6) (X.pickand_t (y:=decide (x1.From=a)) rfl h_7 rfl) rfl rfl ?_
     refine X.cop rfl (X.pickor_f (y:=((ref09_votesFor x r_)&&(decide (x1.From=a)))) rfl h_6 rfl) rfl rfl ?_
     refine X.cop rfl rfl rfl rfl ?_
     refine X.cnil ?_
     exact X.norm _ hg rfl (sr rfl)
    refine X.drawc (by kernel_rfl) rfl ?_
    iterate 2 refine X.cop rfl rfl rfl rfl ?_
    iterate 2 refine X.cop (X.on_f rfl rfl rfl h_6) rfl rfl rfl ?_
    refine X.cop (X.on_f rfl rfl rfl h_6) (X.indexF (f:=e_api_Letter) (h_4 (X.nt h_6)) (fun _=>rfl) rfl rfl rfl rfl) rfl rfl ?_
    refine X.cop (X.on_f rfl rfl rfl h_6) (X.loadF (h_4 (X.nt h_6)) rfl rfl rfl) rfl rfl ?_
    refine X.cop (X.on_f rfl rfl rfl h_6) rfl rfl rfl ?_
    refine X.ccall (ok_ref09_votesFor x r_) (X.on_f rfl rfl rfl h_6) rfl rfl rfl (.cons (.shut (n:=9) rfl) (.cons (.shut (n:=9) rfl) .nil)) ?_
    refine X.cop (X.on_f rfl rfl rfl h_6) rfl rfl rfl ?_
    iterate 7 refine X.coff (X.off_t rfl rfl rfl h_7) rfl rfl ?_
    refine X.cop (X.on_f rfl rfl rfl h_6) (X.pickand_f (y:=decide (x1.From=a)) rfl h_7 rfl) rfl rfl ?_
    refine X.cop rfl (X.pickor_f (y:=((ref09_votesFor x r_)&&(decide (x1.From=a)))) rfl h_6 rfl) rfl rfl ?_
    refine X.cop rfl rfl rfl rfl ?_
    refine X.cnil ?_
    exact X.norm _ hg rfl (sr rfl)
   refine GS.endB (GS.region (X.q rfl ?_))
   refine X.opR rfl (X.addE rfl rfl) rfl (X.q rfl (GS.opsNil ?_))
   have hE:=Option.some.inj hM
   exact X.gc [some 0,some 1] (hc_5 ((found1||((ref09_votesFor x r_)&&(decide (x1.From=a)))),w64 (i+1)) hE.symm) rfl rfl rfl (ga rfl rfl) (gb9 rfl rfl rfl (gb9 rfl rfl rfl gb_nil))
  replace hM:=ite_f h_3 hM
  refine GS.exit rfl ?_
  obtain ⟨y_2,hM,hy⟩:=map_of hM
  rw [hr_2 _ hy.symm] at hM
  exact X.gc [some 0,some 1] (hj_4 found1 hM) rfl rfl rfl (ga rfl rfl) (gb9 rfl rfl rfl (gb9 rfl rfl rfl gb_nil))
 replace hM:=ite_f h_1 hM
 refine GS.exit rfl ?_
 obtain ⟨y_1,hM,hy⟩:=map_of hM
 rw [hr_1 _ hy.symm] at hM
 exact X.gc [] (hj_1 n2 hM) rfl rfl rfl (ga rfl rfl) (gb_nil)
theorem ok_ref09_before (a:api_Ruling) (b:api_Ruling):Ct Tryz.prog 103 [(e_api_Ruling a),(e_api_Ruling b)] (V.b (ref09_before a b)):=by
 refine ct_of_gs CC_ok rfl ?_
 generalize hM:ref09_before a b=r
 unfold ref09_before at hM
 refine X.sq ?_
 iterate 2 refine X.opW rfl rfl rfl rfl ?_
 refine X.q rfl (GS.opsNil (GS.seq (X.sq ?_)))
 iterate 5 refine X.q rfl ?_
 refine GS.opsNil ?_
 refine X.cond rfl (fun h_1=>?_) (fun h_1=>?_)
 ·replace hM:=ite_t h_1 hM
  refine X.sq ?_
  iterate 6 refine X.q rfl ?_
  refine GS.opsNil ?_
  subst hM
  exact GS.ret ⟨_,rfl,⟨30,rfl⟩⟩
 replace hM:=ite_f h_1 hM
 refine GS.skip (GS.seq (X.sq ?_))
 iterate 5 refine X.q rfl ?_
 refine GS.opsNil ?_
 refine X.cond rfl (fun h_2=>?_) (fun h_2=>?_)
 ·replace hM:=ite_t h_2 hM
  refine X.sq ?_
  iterate 6 refine X.q rfl ?_
  refine GS.opsNil ?_
  subst hM
  exact GS.ret ⟨_,rfl,⟨30,rfl⟩⟩
 replace hM:=ite_f h_2 hM
 refine GS.skip (X.sq ?_)
 iterate 6 refine X.q rfl ?_
 refine GS.opsNil ?_
 subst hM
 exact GS.ret ⟨_,rfl,⟨30,rfl⟩⟩
end Go.Proofs.YtfoafeaplgmhmaaGreat
