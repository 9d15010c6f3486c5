/- The program's functions compute the plain ones. Conditions: none. Printed by a program (wip/tools/xg.py). -/
import Derived.Test.YtfoafeaplgmhmaaTok
import Derived.Test.YtfoafeaplgmhmaaSrt
import Derived.Test.YtfoafeaplgmhmaaM
set_option linter.unusedVariables false
set_option linter.unusedSimpArgs false
namespace Go.Proofs.Ytfoafeaplgmhmaa
open Go Go.Am Go.Proofs Go.Mx
noncomputable def CC : Cfg:=cfg (Ct Try.prog)
theorem CC_ok : CC.OK:=cfg_ok fun f args v h=>h
abbrev e_api_Court (x:api_Court):V:=.agg [(V.i x.Arbiters)]
theorem ok_arbiter_within (n:Int) (lo:Int) (hi:Int):Ct Try.prog 22 [(V.i n),(V.i lo),(V.i hi)] (V.b (arbiter_within n lo hi)):=by
 refine ct_of_gs CC_ok rfl ?_
 generalize hM:arbiter_within n lo hi=r
 unfold arbiter_within at hM
 refine X.sq (X.q rfl (X.nq ?_))
 refine X.mid [(6,(V.b ((decide (lo≤n))&&(decide (n≤hi)))))] ?_ ?_
 ·intro hg
  refine X.split (decide (lo≤n)) (fun h_1=>?_) (fun h_1=>?_)
  ·iterate 4 refine X.q rfl ?_
   iterate 3 refine X.opR (X.on_t rfl rfl rfl h_1) rfl rfl ?_
   refine X.opR rfl (X.pickand_t (y:=decide (n≤hi)) rfl h_1 rfl) rfl (X.q rfl (GS.opsNil ?_))
   exact X.norm _ hg rfl (sr rfl)
  iterate 4 refine X.q rfl ?_
  iterate 3 refine X.off (X.off_t rfl rfl rfl h_1) rfl ?_
  refine X.opR rfl (X.pickand_f (y:=decide (n≤hi)) rfl h_1 rfl) rfl (X.q rfl (GS.opsNil ?_))
  exact X.norm _ hg rfl (sr rfl)
 subst hM
 exact GS.ret ⟨_,rfl,⟨30,rfl⟩⟩
theorem ok_arbiter_Check (c:api_Court):Ct Try.prog 12 [(e_api_Court c)] (V.i (arbiter_Check c)):=by
 refine ct_of_gs CC_ok rfl ?_
 generalize hM:arbiter_Check c=r
 unfold arbiter_Check at hM
 refine X.sq ?_
 refine X.opW rfl rfl rfl rfl (X.q rfl (GS.opsNil (GS.seq (X.sq (X.q rfl (X.q rfl ?_))))))
 refine X.call (ok_arbiter_within c.Arbiters 3 7) rfl rfl rfl (.cons (.shut (n:=9) rfl) (.cons (.shut (n:=9) rfl) (.cons (.shut (n:=9) rfl) .nil))) (X.q rfl (GS.opsNil ?_))
 refine X.cond rfl (fun h_1=>?_) (fun h_1=>?_)
 ·replace hM:=ite_t h_1 hM
  refine X.sq (X.q rfl (GS.opsNil ?_))
  subst hM
  exact GS.ret ⟨_,rfl,⟨30,rfl⟩⟩
 replace hM:=ite_f h_1 hM
 refine GS.skip (X.sq (X.q rfl (GS.opsNil ?_)))
 subst hM
 exact GS.ret ⟨_,rfl,⟨30,rfl⟩⟩
theorem ok_arbiter_Majority {c:api_Court} {r:Int} (hM:arbiter_Majority c=some r):Ct Try.prog 40 [(e_api_Court c)] (V.i r):=by
 refine ct_of_gs CC_ok rfl ?_
 unfold arbiter_Majority at hM
 refine X.sq ?_
 refine X.opW rfl rfl rfl rfl (X.q rfl (GS.opsNil (GS.seq (X.sq (X.q rfl ?_)))))
 refine X.call (ok_arbiter_Check c) rfl rfl rfl (.cons (.shut (n:=9) rfl) .nil) (X.q rfl (GS.opsNil ?_))
 refine X.cond rfl (fun h_1=>?_) (fun h_1=>?_)
 ·replace hM:=ite_t h_1 hM
  refine X.sq (X.q rfl (GS.opsNil ?_))
  cases hM
  exact GS.ret ⟨_,rfl,⟨30,rfl⟩⟩
 replace hM:=ite_f h_1 hM
 refine GS.skip (GS.seq ?_)
 obtain ⟨q,h_2,hM⟩:=bind_of hM
 refine GS.region (X.q rfl (X.q rfl ?_))
 refine X.opR rfl (X.quoE h_2 rfl rfl) rfl ?_
 refine X.opR rfl (X.addE rfl rfl) rfl (X.q rfl (GS.opsNil ?_))
 cases hM
 exact GS.ret ⟨_,rfl,⟨30,rfl⟩⟩
abbrev e_api_Letter (x:api_Letter):V:=.agg [(V.i x.ID),(V.i x.Case),(V.i x.Kind),(V.i x.Round),(V.i x.From),(V.i x.To),(V.i x.Voted),(V.i x.Finding)]
theorem ok_arbiter_picked {l:(List api_Letter)} {r:Int×Bool} (hM:arbiter_picked l=some r):Ct Try.prog 45 [(V.sl (List.map e_api_Letter l))] (V.tup [(V.i r.1),(V.b r.2)]):=by
 refine ct_of_gs CC_ok rfl ?_
 unfold arbiter_picked at hM
 refine X.sq (X.q rfl (X.q rfl ?_))
 refine X.nq ?_
 refine X.opW rfl rfl rfl rfl (GS.opsNil (GS.seq (X.sq (X.q rfl ?_))))
 refine X.opR rfl (X.lenF rfl rfl rfl) rfl (X.q rfl (GS.opsNil ?_))
 refine X.join (τ:=Int×Int×Int×Int×Int×Int×Int×Int) (fun v=>arbiter_picked_j1 v.1 v.2.1 v.2.2.1 v.2.2.2.1 v.2.2.2.2.1 v.2.2.2.2.2.1 v.2.2.2.2.2.2.1 v.2.2.2.2.2.2.2=some r) (fun v=>⟨[(4,(V.ptr 0 0 0))],[.rows 8 [(V.agg [(V.i v.1),(V.i v.2.1),(V.i v.2.2.1),(V.i v.2.2.2.1),(V.i v.2.2.2.2.1),(V.i v.2.2.2.2.2.1),(V.i v.2.2.2.2.2.2.1),(V.i v.2.2.2.2.2.2.2)])]],0,none,25⟩) ?_ ?_
 ·rintro ⟨ID,Case,Kind,Round,From,To,Voted,Finding⟩ hM
  replace hM:arbiter_picked_j1 ID Case Kind Round From To Voted Finding=some r:=hM
  unfold arbiter_picked_j1 at hM
  refine GS.seq ?_
  refine X.drawc (by kernel_rfl) rfl ?_
  iterate 7 refine X.cop rfl rfl rfl rfl ?_
  refine X.cnil ?_
  refine X.norm [(2,(V.i Finding)),(3,(V.b (decide (0<Voted))))] ?_ rfl (sr rfl)
  cases hM
  exact GS.ret ⟨_,rfl,⟨30,rfl⟩⟩
 intro hj_1
 refine GS.block ?_
 refine X.gc [some 0] (X.loop (σ:=(Int×Int×Int×Int×Int×Int×Int×Int×Int)) (fun v=>⟨[(4,(V.ptr 0 0 0)),(7,(V.sl (List.map e_api_Letter l))),(8,(V.i (l.length:Int))),(9,(V.i v.1))],[.rows 8 [(V.agg [(V.i v.2.1),(V.i v.2.2.1),(V.i v.2.2.2.1),(V.i v.2.2.2.2.1),(V.i v.2.2.2.2.2.1),(V.i v.2.2.2.2.2.2.1),(V.i v.2.2.2.2.2.2.2.1),(V.i v.2.2.2.2.2.2.2.2)])]],0,none,25⟩) hM ?_ rfl) rfl rfl rfl (ga rfl rfl) (gb9 rfl rfl rfl gb_nil)
 rintro ⟨x1,ID2,Case2,Kind2,Round2,From2,To2,Voted2,Finding2⟩ b_1 hM hc_2 hr_1
 rw [arbiter_picked_b2] at hM
 refine X.sq (X.q rfl (GS.opsNil (GS.seq ?_)))
 refine X.cond rfl (fun h_1=>?_) (fun h_1=>?_)
 ·replace hM:=ite_t h_1 hM
  refine GS.skip (GS.seq ?_)
  refine X.join (τ:=Int×Int×Int×Int×Int×Int×Int×Int) (fun v=>arbiter_picked_j3 x1 v.1 v.2.1 v.2.2.1 v.2.2.2.1 v.2.2.2.2.1 v.2.2.2.2.2.1 v.2.2.2.2.2.2.1 v.2.2.2.2.2.2.2=some b_1) (fun v=>⟨[(4,(V.ptr 0 0 0)),(7,(V.sl (List.map e_api_Letter l))),(8,(V.i (l.length:Int))),(9,(V.i x1))],[.rows 8 [(V.agg [(V.i v.1),(V.i v.2.1),(V.i v.2.2.1),(V.i v.2.2.2.1),(V.i v.2.2.2.2.1),(V.i v.2.2.2.2.2.1),(V.i v.2.2.2.2.2.2.1),(V.i v.2.2.2.2.2.2.2)])]],0,none,25⟩) ?_ ?_
  ·rintro ⟨ID1,Case1,Kind1,Round1,From1,To1,Voted1,Finding1⟩ hM
   replace hM:arbiter_picked_j3 x1 ID1 Case1 Kind1 Round1 From1 To1 Voted1 Finding1=some b_1:=hM
   unfold arbiter_picked_j3 at hM
   refine GS.region ?_
   refine X.opR rfl (X.addE rfl rfl) rfl (X.q rfl (GS.opsNil ?_))
   have hE:=Option.some.inj hM
   exact X.gc [some 0] (hc_2 (w64 (x1+1),ID1,Case1,Kind1,Round1,From1,To1,Voted1,Finding1) hE.symm) rfl rfl rfl (ga rfl rfl) (gb9 rfl rfl rfl gb_nil)
  intro hj_3
  refine GS.block (GS.seq ?_)
  obtain ⟨x,h_2,hM⟩:=bind_of hM
  refine GS.region ?_
  refine X.opR rfl (X.indexF (f:=e_api_Letter) h_2 (fun _=>rfl) rfl rfl rfl rfl) rfl ?_
  refine X.opR rfl (X.loadF h_2 rfl rfl rfl) rfl ?_
  refine X.opW rfl rfl rfl rfl ?_
  refine X.op0W rfl rfl rfl (X.nq ?_)
  iterate 5 refine X.q rfl ?_
  refine GS.opsNil ?_
  refine X.cond rfl (fun h_3=>?_) (fun h_3=>?_)
  ·replace hM:=ite_t h_3 hM
   refine GS.region (X.q rfl ?_)
   refine X.op0W rfl rfl rfl (GS.opsNil ?_)
   refine GS.endB ?_
   exact X.gc [some 0] (hj_3 (x.ID,x.Case,x.Kind,x.Round,x.From,x.To,x.Voted,x.Finding) hM) rfl rfl rfl (ga rfl rfl) (gb9 rfl rfl rfl gb_nil)
  replace hM:=ite_f h_3 hM
  refine GS.skip ?_
  refine GS.endB ?_
  exact X.gc [some 0] (hj_3 (ID2,Case2,Kind2,Round2,From2,To2,Voted2,Finding2) hM) rfl rfl rfl (ga rfl rfl) (gb9 rfl rfl rfl gb_nil)
 replace hM:=ite_f h_1 hM
 refine GS.exit rfl ?_
 obtain ⟨y_1,hM,hy⟩:=map_of hM
 rw [hr_1 _ hy.symm] at hM
 exact X.gc [some 0] (hj_1 (ID2,Case2,Kind2,Round2,From2,To2,Voted2,Finding2) hM) rfl rfl rfl (ga rfl rfl) (gb9 rfl rfl rfl gb_nil)
theorem ok_arbiter_next {c:api_Court} {arbiter:Int} {round:Int} {r:Int} (hM:arbiter_next c arbiter round=some r):Ct Try.prog 30 [(e_api_Court c),(V.i arbiter),(V.i round)] (V.i r):=by
 refine ct_of_gs CC_ok rfl ?_
 unfold arbiter_next at hM
 refine X.sq ?_
 refine X.opW rfl rfl rfl rfl (X.q rfl (X.nq (X.q rfl ?_)))
 refine X.opR rfl (X.addE rfl rfl) rfl (X.q rfl (GS.opsNil (GS.seq ?_)))
 refine X.join (τ:=Int) (fun v=>arbiter_next_j1 v=some r) (fun v=>⟨[(7,(V.i v))],[],0,none,20⟩) ?_ ?_
 ·intro r_ hM
  replace hM:arbiter_next_j1 r_=some r:=hM
  unfold arbiter_next_j1 at hM
  refine X.sq (X.q rfl (X.q rfl ?_))
  refine GS.opsNil ?_
  cases hM
  exact GS.ret ⟨_,rfl,⟨30,rfl⟩⟩
 intro hj_1
 refine GS.block ?_
 refine X.gc [some 0] (X.loop (σ:=Int) (fun v=>⟨[(1,(V.i arbiter)),(3,(V.ptr 0 0 0)),(7,(V.i v))],[.rows 1 [(e_api_Court c)]],0,none,20⟩) hM ?_ rfl) rfl rfl rfl (ga rfl rfl) (gb9 rfl rfl rfl gb_nil)
 intro r_1 b_1 hM hc_2 hr_1
 rw [arbiter_next_b2] at hM
 iterate 2 refine GS.seq ?_
 obtain ⟨q,h_1,hM⟩:=bind_of hM
 refine GS.region (X.q rfl ?_)
 refine X.opR rfl (X.subE rfl rfl) rfl (X.q rfl (X.q rfl ?_))
 refine X.opR rfl (X.remE h_1 rfl rfl) rfl (X.q rfl (X.q rfl ?_))
 refine GS.opsNil ?_
 refine X.cond rfl (fun h_2=>?_) (fun h_2=>?_)
 ·replace hM:=ite_t h_2 hM
  refine GS.skip (GS.block (GS.region (X.q rfl ?_)))
  refine X.opR rfl (X.addE rfl rfl) rfl (X.q rfl (GS.opsNil ?_))
  refine GS.endB ?_
  have hE:=Option.some.inj hM
  exact X.gc [some 0] (hc_2 (w64 (r_1+1)) hE.symm) rfl rfl rfl (ga rfl rfl) (gb9 rfl rfl rfl gb_nil)
 replace hM:=ite_f h_2 hM
 refine GS.exit rfl ?_
 obtain ⟨y_1,hM,hy⟩:=map_of hM
 rw [hr_1 _ hy.symm] at hM
 exact X.gc [] (hj_1 r_1 hM) rfl rfl rfl (ga rfl rfl) (gb_nil)
theorem ok_arbiter_judge (c:api_Court) (a:Int):Ct Try.prog 23 [(e_api_Court c),(V.i a)] (V.b (arbiter_judge c a)):=by
 refine ct_of_gs CC_ok rfl ?_
 generalize hM:arbiter_judge c a=r
 unfold arbiter_judge at hM
 refine X.sq ?_
 refine X.opW rfl rfl rfl rfl (X.q rfl (X.nq (X.q rfl (X.q rfl (X.q rfl ?_)))))
 refine X.opR rfl (X.subE rfl rfl) rfl ?_
 refine X.call (ok_arbiter_within a 0 (w64 (c.Arbiters - 1))) rfl rfl rfl (.cons (.shut (n:=9) rfl) (.cons (.shut (n:=9) rfl) (.cons (.shut (n:=9) rfl) .nil))) (X.q rfl (GS.opsNil ?_))
 subst hM
 exact GS.ret ⟨_,rfl,⟨30,rfl⟩⟩
theorem ok_arbiter_topic (id:Int):Ct Try.prog 24 [(V.i id)] (V.b (arbiter_topic id)):=by
 refine ct_of_gs CC_ok rfl ?_
 generalize hM:arbiter_topic id=r
 unfold arbiter_topic at hM
 refine X.sq (X.q rfl (X.nq (X.q rfl ?_)))
 refine X.call (ok_arbiter_within id 1 1099511627776) rfl rfl rfl (.cons (.shut (n:=9) rfl) (.cons (.shut (n:=9) rfl) (.cons (.shut (n:=9) rfl) .nil))) (X.q rfl (GS.opsNil ?_))
 subst hM
 exact GS.ret ⟨_,rfl,⟨30,rfl⟩⟩
theorem ok_arbiter_finding (n:Int):Ct Try.prog 25 [(V.i n)] (V.b (arbiter_finding n)):=by
 refine ct_of_gs CC_ok rfl ?_
 generalize hM:arbiter_finding n=r
 unfold arbiter_finding at hM
 refine X.sq (X.q rfl (X.nq (X.q rfl ?_)))
 refine X.call (ok_arbiter_within n 0 65536) rfl rfl rfl (.cons (.shut (n:=9) rfl) (.cons (.shut (n:=9) rfl) (.cons (.shut (n:=9) rfl) .nil))) (X.q rfl (GS.opsNil ?_))
 subst hM
 exact GS.ret ⟨_,rfl,⟨30,rfl⟩⟩
theorem ok_slices_Index_int {s:(List Int)} {v_:Int} {r:Int} (hM:slices_Index_int s v_=some r):Ct Try.prog 56 [(V.sl (List.map V.i s)),(V.i v_)] (V.i r):=by
 refine ct_of_gs CC_ok rfl ?_
 unfold slices_Index_int at hM
 refine X.sq (X.q rfl (GS.opsNil (GS.seq (X.sq (X.q rfl ?_)))))
 refine X.opR rfl (X.lenF rfl rfl rfl) rfl (X.q rfl (GS.opsNil ?_))
 refine X.join (τ:=Unit) (fun v=>slices_Index_int_j1=some r) (fun v=>⟨[],[],0,none,19⟩) ?_ ?_
 ·intro _ hM
  replace hM:slices_Index_int_j1=some r:=hM
  unfold slices_Index_int_j1 at hM
  refine X.sq (X.q rfl (GS.opsNil ?_))
  cases hM
  exact GS.ret ⟨_,rfl,⟨30,rfl⟩⟩
 intro hj_1
 refine GS.block ?_
 refine X.gc [] (X.loop (σ:=Int) (fun v=>⟨[(0,(V.sl (List.map V.i s))),(1,(V.i v_)),(7,(V.i (s.length:Int))),(8,(V.i v))],[],0,none,19⟩) hM ?_ rfl) rfl rfl rfl (ga rfl rfl) (gb_nil)
 intro x1 b_1 hM hc_2 hr_1
 rw [slices_Index_int_b2] at hM
 refine X.sq (X.q rfl (GS.opsNil (GS.seq ?_)))
 refine X.cond rfl (fun h_1=>?_) (fun h_1=>?_)
 ·replace hM:=ite_t h_1 hM
  refine GS.skip (GS.seq (GS.block (X.sq (X.q rfl (X.q rfl ?_)))))
  refine GS.opsNil (GS.seq ?_)
  obtain ⟨x,h_2,hM⟩:=bind_of hM
  refine GS.region (X.q rfl (X.q rfl (X.q rfl ?_)))
  refine X.opR rfl (X.indexF (f:=V.i) h_2 (fun _=>rfl) rfl rfl rfl rfl) rfl ?_
  refine X.opR rfl (X.loadF h_2 rfl rfl rfl) rfl (X.q rfl (GS.opsNil ?_))
  refine X.cond rfl (fun h_3=>?_) (fun h_3=>?_)
  ·replace hM:=ite_t h_3 hM
   refine X.sq (X.q rfl (X.q rfl ?_))
   refine GS.opsNil ?_
   have hE:=Option.some.inj hM
   replace hE:=hr_1 _ hE.symm
   subst hE
   exact GS.ret ⟨_,rfl,⟨30,rfl⟩⟩
  replace hM:=ite_f h_3 hM
  refine GS.skip ?_
  refine GS.endB (GS.region ?_)
  refine X.opR rfl (X.addE rfl rfl) rfl (X.q rfl (GS.opsNil ?_))
  have hE:=Option.some.inj hM
  exact X.gc [] (hc_2 (w64 (x1+1)) hE.symm) rfl rfl rfl (ga rfl rfl) (gb_nil)
 replace hM:=ite_f h_1 hM
 refine GS.exit rfl ?_
 obtain ⟨y_1,hM,hy⟩:=map_of hM
 rw [hr_1 _ hy.symm] at hM
 exact X.gc [] (hj_1 () hM) rfl rfl rfl (gk_nil) (gb_nil)
theorem ok_slices_Contains_int {s:(List Int)} {v_:Int} {r:Bool} (hM:slices_Contains_int s v_=some r):Ct Try.prog 43 [(V.sl (List.map V.i s)),(V.i v_)] (V.b r):=by
 refine ct_of_gs CC_ok rfl ?_
 unfold slices_Contains_int at hM
 refine X.sq (X.q rfl (GS.opsNil (GS.seq ?_)))
 obtain ⟨y,h_1,hM⟩:=bind_of hM
 refine GS.region (X.q rfl (X.q rfl ?_))
 refine X.call (ok_slices_Index_int h_1) rfl rfl rfl (.cons (.shut (n:=9) rfl) (.cons (.shut (n:=9) rfl) .nil)) (X.q rfl (X.q rfl ?_))
 refine GS.opsNil ?_
 cases hM
 exact GS.ret ⟨_,rfl,⟨30,rfl⟩⟩
theorem ok_arbiter_World_find_1 (l:api_Letter) (c:Int):Ct Try.prog 51 [(e_api_Letter l),(V.fptr [(V.i c)] 0 0)] (V.b (arbiter_World_find_1 l c)):=by
 refine ct_of_gs CC_ok rfl ?_
 generalize hM:arbiter_World_find_1 l c=r
 unfold arbiter_World_find_1 at hM
 refine X.sq ?_
 refine X.opW rfl rfl rfl rfl (X.q rfl (X.nq ?_))
 iterate 5 refine X.q rfl ?_
 refine GS.opsNil ?_
 subst hM
 exact GS.ret ⟨_,rfl,⟨30,rfl⟩⟩
theorem ok_slices_IndexFunc_api_Letter__arbiter_World_find_1 {s:(List api_Letter)} {c:Int} {r:Int} (hM:slices_IndexFunc_api_Letter__arbiter_World_find_1 s c=some r):Ct Try.prog 50 [(V.sl (List.map e_api_Letter s)),(V.fn 51 [(V.fptr [(V.i c)] 0 0)])] (V.i r):=by
 refine ct_of_gs CC_ok rfl ?_
 unfold slices_IndexFunc_api_Letter__arbiter_World_find_1 at hM
 refine X.sq (X.q rfl (GS.opsNil (GS.seq (X.sq (X.q rfl ?_)))))
 refine X.opR rfl (X.lenF rfl rfl rfl) rfl (X.q rfl (GS.opsNil ?_))
 refine X.join (τ:=Unit) (fun v=>slices_IndexFunc_api_Letter__arbiter_World_find_1_j1=some r) (fun v=>⟨[],[],0,none,19⟩) ?_ ?_
 ·intro _ hM
  replace hM:slices_IndexFunc_api_Letter__arbiter_World_find_1_j1=some r:=hM
  unfold slices_IndexFunc_api_Letter__arbiter_World_find_1_j1 at hM
  refine X.sq (X.q rfl (GS.opsNil ?_))
  cases hM
  exact GS.ret ⟨_,rfl,⟨30,rfl⟩⟩
 intro hj_1
 refine GS.block ?_
 refine X.gc [] (X.loop (σ:=Int) (fun v=>⟨[(0,(V.sl (List.map e_api_Letter s))),(1,(V.fn 51 [(V.fptr [(V.i c)] 0 0)])),(7,(V.i (s.length:Int))),(8,(V.i v))],[],0,none,19⟩) hM ?_ rfl) rfl rfl rfl (ga rfl rfl) (gb_nil)
 intro x1 b_1 hM hc_2 hr_1
 rw [slices_IndexFunc_api_Letter__arbiter_World_find_1_b2] at hM
 refine X.sq (X.q rfl (GS.opsNil (GS.seq ?_)))
 refine X.cond rfl (fun h_1=>?_) (fun h_1=>?_)
 ·replace hM:=ite_t h_1 hM
  refine GS.skip (GS.seq (GS.block (X.sq (X.q rfl (X.q rfl ?_)))))
  refine GS.opsNil (GS.seq ?_)
  obtain ⟨x,h_2,hM⟩:=bind_of hM
  refine GS.region (X.q rfl (X.q rfl (X.q rfl ?_)))
  refine X.opR rfl (X.indexF (f:=e_api_Letter) h_2 (fun _=>rfl) rfl rfl rfl rfl) rfl ?_
  refine X.opR rfl (X.loadF h_2 rfl rfl rfl) rfl ?_
  refine X.call (ok_arbiter_World_find_1 x c) rfl rfl rfl (.cons (.shut (n:=9) rfl) (.cons (.shut (n:=9) rfl) .nil)) (GS.opsNil ?_)
  refine X.cond rfl (fun h_3=>?_) (fun h_3=>?_)
  ·replace hM:=ite_t h_3 hM
   refine X.sq (X.q rfl (X.q rfl ?_))
   refine GS.opsNil ?_
   have hE:=Option.some.inj hM
   replace hE:=hr_1 _ hE.symm
   subst hE
   exact GS.ret ⟨_,rfl,⟨30,rfl⟩⟩
  replace hM:=ite_f h_3 hM
  refine GS.skip ?_
  refine GS.endB (GS.region ?_)
  refine X.opR rfl (X.addE rfl rfl) rfl (X.q rfl (GS.opsNil ?_))
  have hE:=Option.some.inj hM
  exact X.gc [] (hc_2 (w64 (x1+1)) hE.symm) rfl rfl rfl (ga rfl rfl) (gb_nil)
 replace hM:=ite_f h_1 hM
 refine GS.exit rfl ?_
 obtain ⟨y_1,hM,hy⟩:=map_of hM
 rw [hr_1 _ hy.symm] at hM
 exact X.gc [] (hj_1 () hM) rfl rfl rfl (gk_nil) (gb_nil)
theorem ok_arbiter_World_promise_1 (x:api_Letter) (c:api_Letter):Ct Try.prog 48 [(e_api_Letter x),(V.fptr [(e_api_Letter c)] 0 0)] (V.b (arbiter_World_promise_1 x c)):=by
 refine ct_of_gs CC_ok rfl ?_
 generalize hM:arbiter_World_promise_1 x c=r
 unfold arbiter_World_promise_1 at hM
 refine X.sq ?_
 refine X.opW rfl rfl rfl rfl (X.q rfl (X.nq ?_))
 iterate 6 refine X.q rfl ?_
 refine GS.opsNil ?_
 subst hM
 exact GS.ret ⟨_,rfl,⟨30,rfl⟩⟩
theorem ok_slices_IndexFunc_api_Letter__arbiter_World_promise_1 {s:(List api_Letter)} {c:api_Letter} {r:Int} (hM:slices_IndexFunc_api_Letter__arbiter_World_promise_1 s c=some r):Ct Try.prog 50 [(V.sl (List.map e_api_Letter s)),(V.fn 48 [(V.fptr [(e_api_Letter c)] 0 0)])] (V.i r):=by
 refine ct_of_gs CC_ok rfl ?_
 unfold slices_IndexFunc_api_Letter__arbiter_World_promise_1 at hM
 refine X.sq (X.q rfl (GS.opsNil (GS.seq (X.sq (X.q rfl ?_)))))
 refine X.opR rfl (X.lenF rfl rfl rfl) rfl (X.q rfl (GS.opsNil ?_))
 refine X.join (τ:=Unit) (fun v=>slices_IndexFunc_api_Letter__arbiter_World_promise_1_j1=some r) (fun v=>⟨[],[],0,none,19⟩) ?_ ?_
 ·intro _ hM
  replace hM:slices_IndexFunc_api_Letter__arbiter_World_promise_1_j1=some r:=hM
  unfold slices_IndexFunc_api_Letter__arbiter_World_promise_1_j1 at hM
  refine X.sq (X.q rfl (GS.opsNil ?_))
  cases hM
  exact GS.ret ⟨_,rfl,⟨30,rfl⟩⟩
 intro hj_1
 refine GS.block ?_
 refine X.gc [] (X.loop (σ:=Int) (fun v=>⟨[(0,(V.sl (List.map e_api_Letter s))),(1,(V.fn 48 [(V.fptr [(e_api_Letter c)] 0 0)])),(7,(V.i (s.length:Int))),(8,(V.i v))],[],0,none,19⟩) hM ?_ rfl) rfl rfl rfl (ga rfl rfl) (gb_nil)
 intro x1 b_1 hM hc_2 hr_1
 rw [slices_IndexFunc_api_Letter__arbiter_World_promise_1_b2] at hM
 refine X.sq (X.q rfl (GS.opsNil (GS.seq ?_)))
 refine X.cond rfl (fun h_1=>?_) (fun h_1=>?_)
 ·replace hM:=ite_t h_1 hM
  refine GS.skip (GS.seq (GS.block (X.sq (X.q rfl (X.q rfl ?_)))))
  refine GS.opsNil (GS.seq ?_)
  obtain ⟨x,h_2,hM⟩:=bind_of hM
  refine GS.region (X.q rfl (X.q rfl (X.q rfl ?_)))
  refine X.opR rfl (X.indexF (f:=e_api_Letter) h_2 (fun _=>rfl) rfl rfl rfl rfl) rfl ?_
  refine X.opR rfl (X.loadF h_2 rfl rfl rfl) rfl ?_
  refine X.call (ok_arbiter_World_promise_1 x c) rfl rfl rfl (.cons (.shut (n:=9) rfl) (.cons (.shut (n:=9) rfl) .nil)) (GS.opsNil ?_)
  refine X.cond rfl (fun h_3=>?_) (fun h_3=>?_)
  ·replace hM:=ite_t h_3 hM
   refine X.sq (X.q rfl (X.q rfl ?_))
   refine GS.opsNil ?_
   have hE:=Option.some.inj hM
   replace hE:=hr_1 _ hE.symm
   subst hE
   exact GS.ret ⟨_,rfl,⟨30,rfl⟩⟩
  replace hM:=ite_f h_3 hM
  refine GS.skip ?_
  refine GS.endB (GS.region ?_)
  refine X.opR rfl (X.addE rfl rfl) rfl (X.q rfl (GS.opsNil ?_))
  have hE:=Option.some.inj hM
  exact X.gc [] (hc_2 (w64 (x1+1)) hE.symm) rfl rfl rfl (ga rfl rfl) (gb_nil)
 replace hM:=ite_f h_1 hM
 refine GS.exit rfl ?_
 obtain ⟨y_1,hM,hy⟩:=map_of hM
 rw [hr_1 _ hy.symm] at hM
 exact X.gc [] (hj_1 () hM) rfl rfl rfl (gk_nil) (gb_nil)
theorem ok_slices_ContainsFunc_api_Letter__arbiter_World_promise_1 {s:(List api_Letter)} {c:api_Letter} {r:Bool} (hM:slices_ContainsFunc_api_Letter__arbiter_World_promise_1 s c=some r):Ct Try.prog 47 [(V.sl (List.map e_api_Letter s)),(V.fn 48 [(V.fptr [(e_api_Letter c)] 0 0)])] (V.b r):=by
 refine ct_of_gs CC_ok rfl ?_
 unfold slices_ContainsFunc_api_Letter__arbiter_World_promise_1 at hM
 refine X.sq (X.q rfl (GS.opsNil (GS.seq ?_)))
 obtain ⟨y,h_1,hM⟩:=bind_of hM
 refine GS.region (X.q rfl (X.q rfl ?_))
 refine X.call (ok_slices_IndexFunc_api_Letter__arbiter_World_promise_1 h_1) rfl rfl rfl (.cons (.shut (n:=9) rfl) (.cons (.shut (n:=9) rfl) .nil)) (X.q rfl (X.q rfl ?_))
 refine GS.opsNil ?_
 cases hM
 exact GS.ret ⟨_,rfl,⟨30,rfl⟩⟩
theorem ok_arbiter_World_vote_1 (x:api_Letter) (c:api_Letter):Ct Try.prog 49 [(e_api_Letter x),(V.fptr [(e_api_Letter c)] 0 0)] (V.b (arbiter_World_vote_1 x c)):=by
 refine ct_of_gs CC_ok rfl ?_
 generalize hM:arbiter_World_vote_1 x c=r
 unfold arbiter_World_vote_1 at hM
 refine X.sq ?_
 refine X.opW rfl rfl rfl rfl (X.q rfl (X.nq ?_))
 refine X.mid [(3,(V.b ((decide (x.From=c.From))&&(decide (x.Round=c.Round)))))] ?_ ?_
 ·intro hg
  refine X.split (decide (x.From=c.From)) (fun h_1=>?_) (fun h_1=>?_)
  ·iterate 6 refine X.q rfl ?_
   iterate 5 refine X.opR (X.on_t rfl rfl rfl h_1) rfl rfl ?_
   refine X.opR rfl (X.pickand_t (y:=decide (x.Round=c.Round)) rfl h_1 rfl) rfl (X.q rfl (GS.opsNil ?_))
   exact X.norm _ hg rfl (sr rfl)
  iterate 6 refine X.q rfl ?_
  iterate 5 refine X.off (X.off_t rfl rfl rfl h_1) rfl ?_
  refine X.opR rfl (X.pickand_f (y:=decide (x.Round=c.Round)) rfl h_1 rfl) rfl (X.q rfl (GS.opsNil ?_))
  exact X.norm _ hg rfl (sr rfl)
 subst hM
 exact GS.ret ⟨_,rfl,⟨30,rfl⟩⟩
theorem ok_slices_IndexFunc_api_Letter__arbiter_World_vote_1 {s:(List api_Letter)} {c:api_Letter} {r:Int} (hM:slices_IndexFunc_api_Letter__arbiter_World_vote_1 s c=some r):Ct Try.prog 50 [(V.sl (List.map e_api_Letter s)),(V.fn 49 [(V.fptr [(e_api_Letter c)] 0 0)])] (V.i r):=by
 refine ct_of_gs CC_ok rfl ?_
 unfold slices_IndexFunc_api_Letter__arbiter_World_vote_1 at hM
 refine X.sq (X.q rfl (GS.opsNil (GS.seq (X.sq (X.q rfl ?_)))))
 refine X.opR rfl (X.lenF rfl rfl rfl) rfl (X.q rfl (GS.opsNil ?_))
 refine X.join (τ:=Unit) (fun v=>slices_IndexFunc_api_Letter__arbiter_World_vote_1_j1=some r) (fun v=>⟨[],[],0,none,19⟩) ?_ ?_
 ·intro _ hM
  replace hM:slices_IndexFunc_api_Letter__arbiter_World_vote_1_j1=some r:=hM
  unfold slices_IndexFunc_api_Letter__arbiter_World_vote_1_j1 at hM
  refine X.sq (X.q rfl (GS.opsNil ?_))
  cases hM
  exact GS.ret ⟨_,rfl,⟨30,rfl⟩⟩
 intro hj_1
 refine GS.block ?_
 refine X.gc [] (X.loop (σ:=Int) (fun v=>⟨[(0,(V.sl (List.map e_api_Letter s))),(1,(V.fn 49 [(V.fptr [(e_api_Letter c)] 0 0)])),(7,(V.i (s.length:Int))),(8,(V.i v))],[],0,none,19⟩) hM ?_ rfl) rfl rfl rfl (ga rfl rfl) (gb_nil)
 intro x1 b_1 hM hc_2 hr_1
 rw [slices_IndexFunc_api_Letter__arbiter_World_vote_1_b2] at hM
 refine X.sq (X.q rfl (GS.opsNil (GS.seq ?_)))
 refine X.cond rfl (fun h_1=>?_) (fun h_1=>?_)
 ·replace hM:=ite_t h_1 hM
  refine GS.skip (GS.seq (GS.block (X.sq (X.q rfl (X.q rfl ?_)))))
  refine GS.opsNil (GS.seq ?_)
  obtain ⟨x,h_2,hM⟩:=bind_of hM
  refine GS.region (X.q rfl (X.q rfl (X.q rfl ?_)))
  refine X.opR rfl (X.indexF (f:=e_api_Letter) h_2 (fun _=>rfl) rfl rfl rfl rfl) rfl ?_
  refine X.opR rfl (X.loadF h_2 rfl rfl rfl) rfl ?_
  refine X.call (ok_arbiter_World_vote_1 x c) rfl rfl rfl (.cons (.shut (n:=9) rfl) (.cons (.shut (n:=9) rfl) .nil)) (GS.opsNil ?_)
  refine X.cond rfl (fun h_3=>?_) (fun h_3=>?_)
  ·replace hM:=ite_t h_3 hM
   refine X.sq (X.q rfl (X.q rfl ?_))
   refine GS.opsNil ?_
   have hE:=Option.some.inj hM
   replace hE:=hr_1 _ hE.symm
   subst hE
   exact GS.ret ⟨_,rfl,⟨30,rfl⟩⟩
  replace hM:=ite_f h_3 hM
  refine GS.skip ?_
  refine GS.endB (GS.region ?_)
  refine X.opR rfl (X.addE rfl rfl) rfl (X.q rfl (GS.opsNil ?_))
  have hE:=Option.some.inj hM
  exact X.gc [] (hc_2 (w64 (x1+1)) hE.symm) rfl rfl rfl (ga rfl rfl) (gb_nil)
 replace hM:=ite_f h_1 hM
 refine GS.exit rfl ?_
 obtain ⟨y_1,hM,hy⟩:=map_of hM
 rw [hr_1 _ hy.symm] at hM
 exact X.gc [] (hj_1 () hM) rfl rfl rfl (gk_nil) (gb_nil)
theorem ok_slices_ContainsFunc_api_Letter__arbiter_World_vote_1 {s:(List api_Letter)} {c:api_Letter} {r:Bool} (hM:slices_ContainsFunc_api_Letter__arbiter_World_vote_1 s c=some r):Ct Try.prog 47 [(V.sl (List.map e_api_Letter s)),(V.fn 49 [(V.fptr [(e_api_Letter c)] 0 0)])] (V.b r):=by
 refine ct_of_gs CC_ok rfl ?_
 unfold slices_ContainsFunc_api_Letter__arbiter_World_vote_1 at hM
 refine X.sq (X.q rfl (GS.opsNil (GS.seq ?_)))
 obtain ⟨y,h_1,hM⟩:=bind_of hM
 refine GS.region (X.q rfl (X.q rfl ?_))
 refine X.call (ok_slices_IndexFunc_api_Letter__arbiter_World_vote_1 h_1) rfl rfl rfl (.cons (.shut (n:=9) rfl) (.cons (.shut (n:=9) rfl) .nil)) (X.q rfl (X.q rfl ?_))
 refine GS.opsNil ?_
 cases hM
 exact GS.ret ⟨_,rfl,⟨30,rfl⟩⟩
abbrev e_api_Ruling (x:api_Ruling):V:=.agg [(V.i x.Case),(V.i x.Round),(V.i x.Finding)]
abbrev fk_77 : FK api_Ruling (List (Int×Bool)):=fkM e_api_Ruling (fun _ _ _=>rfl) V.i V.b (fun _ _ _=>rfl) (fun _ _ _=>rfl)
theorem key_api_Ruling (a b:api_Ruling):keyEq (e_api_Ruling a) (e_api_Ruling b)=some (decide (a=b)):=by
 have h:keyEq (e_api_Ruling a) (e_api_Ruling b)=some (decide ([(IntKind.i64,a.Case),(IntKind.i64,a.Round),(IntKind.i64,a.Finding)]=[(IntKind.i64,b.Case),(IntKind.i64,b.Round),(IntKind.i64,b.Finding)])):=rfl
 rw [h]
 congr 1
 cases a
 cases b
 simp
theorem ok_cmp_isNaN_int (x:Int):Ct Try.prog 68 [(V.i x)] (V.b (cmp_isNaN_int x)):=by
 refine ct_of_gs CC_ok rfl ?_
 generalize hM:cmp_isNaN_int x=r
 unfold cmp_isNaN_int at hM
 refine X.sq (X.q rfl (X.nq ?_))
 iterate 4 refine X.q rfl ?_
 refine GS.opsNil ?_
 subst hM
 exact GS.ret ⟨_,rfl,⟨30,rfl⟩⟩
theorem ok_cmp_Compare_int (x:Int) (y:Int):Ct Try.prog 55 [(V.i x),(V.i y)] (V.i (cmp_Compare_int x y)):=by
 refine ct_of_gs CC_ok rfl ?_
 generalize hM:cmp_Compare_int x y=r
 unfold cmp_Compare_int at hM
 refine X.sq (X.q rfl (X.nq (X.q rfl ?_)))
 refine X.call (ok_cmp_isNaN_int x) rfl rfl rfl (.cons (.shut (n:=9) rfl) .nil) (X.q rfl (X.nq (X.q rfl ?_)))
 refine X.call (ok_cmp_isNaN_int y) rfl rfl rfl (.cons (.shut (n:=9) rfl) .nil) (X.q rfl (GS.opsNil (GS.seq (X.sq (X.q rfl (GS.opsNil ?_))))))
 refine X.cond rfl (fun h_1=>?_) (fun h_1=>?_)
 ·replace hM:=ite_t h_1 hM
  refine GS.seq (X.sq (X.q rfl (GS.opsNil ?_)))
  refine X.cond rfl (fun h_2=>?_) (fun h_2=>?_)
  ·replace hM:=ite_t h_2 hM
   refine X.sq (X.q rfl (GS.opsNil ?_))
   subst hM
   exact GS.ret ⟨_,rfl,⟨30,rfl⟩⟩
  replace hM:=ite_f h_2 hM
  refine GS.skip (X.sq (X.q rfl (GS.opsNil ?_)))
  subst hM
  exact GS.ret ⟨_,rfl,⟨30,rfl⟩⟩
 replace hM:=ite_f h_1 hM
 refine GS.skip (GS.seq (X.sq (X.q rfl (GS.opsNil ?_))))
 refine X.cond rfl (fun h_3=>?_) (fun h_3=>?_)
 ·replace hM:=ite_t h_3 hM
  refine X.sq (X.q rfl (GS.opsNil ?_))
  subst hM
  exact GS.ret ⟨_,rfl,⟨30,rfl⟩⟩
 replace hM:=ite_f h_3 hM
 refine GS.skip (GS.seq (X.sq (X.q rfl (X.q rfl (X.q rfl ?_)))))
 refine GS.opsNil ?_
 refine X.cond rfl (fun h_4=>?_) (fun h_4=>?_)
 ·replace hM:=ite_t h_4 hM
  refine X.sq (X.q rfl (GS.opsNil ?_))
  subst hM
  exact GS.ret ⟨_,rfl,⟨30,rfl⟩⟩
 replace hM:=ite_f h_4 hM
 refine GS.skip (GS.seq (X.sq (X.q rfl (X.q rfl (X.q rfl ?_)))))
 refine GS.opsNil ?_
 refine X.cond rfl (fun h_5=>?_) (fun h_5=>?_)
 ·replace hM:=ite_t h_5 hM
  refine X.sq (X.q rfl (GS.opsNil ?_))
  subst hM
  exact GS.ret ⟨_,rfl,⟨30,rfl⟩⟩
 replace hM:=ite_f h_5 hM
 refine GS.skip (X.sq (X.q rfl (GS.opsNil ?_)))
 subst hM
 exact GS.ret ⟨_,rfl,⟨30,rfl⟩⟩
theorem ok_cmp_Or_int {vals:(List Int)} {r:Int} (hM:cmp_Or_int vals=some r):Ct Try.prog 54 [(V.sl (List.map V.i vals))] (V.i r):=by
 refine ct_of_gs CC_ok rfl ?_
 unfold cmp_Or_int at hM
 refine X.sq (X.q rfl (X.nq (X.q rfl (GS.opsNil (GS.seq (X.sq (X.q rfl ?_)))))))
 refine X.opR rfl (X.lenF rfl rfl rfl) rfl (X.q rfl (GS.opsNil ?_))
 refine X.join (τ:=Unit) (fun v=>cmp_Or_int_j1=some r) (fun v=>⟨[(3,(V.i 0))],[],0,none,18⟩) ?_ ?_
 ·intro _ hM
  replace hM:cmp_Or_int_j1=some r:=hM
  unfold cmp_Or_int_j1 at hM
  refine X.sq (X.q rfl (X.q rfl ?_))
  refine GS.opsNil ?_
  cases hM
  exact GS.ret ⟨_,rfl,⟨30,rfl⟩⟩
 intro hj_1
 refine GS.block ?_
 refine X.gc [] (X.loop (σ:=Int) (fun v=>⟨[(3,(V.i 0)),(6,(V.sl (List.map V.i vals))),(7,(V.i (vals.length:Int))),(8,(V.i v))],[],0,none,18⟩) hM ?_ rfl) rfl rfl rfl (ga rfl rfl) (gb_nil)
 intro x1 b_1 hM hc_2 hr_1
 rw [cmp_Or_int_b2] at hM
 refine X.sq (X.q rfl (GS.opsNil (GS.seq ?_)))
 refine X.cond rfl (fun h_1=>?_) (fun h_1=>?_)
 ·replace hM:=ite_t h_1 hM
  refine GS.skip (GS.seq (GS.block (GS.seq ?_)))
  obtain ⟨x,h_2,hM⟩:=bind_of hM
  refine GS.region ?_
  refine X.opR rfl (X.indexF (f:=V.i) h_2 (fun _=>rfl) rfl rfl rfl rfl) rfl ?_
  refine X.opR rfl (X.loadF h_2 rfl rfl rfl) rfl (X.q rfl (X.nq (X.q rfl (X.q rfl (X.q rfl ?_)))))
  refine GS.opsNil ?_
  refine X.cond rfl (fun h_3=>?_) (fun h_3=>?_)
  ·replace hM:=ite_t h_3 hM
   refine X.sq (X.q rfl (X.q rfl ?_))
   refine GS.opsNil ?_
   have hE:=Option.some.inj hM
   replace hE:=hr_1 _ hE.symm
   subst hE
   exact GS.ret ⟨_,rfl,⟨30,rfl⟩⟩
  replace hM:=ite_f h_3 hM
  refine GS.skip ?_
  refine GS.endB (GS.region ?_)
  refine X.opR rfl (X.addE rfl rfl) rfl (X.q rfl (GS.opsNil ?_))
  have hE:=Option.some.inj hM
  exact X.gc [] (hc_2 (w64 (x1+1)) hE.symm) rfl rfl rfl (ga rfl rfl) (gb_nil)
 replace hM:=ite_f h_1 hM
 refine GS.exit rfl ?_
 obtain ⟨y_1,hM,hy⟩:=map_of hM
 rw [hr_1 _ hy.symm] at hM
 exact X.gc [] (hj_1 () hM) rfl rfl rfl (ga rfl rfl) (gb_nil)
theorem ok_arbiter_order {a:api_Ruling} {b:api_Ruling} {r:Int} (hM:arbiter_order a b=some r):Ct Try.prog 42 [(e_api_Ruling a),(e_api_Ruling b)] (V.i r):=by
 refine ct_of_gs CC_ok rfl ?_
 unfold arbiter_order at hM
 refine X.sq ?_
 iterate 2 refine X.opW rfl rfl rfl rfl ?_
 refine X.q rfl (GS.opsNil (GS.seq ?_))
 obtain ⟨y,h_1,hM⟩:=bind_of hM
 refine X.draw (by kernel_rfl) ?_
 iterate 4 refine X.dop rfl rfl rfl rfl (by kernel_rfl) rfl rfl ?_
 refine X.dcall (ok_cmp_Compare_int a.Case b.Case) rfl rfl rfl (by kernel_rfl) rfl (.cons (.shut (n:=9) rfl) (.cons (.shut (n:=9) rfl) .nil)) ?_
 iterate 4 refine X.dop rfl rfl rfl rfl (by kernel_rfl) rfl rfl ?_
 refine X.dcall (ok_cmp_Compare_int a.Round b.Round) rfl rfl rfl (by kernel_rfl) rfl (.cons (.shut (n:=9) rfl) (.cons (.shut (n:=9) rfl) .nil)) ?_
 iterate 4 refine X.dop rfl rfl rfl rfl (by kernel_rfl) rfl rfl ?_
 refine X.dcall (ok_cmp_Compare_int a.Finding b.Finding) rfl rfl rfl (by kernel_rfl) rfl (.cons (.shut (n:=9) rfl) (.cons (.shut (n:=9) rfl) .nil)) ?_
 refine X.dbld rfl rfl rfl rfl rfl (by kernel_rfl) rfl ?_
 refine X.dcall (ok_cmp_Or_int h_1) rfl rfl rfl (by kernel_rfl) rfl (.cons (.shut (n:=9) rfl) .nil) ?_
 refine X.dop rfl rfl rfl rfl (by kernel_rfl) rfl rfl ?_
 refine X.dnil ?_
 refine X.norm [(4,(V.i y))] ?_ rfl (sr rfl)
 cases hM
 exact GS.ret ⟨_,rfl,⟨30,rfl⟩⟩
section
open Go.Wk Go.RowKit Go.Shelf
def encRul (x:api_Ruling):List Value:=[.int .i64 x.Case,.int .i64 x.Round,.int .i64 x.Finding]
theorem flatRul : X.Flat1 encRul 3 e_api_Ruling:=by
 refine ⟨fun _=>rfl,fun x v hv=>?_,fun _=>rfl,fun x v hv c=>?_⟩ <;> simp only [encRul,List.mem_cons,List.not_mem_nil,or_false] at hv <;> rcases hv with rfl | rfl | rfl <;> first | rfl | (intro h; cases h)
def cfRul (x y:api_Ruling):Int:=if cmp_Compare_int x.Case y.Case=0 then (if cmp_Compare_int x.Round y.Round=0 then cmp_Compare_int x.Finding y.Finding else cmp_Compare_int x.Round y.Round) else cmp_Compare_int x.Case y.Case
theorem cmpI (a b:Int):cmp_Compare_int a b=if a<b then -1 else if b<a then 1 else 0:=by
 unfold cmp_Compare_int cmp_isNaN_int
 simp
theorem ltRul (x y:api_Ruling):decide (cfRul x y<0)=lt_ruling x y:=by
 have h:∀ a b:Int,(cmp_Compare_int a b=0↔a=b)∧(cmp_Compare_int a b<0↔a<b):=fun a b=>by
  rw [cmpI]
  by_cases h1:a<b
  ·rw [if_pos h1]; exact ⟨⟨fun h=>by omega,fun h=>by omega⟩,⟨fun _=>h1,fun _=>by omega⟩⟩
  ·rw [if_neg h1]
   by_cases h2:b<a
   ·rw [if_pos h2]; exact ⟨⟨fun h=>by omega,fun h=>by omega⟩,⟨fun h=>by omega,fun h=>by omega⟩⟩
   ·rw [if_neg h2]; exact ⟨⟨fun h=>by omega,fun h=>by omega⟩,⟨fun h=>by omega,fun h=>by omega⟩⟩
 unfold cfRul lt_ruling
 rw [Bool.eq_iff_iff,decide_eq_true_eq]
 by_cases c1:x.Case=y.Case
 ·rw [if_pos ((h _ _).1.2 c1)]
  by_cases c2:x.Round=y.Round
  ·rw [if_pos ((h _ _).1.2 c2),(h _ _).2]
   simp [c1,c2]
  ·rw [if_neg (fun e=>c2 ((h _ _).1.1 e)),(h _ _).2]
   simp [c1,c2]
 ·rw [if_neg (fun e=>c1 ((h _ _).1.1 e)),(h _ _).2]
  simp [c1]
theorem swoRul : Go.Sort.SWO lt_ruling:=⟨fun x=>by unfold lt_ruling; simp,fun x y z h1 h2=>by unfold lt_ruling at *; simp at *; omega,fun x y z h1 h2=>by unfold lt_ruling at *; simp at *; omega⟩
theorem cmpRul (x y:api_Ruling):arbiter_order x y=some (cfRul x y):=by
 have key:∀ (a b c:Int) (m:Nat),Lp (cmp_Or_int_b2 [a,b,c]) (m+4) 0=some (if a=0 then (if b=0 then c else b) else a):=fun a b c m=>by
  by_cases h1:a=0
  ·have e0:cmp_Or_int_b2 [a,b,c] 0=some (.inl 1):=by simp [cmp_Or_int_b2,ix,w64,h1]
   rw [lp_next _ e0,if_pos h1]
   by_cases h2:b=0
   ·have e1:cmp_Or_int_b2 [a,b,c] 1=some (.inl 2):=by simp [cmp_Or_int_b2,ix,w64,h2]
    rw [lp_next _ e1,if_pos h2]
    by_cases h3:c=0
    ·have e2:cmp_Or_int_b2 [a,b,c] 2=some (.inl 3):=by simp [cmp_Or_int_b2,ix,w64,h3]
     have e3:cmp_Or_int_b2 [a,b,c] 3=some (.inr 0):=by simp [cmp_Or_int_b2,cmp_Or_int_j1]
     rw [lp_next _ e2,lp_done _ e3,h3]
    ·have e2:cmp_Or_int_b2 [a,b,c] 2=some (.inr c):=by simp [cmp_Or_int_b2,ix,h3]
     rw [lp_done _ e2]
   ·have e1:cmp_Or_int_b2 [a,b,c] 1=some (.inr b):=by simp [cmp_Or_int_b2,ix,h2]
    rw [lp_done _ e1,if_neg h2]
  ·have e0:cmp_Or_int_b2 [a,b,c] 0=some (.inr a):=by simp [cmp_Or_int_b2,ix,h1]
   rw [lp_done _ e0,if_neg h1]
 have h:=key (cmp_Compare_int x.Case y.Case) (cmp_Compare_int x.Round y.Round) (cmp_Compare_int x.Finding y.Finding) 18446744073709551612
 unfold arbiter_order cmp_Or_int
 show Option.bind (Lp _ (18446744073709551612+4) 0) _=_
 rw [h]; rfl
theorem by_ruling : X.SortBy Try.prog 41 42 3 e_api_Ruling lt_ruling:=X.sortBy_ct Try.sortCl rfl (by decide) Try.isAgg45 Try.sizeOf45 flatRul ltRul swoRul (enters_of Try.func41 (by kernel_rfl) rfl) (fun x y=>ok_arbiter_order (cmpRul x y))
end
theorem fold_arbiter_rulings_b3 (c:api_Court):FoldOK (arbiter_rulings_b3 c) List.Perm:=by
 refine ⟨fun _=>List.Perm.refl _,fun _ _ _ h1 h2=>h1.trans h2,?_,?_⟩
 ·rintro ⟨k,v⟩ s s' t hp h
  unfold arbiter_rulings_b3 arbiter_rulings_j4 at h ⊢
  obtain ⟨y,h1,h⟩:=bind_of h
  rw [h1]
  simp only [Option.bind_some]
  by_cases c:decide (y≤(v.length:Int))=true
  ·rw [if_pos c] at h ⊢
   obtain ⟨r,h2,h⟩:=bind_of h
   obtain ⟨h3,rfl⟩:=app_of h2
   simp only [Option.some.injEq] at h
   subst h
   refine ⟨s'++[k],?_,hp.append_right [k]⟩
   unfold app
   rw [if_pos (by rw [← hp.length_eq]; exact h3)]
   rfl
  ·rw [if_neg c] at h ⊢
   simp only [Option.some.injEq] at h
   subst h
   exact ⟨s',rfl,hp⟩
 ·rintro ⟨k,v⟩ ⟨k',v'⟩ s t u h h'
  unfold arbiter_rulings_b3 arbiter_rulings_j4 at h h' ⊢
  obtain ⟨y,h1,h⟩:=bind_of h
  rw [h1] at h'
  rw [h1]
  simp only [Option.bind_some] at h' ⊢
  by_cases c:decide (y≤(v.length:Int))=true
  ·rw [if_pos c] at h
   obtain ⟨r,h2,h⟩:=bind_of h
   obtain ⟨h3,rfl⟩:=app_of h2
   simp only [Option.some.injEq] at h
   subst h
   by_cases c':decide (y≤(v'.length:Int))=true
   ·rw [if_pos c'] at h' ⊢
    obtain ⟨r,h4,h'⟩:=bind_of h'
    obtain ⟨h5,rfl⟩:=app_of h4
    simp only [Option.some.injEq] at h'
    subst h'
    simp only [List.length_append,List.length_singleton] at h3 h5
    refine ⟨s++[k'],s++[k']++[k],?_,?_,?_⟩
    ·unfold app; rw [if_pos (by simp only [List.length_singleton]; omega)]; rfl
    ·rw [if_pos c]; unfold app; rw [if_pos (by simp only [List.length_append,List.length_singleton]; omega)]; rfl
    ·rw [List.append_assoc,List.append_assoc]; exact List.Perm.append_left s (List.Perm.swap k' k [])
   ·rw [if_neg c'] at h' ⊢
    simp only [Option.some.injEq] at h'
    subst h'
    refine ⟨s,s++[k],rfl,?_,List.Perm.refl _⟩
    rw [if_pos c]; unfold app; rw [if_pos h3]; rfl
  ·rw [if_neg c] at h
   simp only [Option.some.injEq] at h
   subst h
   by_cases c':decide (y≤(v'.length:Int))=true
   ·rw [if_pos c'] at h' ⊢
    obtain ⟨r,h4,h'⟩:=bind_of h'
    obtain ⟨h5,rfl⟩:=app_of h4
    simp only [Option.some.injEq] at h'
    subst h'
    refine ⟨s++[k'],s++[k'],?_,?_,List.Perm.refl _⟩
    ·unfold app; rw [if_pos h5]; rfl
    ·rw [if_neg c]
   ·rw [if_neg c'] at h' ⊢
    simp only [Option.some.injEq] at h'
    subst h'
    exact ⟨s,s,rfl,by rw [if_neg c],List.Perm.refl _⟩
theorem sorted_perm {l l':List api_Ruling} (hp:l.Perm l'):srtF lt_ruling l=srtF lt_ruling l':=by
 obtain ⟨p1,s1⟩:=srtF_spec swoRul l
 obtain ⟨p2,s2⟩:=srtF_spec swoRul l'
 refine List.Perm.eq_of_pairwise (le:=fun x y=>lt_ruling y x=false) (fun a b _ _ h1 h2=>?_) s1 s2 ((p1.trans hp).trans p2.symm)
 unfold lt_ruling at h1 h2
 simp at h1 h2
 obtain ⟨a1,a2,a3⟩:=a
 obtain ⟨b1,b2,b3⟩:=b
 simp only at h1 h2
 have e1:a1=b1:=by omega
 subst e1
 have e2:a2=b2:=by
  have:=h1.2 rfl
  have:=h2.2 rfl
  omega
 subst e2
 have e3:a3=b3:=by
  have:=(h1.2 rfl).2 rfl
  have:=(h2.2 rfl).2 rfl
  omega
 subst e3
 rfl
theorem inv_arbiter_rulings_j5 {l l' r:List api_Ruling} (hp:l.Perm l') (h:arbiter_rulings_j5 l=some r):arbiter_rulings_j5 l'=some r:=by
 unfold arbiter_rulings_j5 arbiter_rulings_j2 srtFO at h ⊢
 rw [hp.length_eq,sorted_perm hp] at h
 exact h
set_option maxHeartbeats 4000000 in
theorem own_arbiter_rulings {c:api_Court} {l:(List api_Letter)} {r:(List api_Ruling)} (hM:arbiter_rulings c l=some r):OwnCt Try.prog 21 [(e_api_Court c),(V.sl (List.map e_api_Letter l))] (fun z=>(ovlz z 0 r)) (fun z=>(oblz z 3 e_api_Ruling r)):=by
 refine own_of_gs CC_ok rfl ?_
 unfold arbiter_rulings at hM
 refine X.sq ?_
 refine X.opW rfl rfl rfl rfl (X.q rfl (X.nq ?_))
 refine X.opW (H':=([.rows 1 [(e_api_Court c)],famM fk_77 2 []]++famB fk_77 [])) rfl rfl rfl rfl (X.q rfl (GS.opsNil (GS.seq (X.sq (X.q rfl ?_)))))
 refine X.opR rfl (X.lenF rfl rfl rfl) rfl (X.q rfl (GS.opsNil ?_))
 refine X.join (τ:=(List (api_Ruling×(List (Int×Bool))))) (fun v=>arbiter_rulings_j1 c v=some r) (fun v=>⟨[(2,(V.ptr 0 0 0)),(5,(V.map 1))],([.rows 1 [(e_api_Court c)],famM fk_77 2 v]++famB fk_77 v),0,none,61⟩) ?_ ?_
 ·intro m hM
  replace hM:arbiter_rulings_j1 c m=some r:=hM
  unfold arbiter_rulings_j1 at hM
  refine X.sq (X.q rfl (GS.opsNil ?_))
  iterate 2 refine GS.seq ?_
  refine GS.freezeW (K':=[(2,(V.fptr [(e_api_Court c)] 0 0)),(5,(V.fmap (List.map (fun p:api_Ruling×(List (Int×Bool))=>e_api_Ruling p.1) m) (List.map (fun p:api_Ruling×(List (Int×Bool))=>(fun l=>V.fmap (List.map (fun p=>V.i p.1) l) (List.map (fun p=>V.b p.2) l)) p.2) m))),(9,V.nil)]) (X.fw_cons rfl ⟨30,rfl⟩ (X.fw_cons rfl (X.frM rfl rfl (fun _ _=>rfl) (fun _ _=>rfl) (fun _ _=>rfl)) (X.fw_lit rfl X.fw_nil))) (GS.region ?_)
  refine X.q rfl ?_
  refine X.opW (H':=[.iter (List.map (fun p:api_Ruling×(List (Int×Bool))=>e_api_Ruling p.1) m) (List.map (fun p:api_Ruling×(List (Int×Bool))=>(fun l=>V.fmap (List.map (fun p=>V.i p.1) l) (List.map (fun p=>V.b p.2) l)) p.2) m) (idxs 0 (List.length (List.map (fun p:api_Ruling×(List (Int×Bool))=>e_api_Ruling p.1) m))) none]) rfl rfl rfl rfl (GS.opsNil ?_)
  refine X.join (τ:=(List api_Ruling)) (fun v=>arbiter_rulings_j2 v=some r) (fun v=>⟨[(9,(ovl 0 v))],[obl 3 e_api_Ruling v],0,none,61⟩) ?_ ?_
  ·intro l1 hM
   replace hM:arbiter_rulings_j2 l1=some r:=hM
   unfold arbiter_rulings_j2 at hM
   refine GS.seq ?_
   obtain ⟨l2,h_1,hM⟩:=bind_of hM
   refine GS.region (X.q rfl ?_)
   refine X.norm [(9,(ovl 0 l1)),(58,(ovl 0 l1))] ?_ rfl (sr rfl)
   refine X.sortF (z:=true) h_1 by_ruling (fun _ _ _ h=>h) (K':=[(9,(ovl 0 l2)),(58,(ovl 0 l2))]) (H':=[obl 3 e_api_Ruling l2]) rfl rfl rfl rfl rfl rfl ?_ ?_ ?_
   ·first | rfl | rw [X.ovlz_len (X.srtFO_len by_ruling.swo h_1)] | simp only [ovl,X.ovlz_len (X.srtFO_len by_ruling.swo h_1)] | simp only [X.srtFO_len by_ruling.swo h_1]
   ·first | rfl | (simp only [hput]; rfl) | (simp only [ovl,obl]; rw [X.ovlz_len (X.srtFO_len by_ruling.swo h_1)] <;> rfl)
   refine X.nq (X.q rfl (X.q rfl ?_))
   refine GS.opsNil ?_
   have hE:=Option.some.inj hM
   subst hE
   refine X.gc [some 0] (H':=[obl 3 e_api_Ruling l2]) (K':=[(4,(ovl 0 l2))]) ?_ rfl rfl rfl (gk_cons rfl (rn_ovl rfl) gk_nil) (gb_obl 9 rfl rfl (fun _=>rfl) gb_nil)
   exact GS.ret ⟨true,rfl,rfl⟩
  intro hj_2
  refine GS.block ?_
  obtain ⟨vE_3,hF_3,hM⟩:=bind_of hM
  refine X.gc [none,some 0] (X.rangeM (ga:=e_api_Ruling) (gb:=(fun l=>V.fmap (List.map (fun p=>V.i p.1) l) (List.map (fun p=>V.b p.2) l))) (f0:=arbiter_rulings_b3 c) (fun v left last=>⟨[(2,(V.fptr [(e_api_Court c)] 0 0)),(9,(ovl 0 v)),(43,(V.ptr 1 0 0))],[obl 3 e_api_Ruling v,.iter (List.map (fun p:api_Ruling×(List (Int×Bool))=>e_api_Ruling p.1) m) (List.map (fun p:api_Ruling×(List (Int×Bool))=>(fun l=>V.fmap (List.map (fun p=>V.i p.1) l) (List.map (fun p=>V.b p.2) l)) p.2) m) left last],0,none,61⟩) hF_3 (fold_arbiter_rulings_b3 c) ?_ ?_ rfl) rfl rfl rfl (ga rfl rfl) (gb_pad' rfl (X.gb_iter rfl rfl gb_nil))
  ·intro l5 left last hne_3 hs_3
   refine X.sq ?_
   refine X.next rfl rfl rfl rfl rfl (fun e=>absurd e hne_3) (fun j_3 kv_3 vv_3 hj_3 hk_3 hv_3=>?_)
   obtain ⟨⟨k,v_⟩,w_3,rfl,rfl,hM,hc_3⟩:=hs_3 j_3 kv_3 vv_3 hj_3 hk_3 hv_3
   unfold arbiter_rulings_b3 at hM
   refine X.q rfl (GS.opsNil (GS.seq ?_))
   refine GS.condT rfl (GS.skip ?_)
   refine X.join (τ:=(List api_Ruling)) (fun v=>arbiter_rulings_j4 v=some w_3) (fun v=>⟨[(2,(V.fptr [(e_api_Court c)] 0 0)),(9,(ovl 0 v)),(43,(V.ptr 1 0 0))],[obl 3 e_api_Ruling v,.iter (List.map (fun p:api_Ruling×(List (Int×Bool))=>e_api_Ruling p.1) m) (List.map (fun p:api_Ruling×(List (Int×Bool))=>(fun l=>V.fmap (List.map (fun p=>V.i p.1) l) (List.map (fun p=>V.b p.2) l)) p.2) m) (List.filter (fun i=>decide (i≠j_3)) left) (some j_3)],0,none,61⟩) ?_ ?_
   ·intro l3 hM
    replace hM:arbiter_rulings_j4 l3=some w_3:=hM
    unfold arbiter_rulings_j4 at hM
    have hE:=Option.some.inj hM
    subst hE
    exact X.gc [some 0,some 1] hc_3 rfl rfl rfl (gk_cons rfl ⟨9,rfl⟩ (gk_cons rfl (rn_ovl rfl) (ga rfl rfl))) (gb_obl 9 rfl rfl (fun _=>rfl) (X.gb_iter rfl rfl gb_nil))
   intro hj_4
   refine GS.block (X.sq ?_)
   refine X.entry rfl rfl rfl hk_3 hv_3 rfl (X.q rfl (X.q rfl ?_))
   refine X.opW rfl rfl rfl rfl ?_
   refine X.op0W rfl rfl rfl (X.q rfl (GS.opsNil (GS.seq ?_)))
   obtain ⟨y,h_2,hM⟩:=bind_of hM
   refine GS.region (X.q rfl ?_)
   refine X.opR rfl (X.lenMF rfl rfl rfl) rfl (X.q rfl ?_)
   refine X.call (ok_arbiter_Majority h_2) rfl rfl rfl (.cons (.shut (n:=9) rfl) .nil) (X.q rfl (GS.opsNil ?_))
   refine X.cond rfl (fun h_3=>?_) (fun h_3=>?_)
   ·replace hM:=ite_t h_3 hM
    obtain ⟨l4,h_4,hM⟩:=bind_of hM
    refine GS.region (X.q rfl (X.q rfl ?_))
    refine X.opW (H':=[obl 3 e_api_Ruling l5,.iter (List.map (fun p:api_Ruling×(List (Int×Bool))=>e_api_Ruling p.1) m) (List.map (fun p:api_Ruling×(List (Int×Bool))=>(fun l=>V.fmap (List.map (fun p=>V.i p.1) l) (List.map (fun p=>V.b p.2) l)) p.2) m) (List.filter (fun i=>decide (i≠j_3)) left) (some j_3),.rows 3 [(e_api_Ruling k)],.rows 3 (List.map e_api_Ruling ([k]))]) rfl rfl rfl rfl ?_
    refine X.appN (f:=e_api_Ruling) h_4 (fun _=>rfl) (by rfl) (by rfl) (by rfl) (by rfl) (by rfl) (by rfl) (by rfl) (by rfl) (by rfl) (by rfl) (by rfl) (by exact rfl) (by rfl) (by rfl) (X.q rfl (GS.opsNil ?_))
    refine GS.endB ?_
    exact X.gc [some 4,some 1] (hj_4 l4 hM) rfl rfl rfl (gk_cons rfl ⟨9,rfl⟩ (gk_cons rfl (rv_ne (app_ne h_4) rfl) (ga rfl rfl))) (gb_obl' 9 (app_ne h_4) rfl rfl (fun _=>rfl) (X.gb_iter rfl rfl gb_nil))
   replace hM:=ite_f h_3 hM
   refine GS.skip ?_
   refine GS.endB ?_
   exact X.gc [some 0,some 1] (hj_4 l5 hM) rfl rfl rfl (gk_cons rfl ⟨9,rfl⟩ (gk_cons rfl (rn_ovl rfl) (ga rfl rfl))) (gb_obl 9 rfl rfl (fun _=>rfl) (X.gb_iter rfl rfl gb_nil))
  intro l5 last hrel_3
  replace hM:arbiter_rulings_j5 l5=some r:=inv_arbiter_rulings_j5 hrel_3 hM
  unfold arbiter_rulings_j5 at hM
  refine X.sq ?_
  refine X.next rfl rfl rfl rfl rfl (fun _=>?_) (fun j_ kv_ vv_ hj_=>absurd hj_ List.not_mem_nil)
  refine X.q rfl (GS.opsNil (GS.seq ?_))
  refine GS.condF rfl ?_
  refine GS.exit rfl ?_
  exact X.gc [some 0] (hj_2 l5 hM) rfl rfl rfl (gk_cons rfl (rn_ovl rfl) gk_nil) (gb_obl 9 rfl rfl (fun _=>rfl) gb_nil)
 intro hj_1
 refine GS.block ?_
 refine X.gcFam 2 2 1 1 [some 0,some 1] (P0:=[.rows 1 [(e_api_Court c)],.dead]) rfl (X.loop (σ:=(Int×(List (api_Ruling×(List (Int×Bool)))))) (fun v=>⟨[(2,(V.ptr 0 0 0)),(5,(V.map 1)),(13,(V.sl (List.map e_api_Letter l))),(14,(V.i (l.length:Int))),(15,(V.i v.1))],([.rows 1 [(e_api_Court c)],famM fk_77 2 v.2]++famB fk_77 v.2),0,none,61⟩) hM ?_ rfl) rfl rfl rfl rfl (ga rfl rfl) (gb9 rfl rfl rfl (gb_pad gb_nil)) rfl rfl rfl rfl rfl
 rintro ⟨x1,m4⟩ b_1 hM hc_6 hr_1
 rw [arbiter_rulings_b6] at hM
 refine X.sq (X.q rfl (GS.opsNil (GS.seq ?_)))
 refine X.cond rfl (fun h_5=>?_) (fun h_5=>?_)
 ·replace hM:=ite_t h_5 hM
  refine GS.skip (GS.seq ?_)
  refine X.join (τ:=(List (api_Ruling×(List (Int×Bool))))) (fun v=>arbiter_rulings_j7 x1 v=some b_1) (fun v=>⟨[(2,(V.ptr 0 0 0)),(5,(V.map 1)),(13,(V.sl (List.map e_api_Letter l))),(14,(V.i (l.length:Int))),(15,(V.i x1))],([.rows 1 [(e_api_Court c)],famM fk_77 2 v]++famB fk_77 v),0,none,61⟩) ?_ ?_
  ·intro m1 hM
   replace hM:arbiter_rulings_j7 x1 m1=some b_1:=hM
   unfold arbiter_rulings_j7 at hM
   refine GS.region ?_
   refine X.opR rfl (X.addE rfl rfl) rfl (X.q rfl (GS.opsNil ?_))
   have hE:=Option.some.inj hM
   exact X.gcFam 2 2 1 1 [some 0,some 1] (P0:=[.rows 1 [(e_api_Court c)],.dead]) rfl (hc_6 (w64 (x1+1),m1) hE.symm) rfl rfl rfl rfl (ga rfl rfl) (gb9 rfl rfl rfl (gb_pad gb_nil)) rfl rfl rfl rfl rfl
  intro hj_7
  refine GS.block (GS.seq ?_)
  obtain ⟨x,h_6,hM⟩:=bind_of hM
  refine GS.region ?_
  refine X.opR rfl (X.indexF (f:=e_api_Letter) h_6 (fun _=>rfl) rfl rfl rfl rfl) rfl ?_
  refine X.opR rfl (X.loadF h_6 rfl rfl rfl) rfl ?_
  refine X.famAlloc (F:=fk_77) (A:=m4) (P0:=[.rows 1 [(e_api_Court c)],.dead]) (P2:=[.rows 1 [(e_api_Court c)],famM fk_77 3 m4,.rows 8 [(V.agg [(V.i 0),(V.i 0),(V.i 0),(V.i 0),(V.i 0),(V.i 0),(V.i 0),(V.i 0)])]]) 2 1 [some 0,some 1] [(2,(V.ptr 0 0 0)),(5,(V.map 1)),(13,(V.sl (List.map e_api_Letter l))),(14,(V.i (l.length:Int))),(15,(V.i x1)),(18,(e_api_Letter x))] rfl (fun _ _=>rfl) (by intro h; cases h) rfl rfl rfl rfl rfl rfl rfl rfl rfl rfl rfl (gk_cons rfl ⟨9,rfl⟩ (gk_cons rfl ⟨9,rfl⟩ (gk_cons rfl ⟨9,rfl⟩ (gk_cons rfl ⟨9,rfl⟩ (gk_cons rfl ⟨9,rfl⟩ (gk_cons rfl ⟨9,rfl⟩ gk_nil)))))) (gb_box rfl rfl ⟨9,rfl⟩ (gb_pad gb_nil)) rfl ?_
  refine X.op0W (H':=([.rows 1 [(e_api_Court c)],famM fk_77 3 m4,.rows 8 [(e_api_Letter x)]]++famB fk_77 m4)) rfl rfl rfl (GS.opsNil (GS.seq (X.sq (X.q rfl (X.q rfl (X.q rfl ?_))))))
  refine GS.opsNil ?_
  refine X.cond rfl (fun h_7=>?_) (fun h_7=>?_)
  ·replace hM:=ite_t h_7 hM
   refine GS.exit rfl ?_
   exact X.gcFam 3 2 1 1 [some 0,some 1] (P0:=[.rows 1 [(e_api_Court c)],.dead]) rfl (hj_7 m4 hM) rfl rfl rfl rfl (ga rfl rfl) (gb9 rfl rfl rfl (gb_pad gb_nil)) rfl rfl rfl rfl rfl
  replace hM:=ite_f h_7 hM
  refine GS.skip (X.sq ?_)
  iterate 7 refine X.q rfl ?_
  refine X.famAlloc (F:=fk_77) (A:=m4) (P0:=[.rows 1 [(e_api_Court c)],.dead,.rows 8 [(e_api_Letter x)]]) (P2:=[.rows 1 [(e_api_Court c)],famM fk_77 4 m4,.rows 8 [(e_api_Letter x)],.rows 3 [(V.agg [(V.i 0),(V.i 0),(V.i 0)])]]) 3 1 [some 0,some 1,some 2] [(2,(V.ptr 0 0 0)),(5,(V.map 1)),(7,(V.ptr 2 0 0)),(13,(V.sl (List.map e_api_Letter l))),(14,(V.i (l.length:Int))),(15,(V.i x1)),(28,(V.agg [(V.i x.Case),(V.i x.Round),(V.i x.Finding)]))] rfl (fun _ _=>rfl) (by intro h; cases h) rfl rfl rfl rfl rfl rfl rfl rfl rfl rfl rfl (gk_cons rfl ⟨9,rfl⟩ (gk_cons rfl ⟨9,rfl⟩ (gk_cons rfl ⟨9,rfl⟩ (gk_cons rfl ⟨9,rfl⟩ (gk_cons rfl ⟨9,rfl⟩ (gk_cons rfl ⟨9,rfl⟩ (gk_cons rfl ⟨9,rfl⟩ gk_nil))))))) (gb_box rfl rfl ⟨9,rfl⟩ (gb_pad (gb_box rfl rfl ⟨9,rfl⟩ gb_nil))) rfl ?_
  refine X.op0W (H':=([.rows 1 [(e_api_Court c)],famM fk_77 4 m4,.rows 8 [(e_api_Letter x)],.rows 3 [(V.agg [(V.i x.Case),(V.i x.Round),(V.i x.Finding)])]]++famB fk_77 m4)) rfl rfl rfl (GS.opsNil (GS.seq (X.sq (X.q rfl (X.q rfl ?_)))))
  refine X.opR rfl (X.famLookE (F:=fk_77) (A:=m4) (b:=4) (k0:=(⟨x.Case,x.Round,x.Finding⟩:api_Ruling)) key_api_Ruling rfl rfl rfl rfl rfl rfl) rfl ?_
  refine X.opR rfl (X.famNil rfl rfl rfl rfl) rfl (GS.opsNil ?_)
  refine X.join (τ:=(List (api_Ruling×(List (Int×Bool))))) (fun v=>arbiter_rulings_j8 x1 x v=some b_1) (fun v=>⟨[(2,(V.ptr 0 0 0)),(5,(V.map 1)),(7,(V.ptr 2 0 0)),(8,(V.ptr 3 0 0)),(13,(V.sl (List.map e_api_Letter l))),(14,(V.i (l.length:Int))),(15,(V.i x1))],([.rows 1 [(e_api_Court c)],famM fk_77 4 v,.rows 8 [(e_api_Letter x)],.rows 3 [(V.agg [(V.i x.Case),(V.i x.Round),(V.i x.Finding)])]]++famB fk_77 v),0,none,61⟩) ?_ ?_
  ·intro m2 hM
   replace hM:arbiter_rulings_j8 x1 x m2=some b_1:=hM
   unfold arbiter_rulings_j8 at hM
   refine X.drawCut0 5 rfl (by kernel_rfl) (by kernel_rfl) rfl ?_
   iterate 2 refine X.dop rfl rfl rfl rfl (by kernel_rfl) rfl rfl ?_
   refine X.dop rfl (X.famLookE (F:=fk_77) (A:=m2) (b:=4) (k0:=(⟨x.Case,x.Round,x.Finding⟩:api_Ruling)) key_api_Ruling rfl rfl rfl rfl rfl rfl) rfl rfl (by kernel_rfl) rfl rfl ?_
   iterate 2 refine X.dop rfl rfl rfl rfl (by kernel_rfl) rfl rfl ?_
   refine X.dnil ?_
   refine X.norm [(2,(V.ptr 0 0 0)),(5,(V.map 1)),(13,(V.sl (List.map e_api_Letter l))),(14,(V.i (l.length:Int))),(15,(V.i x1)),(38,(famLook fk_77 4 m2 (⟨x.Case,x.Round,x.Finding⟩:api_Ruling))),(40,(V.i x.From))] ?_ rfl (sr rfl)
   obtain ⟨m3,h_8,hM⟩:=bind_of hM
   refine X.famIn (P:=[.rows 1 [(e_api_Court c)],famM fk_77 4 m2,.rows 8 [(e_api_Letter x)],.rows 3 [(V.agg [(V.i x.Case),(V.i x.Round),(V.i x.Finding)])]]) (b:=4) (g:=e_api_Ruling) (f1:=V.i) (f2:=V.b) (A:=m2) (a:=x.From) (c:=true) (pos0:=posE) (pos1:=posI) (P2:=[.rows 1 [(e_api_Court c)],famM fk_77 4 (putM posE m2 (⟨x.Case,x.Round,x.Finding⟩:api_Ruling) (putM posI m3 x.From true)),.rows 8 [(e_api_Letter x)],.rows 3 [(V.agg [(V.i x.Case),(V.i x.Round),(V.i x.Finding)])]]) 1 h_8 X.keyEq_i (X.posI_ok _) rfl rfl rfl rfl rfl rfl rfl rfl rfl rfl (GS.opsNil ?_)
   refine GS.endB ?_
   exact X.gcFam 4 2 1 1 [some 0,some 1] (P0:=[.rows 1 [(e_api_Court c)],.dead]) rfl (hj_7 (putM posE m2 (⟨x.Case,x.Round,x.Finding⟩:api_Ruling) (putM posI m3 x.From true)) hM) rfl rfl rfl rfl (ga rfl rfl) (gb9 rfl rfl rfl (gb_pad gb_nil)) rfl rfl rfl rfl rfl
  intro hj_8
  refine X.cond rfl (fun h_9=>?_) (fun h_9=>?_)
  ·replace hM:=ite_t h_9 hM
   refine GS.region (X.q rfl (X.q rfl ?_))
   refine X.opW (H':=([.rows 1 [(e_api_Court c)],famM fk_77 4 m4,.rows 8 [(e_api_Letter x)],.rows 3 [(V.agg [(V.i x.Case),(V.i x.Round),(V.i x.Finding)])]]++famB fk_77 m4)++[.map [] []]) rfl rfl X.puts_end rfl ?_
   refine X.famPutNew (F:=fk_77) (A:=m4) (pos0:=posE) (P0:=[.rows 1 [(e_api_Court c)],.dead,.rows 8 [(e_api_Letter x)],.rows 3 [(V.agg [(V.i x.Case),(V.i x.Round),(V.i x.Finding)])]]) (P2:=[.rows 1 [(e_api_Court c)],famM fk_77 4 (putM posE m4 (⟨x.Case,x.Round,x.Finding⟩:api_Ruling) []),.rows 8 [(e_api_Letter x)],.rows 3 [(V.agg [(V.i x.Case),(V.i x.Round),(V.i x.Finding)])]]) (x0:=[]) 4 1 [some 0,some 1,some 2,some 3] [(2,(V.ptr 0 0 0)),(5,(V.map 1)),(7,(V.ptr 2 0 0)),(8,(V.ptr 3 0 0)),(13,(V.sl (List.map e_api_Letter l))),(14,(V.i (l.length:Int))),(15,(V.i x1))] rfl key_api_Ruling (fun l=>(X.insAt_agg _ _).trans (List.length_map ..)) rfl rfl rfl rfl rfl rfl rfl rfl rfl rfl rfl rfl rfl rfl rfl (gk_cons rfl ⟨9,rfl⟩ (gk_cons rfl ⟨9,rfl⟩ (gk_cons rfl ⟨9,rfl⟩ (gk_cons rfl ⟨9,rfl⟩ (gk_cons rfl ⟨9,rfl⟩ (gk_cons rfl ⟨9,rfl⟩ (gk_cons rfl ⟨9,rfl⟩ gk_nil))))))) (gb_box rfl rfl ⟨9,rfl⟩ (gb_pad (gb_box rfl rfl ⟨9,rfl⟩ (gb_box rfl rfl ⟨9,rfl⟩ gb_nil)))) rfl (GS.opsNil ?_)
   exact X.gcFam 4 4 1 1 [some 0,some 1,some 2,some 3] (P0:=[.rows 1 [(e_api_Court c)],.dead,.rows 8 [(e_api_Letter x)],.rows 3 [(V.agg [(V.i x.Case),(V.i x.Round),(V.i x.Finding)])]]) rfl (hj_8 (putM posE m4 (⟨x.Case,x.Round,x.Finding⟩:api_Ruling) []) hM) rfl rfl rfl rfl (ga rfl rfl) (gb9 rfl rfl rfl (gb_pad (gb9 rfl rfl rfl (gb9 rfl rfl rfl gb_nil)))) rfl rfl rfl rfl rfl
  replace hM:=ite_f h_9 hM
  refine GS.skip ?_
  exact X.gcFam 4 4 1 1 [some 0,some 1,some 2,some 3] (P0:=[.rows 1 [(e_api_Court c)],.dead,.rows 8 [(e_api_Letter x)],.rows 3 [(V.agg [(V.i x.Case),(V.i x.Round),(V.i x.Finding)])]]) rfl (hj_8 m4 hM) rfl rfl rfl rfl (ga rfl rfl) (gb9 rfl rfl rfl (gb_pad (gb9 rfl rfl rfl (gb9 rfl rfl rfl gb_nil)))) rfl rfl rfl rfl rfl
 replace hM:=ite_f h_5 hM
 refine GS.exit rfl ?_
 obtain ⟨y_1,hM,hy⟩:=map_of hM
 rw [hr_1 _ hy.symm] at hM
 exact X.gcFam 2 2 1 1 [some 0,some 1] (P0:=[.rows 1 [(e_api_Court c)],.dead]) rfl (hj_1 m4 hM) rfl rfl rfl rfl (ga rfl rfl) (gb9 rfl rfl rfl (gb_pad gb_nil)) rfl rfl rfl rfl rfl
theorem own_slices_Clone_api_Letter {l r:List api_Letter} (hM:app [] l=some r):OwnCt Try.prog 20 [V.sl (List.map e_api_Letter l)] (fun z=>ovlz z 0 r) (fun z=>oblz z 8 e_api_Letter r):=by
 have hr:r=l:=by obtain ⟨_,e⟩:=app_of hM; simpa using e
 refine own_of_gs CC_ok rfl ?_
 refine GS.seq ?_
 refine GS.region ?_
 refine X.opR rfl rfl rfl ?_
 refine GS.opsNil ?_
 iterate 2 refine GS.seq ?_
 refine GS.region ?_
 refine X.opR rfl rfl rfl ?_
 refine X.nilEq rfl rfl rfl rfl rfl rfl (fun h=>?_) ?_
 ·have hl:r=[]:=by rw [hr]; simpa using h
  subst hl
  refine GS.opsNil ?_
  refine GS.condT rfl ?_
  refine GS.seq ?_
  refine GS.region ?_
  refine X.opR rfl rfl rfl ?_
  refine GS.opsNil ?_
  refine GS.pad ?_
  exact GS.ret ⟨true,rfl,rfl⟩
 ·refine GS.opsNil ?_
  refine GS.condF rfl ?_
  refine GS.skip ?_
  refine GS.seq ?_
  refine GS.region ?_
  refine X.opW rfl rfl rfl rfl ?_
  refine X.opR rfl rfl rfl ?_
  refine X.opW rfl (X.appO (f:=e_api_Letter) (l:=[]) (xs:=l) hM (fun _=>rfl) rfl rfl rfl rfl rfl rfl rfl rfl rfl rfl) rfl rfl ?_
  refine X.opR rfl rfl rfl ?_
  refine GS.opsNil ?_
  refine X.gc [some 1] (H':=[.rows 8 (List.map e_api_Letter r)]) (K':=[(2,(V.osl 0 0 (List.length r)))]) ?_ rfl rfl rfl (ga rfl rfl) (gb_rows 9 rfl rfl (fun _=>rfl) gb_nil)
  exact GS.ret ⟨false,rfl,rfl⟩
end Go.Proofs.Ytfoafeaplgmhmaa
