/- The program's functions compute the plain ones. Conditions: none. Printed by a program (wip/tools/xg.py). -/
import Derived.Test.YtfoafeaplgmhmaaGreatP1
set_option linter.unusedVariables false
set_option linter.unusedSimpArgs false
namespace Go.Proofs.YtfoafeaplgmhmaaGreat
open Go Go.Am Go.Proofs Go.Mx
set_option maxHeartbeats 4000000 in
theorem ok_ref09_rulings {c:api_Court} {l:(List api_Letter)} {r:(List api_Ruling)} (hM:ref09_rulings c l=some r):Ct Tryz.prog 76 [(e_api_Court c),(V.sl (List.map e_api_Letter l))] (V.sl (List.map e_api_Ruling r)):=by
 refine ct_of_gs CC_ok rfl ?_
 unfold ref09_rulings at hM
 refine X.sq ?_
 refine X.opW rfl rfl rfl rfl (X.q rfl (X.nq (X.q rfl (GS.opsNil (GS.seq (X.sq (X.q rfl (GS.opsNil ?_))))))))
 refine X.join (τ:=(List api_Ruling)) (fun v=>ref09_rulings_j1 v=some r) (fun v=>⟨[(5,(ovl 0 v))],[obl 3 e_api_Ruling v],0,none,88⟩) ?_ ?_
 ·intro l1 hM
  replace hM:ref09_rulings_j1 l1=some r:=hM
  unfold ref09_rulings_j1 at hM
  refine X.sq (X.q rfl (X.q rfl ?_))
  refine GS.opsNil ?_
  have hE:=Option.some.inj hM
  subst hE
  exact GS.ret ⟨_,rfl,FR.ovl (f:=e_api_Ruling) (l:=l1) 9 rfl rfl (fun _=>rfl)⟩
 intro hj_1
 refine GS.block ?_
 refine X.gc [some 0,none] (X.loop (σ:=(Int×(List api_Ruling))) (fun v=>⟨[(1,(V.sl (List.map e_api_Letter l))),(2,(V.ptr 0 0 0)),(5,(ovl 1 v.2)),(6,(V.i v.1))],[.rows 1 [(e_api_Court c)],obl 3 e_api_Ruling v.2],0,none,88⟩) hM ?_ rfl) rfl rfl rfl (ga rfl rfl) (gb9 rfl rfl rfl (gb_pad' rfl gb_nil))
 rintro ⟨i,l6⟩ b_1 hM hc_2 hr_1
 rw [ref09_rulings_b2] at hM
 refine GS.seq (X.sq (X.q rfl (X.q rfl ?_)))
 refine X.opR rfl (X.lenF rfl rfl rfl) rfl (X.q rfl (GS.opsNil ?_))
 refine X.cond rfl (fun h_1=>?_) (fun h_1=>?_)
 ·replace hM:=ite_t h_1 hM
  refine GS.skip (GS.seq ?_)
  refine X.join (τ:=(List api_Ruling)) (fun v=>ref09_rulings_j3 i v=some b_1) (fun v=>⟨[(1,(V.sl (List.map e_api_Letter l))),(2,(V.ptr 0 0 0)),(5,(ovl 1 v)),(6,(V.i i))],[.rows 1 [(e_api_Court c)],obl 3 e_api_Ruling v],0,none,88⟩) ?_ ?_
  ·intro l2 hM
   replace hM:ref09_rulings_j3 i l2=some b_1:=hM
   unfold ref09_rulings_j3 at hM
   refine GS.region (X.q rfl ?_)
   refine X.opR rfl (X.addE rfl rfl) rfl (X.q rfl (GS.opsNil ?_))
   have hE:=Option.some.inj hM
   exact X.gc [some 0,some 1] (hc_2 (w64 (i+1),l2) hE.symm) rfl rfl rfl (gk_cons rfl ⟨9,rfl⟩ (gk_cons rfl ⟨9,rfl⟩ (gk_cons rfl (rn_ovl rfl) (ga rfl rfl)))) (gb9 rfl rfl rfl (gb_obl 9 rfl rfl (fun _=>rfl) gb_nil))
  intro hj_3
  refine GS.block (GS.seq ?_)
  obtain ⟨x,h_2,hM⟩:=bind_of hM
  obtain ⟨x1,h_3,hM⟩:=bind_of hM
  obtain ⟨x2,h_4,hM⟩:=bind_of hM
  refine X.draw (by kernel_rfl) ?_
  iterate 2 refine X.dop rfl rfl rfl rfl (by kernel_rfl) rfl rfl ?_
  refine X.dop rfl (X.indexF (f:=e_api_Letter) h_2 (fun _=>rfl) rfl rfl rfl rfl) rfl rfl (by kernel_rfl) rfl rfl ?_
  refine X.dop rfl rfl rfl rfl (by kernel_rfl) rfl rfl ?_
  refine X.dop rfl (X.loadF h_2 rfl rfl rfl) rfl rfl (by kernel_rfl) rfl rfl ?_
  iterate 2 refine X.dop rfl rfl rfl rfl (by kernel_rfl) rfl rfl ?_
  refine X.dop rfl (X.indexF (f:=e_api_Letter) h_3 (fun _=>rfl) rfl rfl rfl rfl) rfl rfl (by kernel_rfl) rfl rfl ?_
  refine X.dop rfl rfl rfl rfl (by kernel_rfl) rfl rfl ?_
  refine X.dop rfl (X.loadF h_3 rfl rfl rfl) rfl rfl (by kernel_rfl) rfl rfl ?_
  iterate 2 refine X.dop rfl rfl rfl rfl (by kernel_rfl) rfl rfl ?_
  refine X.dop rfl (X.indexF (f:=e_api_Letter) h_4 (fun _=>rfl) rfl rfl rfl rfl) rfl rfl (by kernel_rfl) rfl rfl ?_
  refine X.dop rfl rfl rfl rfl (by kernel_rfl) rfl rfl ?_
  refine X.dop rfl (X.loadF h_4 rfl rfl rfl) rfl rfl (by kernel_rfl) rfl rfl ?_
  iterate 2 refine X.dop rfl rfl rfl rfl (by kernel_rfl) rfl rfl ?_
  refine X.dop0 rfl rfl rfl rfl (by kernel_rfl) rfl ?_
  refine X.dnil ?_
  refine X.norm [(1,(V.sl (List.map e_api_Letter l))),(2,(V.ptr 0 0 0)),(5,(ovl 1 l6)),(6,(V.i i)),(7,(V.ptr 2 0 0))] ?_ rfl (sr rfl)
  iterate 2 refine GS.seq ?_
  obtain ⟨x3,h_5,hM⟩:=bind_of hM
  obtain ⟨y,h_6,hM⟩:=gb_of hM
  obtain ⟨y1,h_7,hM⟩:=gb_of hM
  refine X.mid [(1,(V.sl (List.map e_api_Letter l))),(2,(V.ptr 0 0 0)),(5,(ovl 1 l6)),(6,(V.i i)),(7,(V.ptr 2 0 0)),(46,(V.b ((!decide (x3.Kind=4))||(decide (y<y1)))))] ?_ ?_
  ·intro hg
   refine X.split (!decide (x3.Kind=4)) (fun h_8=>?_) (fun h_8=>?_)
   ·refine X.drawc (by kernel_rfl) rfl ?_
    iterate 2 refine X.cop rfl rfl rfl rfl ?_
    refine X.cop rfl (X.indexF (f:=e_api_Letter) h_5 (fun _=>rfl) rfl rfl rfl rfl) rfl rfl ?_
    refine X.cop rfl rfl rfl rfl ?_
    refine X.cop rfl (X.loadF h_5 rfl rfl rfl) rfl rfl ?_
    iterate 2 refine X.cop rfl rfl rfl rfl ?_
    iterate 7 refine X.coff (X.off_f rfl rfl rfl h_8) rfl rfl ?_
    refine X.cop rfl (X.pickor_t (y:=decide (y<y1)) rfl h_8 rfl) rfl rfl ?_
    refine X.cnil ?_
    exact X.norm _ hg rfl (sr rfl)
   refine X.drawc (by kernel_rfl) rfl ?_
   iterate 2 refine X.cop rfl rfl rfl rfl ?_
   refine X.cop rfl (X.indexF (f:=e_api_Letter) h_5 (fun _=>rfl) rfl rfl rfl rfl) rfl rfl ?_
   refine X.cop rfl rfl rfl rfl ?_
   refine X.cop rfl (X.loadF h_5 rfl rfl rfl) rfl rfl ?_
   iterate 2 refine X.cop rfl rfl rfl rfl ?_
   iterate 3 refine X.cop (X.on_f rfl rfl rfl h_8) rfl rfl rfl ?_
   refine X.ccall (ok_ref09_votes (h_6 (X.nt h_8))) (X.on_f rfl rfl rfl h_8) rfl rfl rfl (.cons (.shut (n:=9) rfl) (.cons (.shut (n:=9) rfl) (.cons (.shut (n:=9) rfl) .nil))) ?_
   refine X.cop (X.on_f rfl rfl rfl h_8) rfl rfl rfl ?_
   refine X.ccall (ok_ref09_Majority (h_7 (X.nt h_8))) (X.on_f rfl rfl rfl h_8) rfl rfl rfl (.cons (.shut (n:=9) rfl) .nil) ?_
   refine X.cop (X.on_f rfl rfl rfl h_8) rfl rfl rfl ?_
   refine X.cop rfl (X.pickor_f (y:=decide (y<y1)) rfl h_8 rfl) rfl rfl ?_
   refine X.cnil ?_
   exact X.norm _ hg rfl (sr rfl)
  refine X.cond rfl (fun h_9=>?_) (fun h_9=>?_)
  ·replace hM:=ite_t h_9 hM
   refine GS.exit rfl ?_
   exact X.gc [some 0,some 1] (hj_3 l6 hM) rfl rfl rfl (gk_cons rfl ⟨9,rfl⟩ (gk_cons rfl ⟨9,rfl⟩ (gk_cons rfl (rn_ovl rfl) (ga rfl rfl)))) (gb9 rfl rfl rfl (gb_obl 9 rfl rfl (fun _=>rfl) gb_nil))
  replace hM:=ite_f h_9 hM
  refine GS.skip (X.sq (X.q rfl (GS.opsNil (GS.seq ?_))))
  refine X.join (τ:=Int) (fun v=>ref09_rulings_j4 i l6 x x1 x2 v=some b_1) (fun v=>⟨[(1,(V.sl (List.map e_api_Letter l))),(2,(V.ptr 0 0 0)),(5,(ovl 1 l6)),(6,(V.i i)),(7,(V.ptr 2 0 0)),(8,(V.i v))],[.rows 1 [(e_api_Court c)],obl 3 e_api_Ruling l6,.rows 3 [(V.agg [(V.i x.Case),(V.i x1.Round),(V.i x2.Finding)])]],0,none,88⟩) ?_ ?_
  ·intro k hM
   replace hM:ref09_rulings_j4 i l6 x x1 x2 k=some b_1:=hM
   unfold ref09_rulings_j4 at hM
   iterate 2 refine GS.seq ?_
   obtain ⟨x4,h_10,hM⟩:=gb_of hM
   refine X.mid [(1,(V.sl (List.map e_api_Letter l))),(2,(V.ptr 0 0 0)),(5,(ovl 1 l6)),(6,(V.i i)),(7,(V.ptr 2 0 0)),(8,(V.i k)),(72,(V.b ((decide (k<(l6.length:Int)))&&(decide (x4=(⟨x.Case,x1.Round,x2.Finding⟩:api_Ruling))))))] ?_ ?_
   ·intro hg
    refine X.split (decide (k<(l6.length:Int))) (fun h_11=>?_) (fun h_11=>?_)
    ·refine X.drawc (by kernel_rfl) rfl ?_
     iterate 2 refine X.cop rfl rfl rfl rfl ?_
     refine X.cop rfl (X.lenN (l:=l6) rfl rfl rfl) rfl rfl ?_
     iterate 2 refine X.cop rfl rfl rfl rfl ?_
     iterate 2 refine X.cop (X.on_t rfl rfl rfl h_11) rfl rfl rfl ?_
     refine X.cop (X.on_t rfl rfl rfl h_11) (X.indexN (h_10 h_11) rfl rfl rfl rfl rfl) rfl rfl ?_
     refine X.cop (X.on_t rfl rfl rfl h_11) (X.loadN (h_10 h_11) rfl rfl rfl rfl) rfl rfl ?_
     refine X.cop (X.on_t rfl rfl rfl h_11) rfl rfl rfl ?_
     refine X.cop (X.on_t rfl rfl rfl h_11) (X.eqlE (eq_api_Ruling x4 (⟨x.Case,x1.Round,x2.Finding⟩:api_Ruling)) rfl rfl) rfl rfl ?_
     refine X.cop rfl (X.pickand_t (y:=decide (x4=(⟨x.Case,x1.Round,x2.Finding⟩:api_Ruling))) rfl h_11 rfl) rfl rfl ?_
     refine X.cnil ?_
     exact X.norm _ hg rfl (sr rfl)
    refine X.drawc (by kernel_rfl) rfl ?_
    iterate 2 refine X.cop rfl rfl rfl rfl ?_
    refine X.cop rfl (X.lenN (l:=l6) rfl rfl rfl) rfl rfl ?_
    iterate 2 refine X.cop rfl rfl rfl rfl ?_
    iterate 6 refine X.coff (X.off_t rfl rfl rfl h_11) rfl rfl ?_
    refine X.cop rfl (X.pickand_f (y:=decide (x4=(⟨x.Case,x1.Round,x2.Finding⟩:api_Ruling))) rfl h_11 rfl) rfl rfl ?_
    refine X.cnil ?_
    exact X.norm _ hg rfl (sr rfl)
   refine X.cond rfl (fun h_12=>?_) (fun h_12=>?_)
   ·replace hM:=ite_t h_12 hM
    refine GS.exit rfl ?_
    exact X.gc [some 0,some 1] (hj_3 l6 hM) rfl rfl rfl (gk_cons rfl ⟨9,rfl⟩ (gk_cons rfl ⟨9,rfl⟩ (gk_cons rfl (rn_ovl rfl) (ga rfl rfl)))) (gb9 rfl rfl rfl (gb_obl 9 rfl rfl (fun _=>rfl) gb_nil))
   replace hM:=ite_f h_12 hM
   refine GS.skip (X.sq (X.q rfl (GS.opsNil (GS.seq ?_))))
   obtain ⟨l3,h_13,hM⟩:=bind_of hM
   obtain ⟨l4,h_14,hM⟩:=bind_of hM
   refine GS.region (X.q rfl (X.q rfl (X.q rfl ?_)))
   refine X.opR rfl (X.sliceN (z:=true) (f:=e_api_Ruling) (l:=l6) h_13 rfl rfl rfl rfl rfl rfl rfl (X.boundA_int rfl)) rfl ?_
   refine X.appNilS (f:=e_api_Ruling) (m:=3) (by rfl) h_14 (fun _=>rfl) (by rfl) (by rfl) (by rfl) (by rfl) (by rfl) (by rfl) (by rfl) (by rfl) (by exact (X.rows_ovs (z:=true) (es:=3) (f:=e_api_Ruling) h_13 rfl)) (by rfl) (by rfl) (X.q rfl (GS.opsNil (GS.seq ?_)))
   obtain ⟨l5,h_15,hM⟩:=bind_of hM
   refine GS.region (X.q rfl (X.q rfl ?_))
   refine X.opW (H':=[.rows 1 [(e_api_Court c)],obl 3 e_api_Ruling l6,.rows 3 [(V.agg [(V.i x.Case),(V.i x1.Round),(V.i x2.Finding)])],obl 3 e_api_Ruling l4,.rows 3 (List.map e_api_Ruling ([(⟨x.Case,x1.Round,x2.Finding⟩:api_Ruling)]))]) rfl rfl rfl rfl ?_
   refine X.appN (f:=e_api_Ruling) h_15 (fun _=>rfl) (by rfl) (by rfl) (by rfl) (by rfl) (by rfl) (by rfl) (by rfl) (by rfl) (by rfl) (by rfl) (by rfl) (by exact rfl) (by rfl) (by rfl) (X.q rfl (GS.opsNil ?_))
   obtain ⟨l7,h_16,hM⟩:=bind_of hM
   obtain ⟨l8,h_17,hM⟩:=bind_of hM
   refine GS.region (X.q rfl (X.q rfl (X.q rfl ?_)))
   refine X.opR rfl (X.sliceN (z:=true) (f:=e_api_Ruling) (l:=l6) h_16 rfl rfl rfl rfl rfl rfl (X.boundA_int rfl) rfl) rfl ?_
   refine X.opW (H':=[.rows 1 [(e_api_Court c)],obl 3 e_api_Ruling l6,.rows 3 [(V.agg [(V.i x.Case),(V.i x1.Round),(V.i x2.Finding)])],.dead,.rows 3 (List.map e_api_Ruling ([(⟨x.Case,x1.Round,x2.Finding⟩:api_Ruling)])),.dead,.rows 3 (List.map e_api_Ruling l8)]) rfl (X.appO (f:=e_api_Ruling) h_17 (fun _=>rfl) rfl rfl rfl rfl rfl rfl rfl rfl rfl (X.rows_ovs (z:=true) (es:=3) (f:=e_api_Ruling) h_16 rfl)) rfl rfl ?_
   refine X.q rfl (GS.opsNil ?_)
   refine GS.endB ?_
   exact X.gc [some 0,some 6] (hj_3 l8 hM) rfl rfl rfl (gk_cons rfl ⟨9,rfl⟩ (gk_cons rfl ⟨9,rfl⟩ (gk_cons rfl (rv_ne (app_neL (app_ne h_15) h_17) rfl) (ga rfl rfl)))) (gb9 rfl rfl rfl (gb_obl' 9 (app_neL (app_ne h_15) h_17) rfl rfl (fun _=>rfl) gb_nil))
  intro hj_4
  refine GS.block ?_
  refine X.gc [some 0,some 1,some 2] (X.loop (σ:=Int) (fun v=>⟨[(1,(V.sl (List.map e_api_Letter l))),(2,(V.ptr 0 0 0)),(5,(ovl 1 l6)),(6,(V.i i)),(7,(V.ptr 2 0 0)),(8,(V.i v))],[.rows 1 [(e_api_Court c)],obl 3 e_api_Ruling l6,.rows 3 [(V.agg [(V.i x.Case),(V.i x1.Round),(V.i x2.Finding)])]],0,none,88⟩) hM ?_ rfl) rfl rfl rfl (gk_cons rfl ⟨9,rfl⟩ (gk_cons rfl ⟨9,rfl⟩ (gk_cons rfl (rn_ovl rfl) (ga rfl rfl)))) (gb9 rfl rfl rfl (gb_obl 9 rfl rfl (fun _=>rfl) (gb9 rfl rfl rfl gb_nil)))
  intro k1 b_2 hM hc_5 hr_2
  rw [ref09_rulings_b5] at hM
  iterate 2 refine GS.seq ?_
  obtain ⟨x5,h_18,hM⟩:=gb_of hM
  refine X.mid [(1,(V.sl (List.map e_api_Letter l))),(2,(V.ptr 0 0 0)),(5,(ovl 1 l6)),(6,(V.i i)),(7,(V.ptr 2 0 0)),(8,(V.i k1)),(58,(V.b ((decide (k1<(l6.length:Int)))&&(ref09_before x5 (⟨x.Case,x1.Round,x2.Finding⟩:api_Ruling)))))] ?_ ?_
  ·intro hg
   refine X.split (decide (k1<(l6.length:Int))) (fun h_19=>?_) (fun h_19=>?_)
   ·refine X.drawc (by kernel_rfl) rfl ?_
    iterate 2 refine X.cop rfl rfl rfl rfl ?_
    refine X.cop rfl (X.lenN (l:=l6) rfl rfl rfl) rfl rfl ?_
    iterate 2 refine X.cop rfl rfl rfl rfl ?_
    iterate 2 refine X.cop (X.on_t rfl rfl rfl h_19) rfl rfl rfl ?_
    refine X.cop (X.on_t rfl rfl rfl h_19) (X.indexN (h_18 h_19) rfl rfl rfl rfl rfl) rfl rfl ?_
    refine X.cop (X.on_t rfl rfl rfl h_19) (X.loadN (h_18 h_19) rfl rfl rfl rfl) rfl rfl ?_
    refine X.cop (X.on_t rfl rfl rfl h_19) rfl rfl rfl ?_
    refine X.ccall (ok_ref09_before x5 (⟨x.Case,x1.Round,x2.Finding⟩:api_Ruling)) (X.on_t rfl rfl rfl h_19) rfl rfl rfl (.cons (.shut (n:=9) rfl) (.cons (.shut (n:=9) rfl) .nil)) ?_
    refine X.cop rfl (X.pickand_t (y:=(ref09_before x5 (⟨x.Case,x1.Round,x2.Finding⟩:api_Ruling))) rfl h_19 rfl) rfl rfl ?_
    refine X.cnil ?_
    exact X.norm _ hg rfl (sr rfl)
   refine X.drawc (by kernel_rfl) rfl ?_
   iterate 2 refine X.cop rfl rfl rfl rfl ?_
   refine X.cop rfl (X.lenN (l:=l6) rfl rfl rfl) rfl rfl ?_
   iterate 2 refine X.cop rfl rfl rfl rfl ?_
   iterate 6 refine X.coff (X.off_t rfl rfl rfl h_19) rfl rfl ?_
   refine X.cop rfl (X.pickand_f (y:=(ref09_before x5 (⟨x.Case,x1.Round,x2.Finding⟩:api_Ruling))) rfl h_19 rfl) rfl rfl ?_
   refine X.cnil ?_
   exact X.norm _ hg rfl (sr rfl)
  refine X.cond rfl (fun h_20=>?_) (fun h_20=>?_)
  ·replace hM:=ite_t h_20 hM
   refine GS.skip (GS.block (GS.region (X.q rfl ?_)))
   refine X.opR rfl (X.addE rfl rfl) rfl (X.q rfl (GS.opsNil ?_))
   refine GS.endB ?_
   have hE:=Option.some.inj hM
   exact X.gc [some 0,some 1,some 2] (hc_5 (w64 (k1+1)) hE.symm) rfl rfl rfl (gk_cons rfl ⟨9,rfl⟩ (gk_cons rfl ⟨9,rfl⟩ (gk_cons rfl (rn_ovl rfl) (ga rfl rfl)))) (gb9 rfl rfl rfl (gb_obl 9 rfl rfl (fun _=>rfl) (gb9 rfl rfl rfl gb_nil)))
  replace hM:=ite_f h_20 hM
  refine GS.exit rfl ?_
  obtain ⟨y_2,hM,hy⟩:=map_of hM
  rw [hr_2 _ hy.symm] at hM
  exact X.gc [some 0,some 1,some 2] (hj_4 k1 hM) rfl rfl rfl (gk_cons rfl ⟨9,rfl⟩ (gk_cons rfl ⟨9,rfl⟩ (gk_cons rfl (rn_ovl rfl) (ga rfl rfl)))) (gb9 rfl rfl rfl (gb_obl 9 rfl rfl (fun _=>rfl) (gb9 rfl rfl rfl gb_nil)))
 replace hM:=ite_f h_1 hM
 refine GS.exit rfl ?_
 obtain ⟨y_1,hM,hy⟩:=map_of hM
 rw [hr_1 _ hy.symm] at hM
 exact X.gc [some 1] (hj_1 l6 hM) rfl rfl rfl (gk_cons rfl (rn_ovl rfl) gk_nil) (gb_obl 9 rfl rfl (fun _=>rfl) gb_nil)
theorem ok_ref09_Known {w:ref09_World} {arbiter:Int} {r:(List api_Ruling)} (hM:ref09_Known w arbiter=some r):Ct Tryz.prog 38 [(e_ref09_World w),(V.i arbiter)] (V.sl (List.map e_api_Ruling r)):=by
 refine ct_of_gs CC_ok rfl ?_
 unfold ref09_Known at hM
 refine X.sq ?_
 refine X.opW rfl rfl rfl rfl (X.q rfl (X.nq (X.q rfl (GS.opsNil (GS.seq (X.sq (X.q rfl (GS.opsNil ?_))))))))
 refine X.join (τ:=(List api_Letter)) (fun v=>ref09_Known_j1 w v=some r) (fun v=>⟨[(2,(V.ptr 0 0 0)),(5,(ovl 1 v))],[.rows 7 [(e_ref09_World w)],obl 8 e_api_Letter v],0,none,34⟩) ?_ ?_
 ·intro l hM
  replace hM:ref09_Known_j1 w l=some r:=hM
  unfold ref09_Known_j1 at hM
  refine GS.seq ?_
  obtain ⟨y,h_1,hM⟩:=bind_of hM
  refine GS.region (X.q rfl (X.q rfl (X.q rfl ?_)))
  refine X.freezeAt (z:=true) (f:=e_api_Letter) (l:=l) (es:=8) 32 rfl rfl rfl rfl (fun _=>rfl) ?_
  refine X.call (ok_ref09_rulings h_1) rfl rfl rfl (.cons (.shut (n:=9) rfl) (.cons (.shut (n:=9) rfl) .nil)) (X.q rfl (GS.opsNil ?_))
  cases hM
  exact GS.ret ⟨_,rfl,⟨30,rfl⟩⟩
 intro hj_1
 refine GS.block ?_
 refine X.gc [some 0,none] (X.loop (σ:=(Int×(List api_Letter))) (fun v=>⟨[(1,(V.i arbiter)),(2,(V.ptr 0 0 0)),(5,(ovl 1 v.2)),(6,(V.i v.1))],[.rows 7 [(e_ref09_World w)],obl 8 e_api_Letter v.2],0,none,34⟩) hM ?_ rfl) rfl rfl rfl (ga rfl rfl) (gb9 rfl rfl rfl (gb_pad' rfl gb_nil))
 rintro ⟨i,l3⟩ b_1 hM hc_2 hr_1
 rw [ref09_Known_b2] at hM
 refine GS.seq (X.sq (X.q rfl (X.q rfl (X.q rfl ?_))))
 refine X.opR rfl (X.lenF rfl rfl rfl) rfl (X.q rfl (GS.opsNil ?_))
 refine X.cond rfl (fun h_2=>?_) (fun h_2=>?_)
 ·replace hM:=ite_t h_2 hM
  refine GS.skip (GS.seq ?_)
  refine X.join (τ:=(List api_Letter)) (fun v=>ref09_Known_j3 i v=some b_1) (fun v=>⟨[(1,(V.i arbiter)),(2,(V.ptr 0 0 0)),(5,(ovl 1 v)),(6,(V.i i))],[.rows 7 [(e_ref09_World w)],obl 8 e_api_Letter v],0,none,34⟩) ?_ ?_
  ·intro l1 hM
   replace hM:ref09_Known_j3 i l1=some b_1:=hM
   unfold ref09_Known_j3 at hM
   refine GS.region (X.q rfl ?_)
   refine X.opR rfl (X.addE rfl rfl) rfl (X.q rfl (GS.opsNil ?_))
   have hE:=Option.some.inj hM
   exact X.gc [some 0,some 1] (hc_2 (w64 (i+1),l1) hE.symm) rfl rfl rfl (gk_cons rfl ⟨9,rfl⟩ (gk_cons rfl ⟨9,rfl⟩ (gk_cons rfl (rn_ovl rfl) (ga rfl rfl)))) (gb9 rfl rfl rfl (gb_obl 9 rfl rfl (fun _=>rfl) gb_nil))
  intro hj_3
  refine GS.block (GS.seq ?_)
  obtain ⟨x,h_3,hM⟩:=bind_of hM
  refine GS.region (X.q rfl (X.q rfl (X.q rfl ?_)))
  refine X.opR rfl (X.indexF (f:=e_api_Letter) h_3 (fun _=>rfl) rfl rfl rfl rfl) rfl (X.q rfl ?_)
  refine X.opR rfl (X.loadF h_3 rfl rfl rfl) rfl (X.q rfl (X.q rfl ?_))
  refine GS.opsNil ?_
  refine X.cond rfl (fun h_4=>?_) (fun h_4=>?_)
  ·replace hM:=ite_t h_4 hM
   obtain ⟨x1,h_5,hM⟩:=bind_of hM
   obtain ⟨l2,h_6,hM⟩:=bind_of hM
   refine GS.region ?_
   iterate 4 refine X.q rfl ?_
   refine X.opR rfl (X.indexF (f:=e_api_Letter) h_5 (fun _=>rfl) rfl rfl rfl rfl) rfl ?_
   refine X.opR rfl (X.loadF h_5 rfl rfl rfl) rfl ?_
   refine X.opW rfl rfl rfl rfl ?_
   refine X.appN (f:=e_api_Letter) h_6 (fun _=>rfl) (by rfl) (by rfl) (by rfl) (by rfl) (by rfl) (by rfl) (by rfl) (by rfl) (by rfl) (by rfl) (by rfl) (by exact rfl) (by rfl) (by rfl) (X.q rfl (GS.opsNil ?_))
   refine GS.endB ?_
   exact X.gc [some 0,some 3] (hj_3 l2 hM) rfl rfl rfl (gk_cons rfl ⟨9,rfl⟩ (gk_cons rfl ⟨9,rfl⟩ (gk_cons rfl (rv_ne (app_ne h_6) rfl) (ga rfl rfl)))) (gb9 rfl rfl rfl (gb_obl' 9 (app_ne h_6) rfl rfl (fun _=>rfl) gb_nil))
  replace hM:=ite_f h_4 hM
  refine GS.skip ?_
  refine GS.endB ?_
  exact X.gc [some 0,some 1] (hj_3 l3 hM) rfl rfl rfl (gk_cons rfl ⟨9,rfl⟩ (gk_cons rfl ⟨9,rfl⟩ (gk_cons rfl (rn_ovl rfl) (ga rfl rfl)))) (gb9 rfl rfl rfl (gb_obl 9 rfl rfl (fun _=>rfl) gb_nil))
 replace hM:=ite_f h_2 hM
 refine GS.exit rfl ?_
 obtain ⟨y_1,hM,hy⟩:=map_of hM
 rw [hr_1 _ hy.symm] at hM
 exact X.gc [some 0,some 1] (hj_1 l3 hM) rfl rfl rfl (gk_cons rfl ⟨9,rfl⟩ (gk_cons rfl (rn_ovl rfl) gk_nil)) (gb9 rfl rfl rfl (gb_obl 9 rfl rfl (fun _=>rfl) gb_nil))
theorem own_slices_Clone_api_Letter {l r:List api_Letter} (hM:app [] l=some r):OwnCt Tryz.prog 33 [V.sl (List.map e_api_Letter l)] (fun z=>ovlz z 0 r) (fun z=>oblz z 8 e_api_Letter r):=by
 have hr:r=l:=by obtain ⟨_,e⟩:=app_of hM; simpa using e
 refine own_of_gs CC_ok rfl ?_
 refine GS.seq ?_
 refine GS.region ?_
 refine X.opR rfl rfl rfl ?_
 refine GS.opsNil ?_
 iterate 2 refine GS.seq ?_
 refine GS.region ?_
 refine X.opR rfl rfl rfl ?_
 refine X.nilEq rfl rfl rfl rfl rfl rfl (fun h=>?_) ?_
 ·have hl:r=[]:=by rw [hr]; simpa using h
  subst hl
  refine GS.opsNil ?_
  refine GS.condT rfl ?_
  refine GS.seq ?_
  refine GS.region ?_
  refine X.opR rfl rfl rfl ?_
  refine GS.opsNil ?_
  refine GS.pad ?_
  exact GS.ret ⟨true,rfl,rfl⟩
 ·refine GS.opsNil ?_
  refine GS.condF rfl ?_
  refine GS.skip ?_
  refine GS.seq ?_
  refine GS.region ?_
  refine X.opW rfl rfl rfl rfl ?_
  refine X.opR rfl rfl rfl ?_
  refine X.opW rfl (X.appO (f:=e_api_Letter) (l:=[]) (xs:=l) hM (fun _=>rfl) rfl rfl rfl rfl rfl rfl rfl rfl rfl rfl) rfl rfl ?_
  refine X.opR rfl rfl rfl ?_
  refine GS.opsNil ?_
  refine X.gc [some 1] (H':=[.rows 8 (List.map e_api_Letter r)]) (K':=[(2,(V.osl 0 0 (List.length r)))]) ?_ rfl rfl rfl (ga rfl rfl) (gb_rows 9 rfl rfl (fun _=>rfl) gb_nil)
  exact GS.ret ⟨false,rfl,rfl⟩
theorem own_slices_Clone_int {l r:List Int} (hM:app [] l=some r):OwnCt Tryz.prog 34 [V.sl (List.map V.i l)] (fun z=>ovlz z 0 r) (fun z=>oblz z 1 V.i r):=by
 have hr:r=l:=by obtain ⟨_,e⟩:=app_of hM; simpa using e
 refine own_of_gs CC_ok rfl ?_
 refine GS.seq ?_
 refine GS.region ?_
 refine X.opR rfl rfl rfl ?_
 refine GS.opsNil ?_
 iterate 2 refine GS.seq ?_
 refine GS.region ?_
 refine X.opR rfl rfl rfl ?_
 refine X.nilEq rfl rfl rfl rfl rfl rfl (fun h=>?_) ?_
 ·have hl:r=[]:=by rw [hr]; simpa using h
  subst hl
  refine GS.opsNil ?_
  refine GS.condT rfl ?_
  refine GS.seq ?_
  refine GS.region ?_
  refine X.opR rfl rfl rfl ?_
  refine GS.opsNil ?_
  refine GS.pad ?_
  exact GS.ret ⟨true,rfl,rfl⟩
 ·refine GS.opsNil ?_
  refine GS.condF rfl ?_
  refine GS.skip ?_
  refine GS.seq ?_
  refine GS.region ?_
  refine X.opW rfl rfl rfl rfl ?_
  refine X.opR rfl rfl rfl ?_
  refine X.opW rfl (X.appO (f:=V.i) (l:=[]) (xs:=l) hM (fun _=>rfl) rfl rfl rfl rfl rfl rfl rfl rfl rfl rfl) rfl rfl ?_
  refine X.opR rfl rfl rfl ?_
  refine GS.opsNil ?_
  refine X.gc [some 1] (H':=[.rows 1 (List.map V.i r)]) (K':=[(2,(V.osl 0 0 (List.length r)))]) ?_ rfl rfl rfl (ga rfl rfl) (gb_rows 9 rfl rfl (fun _=>rfl) gb_nil)
  exact GS.ret ⟨false,rfl,rfl⟩
end Go.Proofs.YtfoafeaplgmhmaaGreat
