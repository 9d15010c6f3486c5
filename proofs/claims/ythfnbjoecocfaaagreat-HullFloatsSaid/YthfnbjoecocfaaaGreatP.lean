/- The program's functions compute the plain ones. Conditions: none. Printed by a program (wip/tools/xg.py). -/
import Derived.Test.YthfnbjoecocfaaaGreatP2
set_option linter.unusedVariables false
set_option linter.unusedSimpArgs false
namespace Go.Proofs.YthfnbjoecocfaaaGreat
open Go Go.Am Go.Proofs Go.Mx

set_option maxHeartbeats 4000000 in
theorem ok_law03_HullFloats {s : api_Ship} {x : (List Int)} {mass : Int} {r : Bool} (hM : law03_HullFloats s x mass = some r) : Ct Tryz.prog 3 [(e_api_Ship s), (V.sl (List.map V.i x)), (V.i mass)] (V.b r) := by
 refine ct_of_gs CC_ok rfl ?_
 unfold law03_HullFloats at hM
 refine X.sq ?_
 refine X.opW rfl rfl rfl rfl ?_
 refine X.q rfl ?_
 refine GS.opsNil ?_
 refine GS.seq ?_
 refine X.sq ?_
 refine X.mid [(1, (V.sl (List.map V.i x))), (2, (V.i mass)), (3, (V.ptr 0 0 0)), (34, (V.b ((!(law03_short s (⟨[], (⟨0, 0⟩ : api_Span)⟩ : api_Load))) || (decide (20 < (x.length : Int))))))] ?_ ?_
 ·intro hg
  refine X.split (!(law03_short s (⟨[], (⟨0, 0⟩ : api_Span)⟩ : api_Load))) (fun h_1 => ?_) (fun h_1 => ?_)
  ·iterate 2 refine X.q rfl ?_
   refine X.call (ok_law03_short s (⟨[], (⟨0, 0⟩ : api_Span)⟩ : api_Load)) rfl rfl rfl (.cons (.shut (n := 9) rfl) (.cons (.nil (n := 9) rfl) .nil)) ?_
   iterate 2 refine X.q rfl ?_
   iterate 3 refine X.off (X.off_f rfl rfl rfl h_1) rfl ?_
   refine X.opR rfl (X.pickor_t (y := decide (20 < (x.length : Int))) rfl h_1 rfl) rfl ?_
   refine GS.opsNil ?_
   exact X.norm _ hg rfl (sr rfl)
  iterate 2 refine X.q rfl ?_
  refine X.call (ok_law03_short s (⟨[], (⟨0, 0⟩ : api_Span)⟩ : api_Load)) rfl rfl rfl (.cons (.shut (n := 9) rfl) (.cons (.nil (n := 9) rfl) .nil)) ?_
  iterate 2 refine X.q rfl ?_
  refine X.opR (X.on_f rfl rfl rfl h_1) rfl rfl ?_
  refine X.opR (X.on_f rfl rfl rfl h_1) (X.lenF rfl rfl rfl) rfl ?_
  refine X.opR (X.on_f rfl rfl rfl h_1) rfl rfl ?_
  refine X.opR rfl (X.pickor_f (y := decide (20 < (x.length : Int))) rfl h_1 rfl) rfl ?_
  refine GS.opsNil ?_
  exact X.norm _ hg rfl (sr rfl)
 refine X.cond rfl (fun h_2 => ?_) (fun h_2 => ?_)
 ·replace hM := ite_t h_2 hM
  refine GS.seq ?_
  obtain ⟨y, h_3, hM⟩ := bind_of hM
  refine GS.region ?_
  refine X.call (ok_law03_sanity h_3) rfl rfl rfl .nil ?_
  refine X.q rfl ?_
  refine GS.opsNil ?_
  have hE := Option.some.inj hM
  subst hE
  exact GS.ret ⟨_, rfl, ⟨30, rfl⟩⟩
 replace hM := ite_f h_2 hM
 refine GS.skip ?_
 refine GS.seq ?_
 obtain ⟨y1, h_4, hM⟩ := bind_of hM
 refine GS.region ?_
 iterate 2 refine X.q rfl ?_
 refine X.call (ok_hull_Displacement h_4) rfl rfl rfl (.cons (.shut (n := 9) rfl) (.cons (.shut (n := 9) rfl) .nil)) ?_
 iterate 5 refine X.q rfl ?_
 refine GS.opsNil ?_
 refine GS.seq ?_
 obtain ⟨y2, h_5, hM⟩ := bind_of hM
 refine GS.region ?_
 iterate 2 refine X.q rfl ?_
 refine X.call (ok_ref03_Displacement h_5) rfl rfl rfl (.cons (.shut (n := 9) rfl) (.cons (.shut (n := 9) rfl) .nil)) ?_
 refine X.opW rfl rfl rfl rfl ?_
 refine X.op0W rfl rfl rfl ?_
 refine GS.opsNil ?_
 refine GS.seq ?_
 obtain ⟨y3, h_6, hM⟩ := bind_of hM
 refine GS.region ?_
 iterate 2 refine X.q rfl ?_
 refine X.call (ok_hull_Moment h_6) rfl rfl rfl (.cons (.shut (n := 9) rfl) (.cons (.shut (n := 9) rfl) .nil)) ?_
 iterate 5 refine X.q rfl ?_
 refine GS.opsNil ?_
 refine GS.seq ?_
 obtain ⟨y4, h_7, hM⟩ := bind_of hM
 refine GS.region ?_
 iterate 2 refine X.q rfl ?_
 refine X.call (ok_ref03_Moment h_7) rfl rfl rfl (.cons (.shut (n := 9) rfl) (.cons (.shut (n := 9) rfl) .nil)) ?_
 refine X.opW rfl rfl rfl rfl ?_
 refine X.op0W rfl rfl rfl ?_
 refine GS.opsNil ?_
 refine GS.seq ?_
 obtain ⟨y5, h_8, hM⟩ := bind_of hM
 refine GS.region ?_
 iterate 2 refine X.q rfl ?_
 refine X.call (ok_hull_Gravity h_8) rfl rfl rfl (.cons (.shut (n := 9) rfl) (.cons (.shut (n := 9) rfl) .nil)) ?_
 iterate 3 refine X.q rfl ?_
 refine X.opW (H' := [.rows 11 [(e_api_Ship s)], .rows 2 [(e_ref03_Number y2)], .rows 2 [(e_ref03_Number y4)], .rows 2 [(V.agg [(V.i 0), (V.i 0)])]]) rfl rfl rfl rfl ?_
 refine X.op0W (H' := [.rows 11 [(e_api_Ship s)], .rows 2 [(e_ref03_Number y2)], .rows 2 [(e_ref03_Number y4)], .rows 2 [(e_api_Frac y5.1)]]) rfl rfl rfl ?_
 refine X.q rfl ?_
 refine GS.opsNil ?_
 refine GS.seq ?_
 obtain ⟨y6, h_9, hM⟩ := bind_of hM
 refine GS.region ?_
 iterate 2 refine X.q rfl ?_
 refine X.call (ok_ref03_Gravity h_9) rfl rfl rfl (.cons (.shut (n := 9) rfl) (.cons (.shut (n := 9) rfl) .nil)) ?_
 refine X.opW (H' := [.rows 11 [(e_api_Ship s)], .rows 2 [(e_ref03_Number y2)], .rows 2 [(e_ref03_Number y4)], .rows 2 [(e_api_Frac y5.1)], .rows 3 [(V.agg [(V.i 0), (V.i 0), (V.i 0)])]]) rfl rfl rfl rfl ?_
 refine X.op0W (H' := [.rows 11 [(e_api_Ship s)], .rows 2 [(e_ref03_Number y2)], .rows 2 [(e_ref03_Number y4)], .rows 2 [(e_api_Frac y5.1)], .rows 3 [(e_ref03_Height y6)]]) rfl rfl rfl ?_
 refine GS.opsNil ?_
 refine GS.seq ?_
 obtain ⟨y7, h_10, hM⟩ := bind_of hM
 refine GS.region ?_
 iterate 2 refine X.q rfl ?_
 refine X.call (ok_hull_Meta h_10) rfl rfl rfl (.cons (.shut (n := 9) rfl) (.cons (.shut (n := 9) rfl) .nil)) ?_
 iterate 3 refine X.q rfl ?_
 refine X.opW (H' := [.rows 11 [(e_api_Ship s)], .rows 2 [(e_ref03_Number y2)], .rows 2 [(e_ref03_Number y4)], .rows 2 [(e_api_Frac y5.1)], .rows 3 [(e_ref03_Height y6)], .rows 2 [(V.agg [(V.i 0), (V.i 0)])]]) rfl rfl rfl rfl ?_
 refine X.op0W (H' := [.rows 11 [(e_api_Ship s)], .rows 2 [(e_ref03_Number y2)], .rows 2 [(e_ref03_Number y4)], .rows 2 [(e_api_Frac y5.1)], .rows 3 [(e_ref03_Height y6)], .rows 2 [(e_api_Frac y7.1)]]) rfl rfl rfl ?_
 refine X.q rfl ?_
 refine GS.opsNil ?_
 refine GS.seq ?_
 obtain ⟨y8, h_11, hM⟩ := bind_of hM
 refine GS.region ?_
 iterate 2 refine X.q rfl ?_
 refine X.call (ok_ref03_Meta h_11) rfl rfl rfl (.cons (.shut (n := 9) rfl) (.cons (.shut (n := 9) rfl) .nil)) ?_
 refine X.opW (H' := [.rows 11 [(e_api_Ship s)], .rows 2 [(e_ref03_Number y2)], .rows 2 [(e_ref03_Number y4)], .rows 2 [(e_api_Frac y5.1)], .rows 3 [(e_ref03_Height y6)], .rows 2 [(e_api_Frac y7.1)], .rows 3 [(V.agg [(V.i 0), (V.i 0), (V.i 0)])]]) rfl rfl rfl rfl ?_
 refine X.op0W (H' := [.rows 11 [(e_api_Ship s)], .rows 2 [(e_ref03_Number y2)], .rows 2 [(e_ref03_Number y4)], .rows 2 [(e_api_Frac y5.1)], .rows 3 [(e_ref03_Height y6)], .rows 2 [(e_api_Frac y7.1)], .rows 3 [(e_ref03_Height y8)]]) rfl rfl rfl ?_
 refine GS.opsNil ?_
 refine GS.seq ?_
 obtain ⟨y9, h_12, hM⟩ := bind_of hM
 refine GS.region ?_
 iterate 2 refine X.q rfl ?_
 refine X.call (ok_hull_Stiff h_12) rfl rfl rfl (.cons (.shut (n := 9) rfl) (.cons (.shut (n := 9) rfl) .nil)) ?_
 iterate 3 refine X.q rfl ?_
 refine X.opW (H' := [.rows 11 [(e_api_Ship s)], .rows 2 [(e_ref03_Number y2)], .rows 2 [(e_ref03_Number y4)], .rows 2 [(e_api_Frac y5.1)], .rows 3 [(e_ref03_Height y6)], .rows 2 [(e_api_Frac y7.1)], .rows 3 [(e_ref03_Height y8)], .rows 2 [(V.agg [(V.i 0), (V.i 0)])]]) rfl rfl rfl rfl ?_
 refine X.op0W (H' := [.rows 11 [(e_api_Ship s)], .rows 2 [(e_ref03_Number y2)], .rows 2 [(e_ref03_Number y4)], .rows 2 [(e_api_Frac y5.1)], .rows 3 [(e_ref03_Height y6)], .rows 2 [(e_api_Frac y7.1)], .rows 3 [(e_ref03_Height y8)], .rows 2 [(e_api_Frac y9.1)]]) rfl rfl rfl ?_
 refine X.q rfl ?_
 refine GS.opsNil ?_
 refine GS.seq ?_
 obtain ⟨y10, h_13, hM⟩ := bind_of hM
 refine GS.region ?_
 iterate 2 refine X.q rfl ?_
 refine X.call (ok_ref03_Stiff h_13) rfl rfl rfl (.cons (.shut (n := 9) rfl) (.cons (.shut (n := 9) rfl) .nil)) ?_
 refine X.opW (H' := [.rows 11 [(e_api_Ship s)], .rows 2 [(e_ref03_Number y2)], .rows 2 [(e_ref03_Number y4)], .rows 2 [(e_api_Frac y5.1)], .rows 3 [(e_ref03_Height y6)], .rows 2 [(e_api_Frac y7.1)], .rows 3 [(e_ref03_Height y8)], .rows 2 [(e_api_Frac y9.1)], .rows 3 [(V.agg [(V.i 0), (V.i 0), (V.i 0)])]]) rfl rfl rfl rfl ?_
 refine X.op0W (H' := [.rows 11 [(e_api_Ship s)], .rows 2 [(e_ref03_Number y2)], .rows 2 [(e_ref03_Number y4)], .rows 2 [(e_api_Frac y5.1)], .rows 3 [(e_ref03_Height y6)], .rows 2 [(e_api_Frac y7.1)], .rows 3 [(e_ref03_Height y8)], .rows 2 [(e_api_Frac y9.1)], .rows 3 [(e_ref03_Height y10)]]) rfl rfl rfl ?_
 refine GS.opsNil ?_
 refine GS.seq ?_
 obtain ⟨y11, h_14, hM⟩ := bind_of hM
 refine GS.region ?_
 iterate 2 refine X.q rfl ?_
 refine X.call (ok_hull_Afloat h_14) rfl rfl rfl (.cons (.shut (n := 9) rfl) (.cons (.shut (n := 9) rfl) .nil)) ?_
 iterate 3 refine X.q rfl ?_
 refine X.opW (H' := [.rows 11 [(e_api_Ship s)], .rows 2 [(e_ref03_Number y2)], .rows 2 [(e_ref03_Number y4)], .rows 2 [(e_api_Frac y5.1)], .rows 3 [(e_ref03_Height y6)], .rows 2 [(e_api_Frac y7.1)], .rows 3 [(e_ref03_Height y8)], .rows 2 [(e_api_Frac y9.1)], .rows 3 [(e_ref03_Height y10)], .rows 4 [(V.agg [(V.i 0), (V.i 0), (V.i 0), (V.i 0)])]]) rfl rfl rfl rfl ?_
 refine X.op0W (H' := [.rows 11 [(e_api_Ship s)], .rows 2 [(e_ref03_Number y2)], .rows 2 [(e_ref03_Number y4)], .rows 2 [(e_api_Frac y5.1)], .rows 3 [(e_ref03_Height y6)], .rows 2 [(e_api_Frac y7.1)], .rows 3 [(e_ref03_Height y8)], .rows 2 [(e_api_Frac y9.1)], .rows 3 [(e_ref03_Height y10)], .rows 4 [(e_api_Draughts y11.1)]]) rfl rfl rfl ?_
 refine X.q rfl ?_
 refine GS.opsNil ?_
 refine GS.seq ?_
 obtain ⟨y12, h_15, hM⟩ := bind_of hM
 refine GS.region ?_
 iterate 2 refine X.q rfl ?_
 refine X.call (ok_ref03_Afloat h_15) rfl rfl rfl (.cons (.shut (n := 9) rfl) (.cons (.shut (n := 9) rfl) .nil)) ?_
 refine X.opW (H' := [.rows 11 [(e_api_Ship s)], .rows 2 [(e_ref03_Number y2)], .rows 2 [(e_ref03_Number y4)], .rows 2 [(e_api_Frac y5.1)], .rows 3 [(e_ref03_Height y6)], .rows 2 [(e_api_Frac y7.1)], .rows 3 [(e_ref03_Height y8)], .rows 2 [(e_api_Frac y9.1)], .rows 3 [(e_ref03_Height y10)], .rows 4 [(e_api_Draughts y11.1)], .rows 5 [(V.agg [(V.i 0), (V.i 0), (V.i 0), (V.i 0), (V.i 0)])]]) rfl rfl rfl rfl ?_
 refine X.op0W (H' := [.rows 11 [(e_api_Ship s)], .rows 2 [(e_ref03_Number y2)], .rows 2 [(e_ref03_Number y4)], .rows 2 [(e_api_Frac y5.1)], .rows 3 [(e_ref03_Height y6)], .rows 2 [(e_api_Frac y7.1)], .rows 3 [(e_ref03_Height y8)], .rows 2 [(e_api_Frac y9.1)], .rows 3 [(e_ref03_Height y10)], .rows 4 [(e_api_Draughts y11.1)], .rows 5 [(e_ref03_Drawn y12)]]) rfl rfl rfl ?_
 refine X.nq ?_
 refine X.mid [(16, (V.ptr 5 0 0)), (17, (V.i y7.2)), (18, (V.ptr 6 0 0)), (19, (V.ptr 7 0 0)), (20, (V.i y9.2)), (21, (V.ptr 8 0 0)), (22, (V.ptr 9 0 0)), (23, (V.i y11.2)), (24, (V.ptr 10 0 0)), (25, (V.b ((((((decide (y1.1 = y2.N)) && (decide (y1.2 = y2.E))) && (decide (y3.1 = y4.N))) && (decide (y3.2 = y4.E))) && (decide (y5.1 = y6.F))) && (decide (y5.2 = y6.E)))))] ?_ ?_
 ·intro hg
  refine X.split (decide (y1.1 = y2.N)) (fun h_16 => ?_) (fun h_16 => ?_)
  ·refine X.split (((decide (y1.1 = y2.N)) && (decide (y1.2 = y2.E)))) (fun h_17 => ?_) (fun h_17 => ?_)
   ·refine X.split ((((decide (y1.1 = y2.N)) && (decide (y1.2 = y2.E))) && (decide (y3.1 = y4.N)))) (fun h_18 => ?_) (fun h_18 => ?_)
    ·refine X.split (((((decide (y1.1 = y2.N)) && (decide (y1.2 = y2.E))) && (decide (y3.1 = y4.N))) && (decide (y3.2 = y4.E)))) (fun h_19 => ?_) (fun h_19 => ?_)
     ·refine X.split ((((((decide (y1.1 = y2.N)) && (decide (y1.2 = y2.E))) && (decide (y3.1 = y4.N))) && (decide (y3.2 = y4.E))) && (decide (y5.1 = y6.F)))) (fun h_20 => ?_) (fun h_20 => ?_)
      ·iterate 5 refine X.q rfl ?_
       iterate 4 refine X.opR (X.on_t rfl rfl rfl h_16) rfl rfl ?_
       refine X.opR rfl (X.pickand_t (y := decide (y1.2 = y2.E)) rfl h_16 rfl) rfl ?_
       refine X.q rfl ?_
       iterate 4 refine X.opR (X.on_t rfl rfl rfl h_17) rfl rfl ?_
       refine X.opR rfl (X.pickand_t (y := decide (y3.1 = y4.N)) rfl h_17 rfl) rfl ?_
       refine X.q rfl ?_
       iterate 4 refine X.opR (X.on_t rfl rfl rfl h_18) rfl rfl ?_
       refine X.opR rfl (X.pickand_t (y := decide (y3.2 = y4.E)) rfl h_18 rfl) rfl ?_
       refine X.q rfl ?_
       iterate 3 refine X.opR (X.on_t rfl rfl rfl h_19) rfl rfl ?_
       refine X.opR (X.on_t rfl rfl rfl h_19) (X.eqlE (eq_api_Frac y5.1 y6.F) rfl rfl) rfl ?_
       refine X.opR rfl (X.pickand_t (y := decide (y5.1 = y6.F)) rfl h_19 rfl) rfl ?_
       refine X.q rfl ?_
       iterate 4 refine X.opR (X.on_t rfl rfl rfl h_20) rfl rfl ?_
       refine X.opR rfl (X.pickand_t (y := decide (y5.2 = y6.E)) rfl h_20 rfl) rfl ?_
       refine X.q rfl ?_
       refine GS.opsNil ?_
       exact X.norm _ hg rfl (sr rfl)
      iterate 5 refine X.q rfl ?_
      iterate 4 refine X.opR (X.on_t rfl rfl rfl h_16) rfl rfl ?_
      refine X.opR rfl (X.pickand_t (y := decide (y1.2 = y2.E)) rfl h_16 rfl) rfl ?_
      refine X.q rfl ?_
      iterate 4 refine X.opR (X.on_t rfl rfl rfl h_17) rfl rfl ?_
      refine X.opR rfl (X.pickand_t (y := decide (y3.1 = y4.N)) rfl h_17 rfl) rfl ?_
      refine X.q rfl ?_
      iterate 4 refine X.opR (X.on_t rfl rfl rfl h_18) rfl rfl ?_
      refine X.opR rfl (X.pickand_t (y := decide (y3.2 = y4.E)) rfl h_18 rfl) rfl ?_
      refine X.q rfl ?_
      iterate 3 refine X.opR (X.on_t rfl rfl rfl h_19) rfl rfl ?_
      refine X.opR (X.on_t rfl rfl rfl h_19) (X.eqlE (eq_api_Frac y5.1 y6.F) rfl rfl) rfl ?_
      refine X.opR rfl (X.pickand_t (y := decide (y5.1 = y6.F)) rfl h_19 rfl) rfl ?_
      refine X.q rfl ?_
      iterate 4 refine X.off (X.off_t rfl rfl rfl h_20) rfl ?_
      refine X.opR rfl (X.pickand_f (y := decide (y5.2 = y6.E)) rfl h_20 rfl) rfl ?_
      refine X.q rfl ?_
      refine GS.opsNil ?_
      exact X.norm _ hg rfl (sr rfl)
     iterate 5 refine X.q rfl ?_
     iterate 4 refine X.opR (X.on_t rfl rfl rfl h_16) rfl rfl ?_
     refine X.opR rfl (X.pickand_t (y := decide (y1.2 = y2.E)) rfl h_16 rfl) rfl ?_
     refine X.q rfl ?_
     iterate 4 refine X.opR (X.on_t rfl rfl rfl h_17) rfl rfl ?_
     refine X.opR rfl (X.pickand_t (y := decide (y3.1 = y4.N)) rfl h_17 rfl) rfl ?_
     refine X.q rfl ?_
     iterate 4 refine X.opR (X.on_t rfl rfl rfl h_18) rfl rfl ?_
     refine X.opR rfl (X.pickand_t (y := decide (y3.2 = y4.E)) rfl h_18 rfl) rfl ?_
     refine X.q rfl ?_
     iterate 4 refine X.off (X.off_t rfl rfl rfl h_19) rfl ?_
     refine X.opR rfl (X.pickand_f (y := decide (y5.1 = y6.F)) rfl h_19 rfl) rfl ?_
     refine X.q rfl ?_
     iterate 4 refine X.off (X.off_t rfl rfl rfl (X.and_ff h_19)) rfl ?_
     refine X.opR rfl (X.pickand_f (y := decide (y5.2 = y6.E)) rfl (X.and_ff h_19) rfl) rfl ?_
     refine X.q rfl ?_
     refine GS.opsNil ?_
     exact X.norm _ hg rfl (sr rfl)
    iterate 5 refine X.q rfl ?_
    iterate 4 refine X.opR (X.on_t rfl rfl rfl h_16) rfl rfl ?_
    refine X.opR rfl (X.pickand_t (y := decide (y1.2 = y2.E)) rfl h_16 rfl) rfl ?_
    refine X.q rfl ?_
    iterate 4 refine X.opR (X.on_t rfl rfl rfl h_17) rfl rfl ?_
    refine X.opR rfl (X.pickand_t (y := decide (y3.1 = y4.N)) rfl h_17 rfl) rfl ?_
    refine X.q rfl ?_
    iterate 4 refine X.off (X.off_t rfl rfl rfl h_18) rfl ?_
    refine X.opR rfl (X.pickand_f (y := decide (y3.2 = y4.E)) rfl h_18 rfl) rfl ?_
    refine X.q rfl ?_
    iterate 4 refine X.off (X.off_t rfl rfl rfl (X.and_ff h_18)) rfl ?_
    refine X.opR rfl (X.pickand_f (y := decide (y5.1 = y6.F)) rfl (X.and_ff h_18) rfl) rfl ?_
    refine X.q rfl ?_
    iterate 4 refine X.off (X.off_t rfl rfl rfl (X.and_ff (X.and_ff h_18))) rfl ?_
    refine X.opR rfl (X.pickand_f (y := decide (y5.2 = y6.E)) rfl (X.and_ff (X.and_ff h_18)) rfl) rfl ?_
    refine X.q rfl ?_
    refine GS.opsNil ?_
    exact X.norm _ hg rfl (sr rfl)
   iterate 5 refine X.q rfl ?_
   iterate 4 refine X.opR (X.on_t rfl rfl rfl h_16) rfl rfl ?_
   refine X.opR rfl (X.pickand_t (y := decide (y1.2 = y2.E)) rfl h_16 rfl) rfl ?_
   refine X.q rfl ?_
   iterate 4 refine X.off (X.off_t rfl rfl rfl h_17) rfl ?_
   refine X.opR rfl (X.pickand_f (y := decide (y3.1 = y4.N)) rfl h_17 rfl) rfl ?_
   refine X.q rfl ?_
   iterate 4 refine X.off (X.off_t rfl rfl rfl (X.and_ff h_17)) rfl ?_
   refine X.opR rfl (X.pickand_f (y := decide (y3.2 = y4.E)) rfl (X.and_ff h_17) rfl) rfl ?_
   refine X.q rfl ?_
   iterate 4 refine X.off (X.off_t rfl rfl rfl (X.and_ff (X.and_ff h_17))) rfl ?_
   refine X.opR rfl (X.pickand_f (y := decide (y5.1 = y6.F)) rfl (X.and_ff (X.and_ff h_17)) rfl) rfl ?_
   refine X.q rfl ?_
   iterate 4 refine X.off (X.off_t rfl rfl rfl (X.and_ff (X.and_ff (X.and_ff h_17)))) rfl ?_
   refine X.opR rfl (X.pickand_f (y := decide (y5.2 = y6.E)) rfl (X.and_ff (X.and_ff (X.and_ff h_17))) rfl) rfl ?_
   refine X.q rfl ?_
   refine GS.opsNil ?_
   exact X.norm _ hg rfl (sr rfl)
  iterate 5 refine X.q rfl ?_
  iterate 4 refine X.off (X.off_t rfl rfl rfl h_16) rfl ?_
  refine X.opR rfl (X.pickand_f (y := decide (y1.2 = y2.E)) rfl h_16 rfl) rfl ?_
  refine X.q rfl ?_
  iterate 4 refine X.off (X.off_t rfl rfl rfl (X.and_ff h_16)) rfl ?_
  refine X.opR rfl (X.pickand_f (y := decide (y3.1 = y4.N)) rfl (X.and_ff h_16) rfl) rfl ?_
  refine X.q rfl ?_
  iterate 4 refine X.off (X.off_t rfl rfl rfl (X.and_ff (X.and_ff h_16))) rfl ?_
  refine X.opR rfl (X.pickand_f (y := decide (y3.2 = y4.E)) rfl (X.and_ff (X.and_ff h_16)) rfl) rfl ?_
  refine X.q rfl ?_
  iterate 4 refine X.off (X.off_t rfl rfl rfl (X.and_ff (X.and_ff (X.and_ff h_16)))) rfl ?_
  refine X.opR rfl (X.pickand_f (y := decide (y5.1 = y6.F)) rfl (X.and_ff (X.and_ff (X.and_ff h_16))) rfl) rfl ?_
  refine X.q rfl ?_
  iterate 4 refine X.off (X.off_t rfl rfl rfl (X.and_ff (X.and_ff (X.and_ff (X.and_ff h_16))))) rfl ?_
  refine X.opR rfl (X.pickand_f (y := decide (y5.2 = y6.E)) rfl (X.and_ff (X.and_ff (X.and_ff (X.and_ff h_16)))) rfl) rfl ?_
  refine X.q rfl ?_
  refine GS.opsNil ?_
  exact X.norm _ hg rfl (sr rfl)
 refine GS.seq ?_
 obtain ⟨y13, h_21, hM⟩ := bind_of hM
 refine GS.region ?_
 refine X.mid [(6, (V.b (((((((y13 && ((((((decide (y1.1 = y2.N)) && (decide (y1.2 = y2.E))) && (decide (y3.1 = y4.N))) && (decide (y3.2 = y4.E))) && (decide (y5.1 = y6.F))) && (decide (y5.2 = y6.E)))) && (decide (y7.1 = y8.F))) && (decide (y7.2 = y8.E))) && (decide (y9.1 = y10.F))) && (decide (y9.2 = y10.E))) && (decide (y11.1 = y12.D))) && (decide (y11.2 = y12.E)))))] ?_ ?_
 ·intro hg
  refine X.split (y13) (fun h_22 => ?_) (fun h_22 => ?_)
  ·refine X.split ((y13 && ((((((decide (y1.1 = y2.N)) && (decide (y1.2 = y2.E))) && (decide (y3.1 = y4.N))) && (decide (y3.2 = y4.E))) && (decide (y5.1 = y6.F))) && (decide (y5.2 = y6.E))))) (fun h_23 => ?_) (fun h_23 => ?_)
   ·refine X.split (((y13 && ((((((decide (y1.1 = y2.N)) && (decide (y1.2 = y2.E))) && (decide (y3.1 = y4.N))) && (decide (y3.2 = y4.E))) && (decide (y5.1 = y6.F))) && (decide (y5.2 = y6.E)))) && (decide (y7.1 = y8.F)))) (fun h_24 => ?_) (fun h_24 => ?_)
    ·refine X.split ((((y13 && ((((((decide (y1.1 = y2.N)) && (decide (y1.2 = y2.E))) && (decide (y3.1 = y4.N))) && (decide (y3.2 = y4.E))) && (decide (y5.1 = y6.F))) && (decide (y5.2 = y6.E)))) && (decide (y7.1 = y8.F))) && (decide (y7.2 = y8.E)))) (fun h_25 => ?_) (fun h_25 => ?_)
     ·refine X.split (((((y13 && ((((((decide (y1.1 = y2.N)) && (decide (y1.2 = y2.E))) && (decide (y3.1 = y4.N))) && (decide (y3.2 = y4.E))) && (decide (y5.1 = y6.F))) && (decide (y5.2 = y6.E)))) && (decide (y7.1 = y8.F))) && (decide (y7.2 = y8.E))) && (decide (y9.1 = y10.F)))) (fun h_26 => ?_) (fun h_26 => ?_)
      ·refine X.split ((((((y13 && ((((((decide (y1.1 = y2.N)) && (decide (y1.2 = y2.E))) && (decide (y3.1 = y4.N))) && (decide (y3.2 = y4.E))) && (decide (y5.1 = y6.F))) && (decide (y5.2 = y6.E)))) && (decide (y7.1 = y8.F))) && (decide (y7.2 = y8.E))) && (decide (y9.1 = y10.F))) && (decide (y9.2 = y10.E)))) (fun h_27 => ?_) (fun h_27 => ?_)
       ·refine X.split (((((((y13 && ((((((decide (y1.1 = y2.N)) && (decide (y1.2 = y2.E))) && (decide (y3.1 = y4.N))) && (decide (y3.2 = y4.E))) && (decide (y5.1 = y6.F))) && (decide (y5.2 = y6.E)))) && (decide (y7.1 = y8.F))) && (decide (y7.2 = y8.E))) && (decide (y9.1 = y10.F))) && (decide (y9.2 = y10.E))) && (decide (y11.1 = y12.D)))) (fun h_28 => ?_) (fun h_28 => ?_)
        ·refine X.call (ok_law03_sanity h_21) rfl rfl rfl .nil ?_
         refine X.q rfl ?_
         refine X.opR (X.on_t rfl rfl rfl h_22) rfl rfl ?_
         refine X.opR rfl (X.pickand_t (y := ((((((decide (y1.1 = y2.N)) && (decide (y1.2 = y2.E))) && (decide (y3.1 = y4.N))) && (decide (y3.2 = y4.E))) && (decide (y5.1 = y6.F))) && (decide (y5.2 = y6.E)))) rfl h_22 rfl) rfl ?_
         refine X.q rfl ?_
         iterate 3 refine X.opR (X.on_t rfl rfl rfl h_23) rfl rfl ?_
         refine X.opR (X.on_t rfl rfl rfl h_23) (X.eqlE (eq_api_Frac y7.1 y8.F) rfl rfl) rfl ?_
         refine X.opR rfl (X.pickand_t (y := decide (y7.1 = y8.F)) rfl h_23 rfl) rfl ?_
         refine X.q rfl ?_
         iterate 4 refine X.opR (X.on_t rfl rfl rfl h_24) rfl rfl ?_
         refine X.opR rfl (X.pickand_t (y := decide (y7.2 = y8.E)) rfl h_24 rfl) rfl ?_
         refine X.q rfl ?_
         iterate 3 refine X.opR (X.on_t rfl rfl rfl h_25) rfl rfl ?_
         refine X.opR (X.on_t rfl rfl rfl h_25) (X.eqlE (eq_api_Frac y9.1 y10.F) rfl rfl) rfl ?_
         refine X.opR rfl (X.pickand_t (y := decide (y9.1 = y10.F)) rfl h_25 rfl) rfl ?_
         refine X.q rfl ?_
         iterate 4 refine X.opR (X.on_t rfl rfl rfl h_26) rfl rfl ?_
         refine X.opR rfl (X.pickand_t (y := decide (y9.2 = y10.E)) rfl h_26 rfl) rfl ?_
         refine X.q rfl ?_
         iterate 3 refine X.opR (X.on_t rfl rfl rfl h_27) rfl rfl ?_
         refine X.opR (X.on_t rfl rfl rfl h_27) (X.eqlE (eq_api_Draughts y11.1 y12.D) rfl rfl) rfl ?_
         refine X.opR rfl (X.pickand_t (y := decide (y11.1 = y12.D)) rfl h_27 rfl) rfl ?_
         refine X.q rfl ?_
         iterate 4 refine X.opR (X.on_t rfl rfl rfl h_28) rfl rfl ?_
         refine X.opR rfl (X.pickand_t (y := decide (y11.2 = y12.E)) rfl h_28 rfl) rfl ?_
         refine X.q rfl ?_
         refine GS.opsNil ?_
         exact X.norm _ hg rfl (sr rfl)
        refine X.call (ok_law03_sanity h_21) rfl rfl rfl .nil ?_
        refine X.q rfl ?_
        refine X.opR (X.on_t rfl rfl rfl h_22) rfl rfl ?_
        refine X.opR rfl (X.pickand_t (y := ((((((decide (y1.1 = y2.N)) && (decide (y1.2 = y2.E))) && (decide (y3.1 = y4.N))) && (decide (y3.2 = y4.E))) && (decide (y5.1 = y6.F))) && (decide (y5.2 = y6.E)))) rfl h_22 rfl) rfl ?_
        refine X.q rfl ?_
        iterate 3 refine X.opR (X.on_t rfl rfl rfl h_23) rfl rfl ?_
        refine X.opR (X.on_t rfl rfl rfl h_23) (X.eqlE (eq_api_Frac y7.1 y8.F) rfl rfl) rfl ?_
        refine X.opR rfl (X.pickand_t (y := decide (y7.1 = y8.F)) rfl h_23 rfl) rfl ?_
        refine X.q rfl ?_
        iterate 4 refine X.opR (X.on_t rfl rfl rfl h_24) rfl rfl ?_
        refine X.opR rfl (X.pickand_t (y := decide (y7.2 = y8.E)) rfl h_24 rfl) rfl ?_
        refine X.q rfl ?_
        iterate 3 refine X.opR (X.on_t rfl rfl rfl h_25) rfl rfl ?_
        refine X.opR (X.on_t rfl rfl rfl h_25) (X.eqlE (eq_api_Frac y9.1 y10.F) rfl rfl) rfl ?_
        refine X.opR rfl (X.pickand_t (y := decide (y9.1 = y10.F)) rfl h_25 rfl) rfl ?_
        refine X.q rfl ?_
        iterate 4 refine X.opR (X.on_t rfl rfl rfl h_26) rfl rfl ?_
        refine X.opR rfl (X.pickand_t (y := decide (y9.2 = y10.E)) rfl h_26 rfl) rfl ?_
        refine X.q rfl ?_
        iterate 3 refine X.opR (X.on_t rfl rfl rfl h_27) rfl rfl ?_
        refine X.opR (X.on_t rfl rfl rfl h_27) (X.eqlE (eq_api_Draughts y11.1 y12.D) rfl rfl) rfl ?_
        refine X.opR rfl (X.pickand_t (y := decide (y11.1 = y12.D)) rfl h_27 rfl) rfl ?_
        refine X.q rfl ?_
        iterate 4 refine X.off (X.off_t rfl rfl rfl h_28) rfl ?_
        refine X.opR rfl (X.pickand_f (y := decide (y11.2 = y12.E)) rfl h_28 rfl) rfl ?_
        refine X.q rfl ?_
        refine GS.opsNil ?_
        exact X.norm _ hg rfl (sr rfl)
       refine X.call (ok_law03_sanity h_21) rfl rfl rfl .nil ?_
       refine X.q rfl ?_
       refine X.opR (X.on_t rfl rfl rfl h_22) rfl rfl ?_
       refine X.opR rfl (X.pickand_t (y := ((((((decide (y1.1 = y2.N)) && (decide (y1.2 = y2.E))) && (decide (y3.1 = y4.N))) && (decide (y3.2 = y4.E))) && (decide (y5.1 = y6.F))) && (decide (y5.2 = y6.E)))) rfl h_22 rfl) rfl ?_
       refine X.q rfl ?_
       iterate 3 refine X.opR (X.on_t rfl rfl rfl h_23) rfl rfl ?_
       refine X.opR (X.on_t rfl rfl rfl h_23) (X.eqlE (eq_api_Frac y7.1 y8.F) rfl rfl) rfl ?_
       refine X.opR rfl (X.pickand_t (y := decide (y7.1 = y8.F)) rfl h_23 rfl) rfl ?_
       refine X.q rfl ?_
       iterate 4 refine X.opR (X.on_t rfl rfl rfl h_24) rfl rfl ?_
       refine X.opR rfl (X.pickand_t (y := decide (y7.2 = y8.E)) rfl h_24 rfl) rfl ?_
       refine X.q rfl ?_
       iterate 3 refine X.opR (X.on_t rfl rfl rfl h_25) rfl rfl ?_
       refine X.opR (X.on_t rfl rfl rfl h_25) (X.eqlE (eq_api_Frac y9.1 y10.F) rfl rfl) rfl ?_
       refine X.opR rfl (X.pickand_t (y := decide (y9.1 = y10.F)) rfl h_25 rfl) rfl ?_
       refine X.q rfl ?_
       iterate 4 refine X.opR (X.on_t rfl rfl rfl h_26) rfl rfl ?_
       refine X.opR rfl (X.pickand_t (y := decide (y9.2 = y10.E)) rfl h_26 rfl) rfl ?_
       refine X.q rfl ?_
       iterate 4 refine X.off (X.off_t rfl rfl rfl h_27) rfl ?_
       refine X.opR rfl (X.pickand_f (y := decide (y11.1 = y12.D)) rfl h_27 rfl) rfl ?_
       refine X.q rfl ?_
       iterate 4 refine X.off (X.off_t rfl rfl rfl (X.and_ff h_27)) rfl ?_
       refine X.opR rfl (X.pickand_f (y := decide (y11.2 = y12.E)) rfl (X.and_ff h_27) rfl) rfl ?_
       refine X.q rfl ?_
       refine GS.opsNil ?_
       exact X.norm _ hg rfl (sr rfl)
      refine X.call (ok_law03_sanity h_21) rfl rfl rfl .nil ?_
      refine X.q rfl ?_
      refine X.opR (X.on_t rfl rfl rfl h_22) rfl rfl ?_
      refine X.opR rfl (X.pickand_t (y := ((((((decide (y1.1 = y2.N)) && (decide (y1.2 = y2.E))) && (decide (y3.1 = y4.N))) && (decide (y3.2 = y4.E))) && (decide (y5.1 = y6.F))) && (decide (y5.2 = y6.E)))) rfl h_22 rfl) rfl ?_
      refine X.q rfl ?_
      iterate 3 refine X.opR (X.on_t rfl rfl rfl h_23) rfl rfl ?_
      refine X.opR (X.on_t rfl rfl rfl h_23) (X.eqlE (eq_api_Frac y7.1 y8.F) rfl rfl) rfl ?_
      refine X.opR rfl (X.pickand_t (y := decide (y7.1 = y8.F)) rfl h_23 rfl) rfl ?_
      refine X.q rfl ?_
      iterate 4 refine X.opR (X.on_t rfl rfl rfl h_24) rfl rfl ?_
      refine X.opR rfl (X.pickand_t (y := decide (y7.2 = y8.E)) rfl h_24 rfl) rfl ?_
      refine X.q rfl ?_
      iterate 3 refine X.opR (X.on_t rfl rfl rfl h_25) rfl rfl ?_
      refine X.opR (X.on_t rfl rfl rfl h_25) (X.eqlE (eq_api_Frac y9.1 y10.F) rfl rfl) rfl ?_
      refine X.opR rfl (X.pickand_t (y := decide (y9.1 = y10.F)) rfl h_25 rfl) rfl ?_
      refine X.q rfl ?_
      iterate 4 refine X.off (X.off_t rfl rfl rfl h_26) rfl ?_
      refine X.opR rfl (X.pickand_f (y := decide (y9.2 = y10.E)) rfl h_26 rfl) rfl ?_
      refine X.q rfl ?_
      iterate 4 refine X.off (X.off_t rfl rfl rfl (X.and_ff h_26)) rfl ?_
      refine X.opR rfl (X.pickand_f (y := decide (y11.1 = y12.D)) rfl (X.and_ff h_26) rfl) rfl ?_
      refine X.q rfl ?_
      iterate 4 refine X.off (X.off_t rfl rfl rfl (X.and_ff (X.and_ff h_26))) rfl ?_
      refine X.opR rfl (X.pickand_f (y := decide (y11.2 = y12.E)) rfl (X.and_ff (X.and_ff h_26)) rfl) rfl ?_
      refine X.q rfl ?_
      refine GS.opsNil ?_
      exact X.norm _ hg rfl (sr rfl)
     refine X.call (ok_law03_sanity h_21) rfl rfl rfl .nil ?_
     refine X.q rfl ?_
     refine X.opR (X.on_t rfl rfl rfl h_22) rfl rfl ?_
     refine X.opR rfl (X.pickand_t (y := ((((((decide (y1.1 = y2.N)) && (decide (y1.2 = y2.E))) && (decide (y3.1 = y4.N))) && (decide (y3.2 = y4.E))) && (decide (y5.1 = y6.F))) && (decide (y5.2 = y6.E)))) rfl h_22 rfl) rfl ?_
     refine X.q rfl ?_
     iterate 3 refine X.opR (X.on_t rfl rfl rfl h_23) rfl rfl ?_
     refine X.opR (X.on_t rfl rfl rfl h_23) (X.eqlE (eq_api_Frac y7.1 y8.F) rfl rfl) rfl ?_
     refine X.opR rfl (X.pickand_t (y := decide (y7.1 = y8.F)) rfl h_23 rfl) rfl ?_
     refine X.q rfl ?_
     iterate 4 refine X.opR (X.on_t rfl rfl rfl h_24) rfl rfl ?_
     refine X.opR rfl (X.pickand_t (y := decide (y7.2 = y8.E)) rfl h_24 rfl) rfl ?_
     refine X.q rfl ?_
     iterate 4 refine X.off (X.off_t rfl rfl rfl h_25) rfl ?_
     refine X.opR rfl (X.pickand_f (y := decide (y9.1 = y10.F)) rfl h_25 rfl) rfl ?_
     refine X.q rfl ?_
     iterate 4 refine X.off (X.off_t rfl rfl rfl (X.and_ff h_25)) rfl ?_
     refine X.opR rfl (X.pickand_f (y := decide (y9.2 = y10.E)) rfl (X.and_ff h_25) rfl) rfl ?_
     refine X.q rfl ?_
     iterate 4 refine X.off (X.off_t rfl rfl rfl (X.and_ff (X.and_ff h_25))) rfl ?_
     refine X.opR rfl (X.pickand_f (y := decide (y11.1 = y12.D)) rfl (X.and_ff (X.and_ff h_25)) rfl) rfl ?_
     refine X.q rfl ?_
     iterate 4 refine X.off (X.off_t rfl rfl rfl (X.and_ff (X.and_ff (X.and_ff h_25)))) rfl ?_
     refine X.opR rfl (X.pickand_f (y := decide (y11.2 = y12.E)) rfl (X.and_ff (X.and_ff (X.and_ff h_25))) rfl) rfl ?_
     refine X.q rfl ?_
     refine GS.opsNil ?_
     exact X.norm _ hg rfl (sr rfl)
    refine X.call (ok_law03_sanity h_21) rfl rfl rfl .nil ?_
    refine X.q rfl ?_
    refine X.opR (X.on_t rfl rfl rfl h_22) rfl rfl ?_
    refine X.opR rfl (X.pickand_t (y := ((((((decide (y1.1 = y2.N)) && (decide (y1.2 = y2.E))) && (decide (y3.1 = y4.N))) && (decide (y3.2 = y4.E))) && (decide (y5.1 = y6.F))) && (decide (y5.2 = y6.E)))) rfl h_22 rfl) rfl ?_
    refine X.q rfl ?_
    iterate 3 refine X.opR (X.on_t rfl rfl rfl h_23) rfl rfl ?_
    refine X.opR (X.on_t rfl rfl rfl h_23) (X.eqlE (eq_api_Frac y7.1 y8.F) rfl rfl) rfl ?_
    refine X.opR rfl (X.pickand_t (y := decide (y7.1 = y8.F)) rfl h_23 rfl) rfl ?_
    refine X.q rfl ?_
    iterate 4 refine X.off (X.off_t rfl rfl rfl h_24) rfl ?_
    refine X.opR rfl (X.pickand_f (y := decide (y7.2 = y8.E)) rfl h_24 rfl) rfl ?_
    refine X.q rfl ?_
    iterate 4 refine X.off (X.off_t rfl rfl rfl (X.and_ff h_24)) rfl ?_
    refine X.opR rfl (X.pickand_f (y := decide (y9.1 = y10.F)) rfl (X.and_ff h_24) rfl) rfl ?_
    refine X.q rfl ?_
    iterate 4 refine X.off (X.off_t rfl rfl rfl (X.and_ff (X.and_ff h_24))) rfl ?_
    refine X.opR rfl (X.pickand_f (y := decide (y9.2 = y10.E)) rfl (X.and_ff (X.and_ff h_24)) rfl) rfl ?_
    refine X.q rfl ?_
    iterate 4 refine X.off (X.off_t rfl rfl rfl (X.and_ff (X.and_ff (X.and_ff h_24)))) rfl ?_
    refine X.opR rfl (X.pickand_f (y := decide (y11.1 = y12.D)) rfl (X.and_ff (X.and_ff (X.and_ff h_24))) rfl) rfl ?_
    refine X.q rfl ?_
    iterate 4 refine X.off (X.off_t rfl rfl rfl (X.and_ff (X.and_ff (X.and_ff (X.and_ff h_24))))) rfl ?_
    refine X.opR rfl (X.pickand_f (y := decide (y11.2 = y12.E)) rfl (X.and_ff (X.and_ff (X.and_ff (X.and_ff h_24)))) rfl) rfl ?_
    refine X.q rfl ?_
    refine GS.opsNil ?_
    exact X.norm _ hg rfl (sr rfl)
   refine X.call (ok_law03_sanity h_21) rfl rfl rfl .nil ?_
   refine X.q rfl ?_
   refine X.opR (X.on_t rfl rfl rfl h_22) rfl rfl ?_
   refine X.opR rfl (X.pickand_t (y := ((((((decide (y1.1 = y2.N)) && (decide (y1.2 = y2.E))) && (decide (y3.1 = y4.N))) && (decide (y3.2 = y4.E))) && (decide (y5.1 = y6.F))) && (decide (y5.2 = y6.E)))) rfl h_22 rfl) rfl ?_
   refine X.q rfl ?_
   iterate 4 refine X.off (X.off_t rfl rfl rfl h_23) rfl ?_
   refine X.opR rfl (X.pickand_f (y := decide (y7.1 = y8.F)) rfl h_23 rfl) rfl ?_
   refine X.q rfl ?_
   iterate 4 refine X.off (X.off_t rfl rfl rfl (X.and_ff h_23)) rfl ?_
   refine X.opR rfl (X.pickand_f (y := decide (y7.2 = y8.E)) rfl (X.and_ff h_23) rfl) rfl ?_
   refine X.q rfl ?_
   iterate 4 refine X.off (X.off_t rfl rfl rfl (X.and_ff (X.and_ff h_23))) rfl ?_
   refine X.opR rfl (X.pickand_f (y := decide (y9.1 = y10.F)) rfl (X.and_ff (X.and_ff h_23)) rfl) rfl ?_
   refine X.q rfl ?_
   iterate 4 refine X.off (X.off_t rfl rfl rfl (X.and_ff (X.and_ff (X.and_ff h_23)))) rfl ?_
   refine X.opR rfl (X.pickand_f (y := decide (y9.2 = y10.E)) rfl (X.and_ff (X.and_ff (X.and_ff h_23))) rfl) rfl ?_
   refine X.q rfl ?_
   iterate 4 refine X.off (X.off_t rfl rfl rfl (X.and_ff (X.and_ff (X.and_ff (X.and_ff h_23))))) rfl ?_
   refine X.opR rfl (X.pickand_f (y := decide (y11.1 = y12.D)) rfl (X.and_ff (X.and_ff (X.and_ff (X.and_ff h_23)))) rfl) rfl ?_
   refine X.q rfl ?_
   iterate 4 refine X.off (X.off_t rfl rfl rfl (X.and_ff (X.and_ff (X.and_ff (X.and_ff (X.and_ff h_23)))))) rfl ?_
   refine X.opR rfl (X.pickand_f (y := decide (y11.2 = y12.E)) rfl (X.and_ff (X.and_ff (X.and_ff (X.and_ff (X.and_ff h_23))))) rfl) rfl ?_
   refine X.q rfl ?_
   refine GS.opsNil ?_
   exact X.norm _ hg rfl (sr rfl)
  refine X.call (ok_law03_sanity h_21) rfl rfl rfl .nil ?_
  refine X.q rfl ?_
  refine X.off (X.off_t rfl rfl rfl h_22) rfl ?_
  refine X.opR rfl (X.pickand_f (y := ((((((decide (y1.1 = y2.N)) && (decide (y1.2 = y2.E))) && (decide (y3.1 = y4.N))) && (decide (y3.2 = y4.E))) && (decide (y5.1 = y6.F))) && (decide (y5.2 = y6.E)))) rfl h_22 rfl) rfl ?_
  refine X.q rfl ?_
  iterate 4 refine X.off (X.off_t rfl rfl rfl (X.and_ff h_22)) rfl ?_
  refine X.opR rfl (X.pickand_f (y := decide (y7.1 = y8.F)) rfl (X.and_ff h_22) rfl) rfl ?_
  refine X.q rfl ?_
  iterate 4 refine X.off (X.off_t rfl rfl rfl (X.and_ff (X.and_ff h_22))) rfl ?_
  refine X.opR rfl (X.pickand_f (y := decide (y7.2 = y8.E)) rfl (X.and_ff (X.and_ff h_22)) rfl) rfl ?_
  refine X.q rfl ?_
  iterate 4 refine X.off (X.off_t rfl rfl rfl (X.and_ff (X.and_ff (X.and_ff h_22)))) rfl ?_
  refine X.opR rfl (X.pickand_f (y := decide (y9.1 = y10.F)) rfl (X.and_ff (X.and_ff (X.and_ff h_22))) rfl) rfl ?_
  refine X.q rfl ?_
  iterate 4 refine X.off (X.off_t rfl rfl rfl (X.and_ff (X.and_ff (X.and_ff (X.and_ff h_22))))) rfl ?_
  refine X.opR rfl (X.pickand_f (y := decide (y9.2 = y10.E)) rfl (X.and_ff (X.and_ff (X.and_ff (X.and_ff h_22)))) rfl) rfl ?_
  refine X.q rfl ?_
  iterate 4 refine X.off (X.off_t rfl rfl rfl (X.and_ff (X.and_ff (X.and_ff (X.and_ff (X.and_ff h_22)))))) rfl ?_
  refine X.opR rfl (X.pickand_f (y := decide (y11.1 = y12.D)) rfl (X.and_ff (X.and_ff (X.and_ff (X.and_ff (X.and_ff h_22))))) rfl) rfl ?_
  refine X.q rfl ?_
  iterate 4 refine X.off (X.off_t rfl rfl rfl (X.and_ff (X.and_ff (X.and_ff (X.and_ff (X.and_ff (X.and_ff h_22))))))) rfl ?_
  refine X.opR rfl (X.pickand_f (y := decide (y11.2 = y12.E)) rfl (X.and_ff (X.and_ff (X.and_ff (X.and_ff (X.and_ff (X.and_ff h_22)))))) rfl) rfl ?_
  refine X.q rfl ?_
  refine GS.opsNil ?_
  exact X.norm _ hg rfl (sr rfl)
 have hE := Option.some.inj hM
 subst hE
 exact GS.ret ⟨_, rfl, ⟨30, rfl⟩⟩

end Go.Proofs.YthfnbjoecocfaaaGreat
