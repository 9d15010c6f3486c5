/- The program's functions compute the plain ones. Conditions: none. Printed by a program (wip/tools/xg.py). -/
import Derived.Test.YtnkngglimidldaaGreatTok
import Derived.Test.YtnkngglimidldaaGreatSrt
import Derived.Test.YtnkngglimidldaaGreatM
set_option linter.unusedVariables false
set_option linter.unusedSimpArgs false
namespace Go.Proofs.YtnkngglimidldaaGreat
open Go Go.Am Go.Proofs Go.Mx
noncomputable def CC : Cfg := cfg (Ct Tryz.prog)
theorem CC_ok : CC.OK := cfg_ok fun f args v h => h
abbrev e_api_Cycle (x : api_Cycle) : V := .agg [(V.i x.ID), (V.i x.Begin), (V.i x.Every), (V.sl (List.map V.i x.Heights))]
abbrev e_api_Shift (x : api_Shift) : V := .agg [(V.i x.From), (V.i x.To), (V.i x.Add)]
abbrev e_api_Water (x : api_Water) : V := .agg [(V.i x.Level), (V.sl (List.map e_api_Cycle x.Cycles)), (V.sl (List.map e_api_Shift x.Shifts))]
abbrev e_api_Berth (x : api_Berth) : V := .agg [(V.i x.ID), (V.i x.Depth)]
abbrev e_api_Span (x : api_Span) : V := .agg [(V.i x.Lo), (V.i x.Hi)]
abbrev e_api_Harbour (x : api_Harbour) : V := .agg [(V.i x.Water.Level), (V.sl (List.map e_api_Cycle x.Water.Cycles)), (V.sl (List.map e_api_Shift x.Water.Shifts)), (V.sl (List.map e_api_Berth x.Berths)), (V.sl (List.map e_api_Span x.Tides)), (V.i x.Keel)]
abbrev e_api_Call (x : api_Call) : V := .agg [(V.i x.ID), (V.i x.Draught), (V.i x.From), (V.i x.To), (V.i x.Long)]
abbrev e_api_Slot (x : api_Slot) : V := .agg [(V.i x.Tide), (V.i x.Berth)]
set_option maxHeartbeats 4000000 in
theorem ok_law06_small {h : api_Harbour} {r : Bool} (hM : law06_small h = some r) : Ct Tryz.prog 7 [(e_api_Harbour h)] (V.b r) := by
 refine ct_of_gs CC_ok rfl ?_
 unfold law06_small at hM
 refine X.sq ?_
 refine X.opW rfl rfl rfl rfl (X.q rfl (GS.opsNil (GS.seq (X.sq (X.q rfl (GS.opsNil ?_))))))
 refine X.join (τ := Unit) (fun v => law06_small_j1 h = some r) (fun v => ⟨[(1, (V.ptr 0 0 0))], [.rows 6 [(e_api_Harbour h)]], 0, none, 67⟩) ?_ ?_
 ·intro _ hM
  replace hM : law06_small_j1 h = some r := hM
  unfold law06_small_j1 at hM
  refine X.sq ?_
  refine X.mid [(2, (V.b ((((decide ((h.Water.Cycles.length : Int) ≤ 8)) && (decide ((h.Water.Shifts.length : Int) ≤ 25))) && (decide ((h.Berths.length : Int) ≤ 10))) && ((decide ((h.Tides.length : Int) ≤ 3)) || ((decide (12 < (h.Tides.length : Int))) && (decide ((h.Tides.length : Int) ≤ 20)))))))] ?_ ?_
  ·intro hg
   refine X.split (decide ((h.Water.Cycles.length : Int) ≤ 8)) (fun h_1 => ?_) (fun h_1 => ?_)
   ·refine X.split (((decide ((h.Water.Cycles.length : Int) ≤ 8)) && (decide ((h.Water.Shifts.length : Int) ≤ 25)))) (fun h_2 => ?_) (fun h_2 => ?_)
    ·refine X.split ((((decide ((h.Water.Cycles.length : Int) ≤ 8)) && (decide ((h.Water.Shifts.length : Int) ≤ 25))) && (decide ((h.Berths.length : Int) ≤ 10)))) (fun h_3 => ?_) (fun h_3 => ?_)
     ·refine X.split (decide ((h.Tides.length : Int) ≤ 3)) (fun h_4 => ?_) (fun h_4 => ?_)
      ·iterate 3 refine X.q rfl ?_
       refine X.opR rfl (X.lenF rfl rfl rfl) rfl (X.q rfl (X.q rfl ?_))
       iterate 3 refine X.opR (X.on_t rfl rfl rfl h_1) rfl rfl ?_
       refine X.opR (X.on_t rfl rfl rfl h_1) (X.lenF rfl rfl rfl) rfl ?_
       refine X.opR (X.on_t rfl rfl rfl h_1) rfl rfl ?_
       refine X.opR rfl (X.pickand_t (y := decide ((h.Water.Shifts.length : Int) ≤ 25)) rfl h_1 rfl) rfl (X.q rfl ?_)
       iterate 2 refine X.opR (X.on_t rfl rfl rfl h_2) rfl rfl ?_
       refine X.opR (X.on_t rfl rfl rfl h_2) (X.lenF rfl rfl rfl) rfl ?_
       refine X.opR (X.on_t rfl rfl rfl h_2) rfl rfl ?_
       refine X.opR rfl (X.pickand_t (y := decide ((h.Berths.length : Int) ≤ 10)) rfl h_2 rfl) rfl (X.q rfl ?_)
       iterate 2 refine X.opR (X.on_t rfl rfl rfl h_3) rfl rfl ?_
       refine X.opR (X.on_t rfl rfl rfl h_3) (X.lenF rfl rfl rfl) rfl ?_
       iterate 2 refine X.opR (X.on_t rfl rfl rfl h_3) rfl rfl ?_
       iterate 5 refine X.off (X.off_f rfl rfl rfl h_4) rfl ?_
       iterate 4 refine X.off rfl rfl ?_
       refine X.off (X.off_f rfl rfl rfl h_4) rfl ?_
       refine X.opR (X.on_t rfl rfl rfl h_3) (X.pickor_t (y := ((decide (12 < (h.Tides.length : Int))) && (decide ((h.Tides.length : Int) ≤ 20)))) rfl h_4 rfl) rfl ?_
       refine X.opR rfl (X.pickand_t (y := ((decide ((h.Tides.length : Int) ≤ 3)) || ((decide (12 < (h.Tides.length : Int))) && (decide ((h.Tides.length : Int) ≤ 20))))) rfl h_3 rfl) rfl (X.q rfl (GS.opsNil ?_))
       exact X.norm _ hg rfl (sr rfl)
      refine X.split (decide (12 < (h.Tides.length : Int))) (fun h_5 => ?_) (fun h_5 => ?_)
      ·iterate 3 refine X.q rfl ?_
       refine X.opR rfl (X.lenF rfl rfl rfl) rfl (X.q rfl (X.q rfl ?_))
       iterate 3 refine X.opR (X.on_t rfl rfl rfl h_1) rfl rfl ?_
       refine X.opR (X.on_t rfl rfl rfl h_1) (X.lenF rfl rfl rfl) rfl ?_
       refine X.opR (X.on_t rfl rfl rfl h_1) rfl rfl ?_
       refine X.opR rfl (X.pickand_t (y := decide ((h.Water.Shifts.length : Int) ≤ 25)) rfl h_1 rfl) rfl (X.q rfl ?_)
       iterate 2 refine X.opR (X.on_t rfl rfl rfl h_2) rfl rfl ?_
       refine X.opR (X.on_t rfl rfl rfl h_2) (X.lenF rfl rfl rfl) rfl ?_
       refine X.opR (X.on_t rfl rfl rfl h_2) rfl rfl ?_
       refine X.opR rfl (X.pickand_t (y := decide ((h.Berths.length : Int) ≤ 10)) rfl h_2 rfl) rfl (X.q rfl ?_)
       iterate 2 refine X.opR (X.on_t rfl rfl rfl h_3) rfl rfl ?_
       refine X.opR (X.on_t rfl rfl rfl h_3) (X.lenF rfl rfl rfl) rfl ?_
       iterate 2 refine X.opR (X.on_t rfl rfl rfl h_3) rfl rfl ?_
       iterate 2 refine X.opR (X.on_f rfl rfl rfl h_4) rfl rfl ?_
       refine X.opR (X.on_f rfl rfl rfl h_4) (X.lenF rfl rfl rfl) rfl ?_
       iterate 2 refine X.opR (X.on_f rfl rfl rfl h_4) rfl rfl ?_
       iterate 2 refine X.opR (X.on_t rfl rfl rfl h_5) rfl rfl ?_
       refine X.opR (X.on_t rfl rfl rfl h_5) (X.lenF rfl rfl rfl) rfl ?_
       refine X.opR (X.on_t rfl rfl rfl h_5) rfl rfl ?_
       refine X.opR (X.on_f rfl rfl rfl h_4) (X.pickand_t (y := decide ((h.Tides.length : Int) ≤ 20)) rfl h_5 rfl) rfl ?_
       refine X.opR (X.on_t rfl rfl rfl h_3) (X.pickor_f (y := ((decide (12 < (h.Tides.length : Int))) && (decide ((h.Tides.length : Int) ≤ 20)))) rfl h_4 rfl) rfl ?_
       refine X.opR rfl (X.pickand_t (y := ((decide ((h.Tides.length : Int) ≤ 3)) || ((decide (12 < (h.Tides.length : Int))) && (decide ((h.Tides.length : Int) ≤ 20))))) rfl h_3 rfl) rfl (X.q rfl (GS.opsNil ?_))
       exact X.norm _ hg rfl (sr rfl)
      iterate 3 refine X.q rfl ?_
      refine X.opR rfl (X.lenF rfl rfl rfl) rfl (X.q rfl (X.q rfl ?_))
      iterate 3 refine X.opR (X.on_t rfl rfl rfl h_1) rfl rfl ?_
      refine X.opR (X.on_t rfl rfl rfl h_1) (X.lenF rfl rfl rfl) rfl ?_
      refine X.opR (X.on_t rfl rfl rfl h_1) rfl rfl ?_
      refine X.opR rfl (X.pickand_t (y := decide ((h.Water.Shifts.length : Int) ≤ 25)) rfl h_1 rfl) rfl (X.q rfl ?_)
      iterate 2 refine X.opR (X.on_t rfl rfl rfl h_2) rfl rfl ?_
      refine X.opR (X.on_t rfl rfl rfl h_2) (X.lenF rfl rfl rfl) rfl ?_
      refine X.opR (X.on_t rfl rfl rfl h_2) rfl rfl ?_
      refine X.opR rfl (X.pickand_t (y := decide ((h.Berths.length : Int) ≤ 10)) rfl h_2 rfl) rfl (X.q rfl ?_)
      iterate 2 refine X.opR (X.on_t rfl rfl rfl h_3) rfl rfl ?_
      refine X.opR (X.on_t rfl rfl rfl h_3) (X.lenF rfl rfl rfl) rfl ?_
      iterate 2 refine X.opR (X.on_t rfl rfl rfl h_3) rfl rfl ?_
      iterate 2 refine X.opR (X.on_f rfl rfl rfl h_4) rfl rfl ?_
      refine X.opR (X.on_f rfl rfl rfl h_4) (X.lenF rfl rfl rfl) rfl ?_
      iterate 2 refine X.opR (X.on_f rfl rfl rfl h_4) rfl rfl ?_
      iterate 4 refine X.off (X.off_t rfl rfl rfl h_5) rfl ?_
      refine X.opR (X.on_f rfl rfl rfl h_4) (X.pickand_f (y := decide ((h.Tides.length : Int) ≤ 20)) rfl h_5 rfl) rfl ?_
      refine X.opR (X.on_t rfl rfl rfl h_3) (X.pickor_f (y := ((decide (12 < (h.Tides.length : Int))) && (decide ((h.Tides.length : Int) ≤ 20)))) rfl h_4 rfl) rfl ?_
      refine X.opR rfl (X.pickand_t (y := ((decide ((h.Tides.length : Int) ≤ 3)) || ((decide (12 < (h.Tides.length : Int))) && (decide ((h.Tides.length : Int) ≤ 20))))) rfl h_3 rfl) rfl (X.q rfl (GS.opsNil ?_))
      exact X.norm _ hg rfl (sr rfl)
     iterate 3 refine X.q rfl ?_
     refine X.opR rfl (X.lenF rfl rfl rfl) rfl (X.q rfl (X.q rfl ?_))
     iterate 3 refine X.opR (X.on_t rfl rfl rfl h_1) rfl rfl ?_
     refine X.opR (X.on_t rfl rfl rfl h_1) (X.lenF rfl rfl rfl) rfl ?_
     refine X.opR (X.on_t rfl rfl rfl h_1) rfl rfl ?_
     refine X.opR rfl (X.pickand_t (y := decide ((h.Water.Shifts.length : Int) ≤ 25)) rfl h_1 rfl) rfl (X.q rfl ?_)
     iterate 2 refine X.opR (X.on_t rfl rfl rfl h_2) rfl rfl ?_
     refine X.opR (X.on_t rfl rfl rfl h_2) (X.lenF rfl rfl rfl) rfl ?_
     refine X.opR (X.on_t rfl rfl rfl h_2) rfl rfl ?_
     refine X.opR rfl (X.pickand_t (y := decide ((h.Berths.length : Int) ≤ 10)) rfl h_2 rfl) rfl (X.q rfl ?_)
     iterate 5 refine X.off (X.off_t rfl rfl rfl h_3) rfl ?_
     iterate 10 refine X.off rfl rfl ?_
     refine X.off (X.off_t rfl rfl rfl h_3) rfl ?_
     refine X.opR rfl (X.pickand_f (y := ((decide ((h.Tides.length : Int) ≤ 3)) || ((decide (12 < (h.Tides.length : Int))) && (decide ((h.Tides.length : Int) ≤ 20))))) rfl h_3 rfl) rfl (X.q rfl (GS.opsNil ?_))
     exact X.norm _ hg rfl (sr rfl)
    iterate 3 refine X.q rfl ?_
    refine X.opR rfl (X.lenF rfl rfl rfl) rfl (X.q rfl (X.q rfl ?_))
    iterate 3 refine X.opR (X.on_t rfl rfl rfl h_1) rfl rfl ?_
    refine X.opR (X.on_t rfl rfl rfl h_1) (X.lenF rfl rfl rfl) rfl ?_
    refine X.opR (X.on_t rfl rfl rfl h_1) rfl rfl ?_
    refine X.opR rfl (X.pickand_t (y := decide ((h.Water.Shifts.length : Int) ≤ 25)) rfl h_1 rfl) rfl (X.q rfl ?_)
    iterate 4 refine X.off (X.off_t rfl rfl rfl h_2) rfl ?_
    refine X.opR rfl (X.pickand_f (y := decide ((h.Berths.length : Int) ≤ 10)) rfl h_2 rfl) rfl (X.q rfl ?_)
    iterate 5 refine X.off (X.off_t rfl rfl rfl (X.and_ff h_2)) rfl ?_
    iterate 10 refine X.off rfl rfl ?_
    refine X.off (X.off_t rfl rfl rfl (X.and_ff h_2)) rfl ?_
    refine X.opR rfl (X.pickand_f (y := ((decide ((h.Tides.length : Int) ≤ 3)) || ((decide (12 < (h.Tides.length : Int))) && (decide ((h.Tides.length : Int) ≤ 20))))) rfl (X.and_ff h_2) rfl) rfl (X.q rfl (GS.opsNil ?_))
    exact X.norm _ hg rfl (sr rfl)
   iterate 3 refine X.q rfl ?_
   refine X.opR rfl (X.lenF rfl rfl rfl) rfl (X.q rfl (X.q rfl ?_))
   iterate 5 refine X.off (X.off_t rfl rfl rfl h_1) rfl ?_
   refine X.opR rfl (X.pickand_f (y := decide ((h.Water.Shifts.length : Int) ≤ 25)) rfl h_1 rfl) rfl (X.q rfl ?_)
   iterate 4 refine X.off (X.off_t rfl rfl rfl (X.and_ff h_1)) rfl ?_
   refine X.opR rfl (X.pickand_f (y := decide ((h.Berths.length : Int) ≤ 10)) rfl (X.and_ff h_1) rfl) rfl (X.q rfl ?_)
   iterate 5 refine X.off (X.off_t rfl rfl rfl (X.and_ff (X.and_ff h_1))) rfl ?_
   iterate 10 refine X.off rfl rfl ?_
   refine X.off (X.off_t rfl rfl rfl (X.and_ff (X.and_ff h_1))) rfl ?_
   refine X.opR rfl (X.pickand_f (y := ((decide ((h.Tides.length : Int) ≤ 3)) || ((decide (12 < (h.Tides.length : Int))) && (decide ((h.Tides.length : Int) ≤ 20))))) rfl (X.and_ff (X.and_ff h_1)) rfl) rfl (X.q rfl (GS.opsNil ?_))
   exact X.norm _ hg rfl (sr rfl)
  cases hM
  exact GS.ret ⟨_, rfl, ⟨30, rfl⟩⟩
 intro hj_1
 refine GS.block ?_
 refine X.gc [some 0] (X.loop (σ := Int) (fun v => ⟨[(1, (V.ptr 0 0 0)), (3, (V.i v))], [.rows 6 [(e_api_Harbour h)]], 0, none, 67⟩) hM ?_ rfl) rfl rfl rfl (ga rfl rfl) (gb9 rfl rfl rfl gb_nil)
 intro i b_1 hM hc_2 hr_1
 rw [law06_small_b2] at hM
 refine GS.seq (X.sq (X.q rfl (X.q rfl (X.q rfl ?_))))
 refine X.opR rfl (X.lenF rfl rfl rfl) rfl (X.q rfl (GS.opsNil ?_))
 refine X.cond rfl (fun h_6 => ?_) (fun h_6 => ?_)
 ·replace hM := ite_t h_6 hM
  refine GS.skip (GS.seq (GS.block (GS.seq ?_)))
  obtain ⟨x, h_7, hM⟩ := bind_of hM
  obtain ⟨x1, h_8, hM⟩ := bind_of hM
  refine X.drawc (by kernel_rfl) rfl ?_
  iterate 3 refine X.cop rfl rfl rfl rfl ?_
  refine X.cop rfl (X.indexF (f := e_api_Span) h_7 (fun _ => rfl) rfl rfl rfl rfl) rfl rfl ?_
  refine X.cop rfl rfl rfl rfl ?_
  refine X.cop rfl (X.loadF h_7 rfl rfl rfl) rfl rfl ?_
  iterate 3 refine X.cop rfl rfl rfl rfl ?_
  refine X.cop rfl (X.indexF (f := e_api_Span) h_8 (fun _ => rfl) rfl rfl rfl rfl) rfl rfl ?_
  refine X.cop rfl rfl rfl rfl ?_
  refine X.cop rfl (X.loadF h_8 rfl rfl rfl) rfl rfl ?_
  refine X.cop rfl (X.subE rfl rfl) rfl rfl ?_
  refine X.cop rfl rfl rfl rfl ?_
  refine X.cnil ?_
  refine X.norm [(1, (V.ptr 0 0 0)), (3, (V.i i)), (4, (V.i (w64 (x.Hi - x1.Lo))))] ?_ rfl (sr rfl)
  refine X.sq ?_
  refine X.mid [(1, (V.ptr 0 0 0)), (3, (V.i i)), (30, (V.b ((decide (240 ≤ (w64 (x.Hi - x1.Lo)))) && (decide ((w64 (x.Hi - x1.Lo)) < 1440)))))] ?_ ?_
  ·intro hg
   refine X.split (decide (240 ≤ (w64 (x.Hi - x1.Lo)))) (fun h_9 => ?_) (fun h_9 => ?_)
   ·iterate 3 refine X.q rfl ?_
    iterate 2 refine X.opR (X.on_t rfl rfl rfl h_9) rfl rfl ?_
    refine X.opR rfl (X.pickand_t (y := decide ((w64 (x.Hi - x1.Lo)) < 1440)) rfl h_9 rfl) rfl (GS.opsNil ?_)
    exact X.norm _ hg rfl (sr rfl)
   iterate 3 refine X.q rfl ?_
   iterate 2 refine X.off (X.off_t rfl rfl rfl h_9) rfl ?_
   refine X.opR rfl (X.pickand_f (y := decide ((w64 (x.Hi - x1.Lo)) < 1440)) rfl h_9 rfl) rfl (GS.opsNil ?_)
   exact X.norm _ hg rfl (sr rfl)
  refine X.cond rfl (fun h_10 => ?_) (fun h_10 => ?_)
  ·replace hM := ite_t h_10 hM
   refine X.sq (X.q rfl (GS.opsNil ?_))
   have hE := Option.some.inj hM
   replace hE := hr_1 _ hE.symm
   subst hE
   exact GS.ret ⟨_, rfl, ⟨30, rfl⟩⟩
  replace hM := ite_f h_10 hM
  refine GS.skip ?_
  refine GS.endB (GS.region (X.q rfl ?_))
  refine X.opR rfl (X.addE rfl rfl) rfl (X.q rfl (GS.opsNil ?_))
  have hE := Option.some.inj hM
  exact X.gc [some 0] (hc_2 (w64 (i + 1)) hE.symm) rfl rfl rfl (ga rfl rfl) (gb9 rfl rfl rfl gb_nil)
 replace hM := ite_f h_6 hM
 refine GS.exit rfl ?_
 obtain ⟨y_1, hM, hy⟩ := map_of hM
 rw [hr_1 _ hy.symm] at hM
 exact X.gc [some 0] (hj_1 () hM) rfl rfl rfl (ga rfl rfl) (gb9 rfl rfl rfl gb_nil)
theorem ok_law06_Harbour : Ct Tryz.prog 38 [] (e_api_Harbour (law06_Harbour)) := by
 refine ct_of_gs CC_ok rfl ?_
 generalize hM : law06_Harbour = r
 unfold law06_Harbour at hM
 refine X.sq ?_
 refine X.opW rfl rfl rfl rfl (X.nq ?_)
 refine X.opW rfl rfl rfl rfl (X.q rfl ?_)
 refine X.opW rfl rfl rfl rfl (X.q rfl ?_)
 refine X.opW (H' := [.rows 6 [(V.agg [(V.i 0), V.nil, V.nil, V.nil, V.nil, (V.i 0)])], .rows 1 (List.map V.i ([0, 100, 200, 100])), .rows 4 [(V.agg [(V.i 1), (V.i 0), (V.i 60), (V.osl 1 0 (List.length ([0, 100, 200, 100])))])], .rows 3 [(V.agg [(V.i 0), V.nil, V.nil])]]) rfl rfl rfl rfl ?_
 refine X.op0W (H' := [.rows 6 [(V.agg [(V.i 0), V.nil, V.nil, V.nil, V.nil, (V.i 0)])], .rows 1 (List.map V.i ([0, 100, 200, 100])), .rows 4 [(V.agg [(V.i 1), (V.i 0), (V.i 60), (V.osl 1 0 (List.length ([0, 100, 200, 100])))])], .rows 3 [(V.agg [(V.i 500), (V.osl 2 0 1), V.nil])]]) rfl rfl rfl (X.nq (X.q rfl (X.q rfl (X.q rfl ?_))))
 refine X.opW (H' := [.rows 6 [(V.agg [(V.i 0), V.nil, V.nil, V.nil, V.nil, (V.i 0)])], .rows 1 (List.map V.i ([0, 100, 200, 100])), .rows 4 [(V.agg [(V.i 1), (V.i 0), (V.i 60), (V.osl 1 0 (List.length ([0, 100, 200, 100])))])], .rows 3 [(V.agg [(V.i 500), (V.osl 2 0 1), V.nil])], .rows 2 (List.map e_api_Berth ([(⟨1, 300⟩ : api_Berth), (⟨2, 100⟩ : api_Berth)]))]) rfl rfl rfl rfl (X.q rfl (X.q rfl ?_))
 refine X.opW (H' := [.rows 6 [(V.agg [(V.i 0), V.nil, V.nil, V.nil, V.nil, (V.i 0)])], .rows 1 (List.map V.i ([0, 100, 200, 100])), .rows 4 [(V.agg [(V.i 1), (V.i 0), (V.i 60), (V.osl 1 0 (List.length ([0, 100, 200, 100])))])], .rows 3 [(V.agg [(V.i 500), (V.osl 2 0 1), V.nil])], .rows 2 (List.map e_api_Berth ([(⟨1, 300⟩ : api_Berth), (⟨2, 100⟩ : api_Berth)])), .rows 2 (List.map e_api_Span ([(⟨0, 239⟩ : api_Span), (⟨240, 479⟩ : api_Span)]))]) rfl rfl rfl rfl ?_
 refine X.q rfl ?_
 refine X.op0W (H' := [.rows 6 [(V.agg [(V.i 500), (V.osl 2 0 1), V.nil, (V.osl 4 0 (List.length ([(⟨1, 300⟩ : api_Berth), (⟨2, 100⟩ : api_Berth)]))), (V.osl 5 0 (List.length ([(⟨0, 239⟩ : api_Span), (⟨240, 479⟩ : api_Span)]))), (V.i 50)])], .rows 1 (List.map V.i ([0, 100, 200, 100])), .rows 4 [(V.agg [(V.i 1), (V.i 0), (V.i 60), (V.osl 1 0 (List.length ([0, 100, 200, 100])))])], .rows 3 [(V.agg [(V.i 500), (V.osl 2 0 1), V.nil])], .rows 2 (List.map e_api_Berth ([(⟨1, 300⟩ : api_Berth), (⟨2, 100⟩ : api_Berth)])), .rows 2 (List.map e_api_Span ([(⟨0, 239⟩ : api_Span), (⟨240, 479⟩ : api_Span)]))]) rfl rfl rfl (GS.opsNil ?_)
 subst hM
 exact GS.ret ⟨_, rfl, ⟨30, rfl⟩⟩
theorem ok_tide_within (n : Int) (lo : Int) (hi : Int) : Ct Tryz.prog 92 [(V.i n), (V.i lo), (V.i hi)] (V.b (tide_within n lo hi)) := by
 refine ct_of_gs CC_ok rfl ?_
 generalize hM : tide_within n lo hi = r
 unfold tide_within at hM
 refine X.sq (X.q rfl (X.nq ?_))
 refine X.mid [(6, (V.b ((decide (lo ≤ n)) && (decide (n ≤ hi)))))] ?_ ?_
 ·intro hg
  refine X.split (decide (lo ≤ n)) (fun h_1 => ?_) (fun h_1 => ?_)
  ·iterate 4 refine X.q rfl ?_
   iterate 3 refine X.opR (X.on_t rfl rfl rfl h_1) rfl rfl ?_
   refine X.opR rfl (X.pickand_t (y := decide (n ≤ hi)) rfl h_1 rfl) rfl (X.q rfl (GS.opsNil ?_))
   exact X.norm _ hg rfl (sr rfl)
  iterate 4 refine X.q rfl ?_
  iterate 3 refine X.off (X.off_t rfl rfl rfl h_1) rfl ?_
  refine X.opR rfl (X.pickand_f (y := decide (n ≤ hi)) rfl h_1 rfl) rfl (X.q rfl (GS.opsNil ?_))
  exact X.norm _ hg rfl (sr rfl)
 subst hM
 exact GS.ret ⟨_, rfl, ⟨30, rfl⟩⟩
theorem ok_tide_level (n : Int) : Ct Tryz.prog 88 [(V.i n)] (V.b (tide_level n)) := by
 refine ct_of_gs CC_ok rfl ?_
 generalize hM : tide_level n = r
 unfold tide_level at hM
 refine X.sq (X.q rfl (X.nq (X.q rfl ?_)))
 refine X.call (ok_tide_within n (-4000) 4000) rfl rfl rfl (.cons (.shut (n := 9) rfl) (.cons (.shut (n := 9) rfl) (.cons (.shut (n := 9) rfl) .nil))) (X.q rfl (GS.opsNil ?_))
 subst hM
 exact GS.ret ⟨_, rfl, ⟨30, rfl⟩⟩
theorem ok_tide_minute (tick : Int) : Ct Tryz.prog 83 [(V.i tick)] (V.b (tide_minute tick)) := by
 refine ct_of_gs CC_ok rfl ?_
 generalize hM : tide_minute tick = r
 unfold tide_minute at hM
 refine X.sq (X.q rfl (X.nq (X.q rfl ?_)))
 refine X.call (ok_tide_within tick 0 1048576) rfl rfl rfl (.cons (.shut (n := 9) rfl) (.cons (.shut (n := 9) rfl) (.cons (.shut (n := 9) rfl) .nil))) (X.q rfl (GS.opsNil ?_))
 subst hM
 exact GS.ret ⟨_, rfl, ⟨30, rfl⟩⟩
theorem ok_tide_right_1 (h : Int) : Ct Tryz.prog 118 [(V.i h)] (V.b (tide_right_1 h)) := by
 refine ct_of_gs CC_ok rfl ?_
 generalize hM : tide_right_1 h = r
 unfold tide_right_1 at hM
 refine X.sq (X.q rfl (X.nq (X.q rfl ?_)))
 refine X.call (ok_tide_level h) rfl rfl rfl (.cons (.shut (n := 9) rfl) .nil) (X.q rfl (X.q rfl ?_))
 refine GS.opsNil ?_
 subst hM
 exact GS.ret ⟨_, rfl, ⟨30, rfl⟩⟩
theorem ok_slices_IndexFunc_int__tide_right_1 {s : (List Int)} {r : Int} (hM : slices_IndexFunc_int__tide_right_1 s = some r) : Ct Tryz.prog 141 [(V.sl (List.map V.i s)), (V.fn 118 [])] (V.i r) := by
 refine ct_of_gs CC_ok rfl ?_
 unfold slices_IndexFunc_int__tide_right_1 at hM
 refine X.sq (X.q rfl (GS.opsNil (GS.seq (X.sq (X.q rfl ?_)))))
 refine X.opR rfl (X.lenF rfl rfl rfl) rfl (X.q rfl (GS.opsNil ?_))
 refine X.join (τ := Unit) (fun v => slices_IndexFunc_int__tide_right_1_j1 = some r) (fun v => ⟨[], [], 0, none, 19⟩) ?_ ?_
 ·intro _ hM
  replace hM : slices_IndexFunc_int__tide_right_1_j1 = some r := hM
  unfold slices_IndexFunc_int__tide_right_1_j1 at hM
  refine X.sq (X.q rfl (GS.opsNil ?_))
  cases hM
  exact GS.ret ⟨_, rfl, ⟨30, rfl⟩⟩
 intro hj_1
 refine GS.block ?_
 refine X.gc [] (X.loop (σ := Int) (fun v => ⟨[(0, (V.sl (List.map V.i s))), (1, (V.fn 118 [])), (7, (V.i (s.length : Int))), (8, (V.i v))], [], 0, none, 19⟩) hM ?_ rfl) rfl rfl rfl (ga rfl rfl) (gb_nil)
 intro x1 b_1 hM hc_2 hr_1
 rw [slices_IndexFunc_int__tide_right_1_b2] at hM
 refine X.sq (X.q rfl (GS.opsNil (GS.seq ?_)))
 refine X.cond rfl (fun h_1 => ?_) (fun h_1 => ?_)
 ·replace hM := ite_t h_1 hM
  refine GS.skip (GS.seq (GS.block (X.sq (X.q rfl (X.q rfl ?_)))))
  refine GS.opsNil (GS.seq ?_)
  obtain ⟨x, h_2, hM⟩ := bind_of hM
  refine GS.region (X.q rfl (X.q rfl (X.q rfl ?_)))
  refine X.opR rfl (X.indexF (f := V.i) h_2 (fun _ => rfl) rfl rfl rfl rfl) rfl ?_
  refine X.opR rfl (X.loadF h_2 rfl rfl rfl) rfl ?_
  refine X.call (ok_tide_right_1 x) rfl rfl rfl (.cons (.shut (n := 9) rfl) .nil) (GS.opsNil ?_)
  refine X.cond rfl (fun h_3 => ?_) (fun h_3 => ?_)
  ·replace hM := ite_t h_3 hM
   refine X.sq (X.q rfl (X.q rfl ?_))
   refine GS.opsNil ?_
   have hE := Option.some.inj hM
   replace hE := hr_1 _ hE.symm
   subst hE
   exact GS.ret ⟨_, rfl, ⟨30, rfl⟩⟩
  replace hM := ite_f h_3 hM
  refine GS.skip ?_
  refine GS.endB (GS.region ?_)
  refine X.opR rfl (X.addE rfl rfl) rfl (X.q rfl (GS.opsNil ?_))
  have hE := Option.some.inj hM
  exact X.gc [] (hc_2 (w64 (x1 + 1)) hE.symm) rfl rfl rfl (ga rfl rfl) (gb_nil)
 replace hM := ite_f h_1 hM
 refine GS.exit rfl ?_
 obtain ⟨y_1, hM, hy⟩ := map_of hM
 rw [hr_1 _ hy.symm] at hM
 exact X.gc [] (hj_1 () hM) rfl rfl rfl (gk_nil) (gb_nil)
theorem ok_slices_ContainsFunc_int__tide_right_1 {s : (List Int)} {r : Bool} (hM : slices_ContainsFunc_int__tide_right_1 s = some r) : Ct Tryz.prog 117 [(V.sl (List.map V.i s)), (V.fn 118 [])] (V.b r) := by
 refine ct_of_gs CC_ok rfl ?_
 unfold slices_ContainsFunc_int__tide_right_1 at hM
 refine X.sq (X.q rfl (GS.opsNil (GS.seq ?_)))
 obtain ⟨y, h_1, hM⟩ := bind_of hM
 refine GS.region (X.q rfl (X.q rfl ?_))
 refine X.call (ok_slices_IndexFunc_int__tide_right_1 h_1) rfl rfl rfl (.cons (.shut (n := 9) rfl) (.cons (.shut (n := 9) rfl) .nil)) (X.q rfl (X.q rfl ?_))
 refine GS.opsNil ?_
 cases hM
 exact GS.ret ⟨_, rfl, ⟨30, rfl⟩⟩
theorem ok_tide_right {c : api_Cycle} {r : Bool} (hM : tide_right c = some r) : Ct Tryz.prog 89 [(e_api_Cycle c)] (V.b r) := by
 refine ct_of_gs CC_ok rfl ?_
 unfold tide_right at hM
 refine X.sq ?_
 refine X.opW rfl rfl rfl rfl (X.q rfl (GS.opsNil (GS.seq ?_)))
 obtain ⟨y, h_1, hM⟩ := gb_of hM
 refine GS.region ?_
 refine X.mid [(2, (V.b (((((tide_within c.ID 1 1099511627776) && (tide_minute c.Begin)) && (tide_within c.Every 1 120)) && (tide_within (c.Heights.length : Int) 1 60)) && (!y))))] ?_ ?_
 ·intro hg
  refine X.split ((tide_within c.ID 1 1099511627776)) (fun h_2 => ?_) (fun h_2 => ?_)
  ·refine X.split (((tide_within c.ID 1 1099511627776) && (tide_minute c.Begin))) (fun h_3 => ?_) (fun h_3 => ?_)
   ·refine X.split ((((tide_within c.ID 1 1099511627776) && (tide_minute c.Begin)) && (tide_within c.Every 1 120))) (fun h_4 => ?_) (fun h_4 => ?_)
    ·refine X.split (((((tide_within c.ID 1 1099511627776) && (tide_minute c.Begin)) && (tide_within c.Every 1 120)) && (tide_within (c.Heights.length : Int) 1 60))) (fun h_5 => ?_) (fun h_5 => ?_)
     ·iterate 2 refine X.q rfl ?_
      refine X.call (ok_tide_within c.ID 1 1099511627776) rfl rfl rfl (.cons (.shut (n := 9) rfl) (.cons (.shut (n := 9) rfl) (.cons (.shut (n := 9) rfl) .nil))) (X.q rfl ?_)
      iterate 2 refine X.opR (X.on_t rfl rfl rfl h_2) rfl rfl ?_
      refine X.call (ok_tide_minute c.Begin) (X.on_t rfl rfl rfl h_2) rfl rfl (.cons (.shut (n := 9) rfl) .nil) ?_
      refine X.opR rfl (X.pickand_t (y := (tide_minute c.Begin)) rfl h_2 rfl) rfl (X.q rfl ?_)
      iterate 2 refine X.opR (X.on_t rfl rfl rfl h_3) rfl rfl ?_
      refine X.call (ok_tide_within c.Every 1 120) (X.on_t rfl rfl rfl h_3) rfl rfl (.cons (.shut (n := 9) rfl) (.cons (.shut (n := 9) rfl) (.cons (.shut (n := 9) rfl) .nil))) ?_
      refine X.opR rfl (X.pickand_t (y := (tide_within c.Every 1 120)) rfl h_3 rfl) rfl (X.q rfl ?_)
      iterate 2 refine X.opR (X.on_t rfl rfl rfl h_4) rfl rfl ?_
      refine X.opR (X.on_t rfl rfl rfl h_4) (X.lenF rfl rfl rfl) rfl ?_
      refine X.call (ok_tide_within (c.Heights.length : Int) 1 60) (X.on_t rfl rfl rfl h_4) rfl rfl (.cons (.shut (n := 9) rfl) (.cons (.shut (n := 9) rfl) (.cons (.shut (n := 9) rfl) .nil))) ?_
      refine X.opR rfl (X.pickand_t (y := (tide_within (c.Heights.length : Int) 1 60)) rfl h_4 rfl) rfl (X.q rfl ?_)
      iterate 2 refine X.opR (X.on_t rfl rfl rfl h_5) rfl rfl ?_
      refine X.call (ok_slices_ContainsFunc_int__tide_right_1 (h_1 h_5)) (X.on_t rfl rfl rfl h_5) rfl rfl (.cons (.shut (n := 9) rfl) (.cons (.shut (n := 9) rfl) .nil)) ?_
      refine X.opR (X.on_t rfl rfl rfl h_5) rfl rfl ?_
      refine X.opR rfl (X.pickand_t (y := !y) rfl h_5 rfl) rfl (X.q rfl (GS.opsNil ?_))
      exact X.norm _ hg rfl (sr rfl)
     refine X.q rfl (X.q rfl ?_)
     refine X.call (ok_tide_within c.ID 1 1099511627776) rfl rfl rfl (.cons (.shut (n := 9) rfl) (.cons (.shut (n := 9) rfl) (.cons (.shut (n := 9) rfl) .nil))) (X.q rfl ?_)
     iterate 2 refine X.opR (X.on_t rfl rfl rfl h_2) rfl rfl ?_
     refine X.call (ok_tide_minute c.Begin) (X.on_t rfl rfl rfl h_2) rfl rfl (.cons (.shut (n := 9) rfl) .nil) ?_
     refine X.opR rfl (X.pickand_t (y := (tide_minute c.Begin)) rfl h_2 rfl) rfl (X.q rfl ?_)
     iterate 2 refine X.opR (X.on_t rfl rfl rfl h_3) rfl rfl ?_
     refine X.call (ok_tide_within c.Every 1 120) (X.on_t rfl rfl rfl h_3) rfl rfl (.cons (.shut (n := 9) rfl) (.cons (.shut (n := 9) rfl) (.cons (.shut (n := 9) rfl) .nil))) ?_
     refine X.opR rfl (X.pickand_t (y := (tide_within c.Every 1 120)) rfl h_3 rfl) rfl (X.q rfl ?_)
     iterate 2 refine X.opR (X.on_t rfl rfl rfl h_4) rfl rfl ?_
     refine X.opR (X.on_t rfl rfl rfl h_4) (X.lenF rfl rfl rfl) rfl ?_
     refine X.call (ok_tide_within (c.Heights.length : Int) 1 60) (X.on_t rfl rfl rfl h_4) rfl rfl (.cons (.shut (n := 9) rfl) (.cons (.shut (n := 9) rfl) (.cons (.shut (n := 9) rfl) .nil))) ?_
     refine X.opR rfl (X.pickand_t (y := (tide_within (c.Heights.length : Int) 1 60)) rfl h_4 rfl) rfl (X.q rfl ?_)
     iterate 4 refine X.off (X.off_t rfl rfl rfl h_5) rfl ?_
     refine X.opR rfl (X.pickand_f (y := !y) rfl h_5 rfl) rfl (X.q rfl (GS.opsNil ?_))
     exact X.norm _ hg rfl (sr rfl)
    refine X.q rfl (X.q rfl ?_)
    refine X.call (ok_tide_within c.ID 1 1099511627776) rfl rfl rfl (.cons (.shut (n := 9) rfl) (.cons (.shut (n := 9) rfl) (.cons (.shut (n := 9) rfl) .nil))) (X.q rfl ?_)
    iterate 2 refine X.opR (X.on_t rfl rfl rfl h_2) rfl rfl ?_
    refine X.call (ok_tide_minute c.Begin) (X.on_t rfl rfl rfl h_2) rfl rfl (.cons (.shut (n := 9) rfl) .nil) ?_
    refine X.opR rfl (X.pickand_t (y := (tide_minute c.Begin)) rfl h_2 rfl) rfl (X.q rfl ?_)
    iterate 2 refine X.opR (X.on_t rfl rfl rfl h_3) rfl rfl ?_
    refine X.call (ok_tide_within c.Every 1 120) (X.on_t rfl rfl rfl h_3) rfl rfl (.cons (.shut (n := 9) rfl) (.cons (.shut (n := 9) rfl) (.cons (.shut (n := 9) rfl) .nil))) ?_
    refine X.opR rfl (X.pickand_t (y := (tide_within c.Every 1 120)) rfl h_3 rfl) rfl (X.q rfl ?_)
    iterate 4 refine X.off (X.off_t rfl rfl rfl h_4) rfl ?_
    refine X.opR rfl (X.pickand_f (y := (tide_within (c.Heights.length : Int) 1 60)) rfl h_4 rfl) rfl (X.q rfl ?_)
    iterate 4 refine X.off (X.off_t rfl rfl rfl (X.and_ff h_4)) rfl ?_
    refine X.opR rfl (X.pickand_f (y := !y) rfl (X.and_ff h_4) rfl) rfl (X.q rfl (GS.opsNil ?_))
    exact X.norm _ hg rfl (sr rfl)
   refine X.q rfl (X.q rfl ?_)
   refine X.call (ok_tide_within c.ID 1 1099511627776) rfl rfl rfl (.cons (.shut (n := 9) rfl) (.cons (.shut (n := 9) rfl) (.cons (.shut (n := 9) rfl) .nil))) (X.q rfl ?_)
   iterate 2 refine X.opR (X.on_t rfl rfl rfl h_2) rfl rfl ?_
   refine X.call (ok_tide_minute c.Begin) (X.on_t rfl rfl rfl h_2) rfl rfl (.cons (.shut (n := 9) rfl) .nil) ?_
   refine X.opR rfl (X.pickand_t (y := (tide_minute c.Begin)) rfl h_2 rfl) rfl (X.q rfl ?_)
   iterate 3 refine X.off (X.off_t rfl rfl rfl h_3) rfl ?_
   refine X.opR rfl (X.pickand_f (y := (tide_within c.Every 1 120)) rfl h_3 rfl) rfl (X.q rfl ?_)
   iterate 4 refine X.off (X.off_t rfl rfl rfl (X.and_ff h_3)) rfl ?_
   refine X.opR rfl (X.pickand_f (y := (tide_within (c.Heights.length : Int) 1 60)) rfl (X.and_ff h_3) rfl) rfl (X.q rfl ?_)
   iterate 4 refine X.off (X.off_t rfl rfl rfl (X.and_ff (X.and_ff h_3))) rfl ?_
   refine X.opR rfl (X.pickand_f (y := !y) rfl (X.and_ff (X.and_ff h_3)) rfl) rfl (X.q rfl (GS.opsNil ?_))
   exact X.norm _ hg rfl (sr rfl)
  refine X.q rfl (X.q rfl ?_)
  refine X.call (ok_tide_within c.ID 1 1099511627776) rfl rfl rfl (.cons (.shut (n := 9) rfl) (.cons (.shut (n := 9) rfl) (.cons (.shut (n := 9) rfl) .nil))) (X.q rfl ?_)
  iterate 3 refine X.off (X.off_t rfl rfl rfl h_2) rfl ?_
  refine X.opR rfl (X.pickand_f (y := (tide_minute c.Begin)) rfl h_2 rfl) rfl (X.q rfl ?_)
  iterate 3 refine X.off (X.off_t rfl rfl rfl (X.and_ff h_2)) rfl ?_
  refine X.opR rfl (X.pickand_f (y := (tide_within c.Every 1 120)) rfl (X.and_ff h_2) rfl) rfl (X.q rfl ?_)
  iterate 4 refine X.off (X.off_t rfl rfl rfl (X.and_ff (X.and_ff h_2))) rfl ?_
  refine X.opR rfl (X.pickand_f (y := (tide_within (c.Heights.length : Int) 1 60)) rfl (X.and_ff (X.and_ff h_2)) rfl) rfl (X.q rfl ?_)
  iterate 4 refine X.off (X.off_t rfl rfl rfl (X.and_ff (X.and_ff (X.and_ff h_2)))) rfl ?_
  refine X.opR rfl (X.pickand_f (y := !y) rfl (X.and_ff (X.and_ff (X.and_ff h_2))) rfl) rfl (X.q rfl (GS.opsNil ?_))
  exact X.norm _ hg rfl (sr rfl)
 cases hM
 exact GS.ret ⟨_, rfl, ⟨30, rfl⟩⟩
theorem ok_tide_Check_1 (x : api_Cycle) (c : api_Cycle) : Ct Tryz.prog 91 [(e_api_Cycle x), (V.fptr [(e_api_Cycle c)] 0 0)] (V.b (tide_Check_1 x c)) := by
 refine ct_of_gs CC_ok rfl ?_
 generalize hM : tide_Check_1 x c = r
 unfold tide_Check_1 at hM
 refine X.sq ?_
 refine X.opW rfl rfl rfl rfl (X.q rfl (X.nq ?_))
 iterate 6 refine X.q rfl ?_
 refine GS.opsNil ?_
 subst hM
 exact GS.ret ⟨_, rfl, ⟨30, rfl⟩⟩
theorem ok_slices_IndexFunc_api_Cycle__tide_Check_1 {s : (List api_Cycle)} {c : api_Cycle} {r : Int} (hM : slices_IndexFunc_api_Cycle__tide_Check_1 s c = some r) : Ct Tryz.prog 119 [(V.sl (List.map e_api_Cycle s)), (V.fn 91 [(V.fptr [(e_api_Cycle c)] 0 0)])] (V.i r) := by
 refine ct_of_gs CC_ok rfl ?_
 unfold slices_IndexFunc_api_Cycle__tide_Check_1 at hM
 refine X.sq (X.q rfl (GS.opsNil (GS.seq (X.sq (X.q rfl ?_)))))
 refine X.opR rfl (X.lenF rfl rfl rfl) rfl (X.q rfl (GS.opsNil ?_))
 refine X.join (τ := Unit) (fun v => slices_IndexFunc_api_Cycle__tide_Check_1_j1 = some r) (fun v => ⟨[], [], 0, none, 19⟩) ?_ ?_
 ·intro _ hM
  replace hM : slices_IndexFunc_api_Cycle__tide_Check_1_j1 = some r := hM
  unfold slices_IndexFunc_api_Cycle__tide_Check_1_j1 at hM
  refine X.sq (X.q rfl (GS.opsNil ?_))
  cases hM
  exact GS.ret ⟨_, rfl, ⟨30, rfl⟩⟩
 intro hj_1
 refine GS.block ?_
 refine X.gc [] (X.loop (σ := Int) (fun v => ⟨[(0, (V.sl (List.map e_api_Cycle s))), (1, (V.fn 91 [(V.fptr [(e_api_Cycle c)] 0 0)])), (7, (V.i (s.length : Int))), (8, (V.i v))], [], 0, none, 19⟩) hM ?_ rfl) rfl rfl rfl (ga rfl rfl) (gb_nil)
 intro x1 b_1 hM hc_2 hr_1
 rw [slices_IndexFunc_api_Cycle__tide_Check_1_b2] at hM
 refine X.sq (X.q rfl (GS.opsNil (GS.seq ?_)))
 refine X.cond rfl (fun h_1 => ?_) (fun h_1 => ?_)
 ·replace hM := ite_t h_1 hM
  refine GS.skip (GS.seq (GS.block (X.sq (X.q rfl (X.q rfl ?_)))))
  refine GS.opsNil (GS.seq ?_)
  obtain ⟨x, h_2, hM⟩ := bind_of hM
  refine GS.region (X.q rfl (X.q rfl (X.q rfl ?_)))
  refine X.opR rfl (X.indexF (f := e_api_Cycle) h_2 (fun _ => rfl) rfl rfl rfl rfl) rfl ?_
  refine X.opR rfl (X.loadF h_2 rfl rfl rfl) rfl ?_
  refine X.call (ok_tide_Check_1 x c) rfl rfl rfl (.cons (.shut (n := 9) rfl) (.cons (.shut (n := 9) rfl) .nil)) (GS.opsNil ?_)
  refine X.cond rfl (fun h_3 => ?_) (fun h_3 => ?_)
  ·replace hM := ite_t h_3 hM
   refine X.sq (X.q rfl (X.q rfl ?_))
   refine GS.opsNil ?_
   have hE := Option.some.inj hM
   replace hE := hr_1 _ hE.symm
   subst hE
   exact GS.ret ⟨_, rfl, ⟨30, rfl⟩⟩
  replace hM := ite_f h_3 hM
  refine GS.skip ?_
  refine GS.endB (GS.region ?_)
  refine X.opR rfl (X.addE rfl rfl) rfl (X.q rfl (GS.opsNil ?_))
  have hE := Option.some.inj hM
  exact X.gc [] (hc_2 (w64 (x1 + 1)) hE.symm) rfl rfl rfl (ga rfl rfl) (gb_nil)
 replace hM := ite_f h_1 hM
 refine GS.exit rfl ?_
 obtain ⟨y_1, hM, hy⟩ := map_of hM
 rw [hr_1 _ hy.symm] at hM
 exact X.gc [] (hj_1 () hM) rfl rfl rfl (gk_nil) (gb_nil)
theorem ok_slices_ContainsFunc_api_Cycle__tide_Check_1 {s : (List api_Cycle)} {c : api_Cycle} {r : Bool} (hM : slices_ContainsFunc_api_Cycle__tide_Check_1 s c = some r) : Ct Tryz.prog 90 [(V.sl (List.map e_api_Cycle s)), (V.fn 91 [(V.fptr [(e_api_Cycle c)] 0 0)])] (V.b r) := by
 refine ct_of_gs CC_ok rfl ?_
 unfold slices_ContainsFunc_api_Cycle__tide_Check_1 at hM
 refine X.sq (X.q rfl (GS.opsNil (GS.seq ?_)))
 obtain ⟨y, h_1, hM⟩ := bind_of hM
 refine GS.region (X.q rfl (X.q rfl ?_))
 refine X.call (ok_slices_IndexFunc_api_Cycle__tide_Check_1 h_1) rfl rfl rfl (.cons (.shut (n := 9) rfl) (.cons (.shut (n := 9) rfl) .nil)) (X.q rfl (X.q rfl ?_))
 refine GS.opsNil ?_
 cases hM
 exact GS.ret ⟨_, rfl, ⟨30, rfl⟩⟩
set_option maxHeartbeats 4000000 in
theorem ok_tide_Check {w : api_Water} {r : Int} (hM : tide_Check w = some r) : Ct Tryz.prog 51 [(e_api_Water w)] (V.i r) := by
 refine ct_of_gs CC_ok rfl ?_
 unfold tide_Check at hM
 refine X.sq ?_
 refine X.opW rfl rfl rfl rfl (X.q rfl (GS.opsNil (GS.seq (GS.block (X.sq (X.q rfl (X.q rfl ?_)))))))
 refine X.call (ok_tide_level w.Level) rfl rfl rfl (.cons (.shut (n := 9) rfl) .nil) (X.q rfl (X.q rfl ?_))
 refine GS.opsNil ?_
 refine X.cond rfl (fun h_1 => ?_) (fun h_1 => ?_)
 ·replace hM := ite_t h_1 hM
  refine X.sq (X.q rfl (GS.opsNil ?_))
  cases hM
  exact GS.ret ⟨_, rfl, ⟨30, rfl⟩⟩
 replace hM := ite_f h_1 hM
 refine X.sq ?_
 refine X.mid [(1, (V.ptr 0 0 0)), (13, (V.b ((decide (6 < (w.Cycles.length : Int))) || (decide (20 < (w.Shifts.length : Int))))))] ?_ ?_
 ·intro hg
  refine X.split (decide (6 < (w.Cycles.length : Int))) (fun h_2 => ?_) (fun h_2 => ?_)
  ·iterate 2 refine X.q rfl ?_
   refine X.opR rfl (X.lenF rfl rfl rfl) rfl (X.q rfl (X.q rfl ?_))
   iterate 4 refine X.off (X.off_f rfl rfl rfl h_2) rfl ?_
   refine X.opR rfl (X.pickor_t (y := decide (20 < (w.Shifts.length : Int))) rfl h_2 rfl) rfl (X.q rfl (GS.opsNil ?_))
   exact X.norm _ hg rfl (sr rfl)
  refine X.q rfl (X.q rfl ?_)
  refine X.opR rfl (X.lenF rfl rfl rfl) rfl (X.q rfl (X.q rfl ?_))
  iterate 2 refine X.opR (X.on_f rfl rfl rfl h_2) rfl rfl ?_
  refine X.opR (X.on_f rfl rfl rfl h_2) (X.lenF rfl rfl rfl) rfl ?_
  refine X.opR (X.on_f rfl rfl rfl h_2) rfl rfl ?_
  refine X.opR rfl (X.pickor_f (y := decide (20 < (w.Shifts.length : Int))) rfl h_2 rfl) rfl (X.q rfl (GS.opsNil ?_))
  exact X.norm _ hg rfl (sr rfl)
 refine X.cond rfl (fun h_3 => ?_) (fun h_3 => ?_)
 ·replace hM := ite_t h_3 hM
  refine X.sq (X.q rfl (GS.opsNil ?_))
  cases hM
  exact GS.ret ⟨_, rfl, ⟨30, rfl⟩⟩
 replace hM := ite_f h_3 hM
 refine GS.skip ?_
 refine GS.endB (GS.seq (X.sq (X.q rfl (X.q rfl ?_))))
 refine X.opR rfl (X.lenF rfl rfl rfl) rfl (X.q rfl (GS.opsNil ?_))
 refine X.join (τ := Unit) (fun v => tide_Check_j1 w = some r) (fun v => ⟨[(1, (V.ptr 0 0 0))], [.rows 3 [(e_api_Water w)]], 0, none, 71⟩) ?_ ?_
 ·intro _ hM
  replace hM : tide_Check_j1 w = some r := hM
  unfold tide_Check_j1 at hM
  refine X.sq (X.q rfl (GS.opsNil (GS.seq (X.sq (X.q rfl (X.q rfl ?_))))))
  refine X.opR rfl (X.lenF rfl rfl rfl) rfl (X.q rfl (GS.opsNil ?_))
  refine X.join (τ := Unit) (fun v => tide_Check_j2 = some r) (fun v => ⟨[], [], 0, none, 71⟩) ?_ ?_
  ·intro _ hM
   replace hM : tide_Check_j2 = some r := hM
   unfold tide_Check_j2 at hM
   refine X.sq (X.q rfl (GS.opsNil ?_))
   cases hM
   exact GS.ret ⟨_, rfl, ⟨30, rfl⟩⟩
  intro hj_2
  refine GS.block ?_
  refine X.gc [] (X.loop (σ := (Int × Int)) (fun v => ⟨[(5, (V.i v.1)), (43, (V.sl (List.map e_api_Shift w.Shifts))), (44, (V.i (w.Shifts.length : Int))), (45, (V.i v.2))], [], 0, none, 71⟩) hM ?_ rfl) rfl rfl rfl (ga rfl rfl) (gb_nil)
  rintro ⟨last, x1⟩ b_1 hM hc_3 hr_1
  rw [tide_Check_b3] at hM
  refine X.sq (X.q rfl (GS.opsNil (GS.seq ?_)))
  refine X.cond rfl (fun h_4 => ?_) (fun h_4 => ?_)
  ·replace hM := ite_t h_4 hM
   refine GS.skip (GS.seq (GS.block (GS.seq ?_)))
   obtain ⟨x, h_5, hM⟩ := bind_of hM
   refine GS.region ?_
   refine X.opR rfl (X.indexF (f := e_api_Shift) h_5 (fun _ => rfl) rfl rfl rfl rfl) rfl ?_
   refine X.opR rfl (X.loadF h_5 rfl rfl rfl) rfl ?_
   refine X.opW rfl rfl rfl rfl ?_
   refine X.op0W rfl rfl rfl (GS.opsNil (GS.seq (X.sq ?_)))
   refine X.mid [(7, (V.ptr 0 0 0)), (43, (V.sl (List.map e_api_Shift w.Shifts))), (44, (V.i (w.Shifts.length : Int))), (45, (V.i x1)), (67, (V.b (((!(tide_within x.From (w64 (last + 1)) x.To)) || (decide (728 < x.To))) || (!(tide_level x.Add)))))] ?_ ?_
   ·intro hg
    refine X.split (!(tide_within x.From (w64 (last + 1)) x.To)) (fun h_6 => ?_) (fun h_6 => ?_)
    ·iterate 3 refine X.q rfl ?_
     refine X.opR rfl (X.addE rfl rfl) rfl (X.q rfl (X.q rfl ?_))
     refine X.call (ok_tide_within x.From (w64 (last + 1)) x.To) rfl rfl rfl (.cons (.shut (n := 9) rfl) (.cons (.shut (n := 9) rfl) (.cons (.shut (n := 9) rfl) .nil))) (X.q rfl (X.q rfl ?_))
     iterate 3 refine X.off (X.off_f rfl rfl rfl h_6) rfl ?_
     refine X.opR rfl (X.pickor_t (y := decide (728 < x.To)) rfl h_6 rfl) rfl (X.q rfl ?_)
     iterate 4 refine X.off (X.off_f rfl rfl rfl (X.or_tt h_6)) rfl ?_
     refine X.opR rfl (X.pickor_t (y := !(tide_level x.Add)) rfl (X.or_tt h_6) rfl) rfl (GS.opsNil ?_)
     exact X.norm _ hg rfl (sr rfl)
    refine X.split (((!(tide_within x.From (w64 (last + 1)) x.To)) || (decide (728 < x.To)))) (fun h_7 => ?_) (fun h_7 => ?_)
    ·iterate 3 refine X.q rfl ?_
     refine X.opR rfl (X.addE rfl rfl) rfl (X.q rfl (X.q rfl ?_))
     refine X.call (ok_tide_within x.From (w64 (last + 1)) x.To) rfl rfl rfl (.cons (.shut (n := 9) rfl) (.cons (.shut (n := 9) rfl) (.cons (.shut (n := 9) rfl) .nil))) (X.q rfl (X.q rfl ?_))
     iterate 3 refine X.opR (X.on_f rfl rfl rfl h_6) rfl rfl ?_
     refine X.opR rfl (X.pickor_f (y := decide (728 < x.To)) rfl h_6 rfl) rfl (X.q rfl ?_)
     iterate 4 refine X.off (X.off_f rfl rfl rfl h_7) rfl ?_
     refine X.opR rfl (X.pickor_t (y := !(tide_level x.Add)) rfl h_7 rfl) rfl (GS.opsNil ?_)
     exact X.norm _ hg rfl (sr rfl)
    iterate 3 refine X.q rfl ?_
    refine X.opR rfl (X.addE rfl rfl) rfl (X.q rfl (X.q rfl ?_))
    refine X.call (ok_tide_within x.From (w64 (last + 1)) x.To) rfl rfl rfl (.cons (.shut (n := 9) rfl) (.cons (.shut (n := 9) rfl) (.cons (.shut (n := 9) rfl) .nil))) (X.q rfl (X.q rfl ?_))
    iterate 3 refine X.opR (X.on_f rfl rfl rfl h_6) rfl rfl ?_
    refine X.opR rfl (X.pickor_f (y := decide (728 < x.To)) rfl h_6 rfl) rfl (X.q rfl ?_)
    iterate 2 refine X.opR (X.on_f rfl rfl rfl h_7) rfl rfl ?_
    refine X.call (ok_tide_level x.Add) (X.on_f rfl rfl rfl h_7) rfl rfl (.cons (.shut (n := 9) rfl) .nil) ?_
    refine X.opR (X.on_f rfl rfl rfl h_7) rfl rfl ?_
    refine X.opR rfl (X.pickor_f (y := !(tide_level x.Add)) rfl h_7 rfl) rfl (GS.opsNil ?_)
    exact X.norm _ hg rfl (sr rfl)
   refine X.cond rfl (fun h_8 => ?_) (fun h_8 => ?_)
   ·replace hM := ite_t h_8 hM
    refine X.sq (X.q rfl (GS.opsNil ?_))
    have hE := Option.some.inj hM
    replace hE := hr_1 _ hE.symm
    subst hE
    exact GS.ret ⟨_, rfl, ⟨30, rfl⟩⟩
   replace hM := ite_f h_8 hM
   refine GS.skip (GS.region (X.q rfl (X.q rfl (X.q rfl ?_))))
   refine GS.opsNil ?_
   refine GS.endB (GS.region ?_)
   refine X.opR rfl (X.addE rfl rfl) rfl (X.q rfl (GS.opsNil ?_))
   have hE := Option.some.inj hM
   exact X.gc [] (hc_3 (x.To, w64 (x1 + 1)) hE.symm) rfl rfl rfl (ga rfl rfl) (gb_nil)
  replace hM := ite_f h_4 hM
  refine GS.exit rfl ?_
  obtain ⟨y_1, hM, hy⟩ := map_of hM
  rw [hr_1 _ hy.symm] at hM
  exact X.gc [] (hj_2 () hM) rfl rfl rfl (gk_nil) (gb_nil)
 intro hj_1
 refine GS.block ?_
 refine X.gc [some 0] (X.loop (σ := Int) (fun v => ⟨[(1, (V.ptr 0 0 0)), (25, (V.sl (List.map e_api_Cycle w.Cycles))), (26, (V.i (w.Cycles.length : Int))), (27, (V.i v))], [.rows 3 [(e_api_Water w)]], 0, none, 71⟩) hM ?_ rfl) rfl rfl rfl (ga rfl rfl) (gb9 rfl rfl rfl gb_nil)
 intro x3 b_1 hM hc_4 hr_1
 rw [tide_Check_b4] at hM
 refine X.sq (X.q rfl (GS.opsNil (GS.seq ?_)))
 refine X.cond rfl (fun h_9 => ?_) (fun h_9 => ?_)
 ·replace hM := ite_t h_9 hM
  refine GS.skip (GS.seq (GS.block (GS.seq ?_)))
  obtain ⟨x2, h_10, hM⟩ := bind_of hM
  refine GS.region (X.q rfl ?_)
  refine X.opR rfl (X.indexF (f := e_api_Cycle) h_10 (fun _ => rfl) rfl rfl rfl rfl) rfl ?_
  refine X.opR rfl (X.loadF h_10 rfl rfl rfl) rfl ?_
  refine X.opW rfl rfl rfl rfl (X.q rfl ?_)
  refine X.op0W rfl rfl rfl (GS.opsNil ?_)
  iterate 2 refine GS.seq ?_
  obtain ⟨y, h_11, hM⟩ := bind_of hM
  refine GS.region (X.q rfl ?_)
  refine X.call (ok_tide_right h_11) rfl rfl rfl (.cons (.shut (n := 9) rfl) .nil) (X.q rfl (GS.opsNil ?_))
  refine X.cond rfl (fun h_12 => ?_) (fun h_12 => ?_)
  ·replace hM := ite_t h_12 hM
   refine X.sq (X.q rfl (GS.opsNil ?_))
   have hE := Option.some.inj hM
   replace hE := hr_1 _ hE.symm
   subst hE
   exact GS.ret ⟨_, rfl, ⟨30, rfl⟩⟩
  replace hM := ite_f h_12 hM
  refine GS.skip (GS.seq ?_)
  obtain ⟨l, h_13, hM⟩ := bind_of hM
  obtain ⟨y1, h_14, hM⟩ := bind_of hM
  refine GS.region (X.q rfl (X.q rfl (X.q rfl ?_)))
  refine X.opR rfl (X.sliceF (f := e_api_Cycle) h_13 (fun _ => rfl) rfl rfl rfl rfl rfl rfl (X.boundA_int rfl)) rfl (X.q rfl ?_)
  refine X.callF (ok_slices_ContainsFunc_api_Cycle__tide_Check_1 h_14) rfl rfl rfl (m := 9) rfl (.cons (.shut (n := 9) rfl) (.cons (FR.arg ⟨30, rfl⟩) .nil)) (GS.opsNil ?_)
  refine X.cond rfl (fun h_15 => ?_) (fun h_15 => ?_)
  ·replace hM := ite_t h_15 hM
   refine X.sq (X.q rfl (GS.opsNil ?_))
   have hE := Option.some.inj hM
   replace hE := hr_1 _ hE.symm
   subst hE
   exact GS.ret ⟨_, rfl, ⟨30, rfl⟩⟩
  replace hM := ite_f h_15 hM
  refine GS.skip ?_
  refine GS.endB (GS.region ?_)
  refine X.opR rfl (X.addE rfl rfl) rfl (X.q rfl (GS.opsNil ?_))
  have hE := Option.some.inj hM
  exact X.gc [some 0] (hc_4 (w64 (x3 + 1)) hE.symm) rfl rfl rfl (ga rfl rfl) (gb9 rfl rfl rfl gb_nil)
 replace hM := ite_f h_9 hM
 refine GS.exit rfl ?_
 obtain ⟨y_1, hM, hy⟩ := map_of hM
 rw [hr_1 _ hy.symm] at hM
 exact X.gc [some 0] (hj_1 () hM) rfl rfl rfl (ga rfl rfl) (gb9 rfl rfl rfl gb_nil)
theorem ok_berth_within (n : Int) (lo : Int) (hi : Int) : Ct Tryz.prog 46 [(V.i n), (V.i lo), (V.i hi)] (V.b (berth_within n lo hi)) := by
 refine ct_of_gs CC_ok rfl ?_
 generalize hM : berth_within n lo hi = r
 unfold berth_within at hM
 refine X.sq (X.q rfl (X.nq ?_))
 refine X.mid [(6, (V.b ((decide (lo ≤ n)) && (decide (n ≤ hi)))))] ?_ ?_
 ·intro hg
  refine X.split (decide (lo ≤ n)) (fun h_1 => ?_) (fun h_1 => ?_)
  ·iterate 4 refine X.q rfl ?_
   iterate 3 refine X.opR (X.on_t rfl rfl rfl h_1) rfl rfl ?_
   refine X.opR rfl (X.pickand_t (y := decide (n ≤ hi)) rfl h_1 rfl) rfl (X.q rfl (GS.opsNil ?_))
   exact X.norm _ hg rfl (sr rfl)
  iterate 4 refine X.q rfl ?_
  iterate 3 refine X.off (X.off_t rfl rfl rfl h_1) rfl ?_
  refine X.opR rfl (X.pickand_f (y := decide (n ≤ hi)) rfl h_1 rfl) rfl (X.q rfl (GS.opsNil ?_))
  exact X.norm _ hg rfl (sr rfl)
 subst hM
 exact GS.ret ⟨_, rfl, ⟨30, rfl⟩⟩
theorem ok_berth_berthID (b : api_Berth) : Ct Tryz.prog 41 [(e_api_Berth b)] (V.i (berth_berthID b)) := by
 refine ct_of_gs CC_ok rfl ?_
 generalize hM : berth_berthID b = r
 unfold berth_berthID at hM
 refine X.sq ?_
 refine X.opW rfl rfl rfl rfl (X.q rfl (X.nq (X.q rfl (X.q rfl (X.q rfl ?_)))))
 refine GS.opsNil ?_
 subst hM
 exact GS.ret ⟨_, rfl, ⟨30, rfl⟩⟩
theorem ok_berth_first_api_Berth_1__berth_berthID (x : api_Berth) (c : Int) : Ct Tryz.prog 82 [(e_api_Berth x), (V.fptr [(V.fn 41 [])] 0 0), (V.fptr [(V.i c)] 0 0)] (V.b (berth_first_api_Berth_1__berth_berthID x c)) := by
 refine ct_of_gs CC_ok rfl ?_
 generalize hM : berth_first_api_Berth_1__berth_berthID x c = r
 unfold berth_first_api_Berth_1__berth_berthID at hM
 refine X.sq ?_
 refine X.opW rfl rfl rfl rfl (X.q rfl (GS.opsNil (GS.seq ?_)))
 refine X.drawc (by kernel_rfl) rfl ?_
 iterate 2 refine X.cop rfl rfl rfl rfl ?_
 refine X.ccall (ok_berth_berthID x) rfl rfl rfl rfl (.cons (.shut (n := 9) rfl) .nil) ?_
 iterate 3 refine X.cop rfl rfl rfl rfl ?_
 refine X.cnil ?_
 refine X.norm [(4, (V.b (decide ((berth_berthID x) = c))))] ?_ rfl (sr rfl)
 subst hM
 exact GS.ret ⟨_, rfl, ⟨30, rfl⟩⟩
theorem ok_slices_IndexFunc_api_Berth__berth_first_api_Berth_1__berth_berthID {s : (List api_Berth)} {c : Int} {r : Int} (hM : slices_IndexFunc_api_Berth__berth_first_api_Berth_1__berth_berthID s c = some r) : Ct Tryz.prog 81 [(V.sl (List.map e_api_Berth s)), (V.fn 82 [(V.fptr [(V.fn 41 [])] 0 0), (V.fptr [(V.i c)] 0 0)])] (V.i r) := by
 refine ct_of_gs CC_ok rfl ?_
 unfold slices_IndexFunc_api_Berth__berth_first_api_Berth_1__berth_berthID at hM
 refine X.sq (X.q rfl (GS.opsNil (GS.seq (X.sq (X.q rfl ?_)))))
 refine X.opR rfl (X.lenF rfl rfl rfl) rfl (X.q rfl (GS.opsNil ?_))
 refine X.join (τ := Unit) (fun v => slices_IndexFunc_api_Berth__berth_first_api_Berth_1__berth_berthID_j1 = some r) (fun v => ⟨[], [], 0, none, 19⟩) ?_ ?_
 ·intro _ hM
  replace hM : slices_IndexFunc_api_Berth__berth_first_api_Berth_1__berth_berthID_j1 = some r := hM
  unfold slices_IndexFunc_api_Berth__berth_first_api_Berth_1__berth_berthID_j1 at hM
  refine X.sq (X.q rfl (GS.opsNil ?_))
  cases hM
  exact GS.ret ⟨_, rfl, ⟨30, rfl⟩⟩
 intro hj_1
 refine GS.block ?_
 refine X.gc [] (X.loop (σ := Int) (fun v => ⟨[(0, (V.sl (List.map e_api_Berth s))), (1, (V.fn 82 [(V.fptr [(V.fn 41 [])] 0 0), (V.fptr [(V.i c)] 0 0)])), (7, (V.i (s.length : Int))), (8, (V.i v))], [], 0, none, 19⟩) hM ?_ rfl) rfl rfl rfl (ga rfl rfl) (gb_nil)
 intro x1 b_1 hM hc_2 hr_1
 rw [slices_IndexFunc_api_Berth__berth_first_api_Berth_1__berth_berthID_b2] at hM
 refine X.sq (X.q rfl (GS.opsNil (GS.seq ?_)))
 refine X.cond rfl (fun h_1 => ?_) (fun h_1 => ?_)
 ·replace hM := ite_t h_1 hM
  refine GS.skip (GS.seq (GS.block (X.sq (X.q rfl (X.q rfl ?_)))))
  refine GS.opsNil (GS.seq ?_)
  obtain ⟨x, h_2, hM⟩ := bind_of hM
  refine GS.region (X.q rfl (X.q rfl (X.q rfl ?_)))
  refine X.opR rfl (X.indexF (f := e_api_Berth) h_2 (fun _ => rfl) rfl rfl rfl rfl) rfl ?_
  refine X.opR rfl (X.loadF h_2 rfl rfl rfl) rfl ?_
  refine X.call (ok_berth_first_api_Berth_1__berth_berthID x c) rfl rfl rfl (.cons (.shut (n := 9) rfl) (.cons (.shut (n := 9) rfl) (.cons (.shut (n := 9) rfl) .nil))) (GS.opsNil ?_)
  refine X.cond rfl (fun h_3 => ?_) (fun h_3 => ?_)
  ·replace hM := ite_t h_3 hM
   refine X.sq (X.q rfl (X.q rfl ?_))
   refine GS.opsNil ?_
   have hE := Option.some.inj hM
   replace hE := hr_1 _ hE.symm
   subst hE
   exact GS.ret ⟨_, rfl, ⟨30, rfl⟩⟩
  replace hM := ite_f h_3 hM
  refine GS.skip ?_
  refine GS.endB (GS.region ?_)
  refine X.opR rfl (X.addE rfl rfl) rfl (X.q rfl (GS.opsNil ?_))
  have hE := Option.some.inj hM
  exact X.gc [] (hc_2 (w64 (x1 + 1)) hE.symm) rfl rfl rfl (ga rfl rfl) (gb_nil)
 replace hM := ite_f h_1 hM
 refine GS.exit rfl ?_
 obtain ⟨y_1, hM, hy⟩ := map_of hM
 rw [hr_1 _ hy.symm] at hM
 exact X.gc [] (hj_1 () hM) rfl rfl rfl (gk_nil) (gb_nil)
theorem ok_berth_first_api_Berth__berth_berthID {l : (List api_Berth)} {id : Int} {r : Int} (hM : berth_first_api_Berth__berth_berthID l id = some r) : Ct Tryz.prog 40 [(V.sl (List.map e_api_Berth l)), (V.i id), (V.fn 41 [])] (V.i r) := by
 refine ct_of_gs CC_ok rfl ?_
 unfold berth_first_api_Berth__berth_berthID at hM
 refine X.sq ?_
 iterate 2 refine X.opW rfl rfl rfl rfl ?_
 refine X.q rfl (GS.opsNil (GS.seq ?_))
 obtain ⟨y, h_1, hM⟩ := bind_of hM
 refine GS.region (X.q rfl (X.q rfl ?_))
 refine X.callF (ok_slices_IndexFunc_api_Berth__berth_first_api_Berth_1__berth_berthID h_1) rfl rfl rfl (m := 9) rfl (.cons (.shut (n := 9) rfl) (.cons (FR.arg ⟨30, rfl⟩) .nil)) (X.q rfl (GS.opsNil ?_))
 cases hM
 exact GS.ret ⟨_, rfl, ⟨30, rfl⟩⟩
theorem ok_berth_timed (s : api_Span) : Ct Tryz.prog 47 [(e_api_Span s)] (V.b (berth_timed s)) := by
 refine ct_of_gs CC_ok rfl ?_
 generalize hM : berth_timed s = r
 unfold berth_timed at hM
 refine X.sq ?_
 refine X.opW rfl rfl rfl rfl (X.q rfl (X.nq ?_))
 refine X.mid [(2, (V.b ((((decide (0 ≤ s.Lo)) && (decide (s.Lo ≤ s.Hi))) && (decide (s.Hi ≤ 1048576))) && (decide ((w64 (s.Hi - s.Lo)) < 1440)))))] ?_ ?_
 ·intro hg
  refine X.split (decide (0 ≤ s.Lo)) (fun h_1 => ?_) (fun h_1 => ?_)
  ·refine X.split (((decide (0 ≤ s.Lo)) && (decide (s.Lo ≤ s.Hi)))) (fun h_2 => ?_) (fun h_2 => ?_)
   ·refine X.split ((((decide (0 ≤ s.Lo)) && (decide (s.Lo ≤ s.Hi))) && (decide (s.Hi ≤ 1048576)))) (fun h_3 => ?_) (fun h_3 => ?_)
    ·iterate 4 refine X.q rfl ?_
     iterate 5 refine X.opR (X.on_t rfl rfl rfl h_1) rfl rfl ?_
     refine X.opR rfl (X.pickand_t (y := decide (s.Lo ≤ s.Hi)) rfl h_1 rfl) rfl (X.q rfl ?_)
     iterate 3 refine X.opR (X.on_t rfl rfl rfl h_2) rfl rfl ?_
     refine X.opR rfl (X.pickand_t (y := decide (s.Hi ≤ 1048576)) rfl h_2 rfl) rfl (X.q rfl ?_)
     iterate 4 refine X.opR (X.on_t rfl rfl rfl h_3) rfl rfl ?_
     refine X.opR (X.on_t rfl rfl rfl h_3) (X.subE rfl rfl) rfl ?_
     refine X.opR (X.on_t rfl rfl rfl h_3) rfl rfl ?_
     refine X.opR rfl (X.pickand_t (y := decide ((w64 (s.Hi - s.Lo)) < 1440)) rfl h_3 rfl) rfl (X.q rfl (GS.opsNil ?_))
     exact X.norm _ hg rfl (sr rfl)
    iterate 4 refine X.q rfl ?_
    iterate 5 refine X.opR (X.on_t rfl rfl rfl h_1) rfl rfl ?_
    refine X.opR rfl (X.pickand_t (y := decide (s.Lo ≤ s.Hi)) rfl h_1 rfl) rfl (X.q rfl ?_)
    iterate 3 refine X.opR (X.on_t rfl rfl rfl h_2) rfl rfl ?_
    refine X.opR rfl (X.pickand_t (y := decide (s.Hi ≤ 1048576)) rfl h_2 rfl) rfl (X.q rfl ?_)
    iterate 6 refine X.off (X.off_t rfl rfl rfl h_3) rfl ?_
    refine X.opR rfl (X.pickand_f (y := decide ((w64 (s.Hi - s.Lo)) < 1440)) rfl h_3 rfl) rfl (X.q rfl (GS.opsNil ?_))
    exact X.norm _ hg rfl (sr rfl)
   iterate 4 refine X.q rfl ?_
   iterate 5 refine X.opR (X.on_t rfl rfl rfl h_1) rfl rfl ?_
   refine X.opR rfl (X.pickand_t (y := decide (s.Lo ≤ s.Hi)) rfl h_1 rfl) rfl (X.q rfl ?_)
   iterate 3 refine X.off (X.off_t rfl rfl rfl h_2) rfl ?_
   refine X.opR rfl (X.pickand_f (y := decide (s.Hi ≤ 1048576)) rfl h_2 rfl) rfl (X.q rfl ?_)
   iterate 6 refine X.off (X.off_t rfl rfl rfl (X.and_ff h_2)) rfl ?_
   refine X.opR rfl (X.pickand_f (y := decide ((w64 (s.Hi - s.Lo)) < 1440)) rfl (X.and_ff h_2) rfl) rfl (X.q rfl (GS.opsNil ?_))
   exact X.norm _ hg rfl (sr rfl)
  iterate 4 refine X.q rfl ?_
  iterate 5 refine X.off (X.off_t rfl rfl rfl h_1) rfl ?_
  refine X.opR rfl (X.pickand_f (y := decide (s.Lo ≤ s.Hi)) rfl h_1 rfl) rfl (X.q rfl ?_)
  iterate 3 refine X.off (X.off_t rfl rfl rfl (X.and_ff h_1)) rfl ?_
  refine X.opR rfl (X.pickand_f (y := decide (s.Hi ≤ 1048576)) rfl (X.and_ff h_1) rfl) rfl (X.q rfl ?_)
  iterate 6 refine X.off (X.off_t rfl rfl rfl (X.and_ff (X.and_ff h_1))) rfl ?_
  refine X.opR rfl (X.pickand_f (y := decide ((w64 (s.Hi - s.Lo)) < 1440)) rfl (X.and_ff (X.and_ff h_1)) rfl) rfl (X.q rfl (GS.opsNil ?_))
  exact X.norm _ hg rfl (sr rfl)
 subst hM
 exact GS.ret ⟨_, rfl, ⟨30, rfl⟩⟩
set_option maxHeartbeats 4000000 in
theorem ok_berth_Check {h : api_Harbour} {r : Int} (hM : berth_Check h = some r) : Ct Tryz.prog 13 [(e_api_Harbour h)] (V.i r) := by
 refine ct_of_gs CC_ok rfl ?_
 unfold berth_Check at hM
 refine X.sq ?_
 refine X.opW rfl rfl rfl rfl (X.q rfl (GS.opsNil ?_))
 iterate 2 refine GS.seq ?_
 obtain ⟨y, h_1, hM⟩ := bind_of hM
 refine GS.region (X.q rfl (X.q rfl ?_))
 refine X.call (ok_tide_Check h_1) rfl rfl rfl (.cons (.shut (n := 9) rfl) .nil) (X.q rfl (X.nq (X.q rfl (X.q rfl ?_))))
 refine GS.opsNil ?_
 refine X.cond rfl (fun h_2 => ?_) (fun h_2 => ?_)
 ·replace hM := ite_t h_2 hM
  refine X.sq (X.q rfl (X.q rfl ?_))
  refine GS.opsNil ?_
  cases hM
  exact GS.ret ⟨_, rfl, ⟨30, rfl⟩⟩
 replace hM := ite_f h_2 hM
 refine GS.skip (GS.seq (X.sq ?_))
 refine X.mid [(1, (V.ptr 0 0 0)), (24, (V.b ((decide (6 < (h.Berths.length : Int))) || (decide (12 < (h.Tides.length : Int))))))] ?_ ?_
 ·intro hg
  refine X.split (decide (6 < (h.Berths.length : Int))) (fun h_3 => ?_) (fun h_3 => ?_)
  ·iterate 2 refine X.q rfl ?_
   refine X.opR rfl (X.lenF rfl rfl rfl) rfl (X.q rfl (X.q rfl ?_))
   iterate 4 refine X.off (X.off_f rfl rfl rfl h_3) rfl ?_
   refine X.opR rfl (X.pickor_t (y := decide (12 < (h.Tides.length : Int))) rfl h_3 rfl) rfl (GS.opsNil ?_)
   exact X.norm _ hg rfl (sr rfl)
  refine X.q rfl (X.q rfl ?_)
  refine X.opR rfl (X.lenF rfl rfl rfl) rfl (X.q rfl (X.q rfl ?_))
  iterate 2 refine X.opR (X.on_f rfl rfl rfl h_3) rfl rfl ?_
  refine X.opR (X.on_f rfl rfl rfl h_3) (X.lenF rfl rfl rfl) rfl ?_
  refine X.opR (X.on_f rfl rfl rfl h_3) rfl rfl ?_
  refine X.opR rfl (X.pickor_f (y := decide (12 < (h.Tides.length : Int))) rfl h_3 rfl) rfl (GS.opsNil ?_)
  exact X.norm _ hg rfl (sr rfl)
 refine X.cond rfl (fun h_4 => ?_) (fun h_4 => ?_)
 ·replace hM := ite_t h_4 hM
  refine X.sq (X.q rfl (GS.opsNil ?_))
  cases hM
  exact GS.ret ⟨_, rfl, ⟨30, rfl⟩⟩
 replace hM := ite_f h_4 hM
 refine GS.skip (GS.seq (X.sq (X.q rfl (X.q rfl ?_))))
 refine X.opR rfl (X.lenF rfl rfl rfl) rfl (X.q rfl (GS.opsNil ?_))
 refine X.join (τ := Unit) (fun v => berth_Check_j1 h = some r) (fun v => ⟨[(1, (V.ptr 0 0 0))], [.rows 6 [(e_api_Harbour h)]], 0, none, 74⟩) ?_ ?_
 ·intro _ hM
  replace hM : berth_Check_j1 h = some r := hM
  unfold berth_Check_j1 at hM
  refine X.sq (X.q rfl (GS.opsNil (GS.seq (X.sq (X.q rfl (X.q rfl ?_))))))
  refine X.opR rfl (X.lenF rfl rfl rfl) rfl (X.q rfl (GS.opsNil ?_))
  refine X.join (τ := Unit) (fun v => berth_Check_j2 h = some r) (fun v => ⟨[(1, (V.ptr 0 0 0))], [.rows 6 [(e_api_Harbour h)]], 0, none, 74⟩) ?_ ?_
  ·intro _ hM
   replace hM : berth_Check_j2 h = some r := hM
   unfold berth_Check_j2 at hM
   refine GS.seq (X.sq (X.q rfl (X.q rfl ?_)))
   refine X.call (ok_berth_within h.Keel 0 8000) rfl rfl rfl (.cons (.shut (n := 9) rfl) (.cons (.shut (n := 9) rfl) (.cons (.shut (n := 9) rfl) .nil))) (X.q rfl (GS.opsNil ?_))
   refine X.cond rfl (fun h_5 => ?_) (fun h_5 => ?_)
   ·replace hM := ite_t h_5 hM
    refine X.sq (X.q rfl (GS.opsNil ?_))
    cases hM
    exact GS.ret ⟨_, rfl, ⟨30, rfl⟩⟩
   replace hM := ite_f h_5 hM
   refine GS.skip (X.sq (X.q rfl (GS.opsNil ?_)))
   cases hM
   exact GS.ret ⟨_, rfl, ⟨30, rfl⟩⟩
  intro hj_2
  refine GS.block ?_
  refine X.gc [some 0] (X.loop (σ := (Int × Int)) (fun v => ⟨[(1, (V.ptr 0 0 0)), (6, (V.i v.1)), (52, (V.sl (List.map e_api_Span h.Tides))), (53, (V.i (h.Tides.length : Int))), (54, (V.i v.2))], [.rows 6 [(e_api_Harbour h)]], 0, none, 74⟩) hM ?_ rfl) rfl rfl rfl (ga rfl rfl) (gb9 rfl rfl rfl gb_nil)
  rintro ⟨last, x1⟩ b_1 hM hc_3 hr_1
  rw [berth_Check_b3] at hM
  refine X.sq (X.q rfl (GS.opsNil (GS.seq ?_)))
  refine X.cond rfl (fun h_6 => ?_) (fun h_6 => ?_)
  ·replace hM := ite_t h_6 hM
   refine GS.skip (GS.seq (GS.block (GS.seq ?_)))
   obtain ⟨x, h_7, hM⟩ := bind_of hM
   refine GS.region ?_
   refine X.opR rfl (X.indexF (f := e_api_Span) h_7 (fun _ => rfl) rfl rfl rfl rfl) rfl ?_
   refine X.opR rfl (X.loadF h_7 rfl rfl rfl) rfl ?_
   refine X.opW rfl rfl rfl rfl ?_
   refine X.op0W rfl rfl rfl (GS.opsNil (GS.seq (X.sq ?_)))
   refine X.mid [(1, (V.ptr 0 0 0)), (8, (V.ptr 1 0 0)), (52, (V.sl (List.map e_api_Span h.Tides))), (53, (V.i (h.Tides.length : Int))), (54, (V.i x1)), (66, (V.b ((!(berth_timed x)) || (decide (x.Lo ≤ last)))))] ?_ ?_
   ·intro hg
    refine X.split (!(berth_timed x)) (fun h_8 => ?_) (fun h_8 => ?_)
    ·refine X.q rfl ?_
     refine X.call (ok_berth_timed x) rfl rfl rfl (.cons (.shut (n := 9) rfl) .nil) (X.q rfl (X.q rfl ?_))
     iterate 4 refine X.off (X.off_f rfl rfl rfl h_8) rfl ?_
     refine X.opR rfl (X.pickor_t (y := decide (x.Lo ≤ last)) rfl h_8 rfl) rfl (GS.opsNil ?_)
     exact X.norm _ hg rfl (sr rfl)
    refine X.q rfl ?_
    refine X.call (ok_berth_timed x) rfl rfl rfl (.cons (.shut (n := 9) rfl) .nil) (X.q rfl (X.q rfl ?_))
    iterate 4 refine X.opR (X.on_f rfl rfl rfl h_8) rfl rfl ?_
    refine X.opR rfl (X.pickor_f (y := decide (x.Lo ≤ last)) rfl h_8 rfl) rfl (GS.opsNil ?_)
    exact X.norm _ hg rfl (sr rfl)
   refine X.cond rfl (fun h_9 => ?_) (fun h_9 => ?_)
   ·replace hM := ite_t h_9 hM
    refine X.sq (X.q rfl (GS.opsNil ?_))
    have hE := Option.some.inj hM
    replace hE := hr_1 _ hE.symm
    subst hE
    exact GS.ret ⟨_, rfl, ⟨30, rfl⟩⟩
   replace hM := ite_f h_9 hM
   refine GS.skip (GS.region (X.q rfl (X.q rfl (X.q rfl ?_))))
   refine GS.opsNil ?_
   refine GS.endB (GS.region ?_)
   refine X.opR rfl (X.addE rfl rfl) rfl (X.q rfl (GS.opsNil ?_))
   have hE := Option.some.inj hM
   exact X.gc [some 0] (hc_3 (x.Hi, w64 (x1 + 1)) hE.symm) rfl rfl rfl (ga rfl rfl) (gb9 rfl rfl rfl gb_nil)
  replace hM := ite_f h_6 hM
  refine GS.exit rfl ?_
  obtain ⟨y_1, hM, hy⟩ := map_of hM
  rw [hr_1 _ hy.symm] at hM
  exact X.gc [some 0] (hj_2 () hM) rfl rfl rfl (ga rfl rfl) (gb9 rfl rfl rfl gb_nil)
 intro hj_1
 refine GS.block ?_
 refine X.gc [some 0] (X.loop (σ := Int) (fun v => ⟨[(1, (V.ptr 0 0 0)), (26, (V.sl (List.map e_api_Berth h.Berths))), (27, (V.i (h.Berths.length : Int))), (28, (V.i v))], [.rows 6 [(e_api_Harbour h)]], 0, none, 74⟩) hM ?_ rfl) rfl rfl rfl (ga rfl rfl) (gb9 rfl rfl rfl gb_nil)
 intro x3 b_1 hM hc_4 hr_1
 rw [berth_Check_b4] at hM
 refine X.sq (X.q rfl (GS.opsNil (GS.seq ?_)))
 refine X.cond rfl (fun h_10 => ?_) (fun h_10 => ?_)
 ·replace hM := ite_t h_10 hM
  refine GS.skip (GS.seq (GS.block (GS.seq ?_)))
  obtain ⟨x2, h_11, hM⟩ := bind_of hM
  refine GS.region (X.q rfl ?_)
  refine X.opR rfl (X.indexF (f := e_api_Berth) h_11 (fun _ => rfl) rfl rfl rfl rfl) rfl ?_
  refine X.opR rfl (X.loadF h_11 rfl rfl rfl) rfl ?_
  refine X.opW rfl rfl rfl rfl (X.q rfl ?_)
  refine X.op0W rfl rfl rfl (GS.opsNil (GS.seq (X.sq ?_)))
  refine X.mid [(1, (V.ptr 0 0 0)), (4, (V.i x3)), (5, (V.ptr 1 0 0)), (26, (V.sl (List.map e_api_Berth h.Berths))), (27, (V.i (h.Berths.length : Int))), (28, (V.i x3)), (42, (V.b ((!(berth_within x2.ID 1 1099511627776)) || (!(berth_within x2.Depth 0 8000)))))] ?_ ?_
  ·intro hg
   refine X.split (!(berth_within x2.ID 1 1099511627776)) (fun h_12 => ?_) (fun h_12 => ?_)
   ·iterate 2 refine X.q rfl ?_
    refine X.call (ok_berth_within x2.ID 1 1099511627776) rfl rfl rfl (.cons (.shut (n := 9) rfl) (.cons (.shut (n := 9) rfl) (.cons (.shut (n := 9) rfl) .nil))) (X.q rfl (X.q rfl ?_))
    iterate 4 refine X.off (X.off_f rfl rfl rfl h_12) rfl ?_
    refine X.opR rfl (X.pickor_t (y := !(berth_within x2.Depth 0 8000)) rfl h_12 rfl) rfl (GS.opsNil ?_)
    exact X.norm _ hg rfl (sr rfl)
   refine X.q rfl (X.q rfl ?_)
   refine X.call (ok_berth_within x2.ID 1 1099511627776) rfl rfl rfl (.cons (.shut (n := 9) rfl) (.cons (.shut (n := 9) rfl) (.cons (.shut (n := 9) rfl) .nil))) (X.q rfl (X.q rfl ?_))
   iterate 2 refine X.opR (X.on_f rfl rfl rfl h_12) rfl rfl ?_
   refine X.call (ok_berth_within x2.Depth 0 8000) (X.on_f rfl rfl rfl h_12) rfl rfl (.cons (.shut (n := 9) rfl) (.cons (.shut (n := 9) rfl) (.cons (.shut (n := 9) rfl) .nil))) ?_
   refine X.opR (X.on_f rfl rfl rfl h_12) rfl rfl ?_
   refine X.opR rfl (X.pickor_f (y := !(berth_within x2.Depth 0 8000)) rfl h_12 rfl) rfl (GS.opsNil ?_)
   exact X.norm _ hg rfl (sr rfl)
  refine X.cond rfl (fun h_13 => ?_) (fun h_13 => ?_)
  ·replace hM := ite_t h_13 hM
   refine X.sq (X.q rfl (GS.opsNil ?_))
   have hE := Option.some.inj hM
   replace hE := hr_1 _ hE.symm
   subst hE
   exact GS.ret ⟨_, rfl, ⟨30, rfl⟩⟩
  replace hM := ite_f h_13 hM
  refine GS.skip (GS.seq ?_)
  obtain ⟨y1, h_14, hM⟩ := bind_of hM
  refine GS.region ?_
  iterate 4 refine X.q rfl ?_
  refine X.call (ok_berth_first_api_Berth__berth_berthID h_14) rfl rfl rfl (.cons (.shut (n := 9) rfl) (.cons (.shut (n := 9) rfl) (.cons (.shut (n := 9) rfl) .nil))) (X.q rfl (X.q rfl ?_))
  refine GS.opsNil ?_
  refine X.cond rfl (fun h_15 => ?_) (fun h_15 => ?_)
  ·replace hM := ite_t h_15 hM
   refine X.sq (X.q rfl (GS.opsNil ?_))
   have hE := Option.some.inj hM
   replace hE := hr_1 _ hE.symm
   subst hE
   exact GS.ret ⟨_, rfl, ⟨30, rfl⟩⟩
  replace hM := ite_f h_15 hM
  refine GS.skip ?_
  refine GS.endB (GS.region ?_)
  refine X.opR rfl (X.addE rfl rfl) rfl (X.q rfl (GS.opsNil ?_))
  have hE := Option.some.inj hM
  exact X.gc [some 0] (hc_4 (w64 (x3 + 1)) hE.symm) rfl rfl rfl (ga rfl rfl) (gb9 rfl rfl rfl gb_nil)
 replace hM := ite_f h_10 hM
 refine GS.exit rfl ?_
 obtain ⟨y_1, hM, hy⟩ := map_of hM
 rw [hr_1 _ hy.symm] at hM
 exact X.gc [some 0] (hj_1 () hM) rfl rfl rfl (ga rfl rfl) (gb9 rfl rfl rfl gb_nil)
def partKeys (n : Nat) : List V := V.i (-1) :: (List.range n).map fun i => V.i (i : Nat)
def e_parts (w : api_Water) : V := .fmap (partKeys w.Cycles.length) (.fn 135 [.fptr [e_api_Water w] 0 0] :: w.Cycles.map fun c => .fn 137 [.fptr [e_api_Cycle c] 0 0])
theorem findA_range : ∀ (n a : Nat) (i : Int) (k : Nat), a ≤ i → i < a + n → findA (.i i) ((List.range' a n).map fun i => V.i (i : Nat)) k = some (some (k + (i.toNat - a)))
 | 0, a, i, k, h1, h2 => by omega
 | n + 1, a, i, k, h1, h2 => by
  simp only [List.range'_succ, List.map_cons, findA, keyEq, kindEq, if_true]
  by_cases h : i = a
  ·subst h; simp
  ·have ih := findA_range n (a + 1) i (k + 1) (by omega) (by omega)
   simp only [h, decide_false, ih]
   congr 2
   omega
theorem findA_none : ∀ (n a : Nat) (i : Int) (k : Nat), (i < a ∨ a + n ≤ i) → findA (.i i) ((List.range' a n).map fun i => V.i (i : Nat)) k = some none
 | 0, a, i, k, h => by simp [findA]
 | n + 1, a, i, k, h => by
  simp only [List.range'_succ, List.map_cons, findA, keyEq, kindEq, if_true]
  have h1 : ¬ i = a := by omega
  simp only [h1, decide_false]
  exact findA_none n (a + 1) i (k + 1) (by omega)
theorem look_parts_m {K : List (Nat × V)} {H : List Blk} {lo nid : Nat} {xo ko : Operand} {w : api_Water} {i : Int} (h : decide (i = -1) = true) (hx : kev K xo = some (e_parts w)) (hk : kev K ko = some (.i i)) : opEff CC K H lo nid (.lookup 183 xo ko false) = some ⟨.fn 135 [.fptr [e_api_Water w] 0 0], [], []⟩ := by
 have h1 : i = -1 := by simpa using h
 subst h1
 simp only [opEff, effLookup, hx, hk]
 rfl
theorem look_parts_i {K : List (Nat × V)} {H : List Blk} {lo nid : Nat} {xo ko : Operand} {w : api_Water} {i : Int} {c : api_Cycle} (h : ix w.Cycles i = some c) (hx : kev K xo = some (e_parts w)) (hk : kev K ko = some (.i i)) : opEff CC K H lo nid (.lookup 183 xo ko false) = some ⟨.fn 137 [.fptr [e_api_Cycle c] 0 0], [], []⟩ := by
 obtain ⟨h0, h1, h2⟩ := ix_of h
 have hf := findA_range w.Cycles.length 0 i 1 (by omega) (by omega)
 have hne : ¬ i = -1 := by omega
 simp only [opEff, effLookup, hx, hk]
 unfold lookA e_parts
 have hm : mapTI CC 183 = some (.int .i64, t147) := rfl
 simp only [hm, keyOK, kindEq, cond_true, lookIn, partKeys, findA, keyEq, if_true, hne, decide_false]
 rw [List.range_eq_range', hf]
 simp only [Nat.sub_zero]
 rw [show 1 + i.toNat = i.toNat + 1 by omega]
 simp only [Am.get]
 rw [get_eq, List.getElem?_map, h2]
 rfl
theorem partKeys_eq (n : Nat) : partKeys n = (((-1 : Int) :: (List.range n).map fun (i : Nat) => (i : Int))).map V.i := by simp [partKeys]
theorem partKeys_succ (n : Nat) : partKeys (n + 1) = partKeys n ++ [V.i (n : Nat)] := by simp [partKeys, List.range_succ]
def partOwn (n : Nat) : List V := .fn 135 [.ptr 0 0 0] :: (List.range n).map fun i => .fn 137 [.ptr (i + 2) 0 0]
theorem partOwn_succ (n : Nat) : partOwn (n + 1) = partOwn n ++ [.fn 137 [.ptr (n + 2) 0 0]] := by simp [partOwn, List.range_succ]
def partRows (w : api_Water) (i : Nat) : List Blk := (w.Cycles.take i).map fun c => .rows 4 [e_api_Cycle c]
def partH (w : api_Water) (i : Nat) : List Blk := .rows 3 [e_api_Water w] :: .map (partKeys i) (partOwn i) :: partRows w i
theorem partH_len (w : api_Water) (i : Nat) (h : i ≤ w.Cycles.length) : (partH w i).length = i + 2 := by simp [partH, partRows]; omega
theorem partH_succ (w : api_Water) (i : Nat) (c : api_Cycle) (h : w.Cycles[i]? = some c) : hput (partH w i ++ [.rows 4 [e_api_Cycle c]]) 1 (.map (partKeys (i + 1)) (partOwn (i + 1))) = partH w (i + 1) := by
 simp only [partH, List.cons_append, hput, partRows, List.take_add_one, h, List.map_append]
 rfl
theorem partRow_get (w : api_Water) (j : Nat) (c : api_Cycle) (h : w.Cycles[j]? = some c) : hget (partH w w.Cycles.length) (j + 2) = .rows 4 [e_api_Cycle c] := by
 simp only [hget, partH, Am.get, partRows, List.take_length]
 rw [get_eq, List.getElem?_map, h]
 rfl
theorem part_frz (w : api_Water) : ∃ n, frz (partH w w.Cycles.length) 0 n (.map 1) = some (e_parts w) := by
 refine ⟨9, ?_⟩
 have h1 : mapO (frz (partH w w.Cycles.length) 0 8) (partKeys w.Cycles.length) = some (partKeys w.Cycles.length) := by
  rw [partKeys_eq]; exact mapO_self (g := frz (partH w w.Cycles.length) 0 8) (f := V.i) (fun _ => rfl) _
 have h2 : ∀ l : List Nat, (∀ j ∈ l, j < w.Cycles.length) → mapO (frz (partH w w.Cycles.length) 0 8) (l.map fun i => .fn 137 [.ptr (i + 2) 0 0]) = some (l.map fun i => .fn 137 [.fptr [e_api_Cycle (w.Cycles.getD i default)] 0 0]) := by
  intro l
  induction l with
  | nil => intro _; rfl
  | cons j r ih =>
   intro h
   have hj := h j List.mem_cons_self
   have hg := partRow_get w j (w.Cycles.getD j default) (by rw [List.getD_eq_getElem?_getD, List.getElem?_eq_getElem hj]; rfl)
   have h3 : frz (partH w w.Cycles.length) 0 8 (.fn 137 [.ptr (j + 2) 0 0]) = some (.fn 137 [.fptr [e_api_Cycle (w.Cycles.getD j default)] 0 0]) := by
    exact X.frzFn (X.mapO1 (X.frzPtr hg rfl))
   simp only [List.map_cons, mapO, h3, ih (fun x hx => h x (List.mem_cons_of_mem _ hx))]
 have h4 := h2 (List.range w.Cycles.length) (fun j hj => List.mem_range.1 hj)
 have h5 : mapO (frz (partH w w.Cycles.length) 0 8) (partOwn w.Cycles.length) = some (.fn 135 [.fptr [e_api_Water w] 0 0] :: w.Cycles.map fun c => .fn 137 [.fptr [e_api_Cycle c] 0 0]) := by
  have h6 : frz (partH w w.Cycles.length) 0 8 (.fn 135 [.ptr 0 0 0]) = some (.fn 135 [.fptr [e_api_Water w] 0 0]) := rfl
  simp only [partOwn, mapO, h6, h4]
  congr 2
  refine List.ext_getElem (by simp) fun i h1 h2 => ?_
  simp only [List.length_map] at h2
  simp [List.getD_eq_getElem?_getD, h2]
 exact X.frzMap rfl h1 h5
theorem ok_tide_parts {w r : api_Water} (hM : tide_parts w = some r) : Ct Tryz.prog 112 [e_api_Water w] (e_parts r) := by
 have hlen : w.Cycles.length ≤ 9223372036854775807 ∧ r = w := by
  unfold tide_parts at hM
  split at hM
  ·exact ⟨by assumption, (Option.some.inj hM).symm⟩
  ·cases hM
 obtain ⟨hlen, rfl⟩ := hlen
 refine ct_of_gs CC_ok rfl ?_
 refine GS.seq ?_
 refine GS.region ?_
 refine X.opW rfl rfl rfl rfl ?_
 refine X.opR rfl rfl rfl ?_
 refine GS.opsNil ?_
 refine GS.seq ?_
 refine GS.region ?_
 refine X.opW rfl rfl rfl rfl ?_
 refine X.opR rfl rfl rfl ?_
 refine X.op0W rfl rfl rfl ?_
 iterate 2 refine X.opR rfl rfl rfl ?_
 refine GS.opsNil ?_
 iterate 2 refine GS.seq ?_
 refine GS.region ?_
 iterate 2 refine X.opR rfl rfl rfl ?_
 refine X.opR rfl (X.lenF rfl rfl rfl) rfl ?_
 refine X.opR rfl rfl rfl ?_
 refine GS.opsNil ?_
 refine GS.block ?_
 refine X.norm (H' := partH r 0) [(12, V.i (0 : Nat)), (11, V.i (r.Cycles.length : Nat)), (10, V.sl (r.Cycles.map e_api_Cycle)), (3, V.map 1)] ?_ rfl (sr rfl)
 refine X.loopI (fun i => ⟨[(12, V.i (i : Nat)), (11, V.i (r.Cycles.length : Nat)), (10, V.sl (r.Cycles.map e_api_Cycle)), (3, V.map 1)], partH r i, 0, none, 22⟩) r.Cycles.length (fun i hi IH => ?_) ?_
 ·obtain ⟨c, hc⟩ : ∃ c, r.Cycles[i]? = some c := ⟨_, List.getElem?_eq_getElem hi⟩
  have hix : ix r.Cycles (i : Int) = some c := by unfold ix; rw [if_pos (by omega)]; simpa using hc
  refine GS.seq ?_
  refine GS.region ?_
  refine X.opR rfl rfl rfl ?_
  refine GS.opsNil ?_
  refine GS.seq ?_
  refine X.cond rfl (fun h => ?_) (fun h => ?_)
  ·refine GS.skip ?_
   refine GS.seq ?_
   refine GS.block ?_
   refine GS.seq ?_
   refine GS.region ?_
   refine X.opR rfl rfl rfl ?_
   refine X.opR rfl (X.indexF (f := e_api_Cycle) hix (fun _ => rfl) rfl rfl rfl rfl) rfl ?_
   refine X.opR rfl (X.loadF hix rfl rfl rfl) rfl ?_
   refine X.opW rfl rfl X.puts_end rfl ?_
   refine X.opR rfl rfl rfl ?_
   refine X.op0W rfl (X.storeEnd (v := e_api_Cycle c) (r := e_api_Cycle c) rfl rfl rfl rfl rfl) X.puts_end' ?_
   refine GS.opsNil ?_
   refine GS.region ?_
   iterate 3 refine X.opR rfl rfl rfl ?_
   refine X.op0W rfl (X.mapPutNew (kd := .int .i64) (kv := V.i (i : Nat)) (vv := .fn 137 [.ptr (partH r i).length 0 0]) (ks := partKeys i) (vs := partOwn i) rfl rfl rfl rfl rfl rfl (by rw [partKeys_eq]; exact X.findA_miss _ _ _ (by simp; omega))) rfl ?_
   refine GS.opsNil ?_
   refine GS.endB ?_
   refine GS.region ?_
   refine X.opR rfl (X.addE rfl rfl) rfl ?_
   refine X.opR rfl rfl rfl ?_
   refine GS.opsNil ?_
   refine X.normH _ IH rfl ?_ (X.sub_eq rfl ?_ (sr rfl))
   ·rw [← partH_succ r i c hc]
    simp only [puts]
    have e1 : insAt (V.i (i : Nat)) (partKeys i) = (partKeys i).length := by
     rw [partKeys_eq, X.insAt_end _ _ (by simp; omega), List.length_map]
    have e2 : (partKeys i).length = (partOwn i).length := by simp [partKeys, partOwn]
    rw [e1, X.ins_end, e2, X.ins_end, ← partKeys_succ, partH_len r i (by omega), ← partOwn_succ]
    rfl
   ·rw [w64_id (by omega) (by omega)]; rfl
  ·simp only [decide_eq_false_iff_not] at h
   exact absurd (by omega) h
 ·refine GS.seq ?_
  refine GS.region ?_
  refine X.opR rfl rfl rfl ?_
  refine GS.opsNil ?_
  refine GS.seq ?_
  refine X.cond rfl (fun h => ?_) (fun h => ?_)
  ·simp at h
  ·refine GS.exit rfl ?_
   refine GS.seq ?_
   refine GS.region ?_
   iterate 2 refine X.opR rfl rfl rfl ?_
   refine GS.opsNil ?_
   exact GS.ret ⟨_, rfl, part_frz r⟩
theorem ok_tide_heights {w : api_Water} {r : api_Water × api_Water} (hM : tide_heights w = some r) : Ct Tryz.prog 84 [(e_api_Water w)] (V.fn 113 [(V.fptr [(e_api_Water r.1)] 0 0), (V.fptr [(e_parts r.2)] 0 0)]) := by
 refine ct_of_gs CC_ok rfl ?_
 unfold tide_heights at hM
 refine X.sq ?_
 refine X.opW rfl rfl rfl rfl (X.q rfl (GS.opsNil (GS.seq ?_)))
 obtain ⟨y, h_1, hM⟩ := bind_of hM
 refine GS.region (X.q rfl ?_)
 refine X.call (ok_tide_parts h_1) rfl rfl rfl (.cons (.shut (n := 9) rfl) .nil) ?_
 refine X.opW rfl rfl rfl rfl ?_
 refine X.op0W rfl rfl rfl (X.nq (X.q rfl (X.q rfl ?_)))
 refine GS.opsNil ?_
 cases hM
 exact GS.ret ⟨_, rfl, ⟨30, rfl⟩⟩
theorem ok_tide_correction {w : api_Water} {tick : Int} {r : Int} (hM : tide_correction w tick = some r) : Ct Tryz.prog 136 [(e_api_Water w), (V.i tick)] (V.i r) := by
 refine ct_of_gs CC_ok rfl ?_
 unfold tide_correction at hM
 refine X.sq ?_
 refine X.opW rfl rfl rfl rfl (X.q rfl (GS.opsNil (GS.seq (X.sq (X.q rfl (X.q rfl ?_))))))
 refine X.opR rfl (X.lenF rfl rfl rfl) rfl (X.q rfl (GS.opsNil ?_))
 refine X.join (τ := Unit) (fun v => tide_correction_j1 = some r) (fun v => ⟨[], [], 0, none, 24⟩) ?_ ?_
 ·intro _ hM
  replace hM : tide_correction_j1 = some r := hM
  unfold tide_correction_j1 at hM
  refine X.sq (X.q rfl (GS.opsNil ?_))
  cases hM
  exact GS.ret ⟨_, rfl, ⟨30, rfl⟩⟩
 intro hj_1
 refine GS.block ?_
 refine X.gc [] (X.loop (σ := Int) (fun v => ⟨[(1, (V.i tick)), (8, (V.sl (List.map e_api_Shift w.Shifts))), (9, (V.i (w.Shifts.length : Int))), (10, (V.i v))], [], 0, none, 24⟩) hM ?_ rfl) rfl rfl rfl (ga rfl rfl) (gb_nil)
 intro x1 b_1 hM hc_2 hr_1
 rw [tide_correction_b2] at hM
 refine X.sq (X.q rfl (GS.opsNil (GS.seq ?_)))
 refine X.cond rfl (fun h_1 => ?_) (fun h_1 => ?_)
 ·replace hM := ite_t h_1 hM
  refine GS.skip (GS.seq (GS.block (GS.seq ?_)))
  obtain ⟨x, h_2, hM⟩ := bind_of hM
  refine GS.region ?_
  refine X.opR rfl (X.indexF (f := e_api_Shift) h_2 (fun _ => rfl) rfl rfl rfl rfl) rfl ?_
  refine X.opR rfl (X.loadF h_2 rfl rfl rfl) rfl ?_
  refine X.opW rfl rfl rfl rfl ?_
  refine X.op0W rfl rfl rfl (GS.opsNil (GS.seq ?_))
  obtain ⟨q, h_3, hM⟩ := bind_of hM
  refine GS.region (X.q rfl ?_)
  refine X.opR rfl (X.quoE h_3 rfl rfl) rfl ?_
  iterate 4 refine X.q rfl ?_
  refine X.call (ok_tide_within q x.From x.To) rfl rfl rfl (.cons (.shut (n := 9) rfl) (.cons (.shut (n := 9) rfl) (.cons (.shut (n := 9) rfl) .nil))) (GS.opsNil ?_)
  refine X.cond rfl (fun h_4 => ?_) (fun h_4 => ?_)
  ·replace hM := ite_t h_4 hM
   refine X.sq (X.q rfl (X.q rfl (X.q rfl ?_)))
   refine GS.opsNil ?_
   have hE := Option.some.inj hM
   replace hE := hr_1 _ hE.symm
   subst hE
   exact GS.ret ⟨_, rfl, ⟨30, rfl⟩⟩
  replace hM := ite_f h_4 hM
  refine GS.skip ?_
  refine GS.endB (GS.region ?_)
  refine X.opR rfl (X.addE rfl rfl) rfl (X.q rfl (GS.opsNil ?_))
  have hE := Option.some.inj hM
  exact X.gc [] (hc_2 (w64 (x1 + 1)) hE.symm) rfl rfl rfl (ga rfl rfl) (gb_nil)
 replace hM := ite_f h_1 hM
 refine GS.exit rfl ?_
 obtain ⟨y_1, hM, hy⟩ := map_of hM
 rw [hr_1 _ hy.symm] at hM
 exact X.gc [] (hj_1 () hM) rfl rfl rfl (gk_nil) (gb_nil)
theorem ok_tide_parts_1 {tick : Int} {c : api_Water} {r : Int} (hM : tide_parts_1 tick c = some r) : Ct Tryz.prog 135 [(V.i tick), (V.fptr [(e_api_Water c)] 0 0)] (V.i r) := by
 refine ct_of_gs CC_ok rfl ?_
 unfold tide_parts_1 at hM
 refine X.sq (X.q rfl (GS.opsNil (GS.seq ?_)))
 obtain ⟨y, h_1, hM⟩ := bind_of hM
 refine GS.region (X.q rfl (X.q rfl ?_))
 refine X.call (ok_tide_correction h_1) rfl rfl rfl (.cons (.shut (n := 9) rfl) (.cons (.shut (n := 9) rfl) .nil)) (X.q rfl (GS.opsNil ?_))
 cases hM
 exact GS.ret ⟨_, rfl, ⟨30, rfl⟩⟩
theorem ok_tide_below {a : Int} {b : Int} {r : Int × Int} (hM : tide_below a b = some r) : Ct Tryz.prog 148 [(V.i a), (V.i b)] (V.tup [(V.i r.1), (V.i r.2)]) := by
 refine ct_of_gs CC_ok rfl ?_
 unfold tide_below at hM
 refine X.sq (X.q rfl (X.q rfl ?_))
 refine GS.opsNil (GS.seq ?_)
 obtain ⟨q, h_1, hM⟩ := bind_of hM
 obtain ⟨q1, h_2, hM⟩ := bind_of hM
 refine GS.region (X.q rfl (X.q rfl ?_))
 refine X.opR rfl (X.remE h_1 rfl rfl) rfl (X.q rfl ?_)
 refine X.opR rfl (X.addE rfl rfl) rfl (X.q rfl ?_)
 refine X.opR rfl (X.remE h_2 rfl rfl) rfl (X.q rfl (GS.opsNil (GS.seq ?_)))
 obtain ⟨q2, h_3, hM⟩ := bind_of hM
 refine GS.region (X.q rfl (X.q rfl ?_))
 refine X.opR rfl (X.subE rfl rfl) rfl (X.q rfl ?_)
 refine X.opR rfl (X.quoE h_3 rfl rfl) rfl (X.q rfl (X.q rfl (X.q rfl ?_)))
 refine GS.opsNil ?_
 cases hM
 exact GS.ret ⟨_, rfl, ⟨30, rfl⟩⟩
theorem ok_tide_value {c : api_Cycle} {tick : Int} {r : Int} (hM : tide_value c tick = some r) : Ct Tryz.prog 138 [(e_api_Cycle c), (V.i tick)] (V.i r) := by
 refine ct_of_gs CC_ok rfl ?_
 unfold tide_value at hM
 refine X.sq ?_
 refine X.opW rfl rfl rfl rfl (X.q rfl (GS.opsNil (GS.seq ?_)))
 obtain ⟨y, h_1, hM⟩ := bind_of hM
 refine GS.region (X.q rfl (X.q rfl (X.q rfl ?_)))
 refine X.opR rfl (X.subE rfl rfl) rfl (X.q rfl (X.q rfl ?_))
 refine X.call (ok_tide_below h_1) rfl rfl rfl (.cons (.shut (n := 9) rfl) (.cons (.shut (n := 9) rfl) .nil)) ?_
 iterate 5 refine X.q rfl ?_
 refine GS.opsNil (GS.seq ?_)
 obtain ⟨y1, h_2, hM⟩ := bind_of hM
 refine GS.region (X.q rfl (X.q rfl (X.q rfl ?_)))
 refine X.opR rfl (X.lenF rfl rfl rfl) rfl ?_
 refine X.call (ok_tide_below h_2) rfl rfl rfl (.cons (.shut (n := 9) rfl) (.cons (.shut (n := 9) rfl) .nil)) ?_
 iterate 5 refine X.q rfl ?_
 refine GS.opsNil (GS.seq ?_)
 obtain ⟨x, h_3, hM⟩ := bind_of hM
 refine GS.region (X.q rfl (X.q rfl (X.q rfl ?_)))
 refine X.opR rfl (X.indexF (f := V.i) h_3 (fun _ => rfl) rfl rfl rfl rfl) rfl ?_
 refine X.opR rfl (X.loadF h_3 rfl rfl rfl) rfl (X.q rfl (GS.opsNil ?_))
 cases hM
 exact GS.ret ⟨_, rfl, ⟨30, rfl⟩⟩
theorem ok_tide_parts_2 {tick : Int} {c : api_Cycle} {r : Int} (hM : tide_parts_2 tick c = some r) : Ct Tryz.prog 137 [(V.i tick), (V.fptr [(e_api_Cycle c)] 0 0)] (V.i r) := by
 refine ct_of_gs CC_ok rfl ?_
 unfold tide_parts_2 at hM
 refine X.sq (X.q rfl (GS.opsNil (GS.seq ?_)))
 obtain ⟨y, h_1, hM⟩ := bind_of hM
 refine GS.region (X.q rfl (X.q rfl ?_))
 refine X.call (ok_tide_value h_1) rfl rfl rfl (.cons (.shut (n := 9) rfl) (.cons (.shut (n := 9) rfl) .nil)) (X.q rfl (GS.opsNil ?_))
 cases hM
 exact GS.ret ⟨_, rfl, ⟨30, rfl⟩⟩
theorem ok_tide_heights_1 {tick : Int} {c : api_Water} {c1 : api_Water} {r : Int} (hM : tide_heights_1 tick c c1 = some r) : Ct Tryz.prog 113 [(V.i tick), (V.fptr [(e_api_Water c)] 0 0), (V.fptr [(e_parts c1)] 0 0)] (V.i r) := by
 refine ct_of_gs CC_ok rfl ?_
 unfold tide_heights_1 at hM
 refine X.sq (X.q rfl (X.nq (X.q rfl (X.q rfl (X.q rfl ?_)))))
 refine GS.opsNil (GS.seq (X.sq (X.q rfl (GS.opsNil ?_))))
 refine X.join (τ := Int) (fun v => tide_heights_1_j1 v = some r) (fun v => ⟨[(5, (V.i v))], [], 0, none, 24⟩) ?_ ?_
 ·intro h hM
  replace hM : tide_heights_1_j1 h = some r := hM
  unfold tide_heights_1_j1 at hM
  refine X.sq (X.q rfl (X.q rfl ?_))
  refine GS.opsNil ?_
  cases hM
  exact GS.ret ⟨_, rfl, ⟨30, rfl⟩⟩
 intro hj_1
 refine GS.block ?_
 refine X.gc [] (X.loop (σ := (Int × Int)) (fun v => ⟨[(0, (V.i tick)), (1, (V.fptr [(e_api_Water c)] 0 0)), (2, (V.fptr [(e_parts c1)] 0 0)), (5, (V.i v.1)), (6, (V.i v.2))], [], 0, none, 24⟩) hM ?_ rfl) rfl rfl rfl (ga rfl rfl) (gb_nil)
 rintro ⟨h1, i⟩ b_1 hM hc_2 hr_1
 rw [tide_heights_1_b2] at hM
 refine GS.seq (X.sq (X.q rfl (X.q rfl (X.q rfl ?_))))
 refine X.opR rfl (X.lenF rfl rfl rfl) rfl (X.q rfl (GS.opsNil ?_))
 refine X.cond rfl (fun h_1 => ?_) (fun h_1 => ?_)
 ·replace hM := ite_t h_1 hM
  refine GS.skip (GS.seq (GS.block (GS.region (X.q rfl (X.q rfl (X.q rfl ?_))))))
  refine X.split (decide (i = -1)) (fun h_2 => ?_) (fun h_2 => ?_)
  ·replace hM := ite_t h_2 hM
   refine X.opR rfl (look_parts_m h_2 rfl rfl) rfl ?_
   obtain ⟨y, h_4, hM⟩ := bind_of hM
   refine X.q rfl ?_
   refine X.call (ok_tide_parts_1 h_4) rfl rfl rfl (.cons (.shut (n := 9) rfl) (.cons (.shut (n := 9) rfl) .nil)) ?_
   refine X.opR rfl (X.addE rfl rfl) rfl (X.q rfl (GS.opsNil ?_))
   refine GS.endB (GS.region (X.q rfl ?_))
   refine X.opR rfl (X.addE rfl rfl) rfl (X.q rfl (GS.opsNil ?_))
   have hE := Option.some.inj hM
   exact X.gc [] (hc_2 (w64 (h1 + y), w64 (i + 1)) hE.symm) rfl rfl rfl (ga rfl rfl) (gb_nil)
  replace hM := ite_f h_2 hM
  obtain ⟨c2, h_3, hM⟩ := bind_of hM
  refine X.opR rfl (look_parts_i h_3 rfl rfl) rfl ?_
  obtain ⟨y1, h_5, hM⟩ := bind_of hM
  refine X.q rfl ?_
  refine X.call (ok_tide_parts_2 h_5) rfl rfl rfl (.cons (.shut (n := 9) rfl) (.cons (.shut (n := 9) rfl) .nil)) ?_
  refine X.opR rfl (X.addE rfl rfl) rfl (X.q rfl (GS.opsNil ?_))
  refine GS.endB (GS.region (X.q rfl ?_))
  refine X.opR rfl (X.addE rfl rfl) rfl (X.q rfl (GS.opsNil ?_))
  have hE := Option.some.inj hM
  exact X.gc [] (hc_2 (w64 (h1 + y1), w64 (i + 1)) hE.symm) rfl rfl rfl (ga rfl rfl) (gb_nil)
 replace hM := ite_f h_1 hM
 refine GS.exit rfl ?_
 obtain ⟨y_1, hM, hy⟩ := map_of hM
 rw [hr_1 _ hy.symm] at hM
 exact X.gc [] (hj_1 h1 hM) rfl rfl rfl (ga rfl rfl) (gb_nil)
theorem ok_tide_Height {w : api_Water} {tick : Int} {r : Int × Int} (hM : tide_Height w tick = some r) : Ct Tryz.prog 42 [(e_api_Water w), (V.i tick)] (V.tup [(V.i r.1), (V.i r.2)]) := by
 refine ct_of_gs CC_ok rfl ?_
 unfold tide_Height at hM
 refine X.sq ?_
 refine X.opW rfl rfl rfl rfl (X.q rfl (X.q rfl ?_))
 refine GS.opsNil ?_
 iterate 2 refine GS.seq ?_
 obtain ⟨y, h_1, hM⟩ := bind_of hM
 refine GS.region (X.q rfl ?_)
 refine X.call (ok_tide_Check h_1) rfl rfl rfl (.cons (.shut (n := 9) rfl) .nil) (X.q rfl (X.nq (X.q rfl (X.q rfl ?_))))
 refine GS.opsNil ?_
 refine X.cond rfl (fun h_2 => ?_) (fun h_2 => ?_)
 ·replace hM := ite_t h_2 hM
  refine X.sq (X.q rfl (X.q rfl (X.q rfl ?_)))
  refine GS.opsNil ?_
  cases hM
  exact GS.ret ⟨_, rfl, ⟨30, rfl⟩⟩
 replace hM := ite_f h_2 hM
 refine GS.skip (GS.seq (X.sq (X.q rfl ?_)))
 refine X.call (ok_tide_minute tick) rfl rfl rfl (.cons (.shut (n := 9) rfl) .nil) (X.q rfl (GS.opsNil ?_))
 refine X.cond rfl (fun h_3 => ?_) (fun h_3 => ?_)
 ·replace hM := ite_t h_3 hM
  refine X.sq (X.q rfl (X.q rfl ?_))
  refine GS.opsNil ?_
  cases hM
  exact GS.ret ⟨_, rfl, ⟨30, rfl⟩⟩
 replace hM := ite_f h_3 hM
 refine GS.skip (GS.seq ?_)
 obtain ⟨y1, h_4, hM⟩ := bind_of hM
 obtain ⟨y2, h_5, hM⟩ := bind_of hM
 refine GS.region (X.q rfl ?_)
 refine X.call (ok_tide_heights h_4) rfl rfl rfl (.cons (.shut (n := 9) rfl) .nil) (X.q rfl ?_)
 refine X.call (ok_tide_heights_1 h_5) rfl rfl rfl (.cons (.shut (n := 9) rfl) (.cons (.shut (n := 9) rfl) (.cons (.shut (n := 9) rfl) .nil))) (X.q rfl (X.q rfl ?_))
 refine GS.opsNil ?_
 cases hM
 exact GS.ret ⟨_, rfl, ⟨30, rfl⟩⟩
theorem ok_berth_Depth {h : api_Harbour} {id : Int} {tick : Int} {r : Int × Int} (hM : berth_Depth h id tick = some r) : Ct Tryz.prog 9 [(e_api_Harbour h), (V.i id), (V.i tick)] (V.tup [(V.i r.1), (V.i r.2)]) := by
 refine ct_of_gs CC_ok rfl ?_
 unfold berth_Depth at hM
 refine X.sq ?_
 refine X.opW rfl rfl rfl rfl (X.q rfl (X.q rfl ?_))
 refine GS.opsNil ?_
 iterate 2 refine GS.seq ?_
 obtain ⟨y, h_1, hM⟩ := bind_of hM
 refine GS.region (X.q rfl ?_)
 refine X.call (ok_berth_Check h_1) rfl rfl rfl (.cons (.shut (n := 9) rfl) .nil) (X.q rfl (X.nq (X.q rfl (X.q rfl ?_))))
 refine GS.opsNil ?_
 refine X.cond rfl (fun h_2 => ?_) (fun h_2 => ?_)
 ·replace hM := ite_t h_2 hM
  refine X.sq (X.q rfl (X.q rfl (X.q rfl ?_)))
  refine GS.opsNil ?_
  cases hM
  exact GS.ret ⟨_, rfl, ⟨30, rfl⟩⟩
 replace hM := ite_f h_2 hM
 refine GS.skip (GS.seq ?_)
 obtain ⟨y1, h_3, hM⟩ := bind_of hM
 refine GS.region (X.q rfl (X.q rfl (X.q rfl ?_)))
 refine X.call (ok_berth_first_api_Berth__berth_berthID h_3) rfl rfl rfl (.cons (.shut (n := 9) rfl) (.cons (.shut (n := 9) rfl) (.cons (.shut (n := 9) rfl) .nil))) (X.q rfl (GS.opsNil (GS.seq (X.sq (X.q rfl (X.q rfl ?_))))))
 refine GS.opsNil ?_
 refine X.cond rfl (fun h_4 => ?_) (fun h_4 => ?_)
 ·replace hM := ite_t h_4 hM
  refine X.sq (X.q rfl (X.q rfl ?_))
  refine GS.opsNil ?_
  cases hM
  exact GS.ret ⟨_, rfl, ⟨30, rfl⟩⟩
 replace hM := ite_f h_4 hM
 refine GS.skip (GS.seq ?_)
 obtain ⟨y2, h_5, hM⟩ := bind_of hM
 refine GS.region (X.q rfl (X.q rfl (X.q rfl ?_)))
 refine X.call (ok_tide_Height h_5) rfl rfl rfl (.cons (.shut (n := 9) rfl) (.cons (.shut (n := 9) rfl) .nil)) ?_
 iterate 5 refine X.q rfl ?_
 refine GS.opsNil (GS.seq (X.sq (X.q rfl (X.q rfl ?_))))
 refine GS.opsNil ?_
 refine X.cond rfl (fun h_6 => ?_) (fun h_6 => ?_)
 ·replace hM := ite_t h_6 hM
  refine X.sq (X.q rfl (X.q rfl ?_))
  refine GS.opsNil ?_
  cases hM
  exact GS.ret ⟨_, rfl, ⟨30, rfl⟩⟩
 replace hM := ite_f h_6 hM
 refine GS.skip (GS.seq ?_)
 obtain ⟨x, h_7, hM⟩ := bind_of hM
 refine GS.region (X.q rfl (X.q rfl (X.q rfl ?_)))
 refine X.opR rfl (X.indexF (f := e_api_Berth) h_7 (fun _ => rfl) rfl rfl rfl rfl) rfl (X.q rfl ?_)
 refine X.opR rfl (X.loadF h_7 rfl rfl rfl) rfl (X.q rfl ?_)
 refine X.opR rfl (X.addE rfl rfl) rfl (X.q rfl (X.q rfl ?_))
 refine GS.opsNil ?_
 cases hM
 exact GS.ret ⟨_, rfl, ⟨30, rfl⟩⟩
theorem ok_berth_needed (h : api_Harbour) (b : api_Berth) (draught : Int) : Ct Tryz.prog 49 [(e_api_Harbour h), (e_api_Berth b), (V.i draught)] (V.i (berth_needed h b draught)) := by
 refine ct_of_gs CC_ok rfl ?_
 generalize hM : berth_needed h b draught = r
 unfold berth_needed at hM
 refine X.sq ?_
 iterate 2 refine X.opW rfl rfl rfl rfl ?_
 refine X.q rfl (X.nq (X.q rfl (X.q rfl (X.q rfl ?_))))
 refine X.opR rfl (X.addE rfl rfl) rfl (X.q rfl (X.q rfl ?_))
 refine X.opR rfl (X.subE rfl rfl) rfl (X.q rfl (GS.opsNil ?_))
 subst hM
 exact GS.ret ⟨_, rfl, ⟨30, rfl⟩⟩
theorem ok_tide_minutes (s : api_Span) : Ct Tryz.prog 115 [(e_api_Span s)] (V.i (tide_minutes s)) := by
 refine ct_of_gs CC_ok rfl ?_
 generalize hM : tide_minutes s = r
 unfold tide_minutes at hM
 refine X.sq ?_
 refine X.opW rfl rfl rfl rfl (X.q rfl (GS.opsNil (GS.seq (GS.block (X.sq ?_)))))
 refine X.mid [(1, (V.ptr 0 0 0)), (3, (V.b (((decide (s.Lo < 0)) || (decide (s.Hi < s.Lo))) || (decide (1048576 < s.Hi)))))] ?_ ?_
 ·intro hg
  refine X.split (decide (s.Lo < 0)) (fun h_1 => ?_) (fun h_1 => ?_)
  ·iterate 4 refine X.q rfl ?_
   iterate 5 refine X.off (X.off_f rfl rfl rfl h_1) rfl ?_
   refine X.opR rfl (X.pickor_t (y := decide (s.Hi < s.Lo)) rfl h_1 rfl) rfl (X.q rfl ?_)
   iterate 3 refine X.off (X.off_f rfl rfl rfl (X.or_tt h_1)) rfl ?_
   refine X.opR rfl (X.pickor_t (y := decide (1048576 < s.Hi)) rfl (X.or_tt h_1) rfl) rfl (X.q rfl (GS.opsNil ?_))
   exact X.norm _ hg rfl (sr rfl)
  refine X.split (((decide (s.Lo < 0)) || (decide (s.Hi < s.Lo)))) (fun h_2 => ?_) (fun h_2 => ?_)
  ·iterate 4 refine X.q rfl ?_
   iterate 5 refine X.opR (X.on_f rfl rfl rfl h_1) rfl rfl ?_
   refine X.opR rfl (X.pickor_f (y := decide (s.Hi < s.Lo)) rfl h_1 rfl) rfl (X.q rfl ?_)
   iterate 3 refine X.off (X.off_f rfl rfl rfl h_2) rfl ?_
   refine X.opR rfl (X.pickor_t (y := decide (1048576 < s.Hi)) rfl h_2 rfl) rfl (X.q rfl (GS.opsNil ?_))
   exact X.norm _ hg rfl (sr rfl)
  iterate 4 refine X.q rfl ?_
  iterate 5 refine X.opR (X.on_f rfl rfl rfl h_1) rfl rfl ?_
  refine X.opR rfl (X.pickor_f (y := decide (s.Hi < s.Lo)) rfl h_1 rfl) rfl (X.q rfl ?_)
  iterate 3 refine X.opR (X.on_f rfl rfl rfl h_2) rfl rfl ?_
  refine X.opR rfl (X.pickor_f (y := decide (1048576 < s.Hi)) rfl h_2 rfl) rfl (X.q rfl (GS.opsNil ?_))
  exact X.norm _ hg rfl (sr rfl)
 refine X.cond rfl (fun h_3 => ?_) (fun h_3 => ?_)
 ·replace hM := ite_t h_3 hM
  refine X.sq (X.q rfl (GS.opsNil ?_))
  subst hM
  exact GS.ret ⟨_, rfl, ⟨30, rfl⟩⟩
 replace hM := ite_f h_3 hM
 refine X.sq ?_
 iterate 4 refine X.q rfl ?_
 refine X.opR rfl (X.subE rfl rfl) rfl (X.q rfl (X.q rfl ?_))
 refine GS.opsNil ?_
 refine X.cond rfl (fun h_4 => ?_) (fun h_4 => ?_)
 ·replace hM := ite_t h_4 hM
  refine X.sq (X.q rfl (GS.opsNil ?_))
  subst hM
  exact GS.ret ⟨_, rfl, ⟨30, rfl⟩⟩
 replace hM := ite_f h_4 hM
 refine GS.skip ?_
 refine GS.endB (X.sq (X.q rfl (GS.opsNil ?_)))
 subst hM
 exact GS.ret ⟨_, rfl, ⟨30, rfl⟩⟩
theorem ok_tide_asked {w : api_Water} {s : api_Span} {r : Int} (hM : tide_asked w s = some r) : Ct Tryz.prog 86 [(e_api_Water w), (e_api_Span s)] (V.i r) := by
 refine ct_of_gs CC_ok rfl ?_
 unfold tide_asked at hM
 refine X.sq ?_
 iterate 2 refine X.opW rfl rfl rfl rfl ?_
 refine X.q rfl (GS.opsNil ?_)
 iterate 2 refine GS.seq ?_
 obtain ⟨y, h_1, hM⟩ := bind_of hM
 refine GS.region (X.q rfl ?_)
 refine X.call (ok_tide_Check h_1) rfl rfl rfl (.cons (.shut (n := 9) rfl) .nil) (X.q rfl (X.nq (X.q rfl (X.q rfl ?_))))
 refine GS.opsNil ?_
 refine X.cond rfl (fun h_2 => ?_) (fun h_2 => ?_)
 ·replace hM := ite_t h_2 hM
  refine X.sq (X.q rfl (X.q rfl ?_))
  refine GS.opsNil ?_
  cases hM
  exact GS.ret ⟨_, rfl, ⟨30, rfl⟩⟩
 replace hM := ite_f h_2 hM
 refine GS.skip (X.sq (X.q rfl ?_))
 refine X.call (ok_tide_minutes s) rfl rfl rfl (.cons (.shut (n := 9) rfl) .nil) (X.q rfl (GS.opsNil ?_))
 cases hM
 exact GS.ret ⟨_, rfl, ⟨30, rfl⟩⟩
theorem ok_tide_stands (w : api_Water) (s : api_Span) : Ct Tryz.prog 87 [(e_api_Water w), (e_api_Span s)] (V.fn 116 [(V.fptr [(e_api_Water ((tide_stands w s).1))] 0 0), (V.fptr [(e_api_Span ((tide_stands w s).2))] 0 0)]) := by
 refine ct_of_gs CC_ok rfl ?_
 generalize hM : tide_stands w s = r
 unfold tide_stands at hM
 refine X.sq ?_
 iterate 2 refine X.opW rfl rfl rfl rfl ?_
 refine X.q rfl (X.nq (X.q rfl (X.q rfl ?_)))
 refine GS.opsNil ?_
 subst hM
 exact GS.ret ⟨_, rfl, ⟨30, rfl⟩⟩
set_option maxHeartbeats 4000000 in
theorem ok_tide_Windows {w : api_Water} {s : api_Span} {height : Int} {r : (List api_Span) × Int} (hM : tide_Windows w s height = some r) : Ct Tryz.prog 48 [(e_api_Water w), (e_api_Span s), (V.i height)] (V.tup [(V.sl (List.map e_api_Span r.1)), (V.i r.2)]) := by
 refine ct_of_gs CC_ok rfl ?_
 unfold tide_Windows at hM
 refine X.sq ?_
 iterate 3 refine X.opW rfl rfl rfl rfl ?_
 refine X.q rfl (X.q rfl ?_)
 refine GS.opsNil ?_
 iterate 2 refine GS.seq ?_
 obtain ⟨y, h_1, hM⟩ := bind_of hM
 refine GS.region (X.q rfl (X.q rfl ?_))
 refine X.call (ok_tide_asked h_1) rfl rfl rfl (.cons (.shut (n := 9) rfl) (.cons (.shut (n := 9) rfl) .nil)) (X.q rfl (X.nq (X.q rfl (X.q rfl ?_))))
 refine GS.opsNil ?_
 refine X.cond rfl (fun h_2 => ?_) (fun h_2 => ?_)
 ·replace hM := ite_t h_2 hM
  refine X.sq (X.q rfl (X.q rfl (X.q rfl ?_)))
  refine GS.opsNil ?_
  cases hM
  exact GS.ret ⟨_, rfl, ⟨30, rfl⟩⟩
 replace hM := ite_f h_2 hM
 refine GS.skip (X.sq ?_)
 refine X.opW (H' := [.rows 3 [(e_api_Water w)], .rows 2 [(e_api_Span s)], .rows 1 [(V.i height)], .rows 1 [V.nil]]) rfl rfl rfl rfl (GS.opsNil (GS.seq (X.sq (X.q rfl (X.q rfl ?_)))))
 refine X.call (ok_tide_stands w s) rfl rfl rfl (.cons (.shut (n := 9) rfl) (.cons (.shut (n := 9) rfl) .nil)) (GS.opsNil (GS.block ?_))
 refine X.gc [some 2, some 3] (H' := [.rows 1 [(V.i height)], .rows 1 [V.nil]]) (K' := [(5, (V.ptr 0 0 0)), (9, (V.ptr 1 0 0)), (20, (V.fn 116 [(V.fptr [(e_api_Water ((tide_stands w s).1))] 0 0), (V.fptr [(e_api_Span ((tide_stands w s).2))] 0 0)]))]) ?_ rfl rfl rfl (ga rfl rfl) (gb9 rfl rfl rfl (gb9 rfl rfl rfl gb_nil))
 refine X.range rfl rfl (lowK_cons ⟨9, rfl⟩ (lowK_cons ⟨9, rfl⟩ (lowK_cons ⟨9, rfl⟩ lowK_nil))) rfl ?_
 intro R_3 hrn_3 hrK_3 hrp_3 hra_3 hrb_3 hlow_3
 refine GS.seq ?_
 obtain ⟨y1, h_4, hM⟩ := bind_of hM
 refine GS.region (X.q rfl ?_)
 refine X.call (ok_tide_heights h_4) rfl rfl rfl (.cons (.shut (n := 9) rfl) .nil) (X.q rfl (GS.opsNil (GS.seq ?_)))
 obtain ⟨y2, h_5, hM⟩ := bind_of hM
 refine X.draw (by kernel_rfl) ?_
 iterate 8 refine X.dop rfl rfl rfl rfl (by kernel_rfl) rfl rfl ?_
 refine X.dcall (ok_tide_heights_1 h_5) rfl rfl rfl (by kernel_rfl) rfl (.cons (.shut (n := 9) rfl) (.cons (.shut (n := 9) rfl) (.cons (.shut (n := 9) rfl) .nil))) ?_
 iterate 2 refine X.dop rfl rfl rfl rfl (by kernel_rfl) rfl rfl ?_
 refine X.dop0 rfl rfl rfl rfl (by kernel_rfl) rfl ?_
 refine X.dnil ?_
 refine X.norm [(0, (V.yld 2)), (2, (V.fptr [(e_api_Span ((tide_stands w s).2))] 0 0)), (4, (V.fn 113 [(V.fptr [(e_api_Water y1.1)] 0 0), (V.fptr [(e_parts y1.2)] 0 0)])), (5, (V.ptr 3 0 0))] ?_ rfl (sr rfl)
 refine GS.seq (X.sq (X.q rfl (X.q rfl ?_)))
 refine X.opR rfl (X.addE rfl rfl) rfl (X.q rfl (GS.opsNil ?_))
 refine X.join (τ := Int × Int × Int × (List api_Span)) (fun v => tide_Windows_j1 height v.1 v.2.1 v.2.2.1 v.2.2.2 = some r) (fun v => ⟨[(0, (V.yld 2)), (5, (V.ptr 3 0 0))], [.rows 1 [(V.i height)], .rows 1 [(ovl 4 v.2.2.2)], lr R_3 .ready none, .rows 3 [(V.agg [(V.i v.1), (V.i v.2.1), (V.i v.2.2.1)])], obl 2 e_api_Span v.2.2.2], 0, none, 51⟩) ?_ ?_
 ·rintro ⟨Lo, Hi, Height, l⟩ hM
  replace hM : tide_Windows_j1 height Lo Hi Height l = some r := hM
  unfold tide_Windows_j1 at hM
  refine GS.region (X.q rfl (X.q rfl ?_))
  refine X.yld hrn_3 hrK_3 hrp_3 hra_3 hrb_3 rfl rfl rfl rfl rfl rfl (GS.region ?_)
  refine X.opW (H' := [.rows 1 [(V.i height)], .rows 1 [(ovl 4 l)], lr R_3 .ready none, .rows 3 [(V.agg [(V.i Lo), (V.i Hi), (V.i Height)])], obl 2 e_api_Span l, .rows 3 [(V.agg [(V.i 0), (V.i 0), (V.i 0)])]]) rfl rfl rfl rfl ?_
  refine X.op0W (H' := [.rows 1 [(V.i height)], .rows 1 [(ovl 4 l)], lr R_3 .ready none, .rows 3 [(V.agg [(V.i Lo), (V.i Hi), (V.i Height)])], obl 2 e_api_Span l, .rows 3 [(V.agg [(V.i Lo), (V.i Hi), (V.i Height)])]]) rfl rfl rfl (GS.opsNil ?_)
  refine GS.nil (X.begin' rfl rfl ?_ rfl)
  refine GS.block (GS.seq (X.sq ?_))
  iterate 4 refine X.q rfl ?_
  refine GS.opsNil ?_
  refine X.cond rfl (fun h_6 => ?_) (fun h_6 => ?_)
  ·replace hM := ite_t h_6 hM
   refine GS.exit rfl ?_
   refine GS.nil ⟨_, rfl, ?_⟩
   refine X.norm (H' := [.rows 1 [(V.i height)], .rows 1 [(ovl 4 l)], lr R_3 .ready none, .rows 3 [(V.agg [(V.i Lo), (V.i Hi), (V.i Height)])], obl 2 e_api_Span l, .rows 3 [(V.agg [(V.i Lo), (V.i Hi), (V.i Height)])]]) [(50, (V.b true))] ?_ rfl (sr rfl)
   refine GS.opsNil ?_
   refine GS.nil ⟨_, _, rfl, rfl, ?_⟩
   refine X.norm (H' := [.rows 1 [(V.i height)], .rows 1 [(ovl 4 l)], .dead, .rows 3 [(V.agg [(V.i Lo), (V.i Hi), (V.i Height)])], obl 2 e_api_Span l, .rows 3 [(V.agg [(V.i Lo), (V.i Hi), (V.i Height)])]]) [(5, (V.ptr 0 0 0)), (9, (V.ptr 1 0 0)), (20, (V.fn 116 [(V.fptr [(e_api_Water ((tide_stands w s).1))] 0 0), (V.fptr [(e_api_Span ((tide_stands w s).2))] 0 0)]))] ?_ rfl (sr rfl)
   refine GS.endB (X.sq ?_)
   refine X.opR rfl (v := (ovl 4 l)) (by rcases X.ovl_or (z := true) 4 l with h0 | ⟨n0, h0⟩ <;> simp only [h0] <;> rfl) rfl (X.q rfl (X.q rfl ?_))
   refine GS.opsNil ?_
   have hE := Option.some.inj hM
   subst hE
   exact GS.ret ⟨_, rfl, FR.tup (.cons (FR.ovl (f := e_api_Span) (l := l) 9 rfl rfl (fun _ => rfl)) (.cons ⟨30, rfl⟩ .nil))⟩
  replace hM := ite_f h_6 hM
  refine GS.skip (X.sq ?_)
  refine X.opR rfl (v := (ovl 4 l)) (by rcases X.ovl_or (z := true) 4 l with h0 | ⟨n0, h0⟩ <;> simp only [h0] <;> rfl) rfl ?_
  refine X.opR rfl (X.lenN (l := l) rfl rfl rfl) rfl (X.q rfl (GS.opsNil (GS.seq ?_)))
  obtain ⟨x, h_7, hM⟩ := gb_of hM
  refine X.mid [(9, (V.ptr 1 0 0)), (10, (V.ptr 5 0 0)), (11, (V.i (l.length : Int))), (42, (V.b ((decide (0 < (l.length : Int))) && (decide ((w64 (x.Hi + 1)) = Lo)))))] ?_ ?_
  ·intro hg
   refine X.split (decide (0 < (l.length : Int))) (fun h_8 => ?_) (fun h_8 => ?_)
   ·refine X.drawc (by kernel_rfl) rfl ?_
    iterate 3 refine X.cop rfl rfl rfl rfl ?_
    refine X.cop (X.on_t rfl rfl rfl h_8) (v := (ovl 4 l)) (by rcases X.ovl_or (z := true) 4 l with h0 | ⟨n0, h0⟩ <;> simp only [h0] <;> rfl) rfl rfl ?_
    refine X.cop (X.on_t rfl rfl rfl h_8) rfl rfl rfl ?_
    refine X.cop (X.on_t rfl rfl rfl h_8) (X.subE rfl rfl) rfl rfl ?_
    refine X.cop (X.on_t rfl rfl rfl h_8) (X.indexN (h_7 h_8) rfl rfl rfl rfl rfl) rfl rfl ?_
    refine X.cop (X.on_t rfl rfl rfl h_8) rfl rfl rfl ?_
    refine X.cop (X.on_t rfl rfl rfl h_8) (X.loadN (h_7 h_8) rfl rfl rfl rfl) rfl rfl ?_
    refine X.cop (X.on_t rfl rfl rfl h_8) (X.addE rfl rfl) rfl rfl ?_
    iterate 4 refine X.cop (X.on_t rfl rfl rfl h_8) rfl rfl rfl ?_
    refine X.cop rfl (X.pickand_t (y := decide ((w64 (x.Hi + 1)) = Lo)) rfl h_8 rfl) rfl rfl ?_
    refine X.cnil ?_
    exact X.norm _ hg rfl (sr rfl)
   refine X.drawc (by kernel_rfl) rfl ?_
   iterate 3 refine X.cop rfl rfl rfl rfl ?_
   iterate 11 refine X.coff (X.off_t rfl rfl rfl h_8) rfl rfl ?_
   refine X.cop rfl (X.pickand_f (y := decide ((w64 (x.Hi + 1)) = Lo)) rfl h_8 rfl) rfl rfl ?_
   refine X.cnil ?_
   exact X.norm _ hg rfl (sr rfl)
  refine X.cond rfl (fun h_9 => ?_) (fun h_9 => ?_)
  ·replace hM := ite_t h_9 hM
   obtain ⟨x1, h_10, hM⟩ := bind_of hM
   refine GS.region ?_
   refine X.opR rfl (v := (ovl 4 l)) (by rcases X.ovl_or (z := true) 4 l with h0 | ⟨n0, h0⟩ <;> simp only [h0] <;> rfl) rfl (X.q rfl ?_)
   refine X.opR rfl (X.subE rfl rfl) rfl (X.q rfl (X.q rfl (X.q rfl ?_)))
   refine X.opR rfl (X.indexN h_10 rfl rfl rfl rfl rfl) rfl (X.q rfl ?_)
   refine X.op0W (H' := [.rows 1 [(V.i height)], .rows 1 [(ovl 4 l)], lr R_3 .busy none, .rows 3 [(V.agg [(V.i Lo), (V.i Hi), (V.i Height)])], obl 2 e_api_Span (put l (w64 ((l.length : Int) - 1)) (⟨x1.Lo, Hi⟩ : api_Span)), .rows 3 [(V.agg [(V.i Lo), (V.i Hi), (V.i Height)])]]) rfl (X.storeN (b := (⟨x1.Lo, Hi⟩ : api_Span)) h_10 rfl rfl rfl rfl rfl rfl rfl) rfl (GS.opsNil ?_)
   refine GS.endB ?_
   refine GS.nil ⟨_, rfl, ?_⟩
   refine X.norm (H' := [.rows 1 [(V.i height)], .rows 1 [(ovl 4 l)], lr R_3 .ready none, .rows 3 [(V.agg [(V.i Lo), (V.i Hi), (V.i Height)])], obl 2 e_api_Span (put l (w64 ((l.length : Int) - 1)) (⟨x1.Lo, Hi⟩ : api_Span)), .rows 3 [(V.agg [(V.i Lo), (V.i Hi), (V.i Height)])]]) [(50, (V.b true))] ?_ rfl (sr rfl)
   refine GS.opsNil ?_
   refine GS.nil ⟨_, _, rfl, rfl, ?_⟩
   refine X.norm (H' := [.rows 1 [(V.i height)], .rows 1 [(ovl 4 l)], .dead, .rows 3 [(V.agg [(V.i Lo), (V.i Hi), (V.i Height)])], obl 2 e_api_Span (put l (w64 ((l.length : Int) - 1)) (⟨x1.Lo, Hi⟩ : api_Span)), .rows 3 [(V.agg [(V.i Lo), (V.i Hi), (V.i Height)])]]) [(5, (V.ptr 0 0 0)), (9, (V.ptr 1 0 0)), (20, (V.fn 116 [(V.fptr [(e_api_Water ((tide_stands w s).1))] 0 0), (V.fptr [(e_api_Span ((tide_stands w s).2))] 0 0)]))] ?_ rfl (sr rfl)
   refine GS.endB (X.sq ?_)
   refine X.opR rfl (v := (ovl 4 l)) (by rcases X.ovl_or (z := true) 4 l with h0 | ⟨n0, h0⟩ <;> simp only [h0] <;> rfl) rfl (X.q rfl (X.q rfl ?_))
   refine GS.opsNil ?_
   have hE := Option.some.inj hM
   subst hE
   exact GS.ret ⟨_, rfl, FR.tup (.cons (FR.eq X.ovl_put (FR.ovl (f := e_api_Span) (l := (put l (w64 ((l.length : Int) - 1)) (⟨x1.Lo, Hi⟩ : api_Span))) 9 rfl rfl (fun _ => rfl))) (.cons ⟨30, rfl⟩ .nil))⟩
  replace hM := ite_f h_9 hM
  obtain ⟨l1, h_11, hM⟩ := bind_of hM
  refine GS.region ?_
  refine X.opR rfl (v := (ovl 4 l)) (by rcases X.ovl_or (z := true) 4 l with h0 | ⟨n0, h0⟩ <;> simp only [h0] <;> rfl) rfl (X.q rfl (X.q rfl ?_))
  refine X.opW (H' := [.rows 1 [(V.i height)], .rows 1 [(ovl 4 l)], lr R_3 .busy none, .rows 3 [(V.agg [(V.i Lo), (V.i Hi), (V.i Height)])], obl 2 e_api_Span l, .rows 3 [(V.agg [(V.i Lo), (V.i Hi), (V.i Height)])], .rows 2 (List.map e_api_Span ([(⟨Lo, Hi⟩ : api_Span)]))]) rfl rfl rfl rfl ?_
  refine X.appN (f := e_api_Span) h_11 (fun _ => rfl) (by rfl) (by rfl) (by rfl) (by rfl) (by rfl) (by rfl) (by rfl) (by rfl) (by rfl) (by rfl) (by rfl) (by exact rfl) (by rfl) (by rfl) ?_
  refine X.op0W (H' := [.rows 1 [(V.i height)], .rows 1 [(V.osl 7 0 (List.length l1))], lr R_3 .busy none, .rows 3 [(V.agg [(V.i Lo), (V.i Hi), (V.i Height)])], .dead, .rows 3 [(V.agg [(V.i Lo), (V.i Hi), (V.i Height)])], .rows 2 (List.map e_api_Span ([(⟨Lo, Hi⟩ : api_Span)])), .rows 2 (List.map e_api_Span l1)]) rfl (v := undefV) (wr := [(1, .rows 1 [(V.osl 7 0 (List.length l1))])]) (by rcases X.ovl_or (z := true) 4 l with h0 | ⟨n0, h0⟩ <;> simp only [h0] <;> rfl) rfl (GS.opsNil ?_)
  refine GS.endB ?_
  refine GS.nil ⟨_, rfl, ?_⟩
  refine X.norm (H' := [.rows 1 [(V.i height)], .rows 1 [(V.osl 7 0 (List.length l1))], lr R_3 .ready none, .rows 3 [(V.agg [(V.i Lo), (V.i Hi), (V.i Height)])], .dead, .rows 3 [(V.agg [(V.i Lo), (V.i Hi), (V.i Height)])], .rows 2 (List.map e_api_Span ([(⟨Lo, Hi⟩ : api_Span)])), .rows 2 (List.map e_api_Span l1)]) [(50, (V.b true))] ?_ rfl (sr rfl)
  refine GS.opsNil ?_
  refine GS.nil ⟨_, _, rfl, rfl, ?_⟩
  refine X.norm (H' := [.rows 1 [(V.i height)], .rows 1 [(V.osl 7 0 (List.length l1))], .dead, .rows 3 [(V.agg [(V.i Lo), (V.i Hi), (V.i Height)])], .dead, .rows 3 [(V.agg [(V.i Lo), (V.i Hi), (V.i Height)])], .rows 2 (List.map e_api_Span ([(⟨Lo, Hi⟩ : api_Span)])), .rows 2 (List.map e_api_Span l1)]) [(5, (V.ptr 0 0 0)), (9, (V.ptr 1 0 0)), (20, (V.fn 116 [(V.fptr [(e_api_Water ((tide_stands w s).1))] 0 0), (V.fptr [(e_api_Span ((tide_stands w s).2))] 0 0)]))] ?_ rfl (sr rfl)
  refine GS.endB (X.sq (X.q rfl (X.q rfl (X.q rfl ?_))))
  refine GS.opsNil ?_
  have hE := Option.some.inj hM
  subst hE
  exact GS.ret ⟨_, rfl, FR.tup (.cons (FR.osl (f := e_api_Span) (l := l1) 9 rfl rfl (fun _ => rfl)) (.cons ⟨30, rfl⟩ .nil))⟩
 intro hj_1
 refine GS.block ?_
 refine X.gc [some 3, none] (X.loop (σ := (Int × Int × Int × Int × (List api_Span))) (fun v => ⟨[(0, (V.yld 2)), (2, (V.fptr [(e_api_Span ((tide_stands w s).2))] 0 0)), (4, (V.fn 113 [(V.fptr [(e_api_Water y1.1)] 0 0), (V.fptr [(e_parts y1.2)] 0 0)])), (5, (V.ptr 3 0 0)), (6, (V.i v.1))], [.rows 1 [(V.i height)], .rows 1 [(ovl 4 v.2.2.2.2)], lr R_3 .ready none, .rows 3 [(V.agg [(V.i v.2.1), (V.i v.2.2.1), (V.i v.2.2.2.1)])], obl 2 e_api_Span v.2.2.2.2], 0, none, 51⟩) hM ?_ rfl) rfl rfl rfl (ga rfl rfl) (gb9 rfl rfl rfl (gb9 rfl rfl rfl (gb_loop hlow_3 rfl rfl rfl (gb9 rfl rfl rfl (gb_pad' rfl gb_nil)))))
 rintro ⟨t, Lo2, Hi1, Height2, l5⟩ b_1 hM hc_2 hr_1
 rw [tide_Windows_b2] at hM
 refine GS.seq (X.sq ?_)
 iterate 4 refine X.q rfl ?_
 refine GS.opsNil ?_
 refine X.cond rfl (fun h_12 => ?_) (fun h_12 => ?_)
 ·replace hM := ite_t h_12 hM
  refine GS.skip (GS.seq ?_)
  refine X.join (τ := Int × Int × (List api_Span)) (fun v => tide_Windows_j3 t v.1 v.2.1 v.2.2 = some b_1) (fun v => ⟨[(0, (V.yld 2)), (2, (V.fptr [(e_api_Span ((tide_stands w s).2))] 0 0)), (4, (V.fn 113 [(V.fptr [(e_api_Water y1.1)] 0 0), (V.fptr [(e_parts y1.2)] 0 0)])), (5, (V.ptr 3 0 0)), (6, (V.i t))], [.rows 1 [(V.i height)], .rows 1 [(ovl 4 v.2.2)], lr R_3 .ready none, .rows 3 [(V.agg [(V.i v.1), (V.i t), (V.i v.2.1)])], obl 2 e_api_Span v.2.2], 0, none, 51⟩) ?_ ?_
  ·rintro ⟨Lo1, Height1, l2⟩ hM
   replace hM : tide_Windows_j3 t Lo1 Height1 l2 = some b_1 := hM
   unfold tide_Windows_j3 at hM
   refine GS.region (X.q rfl ?_)
   refine X.opR rfl (X.addE rfl rfl) rfl (X.q rfl (GS.opsNil ?_))
   have hE := Option.some.inj hM
   exact X.gc [some 3, some 4] (hc_2 (w64 (t + 1), Lo1, t, Height1, l2) hE.symm) rfl rfl rfl (ga rfl rfl) (gb9 rfl rfl rfl (gb_box rfl rfl (rn_ovl rfl) (gb_loop hlow_3 rfl rfl rfl (gb9 rfl rfl rfl (gb_obl 9 rfl rfl (fun _ => rfl) gb_nil)))))
  intro hj_3
  refine GS.block (GS.seq ?_)
  obtain ⟨y3, h_13, hM⟩ := bind_of hM
  refine GS.region (X.q rfl (X.q rfl ?_))
  refine X.call (ok_tide_heights_1 h_13) rfl rfl rfl (.cons (.shut (n := 9) rfl) (.cons (.shut (n := 9) rfl) (.cons (.shut (n := 9) rfl) .nil))) (X.q rfl (GS.opsNil (GS.seq (X.sq ?_))))
  iterate 4 refine X.q rfl ?_
  refine GS.opsNil ?_
  refine X.cond rfl (fun h_14 => ?_) (fun h_14 => ?_)
  ·replace hM := ite_t h_14 hM
   refine X.sq (X.q rfl (X.q rfl (X.q rfl ?_)))
   refine X.op0W (H' := [.rows 1 [(V.i height)], .rows 1 [(ovl 4 l5)], lr R_3 .ready none, .rows 3 [(V.agg [(V.i Lo2), (V.i t), (V.i Height2)])], obl 2 e_api_Span l5]) rfl rfl rfl (GS.opsNil ?_)
   refine GS.exit rfl ?_
   exact X.gc [some 3, some 4] (hj_3 (Lo2, Height2, l5) hM) rfl rfl rfl (ga rfl rfl) (gb9 rfl rfl rfl (gb_box rfl rfl (rn_ovl rfl) (gb_loop hlow_3 rfl rfl rfl (gb9 rfl rfl rfl (gb_obl 9 rfl rfl (fun _ => rfl) gb_nil)))))
  replace hM := ite_f h_14 hM
  refine GS.skip (GS.seq (X.sq (X.q rfl (X.q rfl ?_))))
  refine X.yld hrn_3 hrK_3 hrp_3 hra_3 hrb_3 rfl rfl rfl rfl rfl rfl (GS.region ?_)
  refine X.opW (H' := [.rows 1 [(V.i height)], .rows 1 [(ovl 4 l5)], lr R_3 .ready none, .rows 3 [(V.agg [(V.i Lo2), (V.i Hi1), (V.i Height2)])], obl 2 e_api_Span l5, .rows 3 [(V.agg [(V.i 0), (V.i 0), (V.i 0)])]]) rfl rfl rfl rfl ?_
  refine X.op0W (H' := [.rows 1 [(V.i height)], .rows 1 [(ovl 4 l5)], lr R_3 .ready none, .rows 3 [(V.agg [(V.i Lo2), (V.i Hi1), (V.i Height2)])], obl 2 e_api_Span l5, .rows 3 [(V.agg [(V.i Lo2), (V.i Hi1), (V.i Height2)])]]) rfl rfl rfl (GS.opsNil ?_)
  refine GS.nil (X.begin' rfl rfl ?_ rfl)
  refine GS.block (GS.seq (X.sq ?_))
  iterate 4 refine X.q rfl ?_
  refine GS.opsNil ?_
  refine X.cond rfl (fun h_15 => ?_) (fun h_15 => ?_)
  ·replace hM := ite_t h_15 hM
   refine GS.exit rfl ?_
   refine GS.nil ⟨_, rfl, ?_⟩
   refine X.norm (H' := [.rows 1 [(V.i height)], .rows 1 [(ovl 4 l5)], lr R_3 .ready none, .rows 3 [(V.agg [(V.i Lo2), (V.i Hi1), (V.i Height2)])], obl 2 e_api_Span l5, .rows 3 [(V.agg [(V.i Lo2), (V.i Hi1), (V.i Height2)])]]) [(0, (V.yld 2)), (2, (V.fptr [(e_api_Span ((tide_stands w s).2))] 0 0)), (4, (V.fn 113 [(V.fptr [(e_api_Water y1.1)] 0 0), (V.fptr [(e_parts y1.2)] 0 0)])), (5, (V.ptr 3 0 0)), (6, (V.i t)), (7, (V.i y3)), (41, (V.b true))] ?_ rfl (sr rfl)
   refine X.q rfl (GS.opsNil ?_)
   refine GS.condF rfl (GS.skip (GS.region ?_))
   iterate 5 refine X.q rfl ?_
   refine X.op0W (H' := [.rows 1 [(V.i height)], .rows 1 [(ovl 4 l5)], lr R_3 .ready none, .rows 3 [(V.agg [(V.i t), (V.i t), (V.i y3)])], obl 2 e_api_Span l5, .rows 3 [(V.agg [(V.i Lo2), (V.i Hi1), (V.i Height2)])]]) rfl rfl rfl (GS.opsNil ?_)
   refine GS.endB ?_
   exact X.gc [some 3, some 4] (hj_3 (t, y3, l5) hM) rfl rfl rfl (ga rfl rfl) (gb9 rfl rfl rfl (gb_box rfl rfl (rn_ovl rfl) (gb_loop hlow_3 rfl rfl rfl (gb9 rfl rfl rfl (gb_obl 9 rfl rfl (fun _ => rfl) gb_nil)))))
  replace hM := ite_f h_15 hM
  refine GS.skip (X.sq ?_)
  refine X.opR rfl (v := (ovl 4 l5)) (by rcases X.ovl_or (z := true) 4 l5 with h0 | ⟨n0, h0⟩ <;> simp only [h0] <;> rfl) rfl ?_
  refine X.opR rfl (X.lenN (l := l5) rfl rfl rfl) rfl (X.q rfl (GS.opsNil (GS.seq ?_)))
  obtain ⟨x2, h_16, hM⟩ := gb_of hM
  refine X.mid [(9, (V.ptr 1 0 0)), (10, (V.ptr 5 0 0)), (11, (V.i (l5.length : Int))), (42, (V.b ((decide (0 < (l5.length : Int))) && (decide ((w64 (x2.Hi + 1)) = Lo2)))))] ?_ ?_
  ·intro hg
   refine X.split (decide (0 < (l5.length : Int))) (fun h_17 => ?_) (fun h_17 => ?_)
   ·refine X.drawc (by kernel_rfl) rfl ?_
    iterate 3 refine X.cop rfl rfl rfl rfl ?_
    refine X.cop (X.on_t rfl rfl rfl h_17) (v := (ovl 4 l5)) (by rcases X.ovl_or (z := true) 4 l5 with h0 | ⟨n0, h0⟩ <;> simp only [h0] <;> rfl) rfl rfl ?_
    refine X.cop (X.on_t rfl rfl rfl h_17) rfl rfl rfl ?_
    refine X.cop (X.on_t rfl rfl rfl h_17) (X.subE rfl rfl) rfl rfl ?_
    refine X.cop (X.on_t rfl rfl rfl h_17) (X.indexN (h_16 h_17) rfl rfl rfl rfl rfl) rfl rfl ?_
    refine X.cop (X.on_t rfl rfl rfl h_17) rfl rfl rfl ?_
    refine X.cop (X.on_t rfl rfl rfl h_17) (X.loadN (h_16 h_17) rfl rfl rfl rfl) rfl rfl ?_
    refine X.cop (X.on_t rfl rfl rfl h_17) (X.addE rfl rfl) rfl rfl ?_
    iterate 4 refine X.cop (X.on_t rfl rfl rfl h_17) rfl rfl rfl ?_
    refine X.cop rfl (X.pickand_t (y := decide ((w64 (x2.Hi + 1)) = Lo2)) rfl h_17 rfl) rfl rfl ?_
    refine X.cnil ?_
    exact X.norm _ hg rfl (sr rfl)
   refine X.drawc (by kernel_rfl) rfl ?_
   iterate 3 refine X.cop rfl rfl rfl rfl ?_
   iterate 11 refine X.coff (X.off_t rfl rfl rfl h_17) rfl rfl ?_
   refine X.cop rfl (X.pickand_f (y := decide ((w64 (x2.Hi + 1)) = Lo2)) rfl h_17 rfl) rfl rfl ?_
   refine X.cnil ?_
   exact X.norm _ hg rfl (sr rfl)
  refine X.cond rfl (fun h_18 => ?_) (fun h_18 => ?_)
  ·replace hM := ite_t h_18 hM
   obtain ⟨x3, h_19, hM⟩ := bind_of hM
   refine GS.region ?_
   refine X.opR rfl (v := (ovl 4 l5)) (by rcases X.ovl_or (z := true) 4 l5 with h0 | ⟨n0, h0⟩ <;> simp only [h0] <;> rfl) rfl (X.q rfl ?_)
   refine X.opR rfl (X.subE rfl rfl) rfl (X.q rfl (X.q rfl (X.q rfl ?_)))
   refine X.opR rfl (X.indexN h_19 rfl rfl rfl rfl rfl) rfl (X.q rfl ?_)
   refine X.op0W (H' := [.rows 1 [(V.i height)], .rows 1 [(ovl 4 l5)], lr R_3 .busy none, .rows 3 [(V.agg [(V.i Lo2), (V.i Hi1), (V.i Height2)])], obl 2 e_api_Span (put l5 (w64 ((l5.length : Int) - 1)) (⟨x3.Lo, Hi1⟩ : api_Span)), .rows 3 [(V.agg [(V.i Lo2), (V.i Hi1), (V.i Height2)])]]) rfl (X.storeN (b := (⟨x3.Lo, Hi1⟩ : api_Span)) h_19 rfl rfl rfl rfl rfl rfl rfl) rfl (GS.opsNil ?_)
   refine GS.endB ?_
   refine GS.nil ⟨_, rfl, ?_⟩
   refine X.norm (H' := [.rows 1 [(V.i height)], .rows 1 [(ovl 4 l5)], lr R_3 .ready none, .rows 3 [(V.agg [(V.i Lo2), (V.i Hi1), (V.i Height2)])], obl 2 e_api_Span (put l5 (w64 ((l5.length : Int) - 1)) (⟨x3.Lo, Hi1⟩ : api_Span)), .rows 3 [(V.agg [(V.i Lo2), (V.i Hi1), (V.i Height2)])]]) [(0, (V.yld 2)), (2, (V.fptr [(e_api_Span ((tide_stands w s).2))] 0 0)), (4, (V.fn 113 [(V.fptr [(e_api_Water y1.1)] 0 0), (V.fptr [(e_parts y1.2)] 0 0)])), (5, (V.ptr 3 0 0)), (6, (V.i t)), (7, (V.i y3)), (41, (V.b true))] ?_ rfl (sr rfl)
   refine X.q rfl (GS.opsNil ?_)
   refine GS.condF rfl (GS.skip (GS.region ?_))
   iterate 5 refine X.q rfl ?_
   refine X.op0W (H' := [.rows 1 [(V.i height)], .rows 1 [(ovl 4 l5)], lr R_3 .ready none, .rows 3 [(V.agg [(V.i t), (V.i t), (V.i y3)])], obl 2 e_api_Span (put l5 (w64 ((l5.length : Int) - 1)) (⟨x3.Lo, Hi1⟩ : api_Span)), .rows 3 [(V.agg [(V.i Lo2), (V.i Hi1), (V.i Height2)])]]) rfl rfl rfl (GS.opsNil ?_)
   refine GS.endB ?_
   exact X.gc [some 3, some 4] (hj_3 (t, y3, (put l5 (w64 ((l5.length : Int) - 1)) (⟨x3.Lo, Hi1⟩ : api_Span))) hM) rfl rfl rfl (ga rfl rfl) (gb9 rfl rfl rfl (gb_box rfl rfl (rv_eq X.ovl_put (rn_ovl rfl)) (gb_loop hlow_3 rfl rfl rfl (gb9 rfl rfl rfl (gb_obl 9 rfl rfl (fun _ => rfl) gb_nil)))))
  replace hM := ite_f h_18 hM
  obtain ⟨l3, h_20, hM⟩ := bind_of hM
  refine GS.region ?_
  refine X.opR rfl (v := (ovl 4 l5)) (by rcases X.ovl_or (z := true) 4 l5 with h0 | ⟨n0, h0⟩ <;> simp only [h0] <;> rfl) rfl (X.q rfl (X.q rfl ?_))
  refine X.opW (H' := [.rows 1 [(V.i height)], .rows 1 [(ovl 4 l5)], lr R_3 .busy none, .rows 3 [(V.agg [(V.i Lo2), (V.i Hi1), (V.i Height2)])], obl 2 e_api_Span l5, .rows 3 [(V.agg [(V.i Lo2), (V.i Hi1), (V.i Height2)])], .rows 2 (List.map e_api_Span ([(⟨Lo2, Hi1⟩ : api_Span)]))]) rfl rfl rfl rfl ?_
  refine X.appN (f := e_api_Span) h_20 (fun _ => rfl) (by rfl) (by rfl) (by rfl) (by rfl) (by rfl) (by rfl) (by rfl) (by rfl) (by rfl) (by rfl) (by rfl) (by exact rfl) (by rfl) (by rfl) ?_
  refine X.op0W (H' := [.rows 1 [(V.i height)], .rows 1 [(V.osl 7 0 (List.length l3))], lr R_3 .busy none, .rows 3 [(V.agg [(V.i Lo2), (V.i Hi1), (V.i Height2)])], .dead, .rows 3 [(V.agg [(V.i Lo2), (V.i Hi1), (V.i Height2)])], .rows 2 (List.map e_api_Span ([(⟨Lo2, Hi1⟩ : api_Span)])), .rows 2 (List.map e_api_Span l3)]) rfl (v := undefV) (wr := [(1, .rows 1 [(V.osl 7 0 (List.length l3))])]) (by rcases X.ovl_or (z := true) 4 l5 with h0 | ⟨n0, h0⟩ <;> simp only [h0] <;> rfl) rfl (GS.opsNil ?_)
  refine GS.endB ?_
  refine GS.nil ⟨_, rfl, ?_⟩
  refine X.norm (H' := [.rows 1 [(V.i height)], .rows 1 [(V.osl 7 0 (List.length l3))], lr R_3 .ready none, .rows 3 [(V.agg [(V.i Lo2), (V.i Hi1), (V.i Height2)])], .dead, .rows 3 [(V.agg [(V.i Lo2), (V.i Hi1), (V.i Height2)])], .rows 2 (List.map e_api_Span ([(⟨Lo2, Hi1⟩ : api_Span)])), .rows 2 (List.map e_api_Span l3)]) [(0, (V.yld 2)), (2, (V.fptr [(e_api_Span ((tide_stands w s).2))] 0 0)), (4, (V.fn 113 [(V.fptr [(e_api_Water y1.1)] 0 0), (V.fptr [(e_parts y1.2)] 0 0)])), (5, (V.ptr 3 0 0)), (6, (V.i t)), (7, (V.i y3)), (41, (V.b true))] ?_ rfl (sr rfl)
  refine X.q rfl (GS.opsNil ?_)
  refine GS.condF rfl (GS.skip (GS.region ?_))
  iterate 5 refine X.q rfl ?_
  refine X.op0W (H' := [.rows 1 [(V.i height)], .rows 1 [(V.osl 7 0 (List.length l3))], lr R_3 .ready none, .rows 3 [(V.agg [(V.i t), (V.i t), (V.i y3)])], .dead, .rows 3 [(V.agg [(V.i Lo2), (V.i Hi1), (V.i Height2)])], .rows 2 (List.map e_api_Span ([(⟨Lo2, Hi1⟩ : api_Span)])), .rows 2 (List.map e_api_Span l3)]) rfl rfl rfl (GS.opsNil ?_)
  refine GS.endB ?_
  exact X.gc [some 3, some 7] (hj_3 (t, y3, l3) hM) rfl rfl rfl (ga rfl rfl) (gb9 rfl rfl rfl (gb_box rfl rfl (rv_ne (app_ne h_20) rfl) (gb_loop hlow_3 rfl rfl rfl (gb9 rfl rfl rfl (gb_obl' 9 (app_ne h_20) rfl rfl (fun _ => rfl) gb_nil)))))
 replace hM := ite_f h_12 hM
 refine GS.exit rfl ?_
 obtain ⟨y_1, hM, hy⟩ := map_of hM
 rw [hr_1 _ hy.symm] at hM
 exact X.gc [some 3, some 4] (hj_1 (Lo2, Hi1, Height2, l5) hM) rfl rfl rfl (ga rfl rfl) (gb9 rfl rfl rfl (gb_box rfl rfl (rn_ovl rfl) (gb_loop hlow_3 rfl rfl rfl (gb9 rfl rfl rfl (gb_obl 9 rfl rfl (fun _ => rfl) gb_nil)))))
theorem ok_berth_Touch {h : api_Harbour} {id : Int} {draught : Int} {s : api_Span} {r : Int × Bool × Int} (hM : berth_Touch h id draught s = some r) : Ct Tryz.prog 11 [(e_api_Harbour h), (V.i id), (V.i draught), (e_api_Span s)] (V.tup [(V.i r.1), (V.b r.2.1), (V.i r.2.2)]) := by
 refine ct_of_gs CC_ok rfl ?_
 unfold berth_Touch at hM
 refine X.sq ?_
 iterate 2 refine X.opW rfl rfl rfl rfl ?_
 iterate 3 refine X.q rfl ?_
 refine GS.opsNil ?_
 iterate 2 refine GS.seq ?_
 obtain ⟨y, h_1, hM⟩ := bind_of hM
 refine GS.region (X.q rfl ?_)
 refine X.call (ok_berth_Check h_1) rfl rfl rfl (.cons (.shut (n := 9) rfl) .nil) (X.q rfl (X.nq (X.q rfl (X.q rfl ?_))))
 refine GS.opsNil ?_
 refine X.cond rfl (fun h_2 => ?_) (fun h_2 => ?_)
 ·replace hM := ite_t h_2 hM
  refine X.sq ?_
  iterate 4 refine X.q rfl ?_
  refine GS.opsNil ?_
  cases hM
  exact GS.ret ⟨_, rfl, ⟨30, rfl⟩⟩
 replace hM := ite_f h_2 hM
 refine GS.skip (GS.seq ?_)
 obtain ⟨y1, h_3, hM⟩ := bind_of hM
 refine GS.region (X.q rfl (X.q rfl (X.q rfl ?_)))
 refine X.call (ok_berth_first_api_Berth__berth_berthID h_3) rfl rfl rfl (.cons (.shut (n := 9) rfl) (.cons (.shut (n := 9) rfl) (.cons (.shut (n := 9) rfl) .nil))) (X.q rfl (GS.opsNil (GS.seq (X.sq (X.q rfl (X.q rfl ?_))))))
 refine GS.opsNil ?_
 refine X.cond rfl (fun h_4 => ?_) (fun h_4 => ?_)
 ·replace hM := ite_t h_4 hM
  refine X.sq (X.q rfl (X.q rfl (X.q rfl ?_)))
  refine GS.opsNil ?_
  cases hM
  exact GS.ret ⟨_, rfl, ⟨30, rfl⟩⟩
 replace hM := ite_f h_4 hM
 refine GS.skip (GS.seq (X.sq ?_))
 refine X.mid [(2, (V.i draught)), (4, (V.ptr 0 0 0)), (7, (V.ptr 1 0 0)), (12, (V.i y1)), (33, (V.b ((!(berth_within draught 0 8000)) || (!(berth_timed s)))))] ?_ ?_
 ·intro hg
  refine X.split (!(berth_within draught 0 8000)) (fun h_5 => ?_) (fun h_5 => ?_)
  ·refine X.q rfl ?_
   refine X.call (ok_berth_within draught 0 8000) rfl rfl rfl (.cons (.shut (n := 9) rfl) (.cons (.shut (n := 9) rfl) (.cons (.shut (n := 9) rfl) .nil))) (X.q rfl (X.q rfl ?_))
   iterate 3 refine X.off (X.off_f rfl rfl rfl h_5) rfl ?_
   refine X.opR rfl (X.pickor_t (y := !(berth_timed s)) rfl h_5 rfl) rfl (GS.opsNil ?_)
   exact X.norm _ hg rfl (sr rfl)
  refine X.q rfl ?_
  refine X.call (ok_berth_within draught 0 8000) rfl rfl rfl (.cons (.shut (n := 9) rfl) (.cons (.shut (n := 9) rfl) (.cons (.shut (n := 9) rfl) .nil))) (X.q rfl (X.q rfl ?_))
  refine X.opR (X.on_f rfl rfl rfl h_5) rfl rfl ?_
  refine X.call (ok_berth_timed s) (X.on_f rfl rfl rfl h_5) rfl rfl (.cons (.shut (n := 9) rfl) .nil) ?_
  refine X.opR (X.on_f rfl rfl rfl h_5) rfl rfl ?_
  refine X.opR rfl (X.pickor_f (y := !(berth_timed s)) rfl h_5 rfl) rfl (GS.opsNil ?_)
  exact X.norm _ hg rfl (sr rfl)
 refine X.cond rfl (fun h_6 => ?_) (fun h_6 => ?_)
 ·replace hM := ite_t h_6 hM
  refine X.sq (X.q rfl (X.q rfl (X.q rfl ?_)))
  refine GS.opsNil ?_
  cases hM
  exact GS.ret ⟨_, rfl, ⟨30, rfl⟩⟩
 replace hM := ite_f h_6 hM
 refine GS.skip (GS.seq ?_)
 obtain ⟨x, h_7, hM⟩ := bind_of hM
 obtain ⟨y2, h_8, hM⟩ := bind_of hM
 refine X.drawc (by kernel_rfl) rfl ?_
 iterate 7 refine X.cop rfl rfl rfl rfl ?_
 refine X.cop rfl (X.indexF (f := e_api_Berth) h_7 (fun _ => rfl) rfl rfl rfl rfl) rfl rfl ?_
 refine X.cop rfl (X.loadF h_7 rfl rfl rfl) rfl rfl ?_
 refine X.cop rfl rfl rfl rfl ?_
 refine X.ccall (ok_berth_needed h x draught) rfl rfl rfl rfl (.cons (.shut (n := 9) rfl) (.cons (.shut (n := 9) rfl) (.cons (.shut (n := 9) rfl) .nil))) ?_
 refine X.ccall (ok_tide_Windows h_8) rfl rfl rfl rfl (.cons (.shut (n := 9) rfl) (.cons (.shut (n := 9) rfl) (.cons (.shut (n := 9) rfl) .nil))) ?_
 iterate 5 refine X.cop rfl rfl rfl rfl ?_
 refine X.cnil ?_
 refine X.norm [(7, (V.ptr 1 0 0)), (13, (V.sl (List.map e_api_Span y2.1))), (14, (V.i y2.2))] ?_ rfl (sr rfl)
 refine GS.seq (GS.block (X.sq (X.q rfl (X.q rfl (X.q rfl ?_)))))
 refine GS.opsNil ?_
 refine X.cond rfl (fun h_9 => ?_) (fun h_9 => ?_)
 ·replace hM := ite_t h_9 hM
  refine X.sq ?_
  iterate 4 refine X.q rfl ?_
  refine GS.opsNil ?_
  cases hM
  exact GS.ret ⟨_, rfl, ⟨30, rfl⟩⟩
 replace hM := ite_f h_9 hM
 refine GS.seq ?_
 obtain ⟨x1, h_10, hM⟩ := gb_of hM
 refine X.mid [(7, (V.ptr 1 0 0)), (13, (V.sl (List.map e_api_Span y2.1))), (53, (V.b ((decide ((y2.1.length : Int) = 0)) || (decide (s.Lo < x1.Lo)))))] ?_ ?_
 ·intro hg
  refine X.split (decide ((y2.1.length : Int) = 0)) (fun h_11 => ?_) (fun h_11 => ?_)
  ·refine X.drawc (by kernel_rfl) rfl ?_
   refine X.cop rfl rfl rfl rfl ?_
   refine X.cop rfl (X.lenF rfl rfl rfl) rfl rfl ?_
   iterate 2 refine X.cop rfl rfl rfl rfl ?_
   iterate 7 refine X.coff (X.off_f rfl rfl rfl h_11) rfl rfl ?_
   refine X.cop rfl (X.pickor_t (y := decide (s.Lo < x1.Lo)) rfl h_11 rfl) rfl rfl ?_
   refine X.cop rfl rfl rfl rfl ?_
   refine X.cnil ?_
   exact X.norm _ hg rfl (sr rfl)
  refine X.drawc (by kernel_rfl) rfl ?_
  refine X.cop rfl rfl rfl rfl ?_
  refine X.cop rfl (X.lenF rfl rfl rfl) rfl rfl ?_
  iterate 2 refine X.cop rfl rfl rfl rfl ?_
  refine X.cop (X.on_f rfl rfl rfl h_11) rfl rfl rfl ?_
  refine X.cop (X.on_f rfl rfl rfl h_11) (X.indexF (f := e_api_Span) (h_10 (X.nt h_11)) (fun _ => rfl) rfl rfl rfl rfl) rfl rfl ?_
  refine X.cop (X.on_f rfl rfl rfl h_11) rfl rfl rfl ?_
  refine X.cop (X.on_f rfl rfl rfl h_11) (X.loadF (h_10 (X.nt h_11)) rfl rfl rfl) rfl rfl ?_
  iterate 3 refine X.cop (X.on_f rfl rfl rfl h_11) rfl rfl rfl ?_
  refine X.cop rfl (X.pickor_f (y := decide (s.Lo < x1.Lo)) rfl h_11 rfl) rfl rfl ?_
  refine X.cop rfl rfl rfl rfl ?_
  refine X.cnil ?_
  exact X.norm _ hg rfl (sr rfl)
 refine X.cond rfl (fun h_12 => ?_) (fun h_12 => ?_)
 ·replace hM := ite_t h_12 hM
  refine X.sq ?_
  iterate 5 refine X.q rfl ?_
  refine GS.opsNil ?_
  cases hM
  exact GS.ret ⟨_, rfl, ⟨30, rfl⟩⟩
 replace hM := ite_f h_12 hM
 refine GS.seq ?_
 obtain ⟨x2, h_13, hM⟩ := bind_of hM
 refine X.drawc (by kernel_rfl) rfl ?_
 refine X.cop rfl rfl rfl rfl ?_
 refine X.cop rfl (X.indexF (f := e_api_Span) h_13 (fun _ => rfl) rfl rfl rfl rfl) rfl rfl ?_
 refine X.cop rfl rfl rfl rfl ?_
 refine X.cop rfl (X.loadF h_13 rfl rfl rfl) rfl rfl ?_
 iterate 4 refine X.cop rfl rfl rfl rfl ?_
 refine X.cnil ?_
 refine X.norm [(13, (V.sl (List.map e_api_Span y2.1))), (68, (V.b (decide (x2.Hi < s.Hi))))] ?_ rfl (sr rfl)
 refine X.cond rfl (fun h_14 => ?_) (fun h_14 => ?_)
 ·replace hM := ite_t h_14 hM
  refine GS.seq ?_
  obtain ⟨x3, h_15, hM⟩ := bind_of hM
  refine GS.region (X.q rfl ?_)
  refine X.opR rfl (X.indexF (f := e_api_Span) h_15 (fun _ => rfl) rfl rfl rfl rfl) rfl (X.q rfl ?_)
  refine X.opR rfl (X.loadF h_15 rfl rfl rfl) rfl ?_
  refine X.opR rfl (X.addE rfl rfl) rfl (X.q rfl (X.q rfl (X.q rfl ?_)))
  refine GS.opsNil ?_
  cases hM
  exact GS.ret ⟨_, rfl, ⟨30, rfl⟩⟩
 replace hM := ite_f h_14 hM
 refine GS.skip ?_
 refine GS.endB (X.sq (X.q rfl (X.q rfl (X.q rfl ?_))))
 refine GS.opsNil ?_
 cases hM
 exact GS.ret ⟨_, rfl, ⟨30, rfl⟩⟩
theorem ok_law06_waiting {n : Int} {r : (List api_Call)} (hM : law06_waiting n = some r) : Ct Tryz.prog 39 [(V.i n)] (V.sl (List.map e_api_Call r)) := by
 refine ct_of_gs CC_ok rfl ?_
 unfold law06_waiting at hM
 refine X.sq (X.q rfl (X.nq (X.q rfl (GS.opsNil (GS.seq (X.sq (X.q rfl (GS.opsNil ?_))))))))
 refine X.join (τ := (List api_Call)) (fun v => law06_waiting_j1 v = some r) (fun v => ⟨[(3, (ovl 0 v))], [obl 5 e_api_Call v], 0, none, 17⟩) ?_ ?_
 ·intro l hM
  replace hM : law06_waiting_j1 l = some r := hM
  unfold law06_waiting_j1 at hM
  refine X.sq (X.q rfl (X.q rfl ?_))
  refine GS.opsNil ?_
  have hE := Option.some.inj hM
  subst hE
  exact GS.ret ⟨_, rfl, FR.ovl (f := e_api_Call) (l := l) 9 rfl rfl (fun _ => rfl)⟩
 intro hj_1
 refine GS.block ?_
 refine X.gc [none] (X.loop (σ := (Int × (List api_Call))) (fun v => ⟨[(0, (V.i n)), (3, (ovl 0 v.2)), (4, (V.i v.1))], [obl 5 e_api_Call v.2], 0, none, 17⟩) hM ?_ rfl) rfl rfl rfl (ga rfl rfl) (gb_pad' rfl gb_nil)
 rintro ⟨i, l2⟩ b_1 hM hc_2 hr_1
 rw [law06_waiting_b2] at hM
 refine GS.seq (X.sq (X.q rfl (X.q rfl (X.q rfl ?_))))
 refine GS.opsNil ?_
 refine X.cond rfl (fun h_1 => ?_) (fun h_1 => ?_)
 ·replace hM := ite_t h_1 hM
  refine GS.skip (GS.seq (GS.block ?_))
  obtain ⟨l1, h_2, hM⟩ := bind_of hM
  refine GS.region (X.q rfl (X.q rfl ?_))
  refine X.opR rfl (X.addE rfl rfl) rfl (X.q rfl ?_)
  refine X.opW rfl rfl rfl rfl ?_
  refine X.appN (f := e_api_Call) h_2 (fun _ => rfl) (by rfl) (by rfl) (by rfl) (by rfl) (by rfl) (by rfl) (by rfl) (by rfl) (by rfl) (by rfl) (by rfl) (by exact rfl) (by rfl) (by rfl) (X.q rfl (GS.opsNil ?_))
  refine GS.endB (GS.region (X.q rfl ?_))
  refine X.opR rfl (X.addE rfl rfl) rfl (X.q rfl (GS.opsNil ?_))
  have hE := Option.some.inj hM
  exact X.gc [some 2] (hc_2 (w64 (i + 1), l1) hE.symm) rfl rfl rfl (gk_cons rfl ⟨9, rfl⟩ (gk_cons rfl (rv_ne (app_ne h_2) rfl) (ga rfl rfl))) (gb_obl' 9 (app_ne h_2) rfl rfl (fun _ => rfl) gb_nil)
 replace hM := ite_f h_1 hM
 refine GS.exit rfl ?_
 obtain ⟨y_1, hM, hy⟩ := map_of hM
 rw [hr_1 _ hy.symm] at hM
 exact X.gc [some 0] (hj_1 l2 hM) rfl rfl rfl (gk_cons rfl (rn_ovl rfl) gk_nil) (gb_obl 9 rfl rfl (fun _ => rfl) gb_nil)
theorem ok_berth_right (c : api_Call) : Ct Tryz.prog 53 [(e_api_Call c)] (V.b (berth_right c)) := by
 refine ct_of_gs CC_ok rfl ?_
 generalize hM : berth_right c = r
 unfold berth_right at hM
 refine X.sq ?_
 refine X.opW rfl rfl rfl rfl (X.q rfl (X.nq ?_))
 refine X.mid [(2, (V.b ((((((berth_within c.ID 1 1099511627776) && (berth_within c.Draught 0 8000)) && (decide (0 ≤ c.From))) && (decide (c.From ≤ c.To))) && (decide (c.To ≤ 1048576))) && (berth_within c.Long 1 1440))))] ?_ ?_
 ·intro hg
  refine X.split ((berth_within c.ID 1 1099511627776)) (fun h_1 => ?_) (fun h_1 => ?_)
  ·refine X.split (((berth_within c.ID 1 1099511627776) && (berth_within c.Draught 0 8000))) (fun h_2 => ?_) (fun h_2 => ?_)
   ·refine X.split ((((berth_within c.ID 1 1099511627776) && (berth_within c.Draught 0 8000)) && (decide (0 ≤ c.From)))) (fun h_3 => ?_) (fun h_3 => ?_)
    ·refine X.split (((((berth_within c.ID 1 1099511627776) && (berth_within c.Draught 0 8000)) && (decide (0 ≤ c.From))) && (decide (c.From ≤ c.To)))) (fun h_4 => ?_) (fun h_4 => ?_)
     ·refine X.split ((((((berth_within c.ID 1 1099511627776) && (berth_within c.Draught 0 8000)) && (decide (0 ≤ c.From))) && (decide (c.From ≤ c.To))) && (decide (c.To ≤ 1048576)))) (fun h_5 => ?_) (fun h_5 => ?_)
      ·iterate 2 refine X.q rfl ?_
       refine X.call (ok_berth_within c.ID 1 1099511627776) rfl rfl rfl (.cons (.shut (n := 9) rfl) (.cons (.shut (n := 9) rfl) (.cons (.shut (n := 9) rfl) .nil))) (X.q rfl ?_)
       iterate 2 refine X.opR (X.on_t rfl rfl rfl h_1) rfl rfl ?_
       refine X.call (ok_berth_within c.Draught 0 8000) (X.on_t rfl rfl rfl h_1) rfl rfl (.cons (.shut (n := 9) rfl) (.cons (.shut (n := 9) rfl) (.cons (.shut (n := 9) rfl) .nil))) ?_
       refine X.opR rfl (X.pickand_t (y := (berth_within c.Draught 0 8000)) rfl h_1 rfl) rfl (X.q rfl ?_)
       iterate 3 refine X.opR (X.on_t rfl rfl rfl h_2) rfl rfl ?_
       refine X.opR rfl (X.pickand_t (y := decide (0 ≤ c.From)) rfl h_2 rfl) rfl (X.q rfl ?_)
       iterate 5 refine X.opR (X.on_t rfl rfl rfl h_3) rfl rfl ?_
       refine X.opR rfl (X.pickand_t (y := decide (c.From ≤ c.To)) rfl h_3 rfl) rfl (X.q rfl ?_)
       iterate 3 refine X.opR (X.on_t rfl rfl rfl h_4) rfl rfl ?_
       refine X.opR rfl (X.pickand_t (y := decide (c.To ≤ 1048576)) rfl h_4 rfl) rfl (X.q rfl ?_)
       iterate 2 refine X.opR (X.on_t rfl rfl rfl h_5) rfl rfl ?_
       refine X.call (ok_berth_within c.Long 1 1440) (X.on_t rfl rfl rfl h_5) rfl rfl (.cons (.shut (n := 9) rfl) (.cons (.shut (n := 9) rfl) (.cons (.shut (n := 9) rfl) .nil))) ?_
       refine X.opR rfl (X.pickand_t (y := (berth_within c.Long 1 1440)) rfl h_5 rfl) rfl (X.q rfl (GS.opsNil ?_))
       exact X.norm _ hg rfl (sr rfl)
      refine X.q rfl (X.q rfl ?_)
      refine X.call (ok_berth_within c.ID 1 1099511627776) rfl rfl rfl (.cons (.shut (n := 9) rfl) (.cons (.shut (n := 9) rfl) (.cons (.shut (n := 9) rfl) .nil))) (X.q rfl ?_)
      iterate 2 refine X.opR (X.on_t rfl rfl rfl h_1) rfl rfl ?_
      refine X.call (ok_berth_within c.Draught 0 8000) (X.on_t rfl rfl rfl h_1) rfl rfl (.cons (.shut (n := 9) rfl) (.cons (.shut (n := 9) rfl) (.cons (.shut (n := 9) rfl) .nil))) ?_
      refine X.opR rfl (X.pickand_t (y := (berth_within c.Draught 0 8000)) rfl h_1 rfl) rfl (X.q rfl ?_)
      iterate 3 refine X.opR (X.on_t rfl rfl rfl h_2) rfl rfl ?_
      refine X.opR rfl (X.pickand_t (y := decide (0 ≤ c.From)) rfl h_2 rfl) rfl (X.q rfl ?_)
      iterate 5 refine X.opR (X.on_t rfl rfl rfl h_3) rfl rfl ?_
      refine X.opR rfl (X.pickand_t (y := decide (c.From ≤ c.To)) rfl h_3 rfl) rfl (X.q rfl ?_)
      iterate 3 refine X.opR (X.on_t rfl rfl rfl h_4) rfl rfl ?_
      refine X.opR rfl (X.pickand_t (y := decide (c.To ≤ 1048576)) rfl h_4 rfl) rfl (X.q rfl ?_)
      iterate 3 refine X.off (X.off_t rfl rfl rfl h_5) rfl ?_
      refine X.opR rfl (X.pickand_f (y := (berth_within c.Long 1 1440)) rfl h_5 rfl) rfl (X.q rfl (GS.opsNil ?_))
      exact X.norm _ hg rfl (sr rfl)
     refine X.q rfl (X.q rfl ?_)
     refine X.call (ok_berth_within c.ID 1 1099511627776) rfl rfl rfl (.cons (.shut (n := 9) rfl) (.cons (.shut (n := 9) rfl) (.cons (.shut (n := 9) rfl) .nil))) (X.q rfl ?_)
     iterate 2 refine X.opR (X.on_t rfl rfl rfl h_1) rfl rfl ?_
     refine X.call (ok_berth_within c.Draught 0 8000) (X.on_t rfl rfl rfl h_1) rfl rfl (.cons (.shut (n := 9) rfl) (.cons (.shut (n := 9) rfl) (.cons (.shut (n := 9) rfl) .nil))) ?_
     refine X.opR rfl (X.pickand_t (y := (berth_within c.Draught 0 8000)) rfl h_1 rfl) rfl (X.q rfl ?_)
     iterate 3 refine X.opR (X.on_t rfl rfl rfl h_2) rfl rfl ?_
     refine X.opR rfl (X.pickand_t (y := decide (0 ≤ c.From)) rfl h_2 rfl) rfl (X.q rfl ?_)
     iterate 5 refine X.opR (X.on_t rfl rfl rfl h_3) rfl rfl ?_
     refine X.opR rfl (X.pickand_t (y := decide (c.From ≤ c.To)) rfl h_3 rfl) rfl (X.q rfl ?_)
     iterate 3 refine X.off (X.off_t rfl rfl rfl h_4) rfl ?_
     refine X.opR rfl (X.pickand_f (y := decide (c.To ≤ 1048576)) rfl h_4 rfl) rfl (X.q rfl ?_)
     iterate 3 refine X.off (X.off_t rfl rfl rfl (X.and_ff h_4)) rfl ?_
     refine X.opR rfl (X.pickand_f (y := (berth_within c.Long 1 1440)) rfl (X.and_ff h_4) rfl) rfl (X.q rfl (GS.opsNil ?_))
     exact X.norm _ hg rfl (sr rfl)
    refine X.q rfl (X.q rfl ?_)
    refine X.call (ok_berth_within c.ID 1 1099511627776) rfl rfl rfl (.cons (.shut (n := 9) rfl) (.cons (.shut (n := 9) rfl) (.cons (.shut (n := 9) rfl) .nil))) (X.q rfl ?_)
    iterate 2 refine X.opR (X.on_t rfl rfl rfl h_1) rfl rfl ?_
    refine X.call (ok_berth_within c.Draught 0 8000) (X.on_t rfl rfl rfl h_1) rfl rfl (.cons (.shut (n := 9) rfl) (.cons (.shut (n := 9) rfl) (.cons (.shut (n := 9) rfl) .nil))) ?_
    refine X.opR rfl (X.pickand_t (y := (berth_within c.Draught 0 8000)) rfl h_1 rfl) rfl (X.q rfl ?_)
    iterate 3 refine X.opR (X.on_t rfl rfl rfl h_2) rfl rfl ?_
    refine X.opR rfl (X.pickand_t (y := decide (0 ≤ c.From)) rfl h_2 rfl) rfl (X.q rfl ?_)
    iterate 5 refine X.off (X.off_t rfl rfl rfl h_3) rfl ?_
    refine X.opR rfl (X.pickand_f (y := decide (c.From ≤ c.To)) rfl h_3 rfl) rfl (X.q rfl ?_)
    iterate 3 refine X.off (X.off_t rfl rfl rfl (X.and_ff h_3)) rfl ?_
    refine X.opR rfl (X.pickand_f (y := decide (c.To ≤ 1048576)) rfl (X.and_ff h_3) rfl) rfl (X.q rfl ?_)
    iterate 3 refine X.off (X.off_t rfl rfl rfl (X.and_ff (X.and_ff h_3))) rfl ?_
    refine X.opR rfl (X.pickand_f (y := (berth_within c.Long 1 1440)) rfl (X.and_ff (X.and_ff h_3)) rfl) rfl (X.q rfl (GS.opsNil ?_))
    exact X.norm _ hg rfl (sr rfl)
   refine X.q rfl (X.q rfl ?_)
   refine X.call (ok_berth_within c.ID 1 1099511627776) rfl rfl rfl (.cons (.shut (n := 9) rfl) (.cons (.shut (n := 9) rfl) (.cons (.shut (n := 9) rfl) .nil))) (X.q rfl ?_)
   iterate 2 refine X.opR (X.on_t rfl rfl rfl h_1) rfl rfl ?_
   refine X.call (ok_berth_within c.Draught 0 8000) (X.on_t rfl rfl rfl h_1) rfl rfl (.cons (.shut (n := 9) rfl) (.cons (.shut (n := 9) rfl) (.cons (.shut (n := 9) rfl) .nil))) ?_
   refine X.opR rfl (X.pickand_t (y := (berth_within c.Draught 0 8000)) rfl h_1 rfl) rfl (X.q rfl ?_)
   iterate 3 refine X.off (X.off_t rfl rfl rfl h_2) rfl ?_
   refine X.opR rfl (X.pickand_f (y := decide (0 ≤ c.From)) rfl h_2 rfl) rfl (X.q rfl ?_)
   iterate 5 refine X.off (X.off_t rfl rfl rfl (X.and_ff h_2)) rfl ?_
   refine X.opR rfl (X.pickand_f (y := decide (c.From ≤ c.To)) rfl (X.and_ff h_2) rfl) rfl (X.q rfl ?_)
   iterate 3 refine X.off (X.off_t rfl rfl rfl (X.and_ff (X.and_ff h_2))) rfl ?_
   refine X.opR rfl (X.pickand_f (y := decide (c.To ≤ 1048576)) rfl (X.and_ff (X.and_ff h_2)) rfl) rfl (X.q rfl ?_)
   iterate 3 refine X.off (X.off_t rfl rfl rfl (X.and_ff (X.and_ff (X.and_ff h_2)))) rfl ?_
   refine X.opR rfl (X.pickand_f (y := (berth_within c.Long 1 1440)) rfl (X.and_ff (X.and_ff (X.and_ff h_2))) rfl) rfl (X.q rfl (GS.opsNil ?_))
   exact X.norm _ hg rfl (sr rfl)
  refine X.q rfl (X.q rfl ?_)
  refine X.call (ok_berth_within c.ID 1 1099511627776) rfl rfl rfl (.cons (.shut (n := 9) rfl) (.cons (.shut (n := 9) rfl) (.cons (.shut (n := 9) rfl) .nil))) (X.q rfl ?_)
  iterate 3 refine X.off (X.off_t rfl rfl rfl h_1) rfl ?_
  refine X.opR rfl (X.pickand_f (y := (berth_within c.Draught 0 8000)) rfl h_1 rfl) rfl (X.q rfl ?_)
  iterate 3 refine X.off (X.off_t rfl rfl rfl (X.and_ff h_1)) rfl ?_
  refine X.opR rfl (X.pickand_f (y := decide (0 ≤ c.From)) rfl (X.and_ff h_1) rfl) rfl (X.q rfl ?_)
  iterate 5 refine X.off (X.off_t rfl rfl rfl (X.and_ff (X.and_ff h_1))) rfl ?_
  refine X.opR rfl (X.pickand_f (y := decide (c.From ≤ c.To)) rfl (X.and_ff (X.and_ff h_1)) rfl) rfl (X.q rfl ?_)
  iterate 3 refine X.off (X.off_t rfl rfl rfl (X.and_ff (X.and_ff (X.and_ff h_1)))) rfl ?_
  refine X.opR rfl (X.pickand_f (y := decide (c.To ≤ 1048576)) rfl (X.and_ff (X.and_ff (X.and_ff h_1))) rfl) rfl (X.q rfl ?_)
  iterate 3 refine X.off (X.off_t rfl rfl rfl (X.and_ff (X.and_ff (X.and_ff (X.and_ff h_1))))) rfl ?_
  refine X.opR rfl (X.pickand_f (y := (berth_within c.Long 1 1440)) rfl (X.and_ff (X.and_ff (X.and_ff (X.and_ff h_1)))) rfl) rfl (X.q rfl (GS.opsNil ?_))
  exact X.norm _ hg rfl (sr rfl)
 subst hM
 exact GS.ret ⟨_, rfl, ⟨30, rfl⟩⟩
theorem ok_berth_slot {h : api_Harbour} {x : api_Slot} {r : api_Berth × Bool} (hM : berth_slot h x = some r) : Ct Tryz.prog 57 [(e_api_Harbour h), (e_api_Slot x)] (V.tup [(e_api_Berth r.1), (V.b r.2)]) := by
 refine ct_of_gs CC_ok rfl ?_
 unfold berth_slot at hM
 refine X.sq ?_
 iterate 3 refine X.opW rfl rfl rfl rfl ?_
 refine X.q rfl (GS.opsNil (GS.seq ?_))
 obtain ⟨y, h_1, hM⟩ := bind_of hM
 refine GS.region ?_
 iterate 4 refine X.q rfl ?_
 refine X.call (ok_berth_first_api_Berth__berth_berthID h_1) rfl rfl rfl (.cons (.shut (n := 9) rfl) (.cons (.shut (n := 9) rfl) (.cons (.shut (n := 9) rfl) .nil))) (X.q rfl (GS.opsNil (GS.seq (X.sq ?_))))
 refine X.mid [(2, (V.ptr 0 0 0)), (4, (V.ptr 2 0 0)), (6, (V.i y)), (23, (V.b ((decide (y < 0)) || (!(berth_within x.Tide 0 (w64 ((h.Tides.length : Int) - 1)))))))] ?_ ?_
 ·intro hg
  refine X.split (decide (y < 0)) (fun h_2 => ?_) (fun h_2 => ?_)
  ·iterate 3 refine X.q rfl ?_
   iterate 8 refine X.off (X.off_f rfl rfl rfl h_2) rfl ?_
   refine X.opR rfl (X.pickor_t (y := !(berth_within x.Tide 0 (w64 ((h.Tides.length : Int) - 1)))) rfl h_2 rfl) rfl (GS.opsNil ?_)
   exact X.norm _ hg rfl (sr rfl)
  iterate 3 refine X.q rfl ?_
  iterate 4 refine X.opR (X.on_f rfl rfl rfl h_2) rfl rfl ?_
  refine X.opR (X.on_f rfl rfl rfl h_2) (X.lenF rfl rfl rfl) rfl ?_
  refine X.opR (X.on_f rfl rfl rfl h_2) (X.subE rfl rfl) rfl ?_
  refine X.call (ok_berth_within x.Tide 0 (w64 ((h.Tides.length : Int) - 1))) (X.on_f rfl rfl rfl h_2) rfl rfl (.cons (.shut (n := 9) rfl) (.cons (.shut (n := 9) rfl) (.cons (.shut (n := 9) rfl) .nil))) ?_
  refine X.opR (X.on_f rfl rfl rfl h_2) rfl rfl ?_
  refine X.opR rfl (X.pickor_f (y := !(berth_within x.Tide 0 (w64 ((h.Tides.length : Int) - 1)))) rfl h_2 rfl) rfl (GS.opsNil ?_)
  exact X.norm _ hg rfl (sr rfl)
 refine X.cond rfl (fun h_3 => ?_) (fun h_3 => ?_)
 ·replace hM := ite_t h_3 hM
  refine X.sq (X.q rfl ?_)
  refine X.op0W rfl rfl rfl (X.q rfl (GS.opsNil ?_))
  cases hM
  exact GS.ret ⟨_, rfl, ⟨30, rfl⟩⟩
 replace hM := ite_f h_3 hM
 refine GS.skip (GS.seq ?_)
 obtain ⟨x1, h_4, hM⟩ := bind_of hM
 refine GS.region (X.q rfl (X.q rfl (X.q rfl ?_)))
 refine X.opR rfl (X.indexF (f := e_api_Berth) h_4 (fun _ => rfl) rfl rfl rfl rfl) rfl ?_
 refine X.opR rfl (X.loadF h_4 rfl rfl rfl) rfl ?_
 refine X.op0W rfl rfl rfl (X.q rfl (GS.opsNil ?_))
 cases hM
 exact GS.ret ⟨_, rfl, ⟨30, rfl⟩⟩
theorem ok_tide_Next {w : api_Water} {s : api_Span} {height : Int} {long : Int} {r : api_Span × Int} (hM : tide_Next w s height long = some r) : Ct Tryz.prog 98 [(e_api_Water w), (e_api_Span s), (V.i height), (V.i long)] (V.tup [(e_api_Span r.1), (V.i r.2)]) := by
 refine ct_of_gs CC_ok rfl ?_
 unfold tide_Next at hM
 refine X.sq ?_
 iterate 3 refine X.opW rfl rfl rfl rfl ?_
 refine X.q rfl (GS.opsNil (GS.seq ?_))
 obtain ⟨y, h_1, hM⟩ := bind_of hM
 refine GS.region (X.q rfl (X.q rfl (X.q rfl ?_)))
 refine X.call (ok_tide_Windows h_1) rfl rfl rfl (.cons (.shut (n := 9) rfl) (.cons (.shut (n := 9) rfl) (.cons (.shut (n := 9) rfl) .nil))) ?_
 iterate 5 refine X.q rfl ?_
 refine GS.opsNil (GS.seq (X.sq (X.q rfl (X.q rfl ?_))))
 refine GS.opsNil ?_
 refine X.cond rfl (fun h_2 => ?_) (fun h_2 => ?_)
 ·replace hM := ite_t h_2 hM
  refine X.sq (X.q rfl (X.q rfl ?_))
  refine X.op0W rfl rfl rfl (X.q rfl (GS.opsNil ?_))
  cases hM
  exact GS.ret ⟨_, rfl, ⟨30, rfl⟩⟩
 replace hM := ite_f h_2 hM
 refine GS.skip (GS.seq (X.sq (X.q rfl (X.q rfl ?_))))
 refine GS.opsNil ?_
 refine X.cond rfl (fun h_3 => ?_) (fun h_3 => ?_)
 ·replace hM := ite_t h_3 hM
  refine X.sq (X.q rfl ?_)
  refine X.op0W rfl rfl rfl (X.q rfl (GS.opsNil ?_))
  cases hM
  exact GS.ret ⟨_, rfl, ⟨30, rfl⟩⟩
 replace hM := ite_f h_3 hM
 refine GS.skip (GS.seq (X.sq (X.q rfl ?_)))
 refine X.opR rfl (X.lenF rfl rfl rfl) rfl (X.q rfl (GS.opsNil ?_))
 refine X.join (τ := Unit) (fun v => tide_Next_j1 = some r) (fun v => ⟨[(8, (V.ptr 0 0 0))], [.rows 2 [(V.agg [(V.i 0), (V.i 0)])]], 0, none, 45⟩) ?_ ?_
 ·intro _ hM
  replace hM : tide_Next_j1 = some r := hM
  unfold tide_Next_j1 at hM
  refine X.sq (X.q rfl ?_)
  refine X.op0W rfl rfl rfl (X.q rfl (GS.opsNil ?_))
  cases hM
  exact GS.ret ⟨_, rfl, ⟨30, rfl⟩⟩
 intro hj_1
 refine GS.block ?_
 refine X.gc [some 2] (X.loop (σ := Int) (fun v => ⟨[(3, (V.i long)), (8, (V.ptr 0 0 0)), (28, (V.sl (List.map e_api_Span y.1))), (29, (V.i (y.1.length : Int))), (30, (V.i v))], [.rows 2 [(V.agg [(V.i 0), (V.i 0)])]], 0, none, 45⟩) hM ?_ rfl) rfl rfl rfl (ga rfl rfl) (gb9 rfl rfl rfl gb_nil)
 intro x1 b_1 hM hc_2 hr_1
 rw [tide_Next_b2] at hM
 refine X.sq (X.q rfl (GS.opsNil (GS.seq ?_)))
 refine X.cond rfl (fun h_4 => ?_) (fun h_4 => ?_)
 ·replace hM := ite_t h_4 hM
  refine GS.skip (GS.seq (GS.block (GS.seq ?_)))
  obtain ⟨x, h_5, hM⟩ := bind_of hM
  refine GS.region ?_
  refine X.opR rfl (X.indexF (f := e_api_Span) h_5 (fun _ => rfl) rfl rfl rfl rfl) rfl ?_
  refine X.opR rfl (X.loadF h_5 rfl rfl rfl) rfl ?_
  refine X.opW rfl rfl rfl rfl ?_
  refine X.op0W rfl rfl rfl (X.nq ?_)
  iterate 4 refine X.q rfl ?_
  refine X.opR rfl (X.subE rfl rfl) rfl (X.q rfl ?_)
  refine X.opR rfl (X.subE rfl rfl) rfl (X.q rfl (GS.opsNil ?_))
  refine X.cond rfl (fun h_6 => ?_) (fun h_6 => ?_)
  ·replace hM := ite_t h_6 hM
   refine X.sq (X.q rfl ?_)
   refine X.op0W rfl rfl rfl (X.q rfl (GS.opsNil ?_))
   have hE := Option.some.inj hM
   replace hE := hr_1 _ hE.symm
   subst hE
   exact GS.ret ⟨_, rfl, ⟨30, rfl⟩⟩
  replace hM := ite_f h_6 hM
  refine GS.skip ?_
  refine GS.endB (GS.region ?_)
  refine X.opR rfl (X.addE rfl rfl) rfl (X.q rfl (GS.opsNil ?_))
  have hE := Option.some.inj hM
  exact X.gc [some 0] (hc_2 (w64 (x1 + 1)) hE.symm) rfl rfl rfl (ga rfl rfl) (gb9 rfl rfl rfl gb_nil)
 replace hM := ite_f h_4 hM
 refine GS.exit rfl ?_
 obtain ⟨y_1, hM, hy⟩ := map_of hM
 rw [hr_1 _ hy.symm] at hM
 exact X.gc [some 0] (hj_1 () hM) rfl rfl rfl (ga rfl rfl) (gb9 rfl rfl rfl gb_nil)
theorem ok_berth_when {h : api_Harbour} {c : api_Call} {x : api_Slot} {b : api_Berth} {r : api_Span × Bool} (hM : berth_when h c x b = some r) : Ct Tryz.prog 58 [(e_api_Harbour h), (e_api_Call c), (e_api_Slot x), (e_api_Berth b)] (V.tup [(e_api_Span r.1), (V.b r.2)]) := by
 refine ct_of_gs CC_ok rfl ?_
 unfold berth_when at hM
 refine X.sq ?_
 iterate 3 refine X.opW rfl rfl rfl rfl ?_
 refine X.opW (H' := [.rows 6 [(e_api_Harbour h)], .rows 5 [(e_api_Call c)], .rows 2 [(e_api_Slot x)], .rows 2 [(e_api_Berth b)]]) rfl rfl rfl rfl ?_
 refine X.opW (H' := [.rows 6 [(e_api_Harbour h)], .rows 5 [(e_api_Call c)], .rows 2 [(e_api_Slot x)], .rows 2 [(e_api_Berth b)], .rows 2 [(V.agg [(V.i 0), (V.i 0)])]]) rfl rfl rfl rfl (X.q rfl (GS.opsNil (GS.seq ?_)))
 obtain ⟨x1, h_1, hM⟩ := bind_of hM
 refine GS.region ?_
 iterate 4 refine X.q rfl ?_
 refine X.opR rfl (X.indexF (f := e_api_Span) h_1 (fun _ => rfl) rfl rfl rfl rfl) rfl ?_
 refine X.opR rfl (X.loadF h_1 rfl rfl rfl) rfl ?_
 refine X.opW (H' := [.rows 6 [(e_api_Harbour h)], .rows 5 [(e_api_Call c)], .rows 2 [(e_api_Slot x)], .rows 2 [(e_api_Berth b)], .rows 2 [(V.agg [(V.i 0), (V.i 0)])], .rows 2 [(V.agg [(V.i 0), (V.i 0)])]]) rfl rfl rfl rfl ?_
 refine X.op0W (H' := [.rows 6 [(e_api_Harbour h)], .rows 5 [(e_api_Call c)], .rows 2 [(e_api_Slot x)], .rows 2 [(e_api_Berth b)], .rows 2 [(V.agg [(V.i 0), (V.i 0)])], .rows 2 [(e_api_Span x1)]]) rfl rfl rfl (X.nq ?_)
 iterate 4 refine X.q rfl ?_
 refine X.opR rfl (X.maxE rfl rfl) rfl ?_
 iterate 4 refine X.q rfl ?_
 refine X.opR rfl (X.minE rfl rfl) rfl (X.q rfl ?_)
 refine X.opW (H' := [.rows 6 [(e_api_Harbour h)], .rows 5 [(e_api_Call c)], .rows 2 [(e_api_Slot x)], .rows 2 [(e_api_Berth b)], .rows 2 [(V.agg [(V.i 0), (V.i 0)])], .rows 2 [(e_api_Span x1)], .rows 2 [(V.agg [(V.i 0), (V.i 0)])]]) rfl rfl rfl rfl ?_
 refine X.op0W (H' := [.rows 6 [(e_api_Harbour h)], .rows 5 [(e_api_Call c)], .rows 2 [(e_api_Slot x)], .rows 2 [(e_api_Berth b)], .rows 2 [(V.agg [(V.i 0), (V.i 0)])], .rows 2 [(e_api_Span x1)], .rows 2 [(V.agg [(V.i (max x1.Lo c.From)), (V.i (min x1.Hi c.To))])]]) rfl rfl rfl (GS.opsNil (GS.seq (X.sq ?_)))
 iterate 5 refine X.q rfl ?_
 refine GS.opsNil ?_
 refine X.cond rfl (fun h_2 => ?_) (fun h_2 => ?_)
 ·replace hM := ite_t h_2 hM
  refine X.sq (X.q rfl ?_)
  refine X.op0W (H' := [.rows 6 [(e_api_Harbour h)], .rows 5 [(e_api_Call c)], .rows 2 [(e_api_Slot x)], .rows 2 [(e_api_Berth b)], .rows 2 [(V.agg [(V.i 0), (V.i 0)])], .rows 2 [(e_api_Span x1)], .rows 2 [(V.agg [(V.i (max x1.Lo c.From)), (V.i (min x1.Hi c.To))])]]) rfl rfl rfl (X.q rfl (GS.opsNil ?_))
  cases hM
  exact GS.ret ⟨_, rfl, ⟨30, rfl⟩⟩
 replace hM := ite_f h_2 hM
 refine GS.skip (GS.seq ?_)
 obtain ⟨y, h_3, hM⟩ := bind_of hM
 refine X.draw (by kernel_rfl) ?_
 iterate 7 refine X.dop rfl rfl rfl rfl (by kernel_rfl) rfl rfl ?_
 refine X.dcall (ok_berth_needed h b c.Draught) rfl rfl rfl (by kernel_rfl) rfl (.cons (.shut (n := 9) rfl) (.cons (.shut (n := 9) rfl) (.cons (.shut (n := 9) rfl) .nil))) ?_
 iterate 2 refine X.dop rfl rfl rfl rfl (by kernel_rfl) rfl rfl ?_
 refine X.dcall (ok_tide_Next h_3) rfl rfl rfl (by kernel_rfl) rfl (.cons (.shut (n := 9) rfl) (.cons (.shut (n := 9) rfl) (.cons (.shut (n := 9) rfl) (.cons (.shut (n := 9) rfl) .nil)))) ?_
 iterate 4 refine X.dop rfl rfl rfl rfl (by kernel_rfl) rfl rfl ?_
 refine X.dop0 rfl rfl rfl rfl (by kernel_rfl) rfl ?_
 refine X.dop rfl rfl rfl rfl (by kernel_rfl) rfl rfl ?_
 refine X.dnil ?_
 refine X.norm [(5, (V.ptr 1 0 0)), (8, (V.ptr 4 0 0)), (12, (V.ptr 7 0 0)), (13, (V.i y.2))] ?_ rfl (sr rfl)
 refine GS.seq (X.sq (X.q rfl (X.q rfl ?_)))
 refine GS.opsNil ?_
 refine X.cond rfl (fun h_4 => ?_) (fun h_4 => ?_)
 ·replace hM := ite_t h_4 hM
  refine X.sq (X.q rfl ?_)
  refine X.op0W (H' := [.rows 6 [(e_api_Harbour h)], .rows 5 [(e_api_Call c)], .rows 2 [(e_api_Slot x)], .rows 2 [(e_api_Berth b)], .rows 2 [(V.agg [(V.i 0), (V.i 0)])], .rows 2 [(e_api_Span x1)], .rows 2 [(V.agg [(V.i (max x1.Lo c.From)), (V.i (min x1.Hi c.To))])], .rows 2 [(e_api_Span y.1)]]) rfl rfl rfl (X.q rfl (GS.opsNil ?_))
  cases hM
  exact GS.ret ⟨_, rfl, ⟨30, rfl⟩⟩
 replace hM := ite_f h_4 hM
 refine GS.skip (X.sq ?_)
 iterate 6 refine X.q rfl ?_
 refine X.opR rfl (X.addE rfl rfl) rfl ?_
 refine X.opR rfl (X.subE rfl rfl) rfl (X.q rfl ?_)
 refine X.op0W (H' := [.rows 6 [(e_api_Harbour h)], .rows 5 [(e_api_Call c)], .rows 2 [(e_api_Slot x)], .rows 2 [(e_api_Berth b)], .rows 2 [(V.agg [(V.i y.1.Lo), (V.i (w64 ((w64 (y.1.Lo + c.Long)) - 1)))])], .rows 2 [(e_api_Span x1)], .rows 2 [(V.agg [(V.i (max x1.Lo c.From)), (V.i (min x1.Hi c.To))])], .rows 2 [(e_api_Span y.1)]]) rfl rfl rfl (X.q rfl (GS.opsNil ?_))
 cases hM
 exact GS.ret ⟨_, rfl, ⟨30, rfl⟩⟩
theorem ok_berth_When {h : api_Harbour} {c : api_Call} {x : api_Slot} {r : api_Span × Bool × Int} (hM : berth_When h c x = some r) : Ct Tryz.prog 17 [(e_api_Harbour h), (e_api_Call c), (e_api_Slot x)] (V.tup [(e_api_Span r.1), (V.b r.2.1), (V.i r.2.2)]) := by
 refine ct_of_gs CC_ok rfl ?_
 unfold berth_When at hM
 refine X.sq ?_
 iterate 3 refine X.opW rfl rfl rfl rfl ?_
 refine X.opW (H' := [.rows 6 [(e_api_Harbour h)], .rows 5 [(e_api_Call c)], .rows 2 [(e_api_Slot x)], .rows 2 [(V.agg [(V.i 0), (V.i 0)])]]) rfl rfl rfl rfl (X.q rfl (X.q rfl ?_))
 refine GS.opsNil ?_
 iterate 2 refine GS.seq ?_
 obtain ⟨y, h_1, hM⟩ := bind_of hM
 refine GS.region (X.q rfl ?_)
 refine X.call (ok_berth_Check h_1) rfl rfl rfl (.cons (.shut (n := 9) rfl) .nil) (X.q rfl (X.nq (X.q rfl (X.q rfl ?_))))
 refine GS.opsNil ?_
 refine X.cond rfl (fun h_2 => ?_) (fun h_2 => ?_)
 ·replace hM := ite_t h_2 hM
  refine X.sq (X.q rfl (X.q rfl ?_))
  refine X.op0W (H' := [.rows 6 [(e_api_Harbour h)], .rows 5 [(e_api_Call c)], .rows 2 [(e_api_Slot x)], .rows 2 [(V.agg [(V.i 0), (V.i 0)])]]) rfl rfl rfl (X.q rfl (X.q rfl ?_))
  refine GS.opsNil ?_
  cases hM
  exact GS.ret ⟨_, rfl, ⟨30, rfl⟩⟩
 replace hM := ite_f h_2 hM
 refine GS.skip (GS.seq (X.sq (X.q rfl ?_)))
 refine X.call (ok_berth_right c) rfl rfl rfl (.cons (.shut (n := 9) rfl) .nil) (X.q rfl (GS.opsNil ?_))
 refine X.cond rfl (fun h_3 => ?_) (fun h_3 => ?_)
 ·replace hM := ite_t h_3 hM
  refine X.sq (X.q rfl ?_)
  refine X.op0W (H' := [.rows 6 [(e_api_Harbour h)], .rows 5 [(e_api_Call c)], .rows 2 [(e_api_Slot x)], .rows 2 [(V.agg [(V.i 0), (V.i 0)])]]) rfl rfl rfl (X.q rfl (X.q rfl ?_))
  refine GS.opsNil ?_
  cases hM
  exact GS.ret ⟨_, rfl, ⟨30, rfl⟩⟩
 replace hM := ite_f h_3 hM
 refine GS.skip (GS.seq ?_)
 obtain ⟨y1, h_4, hM⟩ := bind_of hM
 refine GS.region (X.q rfl (X.q rfl ?_))
 refine X.call (ok_berth_slot h_4) rfl rfl rfl (.cons (.shut (n := 9) rfl) (.cons (.shut (n := 9) rfl) .nil)) (X.q rfl (X.q rfl (X.q rfl ?_)))
 refine X.opW (H' := [.rows 6 [(e_api_Harbour h)], .rows 5 [(e_api_Call c)], .rows 2 [(e_api_Slot x)], .rows 2 [(V.agg [(V.i 0), (V.i 0)])], .rows 2 [(V.agg [(V.i 0), (V.i 0)])]]) rfl rfl rfl rfl ?_
 refine X.op0W (H' := [.rows 6 [(e_api_Harbour h)], .rows 5 [(e_api_Call c)], .rows 2 [(e_api_Slot x)], .rows 2 [(V.agg [(V.i 0), (V.i 0)])], .rows 2 [(e_api_Berth y1.1)]]) rfl rfl rfl (X.q rfl (GS.opsNil (GS.seq (X.sq (X.q rfl (X.q rfl ?_))))))
 refine GS.opsNil ?_
 refine X.cond rfl (fun h_5 => ?_) (fun h_5 => ?_)
 ·replace hM := ite_t h_5 hM
  refine X.sq (X.q rfl ?_)
  refine X.op0W (H' := [.rows 6 [(e_api_Harbour h)], .rows 5 [(e_api_Call c)], .rows 2 [(e_api_Slot x)], .rows 2 [(V.agg [(V.i 0), (V.i 0)])], .rows 2 [(e_api_Berth y1.1)]]) rfl rfl rfl (X.q rfl (X.q rfl ?_))
  refine GS.opsNil ?_
  cases hM
  exact GS.ret ⟨_, rfl, ⟨30, rfl⟩⟩
 replace hM := ite_f h_5 hM
 refine GS.skip (GS.seq ?_)
 obtain ⟨y2, h_6, hM⟩ := bind_of hM
 refine GS.region ?_
 iterate 4 refine X.q rfl ?_
 refine X.call (ok_berth_when h_6) rfl rfl rfl (.cons (.shut (n := 9) rfl) (.cons (.shut (n := 9) rfl) (.cons (.shut (n := 9) rfl) (.cons (.shut (n := 9) rfl) .nil)))) (X.q rfl (X.q rfl (X.q rfl ?_)))
 refine X.opW (H' := [.rows 6 [(e_api_Harbour h)], .rows 5 [(e_api_Call c)], .rows 2 [(e_api_Slot x)], .rows 2 [(V.agg [(V.i 0), (V.i 0)])], .rows 2 [(e_api_Berth y1.1)], .rows 2 [(V.agg [(V.i 0), (V.i 0)])]]) rfl rfl rfl rfl ?_
 refine X.op0W (H' := [.rows 6 [(e_api_Harbour h)], .rows 5 [(e_api_Call c)], .rows 2 [(e_api_Slot x)], .rows 2 [(V.agg [(V.i 0), (V.i 0)])], .rows 2 [(e_api_Berth y1.1)], .rows 2 [(e_api_Span y2.1)]]) rfl rfl rfl (X.q rfl (X.nq (X.q rfl (X.q rfl ?_))))
 refine X.op0W (H' := [.rows 6 [(e_api_Harbour h)], .rows 5 [(e_api_Call c)], .rows 2 [(e_api_Slot x)], .rows 2 [(e_api_Span y2.1)], .rows 2 [(e_api_Berth y1.1)], .rows 2 [(e_api_Span y2.1)]]) rfl rfl rfl (X.q rfl (X.q rfl ?_))
 refine GS.opsNil ?_
 cases hM
 exact GS.ret ⟨_, rfl, ⟨30, rfl⟩⟩
theorem ok_berth_Allow_1 {draught : Int} {c : api_Harbour} {c1 : Int} {c2 : api_Slot} {c3 : api_Berth} {r : Bool} (hM : berth_Allow_1 draught c c1 c2 c3 = some r) : Ct Tryz.prog 61 [(V.i draught), (V.fptr [(e_api_Harbour c)] 0 0), (V.fptr [(V.i c1)] 0 0), (V.fptr [(e_api_Slot c2)] 0 0), (V.fptr [(e_api_Berth c3)] 0 0)] (V.b r) := by
 refine ct_of_gs CC_ok rfl ?_
 unfold berth_Allow_1 at hM
 refine X.sq (X.q rfl (GS.opsNil (GS.seq ?_)))
 obtain ⟨y, h_1, hM⟩ := bind_of hM
 refine GS.region ?_
 iterate 6 refine X.q rfl ?_
 refine X.call (ok_berth_when h_1) rfl rfl rfl (.cons (.shut (n := 9) rfl) (.cons (.shut (n := 9) rfl) (.cons (.shut (n := 9) rfl) (.cons (.shut (n := 9) rfl) .nil)))) (X.q rfl (X.q rfl (X.q rfl ?_)))
 refine X.opW rfl rfl rfl rfl ?_
 refine X.op0W rfl rfl rfl (X.q rfl (X.nq (X.q rfl (X.q rfl ?_))))
 refine GS.opsNil ?_
 cases hM
 exact GS.ret ⟨_, rfl, ⟨30, rfl⟩⟩
theorem ok_berth_Allow {h : api_Harbour} {x : api_Slot} {long : Int} {r : Int × Int} (hM : berth_Allow h x long = some r) : Ct Tryz.prog 19 [(e_api_Harbour h), (e_api_Slot x), (V.i long)] (V.tup [(V.i r.1), (V.i r.2)]) := by
 refine ct_of_gs CC_ok rfl ?_
 unfold berth_Allow at hM
 refine X.sq ?_
 iterate 3 refine X.opW rfl rfl rfl rfl ?_
 refine X.q rfl (X.q rfl ?_)
 refine GS.opsNil ?_
 iterate 2 refine GS.seq ?_
 obtain ⟨y, h_1, hM⟩ := bind_of hM
 refine GS.region (X.q rfl ?_)
 refine X.call (ok_berth_Check h_1) rfl rfl rfl (.cons (.shut (n := 9) rfl) .nil) (X.q rfl (X.nq (X.q rfl (X.q rfl ?_))))
 refine GS.opsNil ?_
 refine X.cond rfl (fun h_2 => ?_) (fun h_2 => ?_)
 ·replace hM := ite_t h_2 hM
  refine X.sq (X.q rfl (X.q rfl (X.q rfl ?_)))
  refine GS.opsNil ?_
  cases hM
  exact GS.ret ⟨_, rfl, ⟨30, rfl⟩⟩
 replace hM := ite_f h_2 hM
 refine GS.skip (GS.seq ?_)
 obtain ⟨y1, h_3, hM⟩ := bind_of hM
 refine GS.region (X.q rfl (X.q rfl ?_))
 refine X.call (ok_berth_slot h_3) rfl rfl rfl (.cons (.shut (n := 9) rfl) (.cons (.shut (n := 9) rfl) .nil)) (X.q rfl (X.q rfl (X.q rfl ?_)))
 refine X.opW (H' := [.rows 6 [(e_api_Harbour h)], .rows 2 [(e_api_Slot x)], .rows 1 [(V.i long)], .rows 2 [(V.agg [(V.i 0), (V.i 0)])]]) rfl rfl rfl rfl ?_
 refine X.op0W (H' := [.rows 6 [(e_api_Harbour h)], .rows 2 [(e_api_Slot x)], .rows 1 [(V.i long)], .rows 2 [(e_api_Berth y1.1)]]) rfl rfl rfl (X.q rfl (GS.opsNil (GS.seq (GS.block (X.sq (X.q rfl (X.q rfl (X.q rfl ?_))))))))
 refine GS.opsNil ?_
 refine X.cond rfl (fun h_4 => ?_) (fun h_4 => ?_)
 ·replace hM := ite_t h_4 hM
  refine X.sq (X.q rfl (X.q rfl ?_))
  refine GS.opsNil ?_
  cases hM
  exact GS.ret ⟨_, rfl, ⟨30, rfl⟩⟩
 replace hM := ite_f h_4 hM
 refine X.sq (X.q rfl ?_)
 refine X.call (ok_berth_within long 1 1440) rfl rfl rfl (.cons (.shut (n := 9) rfl) (.cons (.shut (n := 9) rfl) (.cons (.shut (n := 9) rfl) .nil))) (X.q rfl (X.q rfl ?_))
 refine GS.opsNil ?_
 refine X.cond rfl (fun h_5 => ?_) (fun h_5 => ?_)
 ·replace hM := ite_t h_5 hM
  refine X.sq (X.q rfl (X.q rfl ?_))
  refine GS.opsNil ?_
  cases hM
  exact GS.ret ⟨_, rfl, ⟨30, rfl⟩⟩
 replace hM := ite_f h_5 hM
 refine GS.skip ?_
 refine GS.endB (X.sq (X.q rfl (X.q rfl ?_)))
 refine GS.opsNil ?_
 iterate 2 refine GS.seq ?_
 obtain ⟨y2, h_6, hM⟩ := bind_of hM
 refine GS.region (X.q rfl ?_)
 refine X.callF (ok_berth_Allow_1 h_6) rfl rfl rfl (m := 9) rfl (.cons (.shut (n := 9) rfl) (.cons (FR.arg ⟨30, rfl⟩) (.cons (FR.arg ⟨30, rfl⟩) (.cons (FR.arg ⟨30, rfl⟩) (.cons (FR.arg ⟨30, rfl⟩) .nil))))) (X.q rfl (GS.opsNil ?_))
 refine X.cond rfl (fun h_7 => ?_) (fun h_7 => ?_)
 ·replace hM := ite_t h_7 hM
  refine X.sq (X.q rfl (X.q rfl ?_))
  refine GS.opsNil ?_
  cases hM
  exact GS.ret ⟨_, rfl, ⟨30, rfl⟩⟩
 replace hM := ite_f h_7 hM
 refine GS.skip (X.sq (X.q rfl (X.q rfl ?_)))
 refine GS.opsNil (GS.seq ?_)
 refine X.join (τ := Int) (fun v => berth_Allow_j1 v = some r) (fun v => ⟨[(12, (V.i v))], [], 0, none, 52⟩) ?_ ?_
 ·intro lo hM
  replace hM : berth_Allow_j1 lo = some r := hM
  unfold berth_Allow_j1 at hM
  refine X.sq (X.q rfl (X.q rfl (X.q rfl ?_)))
  refine GS.opsNil ?_
  cases hM
  exact GS.ret ⟨_, rfl, ⟨30, rfl⟩⟩
 intro hj_1
 refine GS.block ?_
 refine X.gc [some 0, some 2, some 1, some 3] (X.loop (σ := (Int × Int)) (fun v => ⟨[(11, (V.fn 61 [(V.ptr 0 0 0), (V.ptr 1 0 0), (V.ptr 2 0 0), (V.ptr 3 0 0)])), (12, (V.i v.1)), (13, (V.i v.2))], [.rows 6 [(e_api_Harbour h)], .rows 1 [(V.i long)], .rows 2 [(e_api_Slot x)], .rows 2 [(e_api_Berth y1.1)]], 0, none, 52⟩) hM ?_ rfl) rfl rfl rfl (ga rfl rfl) (gb9 rfl rfl rfl (gb9 rfl rfl rfl (gb9 rfl rfl rfl (gb9 rfl rfl rfl gb_nil))))
 rintro ⟨lo2, hi1⟩ b_1 hM hc_2 hr_1
 rw [berth_Allow_b2] at hM
 refine GS.seq (X.sq (X.q rfl (X.q rfl (X.q rfl ?_))))
 refine GS.opsNil ?_
 refine X.cond rfl (fun h_8 => ?_) (fun h_8 => ?_)
 ·replace hM := ite_t h_8 hM
  refine GS.skip ?_
  refine X.join (τ := Int × Int) (fun v => berth_Allow_j3 v.1 v.2 = some b_1) (fun v => ⟨[(11, (V.fn 61 [(V.ptr 0 0 0), (V.ptr 1 0 0), (V.ptr 2 0 0), (V.ptr 3 0 0)])), (12, (V.i v.1)), (13, (V.i v.2))], [.rows 6 [(e_api_Harbour h)], .rows 1 [(V.i long)], .rows 2 [(e_api_Slot x)], .rows 2 [(e_api_Berth y1.1)]], 0, none, 52⟩) ?_ ?_
  ·rintro ⟨lo1, hi⟩ hM
   replace hM : berth_Allow_j3 lo1 hi = some b_1 := hM
   unfold berth_Allow_j3 at hM
   have hE := Option.some.inj hM
   exact X.gc [some 0, some 1, some 2, some 3] (hc_2 (lo1, hi) hE.symm) rfl rfl rfl (ga rfl rfl) (gb9 rfl rfl rfl (gb9 rfl rfl rfl (gb9 rfl rfl rfl (gb9 rfl rfl rfl gb_nil))))
  intro hj_3
  refine GS.block (GS.seq ?_)
  obtain ⟨q, h_9, hM⟩ := bind_of hM
  refine GS.region (X.q rfl (X.q rfl ?_))
  iterate 2 refine X.opR rfl (X.addE rfl rfl) rfl ?_
  refine X.opR rfl (X.quoE h_9 rfl rfl) rfl (X.q rfl (GS.opsNil (GS.seq ?_)))
  obtain ⟨y3, h_10, hM⟩ := bind_of hM
  refine GS.region (X.q rfl (X.q rfl ?_))
  refine X.callF (ok_berth_Allow_1 h_10) rfl rfl rfl (m := 9) rfl (.cons (.shut (n := 9) rfl) (.cons (FR.arg ⟨30, rfl⟩) (.cons (FR.arg ⟨30, rfl⟩) (.cons (FR.arg ⟨30, rfl⟩) (.cons (FR.arg ⟨30, rfl⟩) .nil))))) (GS.opsNil ?_)
  refine X.cond rfl (fun h_11 => ?_) (fun h_11 => ?_)
  ·replace hM := ite_t h_11 hM
   refine GS.region (X.q rfl (X.q rfl ?_))
   refine GS.opsNil ?_
   refine GS.endB ?_
   exact X.gc [some 0, some 1, some 2, some 3] (hj_3 (q, hi1) hM) rfl rfl rfl (ga rfl rfl) (gb9 rfl rfl rfl (gb9 rfl rfl rfl (gb9 rfl rfl rfl (gb9 rfl rfl rfl gb_nil))))
  replace hM := ite_f h_11 hM
  refine GS.region (X.q rfl ?_)
  refine X.opR rfl (X.subE rfl rfl) rfl (X.q rfl (GS.opsNil ?_))
  refine GS.endB ?_
  exact X.gc [some 0, some 1, some 2, some 3] (hj_3 (lo2, w64 (q - 1)) hM) rfl rfl rfl (ga rfl rfl) (gb9 rfl rfl rfl (gb9 rfl rfl rfl (gb9 rfl rfl rfl (gb9 rfl rfl rfl gb_nil))))
 replace hM := ite_f h_8 hM
 refine GS.exit rfl ?_
 obtain ⟨y_1, hM, hy⟩ := map_of hM
 rw [hr_1 _ hy.symm] at hM
 exact X.gc [] (hj_1 lo2 hM) rfl rfl rfl (ga rfl rfl) (gb_nil)
theorem ok_berth_callID (c : api_Call) : Ct Tryz.prog 55 [(e_api_Call c)] (V.i (berth_callID c)) := by
 refine ct_of_gs CC_ok rfl ?_
 generalize hM : berth_callID c = r
 unfold berth_callID at hM
 refine X.sq ?_
 refine X.opW rfl rfl rfl rfl (X.q rfl (X.nq (X.q rfl (X.q rfl (X.q rfl ?_)))))
 refine GS.opsNil ?_
 subst hM
 exact GS.ret ⟨_, rfl, ⟨30, rfl⟩⟩
theorem ok_berth_first_api_Call_1__berth_callID (x : api_Call) (c : Int) : Ct Tryz.prog 97 [(e_api_Call x), (V.fptr [(V.fn 55 [])] 0 0), (V.fptr [(V.i c)] 0 0)] (V.b (berth_first_api_Call_1__berth_callID x c)) := by
 refine ct_of_gs CC_ok rfl ?_
 generalize hM : berth_first_api_Call_1__berth_callID x c = r
 unfold berth_first_api_Call_1__berth_callID at hM
 refine X.sq ?_
 refine X.opW rfl rfl rfl rfl (X.q rfl (GS.opsNil (GS.seq ?_)))
 refine X.drawc (by kernel_rfl) rfl ?_
 iterate 2 refine X.cop rfl rfl rfl rfl ?_
 refine X.ccall (ok_berth_callID x) rfl rfl rfl rfl (.cons (.shut (n := 9) rfl) .nil) ?_
 iterate 3 refine X.cop rfl rfl rfl rfl ?_
 refine X.cnil ?_
 refine X.norm [(4, (V.b (decide ((berth_callID x) = c))))] ?_ rfl (sr rfl)
 subst hM
 exact GS.ret ⟨_, rfl, ⟨30, rfl⟩⟩
theorem ok_slices_IndexFunc_api_Call__berth_first_api_Call_1__berth_callID {s : (List api_Call)} {c : Int} {r : Int} (hM : slices_IndexFunc_api_Call__berth_first_api_Call_1__berth_callID s c = some r) : Ct Tryz.prog 96 [(V.sl (List.map e_api_Call s)), (V.fn 97 [(V.fptr [(V.fn 55 [])] 0 0), (V.fptr [(V.i c)] 0 0)])] (V.i r) := by
 refine ct_of_gs CC_ok rfl ?_
 unfold slices_IndexFunc_api_Call__berth_first_api_Call_1__berth_callID at hM
 refine X.sq (X.q rfl (GS.opsNil (GS.seq (X.sq (X.q rfl ?_)))))
 refine X.opR rfl (X.lenF rfl rfl rfl) rfl (X.q rfl (GS.opsNil ?_))
 refine X.join (τ := Unit) (fun v => slices_IndexFunc_api_Call__berth_first_api_Call_1__berth_callID_j1 = some r) (fun v => ⟨[], [], 0, none, 19⟩) ?_ ?_
 ·intro _ hM
  replace hM : slices_IndexFunc_api_Call__berth_first_api_Call_1__berth_callID_j1 = some r := hM
  unfold slices_IndexFunc_api_Call__berth_first_api_Call_1__berth_callID_j1 at hM
  refine X.sq (X.q rfl (GS.opsNil ?_))
  cases hM
  exact GS.ret ⟨_, rfl, ⟨30, rfl⟩⟩
 intro hj_1
 refine GS.block ?_
 refine X.gc [] (X.loop (σ := Int) (fun v => ⟨[(0, (V.sl (List.map e_api_Call s))), (1, (V.fn 97 [(V.fptr [(V.fn 55 [])] 0 0), (V.fptr [(V.i c)] 0 0)])), (7, (V.i (s.length : Int))), (8, (V.i v))], [], 0, none, 19⟩) hM ?_ rfl) rfl rfl rfl (ga rfl rfl) (gb_nil)
 intro x1 b_1 hM hc_2 hr_1
 rw [slices_IndexFunc_api_Call__berth_first_api_Call_1__berth_callID_b2] at hM
 refine X.sq (X.q rfl (GS.opsNil (GS.seq ?_)))
 refine X.cond rfl (fun h_1 => ?_) (fun h_1 => ?_)
 ·replace hM := ite_t h_1 hM
  refine GS.skip (GS.seq (GS.block (X.sq (X.q rfl (X.q rfl ?_)))))
  refine GS.opsNil (GS.seq ?_)
  obtain ⟨x, h_2, hM⟩ := bind_of hM
  refine GS.region (X.q rfl (X.q rfl (X.q rfl ?_)))
  refine X.opR rfl (X.indexF (f := e_api_Call) h_2 (fun _ => rfl) rfl rfl rfl rfl) rfl ?_
  refine X.opR rfl (X.loadF h_2 rfl rfl rfl) rfl ?_
  refine X.call (ok_berth_first_api_Call_1__berth_callID x c) rfl rfl rfl (.cons (.shut (n := 9) rfl) (.cons (.shut (n := 9) rfl) (.cons (.shut (n := 9) rfl) .nil))) (GS.opsNil ?_)
  refine X.cond rfl (fun h_3 => ?_) (fun h_3 => ?_)
  ·replace hM := ite_t h_3 hM
   refine X.sq (X.q rfl (X.q rfl ?_))
   refine GS.opsNil ?_
   have hE := Option.some.inj hM
   replace hE := hr_1 _ hE.symm
   subst hE
   exact GS.ret ⟨_, rfl, ⟨30, rfl⟩⟩
  replace hM := ite_f h_3 hM
  refine GS.skip ?_
  refine GS.endB (GS.region ?_)
  refine X.opR rfl (X.addE rfl rfl) rfl (X.q rfl (GS.opsNil ?_))
  have hE := Option.some.inj hM
  exact X.gc [] (hc_2 (w64 (x1 + 1)) hE.symm) rfl rfl rfl (ga rfl rfl) (gb_nil)
 replace hM := ite_f h_1 hM
 refine GS.exit rfl ?_
 obtain ⟨y_1, hM, hy⟩ := map_of hM
 rw [hr_1 _ hy.symm] at hM
 exact X.gc [] (hj_1 () hM) rfl rfl rfl (gk_nil) (gb_nil)
theorem ok_berth_first_api_Call__berth_callID {l : (List api_Call)} {id : Int} {r : Int} (hM : berth_first_api_Call__berth_callID l id = some r) : Ct Tryz.prog 54 [(V.sl (List.map e_api_Call l)), (V.i id), (V.fn 55 [])] (V.i r) := by
 refine ct_of_gs CC_ok rfl ?_
 unfold berth_first_api_Call__berth_callID at hM
 refine X.sq ?_
 iterate 2 refine X.opW rfl rfl rfl rfl ?_
 refine X.q rfl (GS.opsNil (GS.seq ?_))
 obtain ⟨y, h_1, hM⟩ := bind_of hM
 refine GS.region (X.q rfl (X.q rfl ?_))
 refine X.callF (ok_slices_IndexFunc_api_Call__berth_first_api_Call_1__berth_callID h_1) rfl rfl rfl (m := 9) rfl (.cons (.shut (n := 9) rfl) (.cons (FR.arg ⟨30, rfl⟩) .nil)) (X.q rfl (GS.opsNil ?_))
 cases hM
 exact GS.ret ⟨_, rfl, ⟨30, rfl⟩⟩
theorem ok_berth_CheckCalls {h : api_Harbour} {l : (List api_Call)} {r : Int} (hM : berth_CheckCalls h l = some r) : Ct Tryz.prog 15 [(e_api_Harbour h), (V.sl (List.map e_api_Call l))] (V.i r) := by
 refine ct_of_gs CC_ok rfl ?_
 unfold berth_CheckCalls at hM
 refine X.sq ?_
 refine X.opW rfl rfl rfl rfl (X.q rfl (GS.opsNil ?_))
 iterate 2 refine GS.seq ?_
 obtain ⟨y, h_1, hM⟩ := bind_of hM
 refine GS.region (X.q rfl ?_)
 refine X.call (ok_berth_Check h_1) rfl rfl rfl (.cons (.shut (n := 9) rfl) .nil) (X.q rfl (X.nq (X.q rfl (X.q rfl ?_))))
 refine GS.opsNil ?_
 refine X.cond rfl (fun h_2 => ?_) (fun h_2 => ?_)
 ·replace hM := ite_t h_2 hM
  refine X.sq (X.q rfl (X.q rfl ?_))
  refine GS.opsNil ?_
  cases hM
  exact GS.ret ⟨_, rfl, ⟨30, rfl⟩⟩
 replace hM := ite_f h_2 hM
 refine GS.skip (GS.seq (X.sq (X.q rfl ?_)))
 refine X.opR rfl (X.lenF rfl rfl rfl) rfl (X.q rfl (GS.opsNil ?_))
 refine X.cond rfl (fun h_3 => ?_) (fun h_3 => ?_)
 ·replace hM := ite_t h_3 hM
  refine X.sq (X.q rfl (GS.opsNil ?_))
  cases hM
  exact GS.ret ⟨_, rfl, ⟨30, rfl⟩⟩
 replace hM := ite_f h_3 hM
 refine GS.skip (GS.seq (X.sq (X.q rfl ?_)))
 refine X.opR rfl (X.lenF rfl rfl rfl) rfl (X.q rfl (GS.opsNil ?_))
 refine X.join (τ := Unit) (fun v => berth_CheckCalls_j1 = some r) (fun v => ⟨[], [], 0, none, 33⟩) ?_ ?_
 ·intro _ hM
  replace hM : berth_CheckCalls_j1 = some r := hM
  unfold berth_CheckCalls_j1 at hM
  refine X.sq (X.q rfl (GS.opsNil ?_))
  cases hM
  exact GS.ret ⟨_, rfl, ⟨30, rfl⟩⟩
 intro hj_1
 refine GS.block ?_
 refine X.gc [] (X.loop (σ := Int) (fun v => ⟨[(1, (V.sl (List.map e_api_Call l))), (16, (V.sl (List.map e_api_Call l))), (17, (V.i (l.length : Int))), (18, (V.i v))], [], 0, none, 33⟩) hM ?_ rfl) rfl rfl rfl (ga rfl rfl) (gb_nil)
 intro x1 b_1 hM hc_2 hr_1
 rw [berth_CheckCalls_b2] at hM
 refine X.sq (X.q rfl (GS.opsNil (GS.seq ?_)))
 refine X.cond rfl (fun h_4 => ?_) (fun h_4 => ?_)
 ·replace hM := ite_t h_4 hM
  refine GS.skip (GS.seq (GS.block (GS.seq ?_)))
  obtain ⟨x, h_5, hM⟩ := bind_of hM
  refine GS.region (X.q rfl ?_)
  refine X.opR rfl (X.indexF (f := e_api_Call) h_5 (fun _ => rfl) rfl rfl rfl rfl) rfl ?_
  refine X.opR rfl (X.loadF h_5 rfl rfl rfl) rfl ?_
  refine X.opW rfl rfl rfl rfl (X.q rfl ?_)
  refine X.op0W rfl rfl rfl (GS.opsNil (GS.seq (X.sq (X.q rfl ?_))))
  refine X.call (ok_berth_right x) rfl rfl rfl (.cons (.shut (n := 9) rfl) .nil) (X.q rfl (GS.opsNil ?_))
  refine X.cond rfl (fun h_6 => ?_) (fun h_6 => ?_)
  ·replace hM := ite_t h_6 hM
   refine X.sq (X.q rfl (GS.opsNil ?_))
   have hE := Option.some.inj hM
   replace hE := hr_1 _ hE.symm
   subst hE
   exact GS.ret ⟨_, rfl, ⟨30, rfl⟩⟩
  replace hM := ite_f h_6 hM
  refine GS.skip (GS.seq ?_)
  obtain ⟨y1, h_7, hM⟩ := bind_of hM
  refine GS.region (X.q rfl (X.q rfl (X.q rfl ?_)))
  refine X.call (ok_berth_first_api_Call__berth_callID h_7) rfl rfl rfl (.cons (.shut (n := 9) rfl) (.cons (.shut (n := 9) rfl) (.cons (.shut (n := 9) rfl) .nil))) (X.q rfl (X.q rfl ?_))
  refine GS.opsNil ?_
  refine X.cond rfl (fun h_8 => ?_) (fun h_8 => ?_)
  ·replace hM := ite_t h_8 hM
   refine X.sq (X.q rfl (GS.opsNil ?_))
   have hE := Option.some.inj hM
   replace hE := hr_1 _ hE.symm
   subst hE
   exact GS.ret ⟨_, rfl, ⟨30, rfl⟩⟩
  replace hM := ite_f h_8 hM
  refine GS.skip ?_
  refine GS.endB (GS.region ?_)
  refine X.opR rfl (X.addE rfl rfl) rfl (X.q rfl (GS.opsNil ?_))
  have hE := Option.some.inj hM
  exact X.gc [] (hc_2 (w64 (x1 + 1)) hE.symm) rfl rfl rfl (ga rfl rfl) (gb_nil)
 replace hM := ite_f h_4 hM
 refine GS.exit rfl ?_
 obtain ⟨y_1, hM, hy⟩ := map_of hM
 rw [hr_1 _ hy.symm] at hM
 exact X.gc [] (hj_1 () hM) rfl rfl rfl (gk_nil) (gb_nil)
abbrev e_api_Stay (x : api_Stay) : V := .agg [(V.i x.Call), (V.i x.Slot.Tide), (V.i x.Slot.Berth), (V.i x.Span.Lo), (V.i x.Span.Hi)]
theorem ok_berth_slots (h : api_Harbour) : Ct Tryz.prog 99 [(e_api_Harbour h)] (V.fn 120 [(V.fptr [(e_api_Harbour (berth_slots h))] 0 0)]) := by
 refine ct_of_gs CC_ok rfl ?_
 generalize hM : berth_slots h = r
 unfold berth_slots at hM
 refine X.sq ?_
 refine X.opW rfl rfl rfl rfl (X.q rfl (X.nq (X.q rfl (X.q rfl ?_))))
 refine GS.opsNil ?_
 subst hM
 exact GS.ret ⟨_, rfl, ⟨30, rfl⟩⟩
theorem key_api_Slot (a b : api_Slot) : keyEq (e_api_Slot a) (e_api_Slot b) = some (decide (a = b)) := by
 have h : keyEq (e_api_Slot a) (e_api_Slot b) = some (decide ([(IntKind.i64, a.Tide), (IntKind.i64, a.Berth)] = [(IntKind.i64, b.Tide), (IntKind.i64, b.Berth)])) := rfl
 rw [h]
 congr 1
 cases a
 cases b
 simp
set_option maxHeartbeats 4000000 in
theorem ok_berth_taken {h : api_Harbour} {c : api_Call} {r : (List api_Slot) × (List (api_Slot × api_Span))} (hM : berth_taken h c = some r) : Ct Tryz.prog 62 [(e_api_Harbour h), (e_api_Call c)] (V.tup [(V.sl (List.map e_api_Slot r.1)), (V.fmap (List.map (fun p : api_Slot × api_Span => e_api_Slot p.1) r.2) (List.map (fun p : api_Slot × api_Span => e_api_Span p.2) r.2))]) := by
 refine ct_of_gs CC_ok rfl ?_
 unfold berth_taken at hM
 refine X.sq ?_
 iterate 2 refine X.opW rfl rfl rfl rfl ?_
 refine X.q rfl (X.q rfl ?_)
 refine X.nq ?_
 refine X.opW rfl rfl rfl rfl (X.nq ?_)
 refine X.opW (H' := [.rows 6 [(e_api_Harbour h)], .rows 5 [(e_api_Call c)], .rows 1 [V.nil], .map (List.map (fun p : api_Slot × api_Span => e_api_Slot p.1) []) (List.map (fun p : api_Slot × api_Span => e_api_Span p.2) [])]) rfl rfl rfl rfl ?_
 refine X.opW (H' := [.rows 6 [(e_api_Harbour h)], .rows 5 [(e_api_Call c)], .rows 1 [V.nil], .map (List.map (fun p : api_Slot × api_Span => e_api_Slot p.1) []) (List.map (fun p : api_Slot × api_Span => e_api_Span p.2) []), .rows 1 [(V.lit (.map none))]]) rfl rfl rfl rfl ?_
 refine X.op0W (H' := [.rows 6 [(e_api_Harbour h)], .rows 5 [(e_api_Call c)], .rows 1 [V.nil], .map (List.map (fun p : api_Slot × api_Span => e_api_Slot p.1) []) (List.map (fun p : api_Slot × api_Span => e_api_Span p.2) []), .rows 1 [(V.map 3)]]) rfl rfl rfl (GS.opsNil (GS.seq (X.sq (X.q rfl ?_))))
 refine X.call (ok_berth_slots h) rfl rfl rfl (.cons (.shut (n := 9) rfl) .nil) (GS.opsNil (GS.block ?_))
 refine X.gc [some 0, some 1, some 2, some 4, some 3] (H' := [.rows 6 [(e_api_Harbour h)], .rows 5 [(e_api_Call c)], .rows 1 [V.nil], .rows 1 [(V.map 4)], .map (List.map (fun p : api_Slot × api_Span => e_api_Slot p.1) []) (List.map (fun p : api_Slot × api_Span => e_api_Span p.2) [])]) (K' := [(2, (V.ptr 0 0 0)), (3, (V.ptr 1 0 0)), (6, (V.ptr 2 0 0)), (7, (V.ptr 3 0 0)), (14, (V.fn 120 [(V.fptr [(e_api_Harbour (berth_slots h))] 0 0)]))]) ?_ rfl rfl rfl (ga rfl rfl) (gb9 rfl rfl rfl (gb9 rfl rfl rfl (gb9 rfl rfl rfl (gb9 rfl rfl rfl (X.gb_mapK 9 rfl rfl (fun _ => rfl) (fun _ => rfl) gb_nil)))))
 refine X.range rfl rfl (lowK_cons ⟨9, rfl⟩ (lowK_cons ⟨9, rfl⟩ (lowK_cons ⟨9, rfl⟩ (lowK_cons ⟨9, rfl⟩ (lowK_cons ⟨9, rfl⟩ lowK_nil))))) rfl ?_
 intro R_1 hrn_1 hrK_1 hrp_1 hra_1 hrb_1 hlow_1
 refine X.sq (X.q rfl (X.q rfl ?_))
 refine X.opR rfl (X.lenF rfl rfl rfl) rfl (X.q rfl (GS.opsNil (GS.block ?_)))
 refine X.gc [none] (X.loop (σ := (Int × (List api_Slot) × (List (api_Slot × api_Span)))) (fun v => ⟨[(0, (V.yld 5)), (1, (V.fptr [(e_api_Harbour (berth_slots h))] 0 0)), (8, (V.i (((berth_slots h).Tides).length : Int))), (9, (V.i v.1))], [.rows 6 [(e_api_Harbour h)], .rows 5 [(e_api_Call c)], .rows 1 [(ovl 6 v.2.1)], .rows 1 [(V.map 4)], .map (List.map (fun p : api_Slot × api_Span => e_api_Slot p.1) v.2.2) (List.map (fun p : api_Slot × api_Span => e_api_Span p.2) v.2.2), lr R_1 .ready none, obl 2 e_api_Slot v.2.1], 0, none, 29⟩) hM ?_ rfl) rfl rfl rfl (ga rfl rfl) (gb9 rfl rfl rfl (gb9 rfl rfl rfl (gb9 rfl rfl rfl (gb9 rfl rfl rfl (X.gb_mapK 9 rfl rfl (fun _ => rfl) (fun _ => rfl) (gb_loop hlow_1 rfl rfl rfl (gb_pad' rfl gb_nil)))))))
 rintro ⟨x2, l2, m1⟩ b_1 hM hc_1 hr_1
 rw [berth_taken_b1] at hM
 refine X.sq (X.q rfl (GS.opsNil (GS.seq ?_)))
 refine X.cond rfl (fun h_2 => ?_) (fun h_2 => ?_)
 ·replace hM := ite_t h_2 hM
  refine GS.skip (GS.seq (GS.block (X.sq (X.q rfl (X.q rfl ?_)))))
  refine X.nq (X.q rfl (X.q rfl ?_))
  refine X.opR rfl (X.lenF rfl rfl rfl) rfl (X.q rfl (GS.opsNil ?_))
  refine X.join (τ := (List api_Slot) × (List (api_Slot × api_Span))) (fun v => berth_taken_j2 x2 v.1 v.2 = some b_1) (fun v => ⟨[(0, (V.yld 5)), (1, (V.fptr [(e_api_Harbour (berth_slots h))] 0 0)), (8, (V.i (((berth_slots h).Tides).length : Int))), (9, (V.i x2))], [.rows 6 [(e_api_Harbour h)], .rows 5 [(e_api_Call c)], .rows 1 [(ovl 6 v.1)], .rows 1 [(V.map 4)], .map (List.map (fun p : api_Slot × api_Span => e_api_Slot p.1) v.2) (List.map (fun p : api_Slot × api_Span => e_api_Span p.2) v.2), lr R_1 .ready none, obl 2 e_api_Slot v.1], 0, none, 29⟩) ?_ ?_
  ·rintro ⟨l, m⟩ hM
   replace hM : berth_taken_j2 x2 l m = some b_1 := hM
   unfold berth_taken_j2 at hM
   refine GS.endB (GS.region ?_)
   refine X.opR rfl (X.addE rfl rfl) rfl (X.q rfl (GS.opsNil ?_))
   have hE := Option.some.inj hM
   exact X.gc [some 6] (hc_1 (w64 (x2 + 1), l, m) hE.symm) rfl rfl rfl (ga rfl rfl) (gb9 rfl rfl rfl (gb9 rfl rfl rfl (gb_box rfl rfl (rn_ovl rfl) (gb9 rfl rfl rfl (X.gb_mapK 9 rfl rfl (fun _ => rfl) (fun _ => rfl) (gb_loop hlow_1 rfl rfl rfl (gb_obl 9 rfl rfl (fun _ => rfl) gb_nil)))))))
  intro hj_2
  refine GS.block ?_
  refine X.gc [some 6] (X.loop (σ := (Int × (List api_Slot) × (List (api_Slot × api_Span)))) (fun v => ⟨[(0, (V.yld 5)), (1, (V.fptr [(e_api_Harbour (berth_slots h))] 0 0)), (3, (V.i x2)), (8, (V.i (((berth_slots h).Tides).length : Int))), (9, (V.i x2)), (13, (V.sl (List.map e_api_Berth ((berth_slots h).Berths)))), (14, (V.i (((berth_slots h).Berths).length : Int))), (15, (V.i v.1))], [.rows 6 [(e_api_Harbour h)], .rows 5 [(e_api_Call c)], .rows 1 [(ovl 6 v.2.1)], .rows 1 [(V.map 4)], .map (List.map (fun p : api_Slot × api_Span => e_api_Slot p.1) v.2.2) (List.map (fun p : api_Slot × api_Span => e_api_Span p.2) v.2.2), lr R_1 .ready none, obl 2 e_api_Slot v.2.1], 0, none, 29⟩) hM ?_ rfl) rfl rfl rfl (ga rfl rfl) (gb9 rfl rfl rfl (gb9 rfl rfl rfl (gb_box rfl rfl (rn_ovl rfl) (gb9 rfl rfl rfl (X.gb_mapK 9 rfl rfl (fun _ => rfl) (fun _ => rfl) (gb_loop hlow_1 rfl rfl rfl (gb_obl 9 rfl rfl (fun _ => rfl) gb_nil)))))))
  rintro ⟨x1, l3, m2⟩ b_2 hM hc_3 hr_2
  rw [berth_taken_b3] at hM
  refine X.sq (X.q rfl (GS.opsNil (GS.seq ?_)))
  refine X.cond rfl (fun h_3 => ?_) (fun h_3 => ?_)
  ·replace hM := ite_t h_3 hM
   refine GS.skip (GS.seq (GS.block (GS.seq ?_)))
   obtain ⟨x, h_4, hM⟩ := bind_of hM
   refine GS.region ?_
   refine X.opR rfl (X.indexF (f := e_api_Berth) h_4 (fun _ => rfl) rfl rfl rfl rfl) rfl ?_
   refine X.opR rfl (X.loadF h_4 rfl rfl rfl) rfl ?_
   refine X.opW (H' := [.rows 6 [(e_api_Harbour h)], .rows 5 [(e_api_Call c)], .rows 1 [(ovl 6 l3)], .rows 1 [(V.map 4)], .map (List.map (fun p : api_Slot × api_Span => e_api_Slot p.1) m2) (List.map (fun p : api_Slot × api_Span => e_api_Span p.2) m2), lr R_1 .ready none, obl 2 e_api_Slot l3, .rows 2 [(V.agg [(V.i 0), (V.i 0)])]]) rfl rfl rfl rfl ?_
   refine X.op0W (H' := [.rows 6 [(e_api_Harbour h)], .rows 5 [(e_api_Call c)], .rows 1 [(ovl 6 l3)], .rows 1 [(V.map 4)], .map (List.map (fun p : api_Slot × api_Span => e_api_Slot p.1) m2) (List.map (fun p : api_Slot × api_Span => e_api_Span p.2) m2), lr R_1 .ready none, obl 2 e_api_Slot l3, .rows 2 [(e_api_Berth x)]]) rfl rfl rfl (X.nq ?_)
   iterate 6 refine X.q rfl ?_
   refine X.yld hrn_1 hrK_1 hrp_1 hra_1 hrb_1 rfl rfl rfl rfl rfl rfl (X.sq ?_)
   refine X.opW (H' := [.rows 6 [(e_api_Harbour h)], .rows 5 [(e_api_Call c)], .rows 1 [(ovl 6 l3)], .rows 1 [(V.map 4)], .map (List.map (fun p : api_Slot × api_Span => e_api_Slot p.1) m2) (List.map (fun p : api_Slot × api_Span => e_api_Span p.2) m2), lr R_1 .ready none, obl 2 e_api_Slot l3, .rows 2 [(e_api_Berth x)], .rows 2 [(V.agg [(V.i 0), (V.i 0)])]]) rfl rfl rfl rfl ?_
   refine X.op0W (H' := [.rows 6 [(e_api_Harbour h)], .rows 5 [(e_api_Call c)], .rows 1 [(ovl 6 l3)], .rows 1 [(V.map 4)], .map (List.map (fun p : api_Slot × api_Span => e_api_Slot p.1) m2) (List.map (fun p : api_Slot × api_Span => e_api_Span p.2) m2), lr R_1 .ready none, obl 2 e_api_Slot l3, .rows 2 [(e_api_Berth x)], .rows 2 [(V.agg [(V.i x2), (V.i x.ID)])]]) rfl rfl rfl (X.mq ?_)
   refine X.opW (H' := [.rows 6 [(e_api_Harbour h)], .rows 5 [(e_api_Call c)], .rows 1 [(ovl 6 l3)], .rows 1 [(V.map 4)], .map (List.map (fun p : api_Slot × api_Span => e_api_Slot p.1) m2) (List.map (fun p : api_Slot × api_Span => e_api_Span p.2) m2), lr R_1 .ready none, obl 2 e_api_Slot l3, .rows 2 [(e_api_Berth x)], .rows 2 [(V.agg [(V.i x2), (V.i x.ID)])], .rows 2 [(V.agg [(V.i 0), (V.i 0)])]]) rfl rfl rfl rfl ?_
   refine X.op0W (H' := [.rows 6 [(e_api_Harbour h)], .rows 5 [(e_api_Call c)], .rows 1 [(ovl 6 l3)], .rows 1 [(V.map 4)], .map (List.map (fun p : api_Slot × api_Span => e_api_Slot p.1) m2) (List.map (fun p : api_Slot × api_Span => e_api_Span p.2) m2), lr R_1 .ready none, obl 2 e_api_Slot l3, .rows 2 [(e_api_Berth x)], .rows 2 [(V.agg [(V.i x2), (V.i x.ID)])], .rows 2 [(e_api_Berth x)]]) rfl rfl rfl (GS.opsNil ?_)
   refine GS.nil (X.begin' rfl rfl ?_ rfl)
   refine GS.block (GS.seq ?_)
   obtain ⟨y, h_5, hM⟩ := bind_of hM
   refine GS.region ?_
   iterate 4 refine X.q rfl ?_
   refine X.call (ok_berth_when h_5) rfl rfl rfl (.cons (.shut (n := 9) rfl) (.cons (.shut (n := 9) rfl) (.cons (.shut (n := 9) rfl) (.cons (.shut (n := 9) rfl) .nil)))) (X.q rfl (X.q rfl (X.q rfl ?_)))
   refine X.opW (H' := [.rows 6 [(e_api_Harbour h)], .rows 5 [(e_api_Call c)], .rows 1 [(ovl 6 l3)], .rows 1 [(V.map 4)], .map (List.map (fun p : api_Slot × api_Span => e_api_Slot p.1) m2) (List.map (fun p : api_Slot × api_Span => e_api_Span p.2) m2), lr R_1 .busy none, obl 2 e_api_Slot l3, .rows 2 [(e_api_Berth x)], .rows 2 [(V.agg [(V.i x2), (V.i x.ID)])], .rows 2 [(e_api_Berth x)], .rows 2 [(V.agg [(V.i 0), (V.i 0)])]]) rfl rfl rfl rfl ?_
   refine X.op0W (H' := [.rows 6 [(e_api_Harbour h)], .rows 5 [(e_api_Call c)], .rows 1 [(ovl 6 l3)], .rows 1 [(V.map 4)], .map (List.map (fun p : api_Slot × api_Span => e_api_Slot p.1) m2) (List.map (fun p : api_Slot × api_Span => e_api_Span p.2) m2), lr R_1 .busy none, obl 2 e_api_Slot l3, .rows 2 [(e_api_Berth x)], .rows 2 [(V.agg [(V.i x2), (V.i x.ID)])], .rows 2 [(e_api_Berth x)], .rows 2 [(e_api_Span y.1)]]) rfl rfl rfl ?_
   refine X.q rfl (X.nq (X.q rfl (GS.opsNil ?_)))
   refine X.cond rfl (fun h_6 => ?_) (fun h_6 => ?_)
   ·replace hM := ite_t h_6 hM
    refine GS.seq ?_
    obtain ⟨l1, h_7, hM⟩ := bind_of hM
    refine GS.region ?_
    refine X.opR rfl (v := (ovl 6 l3)) (by rcases X.ovl_or (z := true) 6 l3 with h0 | ⟨n0, h0⟩ <;> simp only [h0] <;> rfl) rfl (X.q rfl ?_)
    refine X.opW (H' := [.rows 6 [(e_api_Harbour h)], .rows 5 [(e_api_Call c)], .rows 1 [(ovl 6 l3)], .rows 1 [(V.map 4)], .map (List.map (fun p : api_Slot × api_Span => e_api_Slot p.1) m2) (List.map (fun p : api_Slot × api_Span => e_api_Span p.2) m2), lr R_1 .busy none, obl 2 e_api_Slot l3, .rows 2 [(e_api_Berth x)], .rows 2 [(V.agg [(V.i x2), (V.i x.ID)])], .rows 2 [(e_api_Berth x)], .rows 2 [(e_api_Span y.1)], .rows 2 (List.map e_api_Slot ([(⟨x2, x.ID⟩ : api_Slot)]))]) rfl rfl rfl rfl ?_
    refine X.appN (f := e_api_Slot) h_7 (fun _ => rfl) (by rfl) (by rfl) (by rfl) (by rfl) (by rfl) (by rfl) (by rfl) (by rfl) (by rfl) (by rfl) (by rfl) (by exact rfl) (by rfl) (by rfl) ?_
    refine X.op0W (H' := [.rows 6 [(e_api_Harbour h)], .rows 5 [(e_api_Call c)], .rows 1 [(V.osl 12 0 (List.length l1))], .rows 1 [(V.map 4)], .map (List.map (fun p : api_Slot × api_Span => e_api_Slot p.1) m2) (List.map (fun p : api_Slot × api_Span => e_api_Span p.2) m2), lr R_1 .busy none, .dead, .rows 2 [(e_api_Berth x)], .rows 2 [(V.agg [(V.i x2), (V.i x.ID)])], .rows 2 [(e_api_Berth x)], .rows 2 [(e_api_Span y.1)], .rows 2 (List.map e_api_Slot ([(⟨x2, x.ID⟩ : api_Slot)])), .rows 2 (List.map e_api_Slot l1)]) rfl (v := undefV) (wr := [(2, .rows 1 [(V.osl 12 0 (List.length l1))])]) (by rcases X.ovl_or (z := true) 6 l3 with h0 | ⟨n0, h0⟩ <;> simp only [h0] <;> rfl) rfl (X.mq ?_)
    iterate 3 refine X.q rfl ?_
    refine X.op0W (H' := [.rows 6 [(e_api_Harbour h)], .rows 5 [(e_api_Call c)], .rows 1 [(V.osl 12 0 (List.length l1))], .rows 1 [(V.map 4)], .map (List.map (fun p : api_Slot × api_Span => e_api_Slot p.1) (putM posE m2 (⟨x2, x.ID⟩ : api_Slot) y.1)) (List.map (fun p : api_Slot × api_Span => e_api_Span p.2) (putM posE m2 (⟨x2, x.ID⟩ : api_Slot) y.1)), lr R_1 .busy none, .dead, .rows 2 [(e_api_Berth x)], .rows 2 [(V.agg [(V.i x2), (V.i x.ID)])], .rows 2 [(e_api_Berth x)], .rows 2 [(e_api_Span y.1)], .rows 2 (List.map e_api_Slot ([(⟨x2, x.ID⟩ : api_Slot)])), .rows 2 (List.map e_api_Slot l1)]) rfl (X.putW (f := e_api_Slot) (g := e_api_Span) (pos := posE) (k := (⟨x2, x.ID⟩ : api_Slot)) (v := y.1) (l := m2) key_api_Slot (fun l => (X.insAt_agg _ _).trans (List.length_map ..)) rfl rfl rfl rfl rfl rfl rfl) rfl (GS.opsNil ?_)
    refine GS.endB ?_
    refine GS.nil ⟨_, rfl, ?_⟩
    refine X.norm (H' := [.rows 6 [(e_api_Harbour h)], .rows 5 [(e_api_Call c)], .rows 1 [(V.osl 12 0 (List.length l1))], .rows 1 [(V.map 4)], .map (List.map (fun p : api_Slot × api_Span => e_api_Slot p.1) (putM posE m2 (⟨x2, x.ID⟩ : api_Slot) y.1)) (List.map (fun p : api_Slot × api_Span => e_api_Span p.2) (putM posE m2 (⟨x2, x.ID⟩ : api_Slot) y.1)), lr R_1 .ready none, .dead, .rows 2 [(e_api_Berth x)], .rows 2 [(V.agg [(V.i x2), (V.i x.ID)])], .rows 2 [(e_api_Berth x)], .rows 2 [(e_api_Span y.1)], .rows 2 (List.map e_api_Slot ([(⟨x2, x.ID⟩ : api_Slot)])), .rows 2 (List.map e_api_Slot l1)]) [(0, (V.yld 5)), (1, (V.fptr [(e_api_Harbour (berth_slots h))] 0 0)), (3, (V.i x2)), (8, (V.i (((berth_slots h).Tides).length : Int))), (9, (V.i x2)), (13, (V.sl (List.map e_api_Berth ((berth_slots h).Berths)))), (14, (V.i (((berth_slots h).Berths).length : Int))), (15, (V.i x1)), (25, (V.b true))] ?_ rfl (sr rfl)
    refine X.q rfl (GS.opsNil ?_)
    refine GS.condF rfl (GS.skip ?_)
    refine GS.endB (GS.region ?_)
    refine X.opR rfl (X.addE rfl rfl) rfl (X.q rfl (GS.opsNil ?_))
    have hE := Option.some.inj hM
    exact X.gc [some 12] (hc_3 (w64 (x1 + 1), l1, (putM posE m2 (⟨x2, x.ID⟩ : api_Slot) y.1)) hE.symm) rfl rfl rfl (ga rfl rfl) (gb9 rfl rfl rfl (gb9 rfl rfl rfl (gb_box rfl rfl (rv_ne (app_ne h_7) rfl) (gb9 rfl rfl rfl (X.gb_mapK 9 rfl rfl (fun _ => rfl) (fun _ => rfl) (gb_loop hlow_1 rfl rfl rfl (gb_obl' 9 (app_ne h_7) rfl rfl (fun _ => rfl) gb_nil)))))))
   replace hM := ite_f h_6 hM
   refine GS.skip ?_
   refine GS.endB ?_
   refine GS.nil ⟨_, rfl, ?_⟩
   refine X.norm (H' := [.rows 6 [(e_api_Harbour h)], .rows 5 [(e_api_Call c)], .rows 1 [(ovl 6 l3)], .rows 1 [(V.map 4)], .map (List.map (fun p : api_Slot × api_Span => e_api_Slot p.1) m2) (List.map (fun p : api_Slot × api_Span => e_api_Span p.2) m2), lr R_1 .ready none, obl 2 e_api_Slot l3, .rows 2 [(e_api_Berth x)], .rows 2 [(V.agg [(V.i x2), (V.i x.ID)])], .rows 2 [(e_api_Berth x)], .rows 2 [(e_api_Span y.1)]]) [(0, (V.yld 5)), (1, (V.fptr [(e_api_Harbour (berth_slots h))] 0 0)), (3, (V.i x2)), (8, (V.i (((berth_slots h).Tides).length : Int))), (9, (V.i x2)), (13, (V.sl (List.map e_api_Berth ((berth_slots h).Berths)))), (14, (V.i (((berth_slots h).Berths).length : Int))), (15, (V.i x1)), (25, (V.b true))] ?_ rfl (sr rfl)
   refine X.q rfl (GS.opsNil ?_)
   refine GS.condF rfl (GS.skip ?_)
   refine GS.endB (GS.region ?_)
   refine X.opR rfl (X.addE rfl rfl) rfl (X.q rfl (GS.opsNil ?_))
   have hE := Option.some.inj hM
   exact X.gc [some 6] (hc_3 (w64 (x1 + 1), l3, m2) hE.symm) rfl rfl rfl (ga rfl rfl) (gb9 rfl rfl rfl (gb9 rfl rfl rfl (gb_box rfl rfl (rn_ovl rfl) (gb9 rfl rfl rfl (X.gb_mapK 9 rfl rfl (fun _ => rfl) (fun _ => rfl) (gb_loop hlow_1 rfl rfl rfl (gb_obl 9 rfl rfl (fun _ => rfl) gb_nil)))))))
  replace hM := ite_f h_3 hM
  refine GS.exit rfl ?_
  obtain ⟨y_2, hM, hy⟩ := map_of hM
  rw [hr_2 _ hy.symm] at hM
  exact X.gc [some 6] (hj_2 (l3, m2) hM) rfl rfl rfl (ga rfl rfl) (gb9 rfl rfl rfl (gb9 rfl rfl rfl (gb_box rfl rfl (rn_ovl rfl) (gb9 rfl rfl rfl (X.gb_mapK 9 rfl rfl (fun _ => rfl) (fun _ => rfl) (gb_loop hlow_1 rfl rfl rfl (gb_obl 9 rfl rfl (fun _ => rfl) gb_nil)))))))
 replace hM := ite_f h_2 hM
 refine GS.exit rfl ?_
 refine GS.nil ⟨_, _, rfl, rfl, ?_⟩
 refine X.norm (H' := [.rows 6 [(e_api_Harbour h)], .rows 5 [(e_api_Call c)], .rows 1 [(ovl 6 l2)], .rows 1 [(V.map 4)], .map (List.map (fun p : api_Slot × api_Span => e_api_Slot p.1) m1) (List.map (fun p : api_Slot × api_Span => e_api_Span p.2) m1), .dead, obl 2 e_api_Slot l2]) [(2, (V.ptr 0 0 0)), (3, (V.ptr 1 0 0)), (6, (V.ptr 2 0 0)), (7, (V.ptr 3 0 0)), (14, (V.fn 120 [(V.fptr [(e_api_Harbour (berth_slots h))] 0 0)]))] ?_ rfl (sr rfl)
 refine GS.endB (GS.seq ?_)
 refine X.drawc (by kernel_rfl) rfl ?_
 refine X.cop rfl (v := (ovl 6 l2)) (by rcases X.ovl_or (z := true) 6 l2 with h0 | ⟨n0, h0⟩ <;> simp only [h0] <;> rfl) rfl rfl ?_
 iterate 3 refine X.cop rfl rfl rfl rfl ?_
 refine X.cnil ?_
 refine X.norm [(4, (ovl 6 l2)), (5, (V.map 4))] ?_ rfl (sr rfl)
 have hE := Option.some.inj hM
 replace hE := hr_1 _ hE.symm
 subst hE
 exact GS.ret ⟨_, rfl, FR.tup (.cons (FR.ovl (f := e_api_Slot) (l := l2) 9 rfl rfl (fun _ => rfl)) (.cons (X.frMap (f := e_api_Slot) (g := e_api_Span) (pa := fun p => p.1) (pb := fun p => p.2) (l := m1) 9 rfl rfl (fun _ => rfl) (fun _ => rfl)) .nil))⟩
abbrev e_berth_board (x : berth_board) : V := .agg [(V.sl (List.map e_api_Call x.calls)), (V.sl (List.map e_api_Slot x.slots)), (V.sl (List.map (fun l => V.fmap (List.map (fun p => e_api_Slot p.1) l) (List.map (fun p => e_api_Span p.2) l)) x.can)), (V.sl (List.map V.i x.old))]
set_option maxHeartbeats 4000000 in
theorem ok_berth_laid {h : api_Harbour} {l : (List api_Call)} {r : berth_board} (hM : berth_laid h l = some r) : Ct Tryz.prog 64 [(e_api_Harbour h), (V.sl (List.map e_api_Call l))] (V.fptr [(e_berth_board r)] 0 0) := by
 refine ct_of_gs CC_ok rfl ?_
 unfold berth_laid at hM
 refine X.sq ?_
 refine X.opW rfl rfl rfl rfl (X.q rfl (X.nq (X.q rfl (X.q rfl ?_))))
 iterate 2 refine X.opW rfl rfl rfl rfl ?_
 refine X.op0W rfl rfl rfl (GS.opsNil (GS.seq (X.sq (X.q rfl ?_))))
 refine X.call (ok_berth_slots h) rfl rfl rfl (.cons (.shut (n := 9) rfl) .nil) (GS.opsNil (GS.block ?_))
 refine X.gc [some 0, some 2, some 1] (H' := [.rows 6 [(e_api_Harbour h)], .rows 1 [(V.ptr 2 0 0)], .rows 4 [(V.agg [(V.sl (List.map e_api_Call l)), V.nil, V.nil, V.nil])]]) (K' := [(1, (V.sl (List.map e_api_Call l))), (2, (V.ptr 0 0 0)), (5, (V.ptr 1 0 0)), (15, (V.fn 120 [(V.fptr [(e_api_Harbour (berth_slots h))] 0 0)]))]) ?_ rfl rfl rfl (ga rfl rfl) (gb9 rfl rfl rfl (gb9 rfl rfl rfl (gb9 rfl rfl rfl gb_nil)))
 refine X.range rfl rfl (lowK_cons ⟨9, rfl⟩ (lowK_cons ⟨9, rfl⟩ (lowK_cons ⟨9, rfl⟩ (lowK_cons ⟨9, rfl⟩ lowK_nil)))) rfl ?_
 intro R_1 hrn_1 hrK_1 hrp_1 hra_1 hrb_1 hlow_1
 refine X.sq (X.q rfl (X.q rfl ?_))
 refine X.opR rfl (X.lenF rfl rfl rfl) rfl (X.q rfl (GS.opsNil (GS.block ?_)))
 refine X.gc [none] (X.loop (σ := (Int × (List api_Slot))) (fun v => ⟨[(0, (V.yld 3)), (1, (V.fptr [(e_api_Harbour (berth_slots h))] 0 0)), (8, (V.i (((berth_slots h).Tides).length : Int))), (9, (V.i v.1))], [.rows 6 [(e_api_Harbour h)], .rows 1 [(V.ptr 2 0 0)], .rows 4 [(V.agg [(V.sl (List.map e_api_Call l)), (ovl 4 v.2), V.nil, V.nil])], lr R_1 .ready none, obl 2 e_api_Slot v.2], 0, none, 29⟩) hM ?_ rfl) rfl rfl rfl (ga rfl rfl) (gb9 rfl rfl rfl (gb9 rfl rfl rfl (gb9 rfl rfl rfl (gb_loop hlow_1 rfl rfl rfl (gb_pad' rfl gb_nil)))))
 rintro ⟨x4, l10⟩ b_1 hM hc_1 hr_1
 rw [berth_laid_b1] at hM
 refine X.sq (X.q rfl (GS.opsNil (GS.seq ?_)))
 refine X.cond rfl (fun h_2 => ?_) (fun h_2 => ?_)
 ·replace hM := ite_t h_2 hM
  refine GS.skip (GS.seq (GS.block (X.sq (X.q rfl (X.q rfl ?_)))))
  refine X.nq (X.q rfl (X.q rfl ?_))
  refine X.opR rfl (X.lenF rfl rfl rfl) rfl (X.q rfl (GS.opsNil ?_))
  refine X.join (τ := (List api_Slot)) (fun v => berth_laid_j2 x4 v = some b_1) (fun v => ⟨[(0, (V.yld 3)), (1, (V.fptr [(e_api_Harbour (berth_slots h))] 0 0)), (8, (V.i (((berth_slots h).Tides).length : Int))), (9, (V.i x4))], [.rows 6 [(e_api_Harbour h)], .rows 1 [(V.ptr 2 0 0)], .rows 4 [(V.agg [(V.sl (List.map e_api_Call l)), (ovl 4 v), V.nil, V.nil])], lr R_1 .ready none, obl 2 e_api_Slot v], 0, none, 29⟩) ?_ ?_
  ·intro l1 hM
   replace hM : berth_laid_j2 x4 l1 = some b_1 := hM
   unfold berth_laid_j2 at hM
   refine GS.endB (GS.region ?_)
   refine X.opR rfl (X.addE rfl rfl) rfl (X.q rfl (GS.opsNil ?_))
   have hE := Option.some.inj hM
   exact X.gc [some 4] (hc_1 (w64 (x4 + 1), l1) hE.symm) rfl rfl rfl (ga rfl rfl) (gb9 rfl rfl rfl (gb9 rfl rfl rfl (gb_box rfl rfl (rn_agg (.cons ⟨9, rfl⟩ (.cons (rn_ovl rfl) (.cons ⟨9, rfl⟩ (.cons ⟨9, rfl⟩ .nil))))) (gb_loop hlow_1 rfl rfl rfl (gb_obl 9 rfl rfl (fun _ => rfl) gb_nil)))))
  intro hj_2
  refine GS.block ?_
  refine X.gc [some 4] (X.loop (σ := (Int × (List api_Slot))) (fun v => ⟨[(0, (V.yld 3)), (1, (V.fptr [(e_api_Harbour (berth_slots h))] 0 0)), (3, (V.i x4)), (8, (V.i (((berth_slots h).Tides).length : Int))), (9, (V.i x4)), (13, (V.sl (List.map e_api_Berth ((berth_slots h).Berths)))), (14, (V.i (((berth_slots h).Berths).length : Int))), (15, (V.i v.1))], [.rows 6 [(e_api_Harbour h)], .rows 1 [(V.ptr 2 0 0)], .rows 4 [(V.agg [(V.sl (List.map e_api_Call l)), (ovl 4 v.2), V.nil, V.nil])], lr R_1 .ready none, obl 2 e_api_Slot v.2], 0, none, 29⟩) hM ?_ rfl) rfl rfl rfl (ga rfl rfl) (gb9 rfl rfl rfl (gb9 rfl rfl rfl (gb_box rfl rfl (rn_agg (.cons ⟨9, rfl⟩ (.cons (rn_ovl rfl) (.cons ⟨9, rfl⟩ (.cons ⟨9, rfl⟩ .nil))))) (gb_loop hlow_1 rfl rfl rfl (gb_obl 9 rfl rfl (fun _ => rfl) gb_nil)))))
  rintro ⟨x1, l3⟩ b_2 hM hc_3 hr_2
  rw [berth_laid_b3] at hM
  refine X.sq (X.q rfl (GS.opsNil (GS.seq ?_)))
  refine X.cond rfl (fun h_3 => ?_) (fun h_3 => ?_)
  ·replace hM := ite_t h_3 hM
   refine GS.skip (GS.seq (GS.block (GS.seq ?_)))
   obtain ⟨x, h_4, hM⟩ := bind_of hM
   refine GS.region ?_
   refine X.opR rfl (X.indexF (f := e_api_Berth) h_4 (fun _ => rfl) rfl rfl rfl rfl) rfl ?_
   refine X.opR rfl (X.loadF h_4 rfl rfl rfl) rfl ?_
   refine X.opW (H' := [.rows 6 [(e_api_Harbour h)], .rows 1 [(V.ptr 2 0 0)], .rows 4 [(V.agg [(V.sl (List.map e_api_Call l)), (ovl 4 l3), V.nil, V.nil])], lr R_1 .ready none, obl 2 e_api_Slot l3, .rows 2 [(V.agg [(V.i 0), (V.i 0)])]]) rfl rfl rfl rfl ?_
   refine X.op0W (H' := [.rows 6 [(e_api_Harbour h)], .rows 1 [(V.ptr 2 0 0)], .rows 4 [(V.agg [(V.sl (List.map e_api_Call l)), (ovl 4 l3), V.nil, V.nil])], lr R_1 .ready none, obl 2 e_api_Slot l3, .rows 2 [(e_api_Berth x)]]) rfl rfl rfl (X.nq ?_)
   iterate 6 refine X.q rfl ?_
   refine X.yld hrn_1 hrK_1 hrp_1 hra_1 hrb_1 rfl rfl rfl rfl rfl rfl (GS.region ?_)
   refine X.opW (H' := [.rows 6 [(e_api_Harbour h)], .rows 1 [(V.ptr 2 0 0)], .rows 4 [(V.agg [(V.sl (List.map e_api_Call l)), (ovl 4 l3), V.nil, V.nil])], lr R_1 .ready none, obl 2 e_api_Slot l3, .rows 2 [(e_api_Berth x)], .rows 2 [(V.agg [(V.i 0), (V.i 0)])]]) rfl rfl rfl rfl ?_
   refine X.op0W (H' := [.rows 6 [(e_api_Harbour h)], .rows 1 [(V.ptr 2 0 0)], .rows 4 [(V.agg [(V.sl (List.map e_api_Call l)), (ovl 4 l3), V.nil, V.nil])], lr R_1 .ready none, obl 2 e_api_Slot l3, .rows 2 [(e_api_Berth x)], .rows 2 [(V.agg [(V.i x4), (V.i x.ID)])]]) rfl rfl rfl (GS.opsNil ?_)
   refine GS.nil (X.begin' rfl rfl ?_ rfl)
   refine GS.block ?_
   obtain ⟨l2, h_5, hM⟩ := bind_of hM
   refine X.draw (by kernel_rfl) ?_
   iterate 7 refine X.dop rfl rfl rfl rfl (by kernel_rfl) rfl rfl ?_
   refine X.dappN (f := e_api_Slot) h_5 (fun _ => rfl) (by rfl) (by rfl) (by rfl) (by rfl) (by rfl) (by rfl) (by rfl) (by rfl) (by rfl) (by rfl) (by rfl) (by exact rfl) (by rfl) (by rfl) (by kernel_rfl) (by rfl) (by rfl) ?_
   iterate 2 refine X.dop rfl rfl rfl rfl (by kernel_rfl) rfl rfl ?_
   refine X.dop0 rfl rfl rfl rfl (by kernel_rfl) rfl ?_
   refine X.dnil ?_
   refine X.norm [] ?_ rfl W.sub_nil
   refine GS.endB ?_
   refine GS.nil ⟨_, rfl, ?_⟩
   refine X.norm (H' := [.rows 6 [(e_api_Harbour h)], .rows 1 [(V.ptr 2 0 0)], .rows 4 [(V.agg [(V.sl (List.map e_api_Call l)), (V.osl 8 0 (List.length l2)), V.nil, V.nil])], lr R_1 .ready none, .dead, .rows 2 [(e_api_Berth x)], .rows 2 [(V.agg [(V.i x4), (V.i x.ID)])], .rows 2 (List.map e_api_Slot ([(⟨x4, x.ID⟩ : api_Slot)])), .rows 2 (List.map e_api_Slot l2)]) [(0, (V.yld 3)), (1, (V.fptr [(e_api_Harbour (berth_slots h))] 0 0)), (3, (V.i x4)), (8, (V.i (((berth_slots h).Tides).length : Int))), (9, (V.i x4)), (13, (V.sl (List.map e_api_Berth ((berth_slots h).Berths)))), (14, (V.i (((berth_slots h).Berths).length : Int))), (15, (V.i x1)), (25, (V.b true))] ?_ rfl (sr rfl)
   refine X.q rfl (GS.opsNil ?_)
   refine GS.condF rfl (GS.skip ?_)
   refine GS.endB (GS.region ?_)
   refine X.opR rfl (X.addE rfl rfl) rfl (X.q rfl (GS.opsNil ?_))
   have hE := Option.some.inj hM
   exact X.gc [some 8] (hc_3 (w64 (x1 + 1), l2) hE.symm) rfl rfl rfl (ga rfl rfl) (gb9 rfl rfl rfl (gb9 rfl rfl rfl (gb_box rfl rfl (rn_agg (.cons ⟨9, rfl⟩ (.cons (rv_ne (app_ne h_5) rfl) (.cons ⟨9, rfl⟩ (.cons ⟨9, rfl⟩ .nil))))) (gb_loop hlow_1 rfl rfl rfl (gb_obl' 9 (app_ne h_5) rfl rfl (fun _ => rfl) gb_nil)))))
  replace hM := ite_f h_3 hM
  refine GS.exit rfl ?_
  obtain ⟨y_2, hM, hy⟩ := map_of hM
  rw [hr_2 _ hy.symm] at hM
  exact X.gc [some 4] (hj_2 l3 hM) rfl rfl rfl (ga rfl rfl) (gb9 rfl rfl rfl (gb9 rfl rfl rfl (gb_box rfl rfl (rn_agg (.cons ⟨9, rfl⟩ (.cons (rn_ovl rfl) (.cons ⟨9, rfl⟩ (.cons ⟨9, rfl⟩ .nil))))) (gb_loop hlow_1 rfl rfl rfl (gb_obl 9 rfl rfl (fun _ => rfl) gb_nil)))))
 replace hM := ite_f h_2 hM
 refine GS.exit rfl ?_
 refine GS.nil ⟨_, _, rfl, rfl, ?_⟩
 refine X.norm (H' := [.rows 6 [(e_api_Harbour h)], .rows 1 [(V.ptr 2 0 0)], .rows 4 [(V.agg [(V.sl (List.map e_api_Call l)), (ovl 4 l10), V.nil, V.nil])], .dead, obl 2 e_api_Slot l10]) [(1, (V.sl (List.map e_api_Call l))), (2, (V.ptr 0 0 0)), (5, (V.ptr 1 0 0)), (15, (V.fn 120 [(V.fptr [(e_api_Harbour (berth_slots h))] 0 0)]))] ?_ rfl (sr rfl)
 refine GS.endB (GS.seq (X.sq (X.q rfl ?_)))
 refine X.opR rfl (X.lenF rfl rfl rfl) rfl (X.q rfl (GS.opsNil ?_))
 refine X.join (τ := (List (List (api_Slot × api_Span))) × (List Int)) (fun v => berth_laid_j4 l l10 v.1 v.2 = some b_1) (fun v => ⟨[(5, (V.ptr 0 0 0))], [.rows 1 [(V.ptr 1 0 0)], .rows 4 [(V.agg [(V.sl (List.map e_api_Call l)), (ovl 2 l10), (ovl 3 v.1), (ovl 4 v.2)])], obl 2 e_api_Slot l10, obl 1 (fun l => V.fmap (List.map (fun p => e_api_Slot p.1) l) (List.map (fun p => e_api_Span p.2) l)) v.1, obl 1 V.i v.2], 0, none, 61⟩) ?_ ?_
 ·rintro ⟨l4, l5⟩ hM
  replace hM : berth_laid_j4 l l10 l4 l5 = some b_1 := hM
  unfold berth_laid_j4 at hM
  refine X.sq (X.q rfl (X.q rfl ?_))
  refine GS.opsNil ?_
  have hE := Option.some.inj hM
  replace hE := hr_1 _ hE.symm
  subst hE
  exact GS.ret ⟨_, rfl, FR.ptr rfl rfl (FR.agg (.cons ⟨30, rfl⟩ (.cons (FR.ovl (f := e_api_Slot) (l := l10) 9 rfl rfl (fun _ => rfl)) (.cons (FR.ovl (f := (fun l => V.fmap (List.map (fun p => e_api_Slot p.1) l) (List.map (fun p => e_api_Span p.2) l))) (l := l4) 9 rfl rfl (fun _ => rfl)) (.cons (FR.ovl (f := V.i) (l := l5) 9 rfl rfl (fun _ => rfl)) .nil)))))⟩
 intro hj_4
 refine GS.block ?_
 refine X.gc [some 0, some 1, some 2, some 4, none, none] (X.loop (σ := (Int × (List (List (api_Slot × api_Span))) × (List Int))) (fun v => ⟨[(2, (V.ptr 0 0 0)), (5, (V.ptr 1 0 0)), (28, (V.sl (List.map e_api_Call l))), (29, (V.i (l.length : Int))), (30, (V.i v.1))], [.rows 6 [(e_api_Harbour h)], .rows 1 [(V.ptr 2 0 0)], .rows 4 [(V.agg [(V.sl (List.map e_api_Call l)), (ovl 3 l10), (ovl 4 v.2.1), (ovl 5 v.2.2)])], obl 2 e_api_Slot l10, obl 1 (fun l => V.fmap (List.map (fun p => e_api_Slot p.1) l) (List.map (fun p => e_api_Span p.2) l)) v.2.1, obl 1 V.i v.2.2], 0, none, 61⟩) hM ?_ rfl) rfl rfl rfl (ga rfl rfl) (gb9 rfl rfl rfl (gb9 rfl rfl rfl (gb_box rfl rfl (rn_agg (.cons ⟨9, rfl⟩ (.cons (rn_ovl rfl) (.cons ⟨9, rfl⟩ (.cons ⟨9, rfl⟩ .nil))))) (gb_obl 9 rfl rfl (fun _ => rfl) (gb_pad' rfl (gb_pad' rfl gb_nil))))))
 rintro ⟨x3, l8, l9⟩ b_2 hM hc_5 hr_2
 rw [berth_laid_b5] at hM
 refine X.sq (X.q rfl (GS.opsNil (GS.seq ?_)))
 refine X.cond rfl (fun h_6 => ?_) (fun h_6 => ?_)
 ·replace hM := ite_t h_6 hM
  refine GS.skip (GS.seq (GS.block (GS.seq ?_)))
  obtain ⟨x2, h_7, hM⟩ := bind_of hM
  refine GS.region ?_
  refine X.opR rfl (X.indexF (f := e_api_Call) h_7 (fun _ => rfl) rfl rfl rfl rfl) rfl ?_
  refine X.opR rfl (X.loadF h_7 rfl rfl rfl) rfl ?_
  refine X.opW (H' := [.rows 6 [(e_api_Harbour h)], .rows 1 [(V.ptr 2 0 0)], .rows 4 [(V.agg [(V.sl (List.map e_api_Call l)), (ovl 3 l10), (ovl 4 l8), (ovl 5 l9)])], obl 2 e_api_Slot l10, obl 1 (fun l => V.fmap (List.map (fun p => e_api_Slot p.1) l) (List.map (fun p => e_api_Span p.2) l)) l8, obl 1 V.i l9, .rows 5 [(V.agg [(V.i 0), (V.i 0), (V.i 0), (V.i 0), (V.i 0)])]]) rfl rfl rfl rfl ?_
  refine X.op0W (H' := [.rows 6 [(e_api_Harbour h)], .rows 1 [(V.ptr 2 0 0)], .rows 4 [(V.agg [(V.sl (List.map e_api_Call l)), (ovl 3 l10), (ovl 4 l8), (ovl 5 l9)])], obl 2 e_api_Slot l10, obl 1 (fun l => V.fmap (List.map (fun p => e_api_Slot p.1) l) (List.map (fun p => e_api_Span p.2) l)) l8, obl 1 V.i l9, .rows 5 [(e_api_Call x2)]]) rfl rfl rfl (GS.opsNil (GS.seq ?_))
  obtain ⟨y, h_8, hM⟩ := bind_of hM
  refine GS.region (X.q rfl (X.q rfl ?_))
  refine X.call (ok_berth_taken h_8) rfl rfl rfl (.cons (.shut (n := 9) rfl) (.cons (.shut (n := 9) rfl) .nil)) ?_
  iterate 5 refine X.q rfl ?_
  refine GS.opsNil ?_
  obtain ⟨l6, h_9, hM⟩ := bind_of hM
  obtain ⟨l7, h_10, hM⟩ := bind_of hM
  refine X.draw (by kernel_rfl) ?_
  iterate 8 refine X.dop rfl rfl rfl rfl (by kernel_rfl) rfl rfl ?_
  refine X.dappN (f := (fun l => V.fmap (List.map (fun p => e_api_Slot p.1) l) (List.map (fun p => e_api_Span p.2) l))) h_9 (fun _ => rfl) (by rfl) (by rfl) (by rfl) (by rfl) (by rfl) (by rfl) (by rfl) (by rfl) (by rfl) (by rfl) (by rfl) (by exact rfl) (by rfl) (by rfl) (by kernel_rfl) (by rfl) (by rfl) ?_
  iterate 5 refine X.dop rfl rfl rfl rfl (by kernel_rfl) rfl rfl ?_
  refine X.dappN (f := V.i) h_10 (fun _ => rfl) (by rfl) (by rfl) (by rfl) (by rfl) (by rfl) (by rfl) (by rfl) (by rfl) (by rfl) (by rfl) (by rfl) (by exact rfl) (by rfl) (by rfl) (by kernel_rfl) (by rfl) (by rfl) ?_
  iterate 2 refine X.dop rfl rfl rfl rfl (by kernel_rfl) rfl rfl ?_
  refine X.dop0 rfl rfl rfl rfl (by kernel_rfl) rfl ?_
  iterate 2 refine X.dop rfl rfl rfl rfl (by kernel_rfl) rfl rfl ?_
  refine X.dop0 rfl rfl rfl rfl (by kernel_rfl) rfl ?_
  refine X.dnil ?_
  refine X.norm [(2, (V.ptr 0 0 0)), (5, (V.ptr 1 0 0)), (28, (V.sl (List.map e_api_Call l))), (29, (V.i (l.length : Int))), (30, (V.i x3))] ?_ rfl (sr rfl)
  refine GS.endB (GS.region ?_)
  refine X.opR rfl (X.addE rfl rfl) rfl (X.q rfl (GS.opsNil ?_))
  have hE := Option.some.inj hM
  exact X.gc [some 0, some 1, some 2, some 3, some 8, some 10] (hc_5 (w64 (x3 + 1), l6, l7) hE.symm) rfl rfl rfl (ga rfl rfl) (gb9 rfl rfl rfl (gb9 rfl rfl rfl (gb_box rfl rfl (rn_agg (.cons ⟨9, rfl⟩ (.cons (rn_ovl rfl) (.cons (rv_ne (app_ne h_9) rfl) (.cons (rv_ne (app_ne h_10) rfl) .nil))))) (gb_obl 9 rfl rfl (fun _ => rfl) (gb_obl' 9 (app_ne h_9) rfl rfl (fun _ => rfl) (gb_obl' 9 (app_ne h_10) rfl rfl (fun _ => rfl) gb_nil))))))
 replace hM := ite_f h_6 hM
 refine GS.exit rfl ?_
 obtain ⟨y_2, hM, hy⟩ := map_of hM
 rw [hr_2 _ hy.symm] at hM
 exact X.gc [some 1, some 2, some 3, some 4, some 5] (hj_4 (l8, l9) hM) rfl rfl rfl (ga rfl rfl) (gb9 rfl rfl rfl (gb_box rfl rfl (rn_agg (.cons ⟨9, rfl⟩ (.cons (rn_ovl rfl) (.cons (rn_ovl rfl) (.cons (rn_ovl rfl) .nil))))) (gb_obl 9 rfl rfl (fun _ => rfl) (gb_obl 9 rfl rfl (fun _ => rfl) (gb_obl 9 rfl rfl (fun _ => rfl) gb_nil)))))
set_option maxHeartbeats 4000000 in
theorem ok_berth_board_costs {b : berth_board} {ship : Int} {r : (List Int)} (hM : berth_board_costs b ship = some r) : Ct Tryz.prog 100 [(V.fptr [(e_berth_board b)] 0 0), (V.i ship)] (V.sl (List.map V.i r)) := by
 refine ct_of_gs CC_ok rfl ?_
 unfold berth_board_costs at hM
 refine X.sq (X.q rfl (GS.opsNil (GS.seq ?_)))
 obtain ⟨l, h_1, hM⟩ := bind_of hM
 refine X.draw (by kernel_rfl) ?_
 iterate 4 refine X.dop rfl rfl rfl rfl (by kernel_rfl) rfl rfl ?_
 refine X.dop rfl (X.lenF rfl rfl rfl) rfl rfl (by kernel_rfl) rfl rfl ?_
 iterate 4 refine X.dop rfl rfl rfl rfl (by kernel_rfl) rfl rfl ?_
 refine X.dop rfl (X.lenF rfl rfl rfl) rfl rfl (by kernel_rfl) rfl rfl ?_
 refine X.dop rfl (X.addE rfl rfl) rfl rfl (by kernel_rfl) rfl rfl ?_
 refine X.dop rfl (X.makeS (f := V.i) h_1 rfl rfl rfl rfl rfl rfl rfl rfl) rfl rfl (by kernel_rfl) rfl rfl ?_
 refine X.dop rfl rfl rfl rfl (by kernel_rfl) rfl rfl ?_
 refine X.dnil ?_
 refine X.norm [(0, (V.fptr [(e_berth_board b)] 0 0)), (1, (V.i ship)), (5, (V.osl 0 0 (List.length l)))] ?_ rfl (sr rfl)
 refine GS.seq (X.sq (X.q rfl ?_))
 refine X.opR rfl (X.lenO (l := l) rfl rfl rfl) rfl (X.q rfl (GS.opsNil ?_))
 refine X.join (τ := (List Int)) (fun v => berth_board_costs_j1 b ship v = some r) (fun v => ⟨[(0, (V.fptr [(e_berth_board b)] 0 0)), (1, (V.i ship)), (5, (V.osl 0 0 (List.length v)))], [.rows 1 (List.map V.i v)], 0, none, 81⟩) ?_ ?_
 ·intro l1 hM
  replace hM : berth_board_costs_j1 b ship l1 = some r := hM
  unfold berth_board_costs_j1 at hM
  refine GS.seq (X.sq ?_)
  iterate 4 refine X.q rfl ?_
  refine X.opR rfl (X.lenF rfl rfl rfl) rfl (X.q rfl (GS.opsNil ?_))
  refine X.join (τ := (List Int)) (fun v => berth_board_costs_j2 b ship v = some r) (fun v => ⟨[(0, (V.fptr [(e_berth_board b)] 0 0)), (1, (V.i ship)), (5, (V.osl 0 0 (List.length v)))], [.rows 1 (List.map V.i v)], 0, none, 81⟩) ?_ ?_
  ·intro l2 hM
   replace hM : berth_board_costs_j2 b ship l2 = some r := hM
   unfold berth_board_costs_j2 at hM
   refine GS.seq ?_
   obtain ⟨x, h_2, hM⟩ := bind_of hM
   refine GS.region ?_
   iterate 5 refine X.q rfl ?_
   refine X.opR rfl (X.lenF rfl rfl rfl) rfl (X.q rfl ?_)
   refine X.opR rfl (X.addE rfl rfl) rfl ?_
   refine X.opR rfl (X.indexO h_2 rfl rfl rfl rfl rfl) rfl ?_
   refine X.op0W rfl (X.storeO (b := 0) h_2 rfl rfl rfl rfl rfl rfl rfl) rfl (X.nq (X.q rfl (X.q rfl ?_)))
   refine GS.opsNil ?_
   have hE := Option.some.inj hM
   subst hE
   exact GS.ret ⟨_, rfl, FR.eq X.osl_put (FR.osl (f := V.i) (l := (put l2 (w64 ((b.slots.length : Int) + ship)) 0)) 9 rfl rfl (fun _ => rfl))⟩
  intro hj_2
  refine GS.block ?_
  refine X.gc [some 0] (X.loop (σ := (Int × (List Int))) (fun v => ⟨[(0, (V.fptr [(e_berth_board b)] 0 0)), (1, (V.i ship)), (5, (V.osl 0 0 (List.length v.2))), (35, (V.sl (List.map e_api_Slot b.slots))), (36, (V.i (b.slots.length : Int))), (37, (V.i v.1))], [.rows 1 (List.map V.i v.2)], 0, none, 81⟩) hM ?_ rfl) rfl rfl rfl (ga rfl rfl) (gb_rows 9 rfl rfl (fun _ => rfl) gb_nil)
  rintro ⟨x6, l4⟩ b_1 hM hc_3 hr_1
  rw [berth_board_costs_b3] at hM
  refine X.sq (X.q rfl (GS.opsNil (GS.seq ?_)))
  refine X.cond rfl (fun h_3 => ?_) (fun h_3 => ?_)
  ·replace hM := ite_t h_3 hM
   refine GS.skip (GS.seq ?_)
   refine X.join (τ := (List Int)) (fun v => berth_board_costs_j4 x6 v = some b_1) (fun v => ⟨[(0, (V.fptr [(e_berth_board b)] 0 0)), (1, (V.i ship)), (5, (V.osl 0 0 (List.length v))), (35, (V.sl (List.map e_api_Slot b.slots))), (36, (V.i (b.slots.length : Int))), (37, (V.i x6))], [.rows 1 (List.map V.i v)], 0, none, 81⟩) ?_ ?_
   ·intro l3 hM
    replace hM : berth_board_costs_j4 x6 l3 = some b_1 := hM
    unfold berth_board_costs_j4 at hM
    refine GS.region ?_
    refine X.opR rfl (X.addE rfl rfl) rfl (X.q rfl (GS.opsNil ?_))
    have hE := Option.some.inj hM
    exact X.gc [some 0] (hc_3 (w64 (x6 + 1), l3) hE.symm) rfl rfl rfl (ga rfl rfl) (gb_rows 9 rfl rfl (fun _ => rfl) gb_nil)
   intro hj_4
   refine GS.block (GS.seq ?_)
   obtain ⟨x1, h_4, hM⟩ := bind_of hM
   refine GS.region (X.q rfl ?_)
   refine X.opR rfl (X.indexF (f := e_api_Slot) h_4 (fun _ => rfl) rfl rfl rfl rfl) rfl ?_
   refine X.opR rfl (X.loadF h_4 rfl rfl rfl) rfl ?_
   refine X.opW rfl rfl rfl rfl (X.q rfl ?_)
   refine X.op0W rfl rfl rfl (GS.opsNil (GS.seq ?_))
   obtain ⟨x2, h_5, hM⟩ := bind_of hM
   refine X.draw (by kernel_rfl) ?_
   iterate 5 refine X.dop rfl rfl rfl rfl (by kernel_rfl) rfl rfl ?_
   refine X.dop rfl (X.indexF (f := (fun l => V.fmap (List.map (fun p => e_api_Slot p.1) l) (List.map (fun p => e_api_Span p.2) l))) h_5 (fun _ => rfl) rfl rfl rfl rfl) rfl rfl (by kernel_rfl) rfl rfl ?_
   refine X.dop rfl (X.loadF h_5 rfl rfl rfl) rfl rfl (by kernel_rfl) rfl rfl ?_
   refine X.dop rfl rfl rfl rfl (by kernel_rfl) rfl rfl ?_
   refine X.dop rfl (X.lookF (f := e_api_Slot) (g := e_api_Span) (k := x1) (l := x2) (z := (⟨0, 0⟩ : api_Span)) (ok := true) key_api_Slot rfl rfl rfl rfl rfl) rfl rfl (by kernel_rfl) rfl rfl ?_
   iterate 4 refine X.dop rfl rfl rfl rfl (by kernel_rfl) rfl rfl ?_
   refine X.dop0 rfl rfl rfl rfl (by kernel_rfl) rfl ?_
   refine X.dop rfl rfl rfl rfl (by kernel_rfl) rfl rfl ?_
   refine X.dnil ?_
   refine X.norm [(0, (V.fptr [(e_berth_board b)] 0 0)), (1, (V.i ship)), (5, (V.osl 0 0 (List.length l4))), (7, (V.i x6)), (10, (V.b ((lookM x1 x2).isSome))), (35, (V.sl (List.map e_api_Slot b.slots))), (36, (V.i (b.slots.length : Int))), (37, (V.i x6))] ?_ rfl (sr rfl)
   refine X.sq (X.q rfl (GS.opsNil ?_))
   refine X.cond rfl (fun h_6 => ?_) (fun h_6 => ?_)
   ·replace hM := ite_t h_6 hM
    refine GS.seq ?_
    obtain ⟨x3, h_7, hM⟩ := bind_of hM
    refine GS.region (X.q rfl (X.q rfl ?_))
    refine X.opR rfl (X.indexO h_7 rfl rfl rfl rfl rfl) rfl ?_
    refine X.op0W rfl (X.storeO (b := (-1000)) h_7 rfl rfl rfl rfl rfl rfl rfl) rfl (GS.opsNil (GS.seq ?_))
    obtain ⟨x4, h_8, hM⟩ := bind_of hM
    refine GS.region ?_
    iterate 5 refine X.q rfl ?_
    refine X.opR rfl (X.indexF (f := V.i) h_8 (fun _ => rfl) rfl rfl rfl rfl) rfl ?_
    refine X.opR rfl (X.loadF h_8 rfl rfl rfl) rfl (X.q rfl (X.q rfl ?_))
    refine GS.opsNil ?_
    refine X.cond rfl (fun h_9 => ?_) (fun h_9 => ?_)
    ·replace hM := ite_t h_9 hM
     obtain ⟨x5, h_10, hM⟩ := bind_of hM
     refine GS.region (X.q rfl (X.q rfl ?_))
     refine X.opR rfl (X.indexO h_10 rfl rfl (X.kev_eq rfl X.osl_put) rfl rfl) rfl ?_
     refine X.op0W rfl (X.storeO (b := (-1001)) h_10 rfl rfl rfl rfl rfl rfl rfl) rfl (GS.opsNil ?_)
     refine GS.endB ?_
     exact X.gc [some 0] (hj_4 (put (put l4 x6 (-1000)) x6 (-1001)) hM) rfl rfl rfl (gk_cons rfl ⟨9, rfl⟩ (gk_cons rfl ⟨9, rfl⟩ (gk_cons rfl (rv_eq (Eq.trans X.osl_put X.osl_put) ⟨9, rfl⟩) (ga rfl rfl)))) (gb_rows 9 rfl rfl (fun _ => rfl) gb_nil)
    replace hM := ite_f h_9 hM
    refine GS.skip ?_
    refine GS.endB ?_
    exact X.gc [some 0] (hj_4 (put l4 x6 (-1000)) hM) rfl rfl rfl (gk_cons rfl ⟨9, rfl⟩ (gk_cons rfl ⟨9, rfl⟩ (gk_cons rfl (rv_eq X.osl_put ⟨9, rfl⟩) (ga rfl rfl)))) (gb_rows 9 rfl rfl (fun _ => rfl) gb_nil)
   replace hM := ite_f h_6 hM
   refine GS.skip ?_
   refine GS.endB ?_
   exact X.gc [some 0] (hj_4 l4 hM) rfl rfl rfl (ga rfl rfl) (gb_rows 9 rfl rfl (fun _ => rfl) gb_nil)
  replace hM := ite_f h_3 hM
  refine GS.exit rfl ?_
  obtain ⟨y_1, hM, hy⟩ := map_of hM
  rw [hr_1 _ hy.symm] at hM
  exact X.gc [some 0] (hj_2 l4 hM) rfl rfl rfl (ga rfl rfl) (gb_rows 9 rfl rfl (fun _ => rfl) gb_nil)
 intro hj_1
 refine GS.block ?_
 refine X.gc [some 0] (X.loop (σ := (Int × (List Int))) (fun v => ⟨[(0, (V.fptr [(e_berth_board b)] 0 0)), (1, (V.i ship)), (5, (V.osl 0 0 (List.length v.2))), (24, (V.i (l.length : Int))), (25, (V.i v.1))], [.rows 1 (List.map V.i v.2)], 0, none, 81⟩) hM ?_ rfl) rfl rfl rfl (ga rfl rfl) (gb_rows 9 rfl rfl (fun _ => rfl) gb_nil)
 rintro ⟨x8, l5⟩ b_1 hM hc_5 hr_1
 rw [berth_board_costs_b5] at hM
 refine X.sq (X.q rfl (GS.opsNil (GS.seq ?_)))
 refine X.cond rfl (fun h_11 => ?_) (fun h_11 => ?_)
 ·replace hM := ite_t h_11 hM
  refine GS.skip (GS.seq (GS.block (X.sq (X.q rfl (X.q rfl ?_)))))
  refine GS.opsNil ?_
  obtain ⟨x7, h_12, hM⟩ := bind_of hM
  refine GS.region (X.q rfl (X.q rfl ?_))
  refine X.opR rfl (X.indexO h_12 rfl rfl rfl rfl rfl) rfl ?_
  refine X.op0W rfl (X.storeO (b := 1073741824) h_12 rfl rfl rfl rfl rfl rfl rfl) rfl (GS.opsNil ?_)
  refine GS.endB (GS.region ?_)
  refine X.opR rfl (X.addE rfl rfl) rfl (X.q rfl (GS.opsNil ?_))
  have hE := Option.some.inj hM
  exact X.gc [some 0] (hc_5 (w64 (x8 + 1), (put l5 x8 1073741824)) hE.symm) rfl rfl rfl (gk_cons rfl ⟨9, rfl⟩ (gk_cons rfl ⟨9, rfl⟩ (gk_cons rfl (rv_eq X.osl_put ⟨9, rfl⟩) (ga rfl rfl)))) (gb_rows 9 rfl rfl (fun _ => rfl) gb_nil)
 replace hM := ite_f h_11 hM
 refine GS.exit rfl ?_
 obtain ⟨y_1, hM, hy⟩ := map_of hM
 rw [hr_1 _ hy.symm] at hM
 exact X.gc [some 0] (hj_1 l5 hM) rfl rfl rfl (ga rfl rfl) (gb_rows 9 rfl rfl (fun _ => rfl) gb_nil)
set_option maxHeartbeats 4000000 in
theorem own_berth_board_costs {b : berth_board} {ship : Int} {r : (List Int)} (hM : berth_board_costs b ship = some r) : OwnCt Tryz.prog 100 [(V.fptr [(e_berth_board b)] 0 0), (V.i ship)] (fun z => (ovlz z 0 r)) (fun z => (oblz z 1 V.i r)) := by
 refine own_of_gs CC_ok rfl ?_
 unfold berth_board_costs at hM
 refine X.sq (X.q rfl (GS.opsNil (GS.seq ?_)))
 obtain ⟨l, h_1, hM⟩ := bind_of hM
 refine X.draw (by kernel_rfl) ?_
 iterate 4 refine X.dop rfl rfl rfl rfl (by kernel_rfl) rfl rfl ?_
 refine X.dop rfl (X.lenF rfl rfl rfl) rfl rfl (by kernel_rfl) rfl rfl ?_
 iterate 4 refine X.dop rfl rfl rfl rfl (by kernel_rfl) rfl rfl ?_
 refine X.dop rfl (X.lenF rfl rfl rfl) rfl rfl (by kernel_rfl) rfl rfl ?_
 refine X.dop rfl (X.addE rfl rfl) rfl rfl (by kernel_rfl) rfl rfl ?_
 refine X.dop rfl (X.makeS (f := V.i) h_1 rfl rfl rfl rfl rfl rfl rfl rfl) rfl rfl (by kernel_rfl) rfl rfl ?_
 refine X.dop rfl rfl rfl rfl (by kernel_rfl) rfl rfl ?_
 refine X.dnil ?_
 refine X.norm [(0, (V.fptr [(e_berth_board b)] 0 0)), (1, (V.i ship)), (5, (V.osl 0 0 (List.length l)))] ?_ rfl (sr rfl)
 refine GS.seq (X.sq (X.q rfl ?_))
 refine X.opR rfl (X.lenO (l := l) rfl rfl rfl) rfl (X.q rfl (GS.opsNil ?_))
 refine X.join (τ := (List Int)) (fun v => berth_board_costs_j1 b ship v = some r) (fun v => ⟨[(0, (V.fptr [(e_berth_board b)] 0 0)), (1, (V.i ship)), (5, (V.osl 0 0 (List.length v)))], [.rows 1 (List.map V.i v)], 0, none, 81⟩) ?_ ?_
 ·intro l1 hM
  replace hM : berth_board_costs_j1 b ship l1 = some r := hM
  unfold berth_board_costs_j1 at hM
  refine GS.seq (X.sq ?_)
  iterate 4 refine X.q rfl ?_
  refine X.opR rfl (X.lenF rfl rfl rfl) rfl (X.q rfl (GS.opsNil ?_))
  refine X.join (τ := (List Int)) (fun v => berth_board_costs_j2 b ship v = some r) (fun v => ⟨[(0, (V.fptr [(e_berth_board b)] 0 0)), (1, (V.i ship)), (5, (V.osl 0 0 (List.length v)))], [.rows 1 (List.map V.i v)], 0, none, 81⟩) ?_ ?_
  ·intro l2 hM
   replace hM : berth_board_costs_j2 b ship l2 = some r := hM
   unfold berth_board_costs_j2 at hM
   refine GS.seq ?_
   obtain ⟨x, h_2, hM⟩ := bind_of hM
   refine GS.region ?_
   iterate 5 refine X.q rfl ?_
   refine X.opR rfl (X.lenF rfl rfl rfl) rfl (X.q rfl ?_)
   refine X.opR rfl (X.addE rfl rfl) rfl ?_
   refine X.opR rfl (X.indexO h_2 rfl rfl rfl rfl rfl) rfl ?_
   refine X.op0W rfl (X.storeO (b := 0) h_2 rfl rfl rfl rfl rfl rfl rfl) rfl (X.nq (X.q rfl (X.q rfl ?_)))
   refine GS.opsNil ?_
   have hE := Option.some.inj hM
   subst hE
   refine X.gc [some 0] (H' := [.rows 1 (List.map V.i (put l2 (w64 ((b.slots.length : Int) + ship)) 0))]) (K' := [(4, (V.osl 0 0 (List.length (put l2 (w64 ((b.slots.length : Int) + ship)) 0))))]) ?_ rfl rfl rfl (gk_cons rfl (rv_eq X.osl_put ⟨9, rfl⟩) gk_nil) (gb_rows 9 rfl rfl (fun _ => rfl) gb_nil)
   exact GS.ret ⟨false, rfl, rfl⟩
  intro hj_2
  refine GS.block ?_
  refine X.gc [some 0] (X.loop (σ := (Int × (List Int))) (fun v => ⟨[(0, (V.fptr [(e_berth_board b)] 0 0)), (1, (V.i ship)), (5, (V.osl 0 0 (List.length v.2))), (35, (V.sl (List.map e_api_Slot b.slots))), (36, (V.i (b.slots.length : Int))), (37, (V.i v.1))], [.rows 1 (List.map V.i v.2)], 0, none, 81⟩) hM ?_ rfl) rfl rfl rfl (ga rfl rfl) (gb_rows 9 rfl rfl (fun _ => rfl) gb_nil)
  rintro ⟨x6, l4⟩ b_1 hM hc_3 hr_1
  rw [berth_board_costs_b3] at hM
  refine X.sq (X.q rfl (GS.opsNil (GS.seq ?_)))
  refine X.cond rfl (fun h_3 => ?_) (fun h_3 => ?_)
  ·replace hM := ite_t h_3 hM
   refine GS.skip (GS.seq ?_)
   refine X.join (τ := (List Int)) (fun v => berth_board_costs_j4 x6 v = some b_1) (fun v => ⟨[(0, (V.fptr [(e_berth_board b)] 0 0)), (1, (V.i ship)), (5, (V.osl 0 0 (List.length v))), (35, (V.sl (List.map e_api_Slot b.slots))), (36, (V.i (b.slots.length : Int))), (37, (V.i x6))], [.rows 1 (List.map V.i v)], 0, none, 81⟩) ?_ ?_
   ·intro l3 hM
    replace hM : berth_board_costs_j4 x6 l3 = some b_1 := hM
    unfold berth_board_costs_j4 at hM
    refine GS.region ?_
    refine X.opR rfl (X.addE rfl rfl) rfl (X.q rfl (GS.opsNil ?_))
    have hE := Option.some.inj hM
    exact X.gc [some 0] (hc_3 (w64 (x6 + 1), l3) hE.symm) rfl rfl rfl (ga rfl rfl) (gb_rows 9 rfl rfl (fun _ => rfl) gb_nil)
   intro hj_4
   refine GS.block (GS.seq ?_)
   obtain ⟨x1, h_4, hM⟩ := bind_of hM
   refine GS.region (X.q rfl ?_)
   refine X.opR rfl (X.indexF (f := e_api_Slot) h_4 (fun _ => rfl) rfl rfl rfl rfl) rfl ?_
   refine X.opR rfl (X.loadF h_4 rfl rfl rfl) rfl ?_
   refine X.opW rfl rfl rfl rfl (X.q rfl ?_)
   refine X.op0W rfl rfl rfl (GS.opsNil (GS.seq ?_))
   obtain ⟨x2, h_5, hM⟩ := bind_of hM
   refine X.draw (by kernel_rfl) ?_
   iterate 5 refine X.dop rfl rfl rfl rfl (by kernel_rfl) rfl rfl ?_
   refine X.dop rfl (X.indexF (f := (fun l => V.fmap (List.map (fun p => e_api_Slot p.1) l) (List.map (fun p => e_api_Span p.2) l))) h_5 (fun _ => rfl) rfl rfl rfl rfl) rfl rfl (by kernel_rfl) rfl rfl ?_
   refine X.dop rfl (X.loadF h_5 rfl rfl rfl) rfl rfl (by kernel_rfl) rfl rfl ?_
   refine X.dop rfl rfl rfl rfl (by kernel_rfl) rfl rfl ?_
   refine X.dop rfl (X.lookF (f := e_api_Slot) (g := e_api_Span) (k := x1) (l := x2) (z := (⟨0, 0⟩ : api_Span)) (ok := true) key_api_Slot rfl rfl rfl rfl rfl) rfl rfl (by kernel_rfl) rfl rfl ?_
   iterate 4 refine X.dop rfl rfl rfl rfl (by kernel_rfl) rfl rfl ?_
   refine X.dop0 rfl rfl rfl rfl (by kernel_rfl) rfl ?_
   refine X.dop rfl rfl rfl rfl (by kernel_rfl) rfl rfl ?_
   refine X.dnil ?_
   refine X.norm [(0, (V.fptr [(e_berth_board b)] 0 0)), (1, (V.i ship)), (5, (V.osl 0 0 (List.length l4))), (7, (V.i x6)), (10, (V.b ((lookM x1 x2).isSome))), (35, (V.sl (List.map e_api_Slot b.slots))), (36, (V.i (b.slots.length : Int))), (37, (V.i x6))] ?_ rfl (sr rfl)
   refine X.sq (X.q rfl (GS.opsNil ?_))
   refine X.cond rfl (fun h_6 => ?_) (fun h_6 => ?_)
   ·replace hM := ite_t h_6 hM
    refine GS.seq ?_
    obtain ⟨x3, h_7, hM⟩ := bind_of hM
    refine GS.region (X.q rfl (X.q rfl ?_))
    refine X.opR rfl (X.indexO h_7 rfl rfl rfl rfl rfl) rfl ?_
    refine X.op0W rfl (X.storeO (b := (-1000)) h_7 rfl rfl rfl rfl rfl rfl rfl) rfl (GS.opsNil (GS.seq ?_))
    obtain ⟨x4, h_8, hM⟩ := bind_of hM
    refine GS.region ?_
    iterate 5 refine X.q rfl ?_
    refine X.opR rfl (X.indexF (f := V.i) h_8 (fun _ => rfl) rfl rfl rfl rfl) rfl ?_
    refine X.opR rfl (X.loadF h_8 rfl rfl rfl) rfl (X.q rfl (X.q rfl ?_))
    refine GS.opsNil ?_
    refine X.cond rfl (fun h_9 => ?_) (fun h_9 => ?_)
    ·replace hM := ite_t h_9 hM
     obtain ⟨x5, h_10, hM⟩ := bind_of hM
     refine GS.region (X.q rfl (X.q rfl ?_))
     refine X.opR rfl (X.indexO h_10 rfl rfl (X.kev_eq rfl X.osl_put) rfl rfl) rfl ?_
     refine X.op0W rfl (X.storeO (b := (-1001)) h_10 rfl rfl rfl rfl rfl rfl rfl) rfl (GS.opsNil ?_)
     refine GS.endB ?_
     exact X.gc [some 0] (hj_4 (put (put l4 x6 (-1000)) x6 (-1001)) hM) rfl rfl rfl (gk_cons rfl ⟨9, rfl⟩ (gk_cons rfl ⟨9, rfl⟩ (gk_cons rfl (rv_eq (Eq.trans X.osl_put X.osl_put) ⟨9, rfl⟩) (ga rfl rfl)))) (gb_rows 9 rfl rfl (fun _ => rfl) gb_nil)
    replace hM := ite_f h_9 hM
    refine GS.skip ?_
    refine GS.endB ?_
    exact X.gc [some 0] (hj_4 (put l4 x6 (-1000)) hM) rfl rfl rfl (gk_cons rfl ⟨9, rfl⟩ (gk_cons rfl ⟨9, rfl⟩ (gk_cons rfl (rv_eq X.osl_put ⟨9, rfl⟩) (ga rfl rfl)))) (gb_rows 9 rfl rfl (fun _ => rfl) gb_nil)
   replace hM := ite_f h_6 hM
   refine GS.skip ?_
   refine GS.endB ?_
   exact X.gc [some 0] (hj_4 l4 hM) rfl rfl rfl (ga rfl rfl) (gb_rows 9 rfl rfl (fun _ => rfl) gb_nil)
  replace hM := ite_f h_3 hM
  refine GS.exit rfl ?_
  obtain ⟨y_1, hM, hy⟩ := map_of hM
  rw [hr_1 _ hy.symm] at hM
  exact X.gc [some 0] (hj_2 l4 hM) rfl rfl rfl (ga rfl rfl) (gb_rows 9 rfl rfl (fun _ => rfl) gb_nil)
 intro hj_1
 refine GS.block ?_
 refine X.gc [some 0] (X.loop (σ := (Int × (List Int))) (fun v => ⟨[(0, (V.fptr [(e_berth_board b)] 0 0)), (1, (V.i ship)), (5, (V.osl 0 0 (List.length v.2))), (24, (V.i (l.length : Int))), (25, (V.i v.1))], [.rows 1 (List.map V.i v.2)], 0, none, 81⟩) hM ?_ rfl) rfl rfl rfl (ga rfl rfl) (gb_rows 9 rfl rfl (fun _ => rfl) gb_nil)
 rintro ⟨x8, l5⟩ b_1 hM hc_5 hr_1
 rw [berth_board_costs_b5] at hM
 refine X.sq (X.q rfl (GS.opsNil (GS.seq ?_)))
 refine X.cond rfl (fun h_11 => ?_) (fun h_11 => ?_)
 ·replace hM := ite_t h_11 hM
  refine GS.skip (GS.seq (GS.block (X.sq (X.q rfl (X.q rfl ?_)))))
  refine GS.opsNil ?_
  obtain ⟨x7, h_12, hM⟩ := bind_of hM
  refine GS.region (X.q rfl (X.q rfl ?_))
  refine X.opR rfl (X.indexO h_12 rfl rfl rfl rfl rfl) rfl ?_
  refine X.op0W rfl (X.storeO (b := 1073741824) h_12 rfl rfl rfl rfl rfl rfl rfl) rfl (GS.opsNil ?_)
  refine GS.endB (GS.region ?_)
  refine X.opR rfl (X.addE rfl rfl) rfl (X.q rfl (GS.opsNil ?_))
  have hE := Option.some.inj hM
  exact X.gc [some 0] (hc_5 (w64 (x8 + 1), (put l5 x8 1073741824)) hE.symm) rfl rfl rfl (gk_cons rfl ⟨9, rfl⟩ (gk_cons rfl ⟨9, rfl⟩ (gk_cons rfl (rv_eq X.osl_put ⟨9, rfl⟩) (ga rfl rfl)))) (gb_rows 9 rfl rfl (fun _ => rfl) gb_nil)
 replace hM := ite_f h_11 hM
 refine GS.exit rfl ?_
 obtain ⟨y_1, hM, hy⟩ := map_of hM
 rw [hr_1 _ hy.symm] at hM
 exact X.gc [some 0] (hj_1 l5 hM) rfl rfl rfl (ga rfl rfl) (gb_rows 9 rfl rfl (fun _ => rfl) gb_nil)
end Go.Proofs.YtnkngglimidldaaGreat
