/- The program's functions compute the plain ones. Conditions: none. Printed by a program (wip/tools/xg.py). -/
import Derived.Test.YtnkngglimidldaaP2
set_option linter.unusedVariables false
set_option linter.unusedSimpArgs false
namespace Go.Proofs.Ytnkngglimidldaa
open Go Go.Am Go.Proofs Go.Mx

set_option maxHeartbeats 4000000 in
theorem ok_law06_slots {h : api_Harbour} {c : api_Call} {less : Int} {r : Bool} (hM : law06_slots h c less = some r) : Ct Try.prog 10 [(e_api_Harbour h), (e_api_Call c), (V.i less)] (V.b r) := by
 refine ct_of_gs CC_ok rfl ?_
 unfold law06_slots at hM
 refine X.sq ?_
 iterate 2 refine X.opW rfl rfl rfl rfl ?_
 refine X.q rfl (GS.opsNil (GS.seq ?_))
 obtain ⟨y, h_1, hM⟩ := bind_of hM
 refine GS.region ?_
 iterate 2 refine X.q rfl ?_
 refine X.call (ok_berth_Slots h_1) rfl rfl rfl (.cons (.shut (n := 9) rfl) (.cons (.shut (n := 9) rfl) .nil)) ?_
 iterate 5 refine X.q rfl ?_
 refine X.nq ?_
 refine X.q rfl ?_
 refine X.opW rfl rfl rfl rfl ?_
 refine X.op0W rfl rfl rfl (X.nq ?_)
 iterate 3 refine X.q rfl ?_
 refine X.opR rfl (X.subE rfl rfl) rfl ?_
 refine X.opR rfl (X.maxE rfl rfl) rfl ?_
 refine X.q rfl ?_
 refine X.op0W rfl rfl rfl (GS.opsNil (GS.seq ?_))
 obtain ⟨y1, h_2, hM⟩ := bind_of hM
 refine GS.region ?_
 iterate 2 refine X.q rfl ?_
 refine X.call (ok_berth_Slots h_2) rfl rfl rfl (.cons (.shut (n := 9) rfl) (.cons (.shut (n := 9) rfl) .nil)) ?_
 iterate 5 refine X.q rfl ?_
 refine GS.opsNil (GS.seq (X.sq ?_))
 refine X.mid [(3, (V.ptr 0 0 0)), (4, (V.ptr 1 0 0)), (7, (V.sl (List.map e_api_Slot y.1))), (10, (V.sl (List.map e_api_Slot y1.1))), (45, (V.b ((!decide (y.2 = 0)) || (!decide (y1.2 = 0)))))] ?_ ?_
 ·intro hg
  refine X.split (!decide (y.2 = 0)) (fun h_3 => ?_) (fun h_3 => ?_)
  ·iterate 3 refine X.q rfl ?_
   iterate 2 refine X.off (X.off_f rfl rfl rfl h_3) rfl ?_
   refine X.opR rfl (X.pickor_t (y := !decide (y1.2 = 0)) rfl h_3 rfl) rfl (GS.opsNil ?_)
   exact X.norm _ hg rfl (sr rfl)
  iterate 3 refine X.q rfl ?_
  iterate 2 refine X.opR (X.on_f rfl rfl rfl h_3) rfl rfl ?_
  refine X.opR rfl (X.pickor_f (y := !decide (y1.2 = 0)) rfl h_3 rfl) rfl (GS.opsNil ?_)
  exact X.norm _ hg rfl (sr rfl)
 refine X.cond rfl (fun h_4 => ?_) (fun h_4 => ?_)
 ·replace hM := ite_t h_4 hM
  refine X.sq ?_
  refine X.q rfl (GS.opsNil ?_)
  cases hM
  exact GS.ret ⟨_, rfl, ⟨30, rfl⟩⟩
 replace hM := ite_f h_4 hM
 refine GS.skip (GS.seq (X.sq ?_))
 refine X.q rfl ?_
 refine X.opR rfl (X.lenF rfl rfl rfl) rfl ?_
 refine X.q rfl (GS.opsNil ?_)
 refine X.join (τ := Unit) (fun v => law06_slots_j1 h c y = some r) (fun v => ⟨[(3, (V.ptr 0 0 0)), (4, (V.ptr 1 0 0)), (7, (V.sl (List.map e_api_Slot y.1)))], [.rows 6 [(e_api_Harbour h)], .rows 5 [(e_api_Call c)]], 0, none, 118⟩) ?_ ?_
 ·intro _ hM
  replace hM : law06_slots_j1 h c y = some r := hM
  unfold law06_slots_j1 at hM
  refine GS.seq (X.sq ?_)
  iterate 2 refine X.q rfl ?_
  refine X.opR rfl (X.lenF rfl rfl rfl) rfl ?_
  refine X.q rfl (GS.opsNil ?_)
  refine X.join (τ := Unit) (fun v => law06_slots_j2 = some r) (fun v => ⟨[], [], 0, none, 118⟩) ?_ ?_
  ·intro _ hM
   replace hM : law06_slots_j2 = some r := hM
   unfold law06_slots_j2 at hM
   refine X.sq ?_
   refine X.q rfl (GS.opsNil ?_)
   cases hM
   exact GS.ret ⟨_, rfl, ⟨30, rfl⟩⟩
  intro hj_2
  refine GS.block ?_
  refine X.gc [some 0, some 1] (X.loop (σ := Int) (fun v => ⟨[(3, (V.ptr 0 0 0)), (4, (V.ptr 1 0 0)), (7, (V.sl (List.map e_api_Slot y.1))), (58, (V.sl (List.map e_api_Span h.Tides))), (59, (V.i (h.Tides.length : Int))), (60, (V.i v))], [.rows 6 [(e_api_Harbour h)], .rows 5 [(e_api_Call c)]], 0, none, 118⟩) hM ?_ rfl) rfl rfl rfl (ga rfl rfl) (gb9 rfl rfl rfl (gb9 rfl rfl rfl gb_nil))
  intro x3 b_1 hM hc_3 hr_1
  rw [law06_slots_b3] at hM
  refine X.sq ?_
  refine X.q rfl (GS.opsNil (GS.seq ?_))
  refine X.cond rfl (fun h_5 => ?_) (fun h_5 => ?_)
  ·replace hM := ite_t h_5 hM
   refine GS.skip (GS.seq (GS.block (GS.seq ?_)))
   obtain ⟨x, h_6, hM⟩ := bind_of hM
   refine GS.region ?_
   refine X.q rfl ?_
   refine X.opR rfl (X.indexF (f := e_api_Span) h_6 (fun _ => rfl) rfl rfl rfl rfl) rfl ?_
   refine X.opR rfl (X.loadF h_6 rfl rfl rfl) rfl ?_
   refine X.opW rfl rfl rfl rfl ?_
   refine X.q rfl ?_
   refine X.op0W rfl rfl rfl (X.nq ?_)
   iterate 2 refine X.q rfl ?_
   refine X.opR rfl (X.lenF rfl rfl rfl) rfl ?_
   refine X.q rfl (GS.opsNil ?_)
   refine X.join (τ := Unit) (fun v => law06_slots_j4 x3 = some b_1) (fun v => ⟨[(3, (V.ptr 0 0 0)), (4, (V.ptr 1 0 0)), (7, (V.sl (List.map e_api_Slot y.1))), (58, (V.sl (List.map e_api_Span h.Tides))), (59, (V.i (h.Tides.length : Int))), (60, (V.i x3))], [.rows 6 [(e_api_Harbour h)], .rows 5 [(e_api_Call c)]], 0, none, 118⟩) ?_ ?_
   ·intro _ hM
    replace hM : law06_slots_j4 x3 = some b_1 := hM
    unfold law06_slots_j4 at hM
    refine GS.endB (GS.region ?_)
    refine X.opR rfl (X.addE rfl rfl) rfl ?_
    refine X.q rfl (GS.opsNil ?_)
    have hE := Option.some.inj hM
    exact X.gc [some 0, some 1] (hc_3 (w64 (x3 + 1)) hE.symm) rfl rfl rfl (ga rfl rfl) (gb9 rfl rfl rfl (gb9 rfl rfl rfl gb_nil))
   intro hj_4
   refine GS.block ?_
   refine X.gc [some 0, some 1, some 2] (X.loop (σ := Int) (fun v => ⟨[(3, (V.ptr 0 0 0)), (4, (V.ptr 1 0 0)), (7, (V.sl (List.map e_api_Slot y.1))), (14, (V.i x3)), (15, (V.ptr 2 0 0)), (58, (V.sl (List.map e_api_Span h.Tides))), (59, (V.i (h.Tides.length : Int))), (60, (V.i x3)), (66, (V.sl (List.map e_api_Berth h.Berths))), (67, (V.i (h.Berths.length : Int))), (68, (V.i v))], [.rows 6 [(e_api_Harbour h)], .rows 5 [(e_api_Call c)], .rows 2 [(e_api_Span x)]], 0, none, 118⟩) hM ?_ rfl) rfl rfl rfl (ga rfl rfl) (gb9 rfl rfl rfl (gb9 rfl rfl rfl (gb9 rfl rfl rfl gb_nil)))
   intro x2 b_2 hM hc_5 hr_2
   rw [law06_slots_b5] at hM
   refine X.sq ?_
   refine X.q rfl (GS.opsNil (GS.seq ?_))
   refine X.cond rfl (fun h_7 => ?_) (fun h_7 => ?_)
   ·replace hM := ite_t h_7 hM
    refine GS.skip (GS.seq ?_)
    refine X.join (τ := Unit) (fun v => law06_slots_j6 x2 = some b_2) (fun v => ⟨[(3, (V.ptr 0 0 0)), (4, (V.ptr 1 0 0)), (7, (V.sl (List.map e_api_Slot y.1))), (14, (V.i x3)), (15, (V.ptr 2 0 0)), (58, (V.sl (List.map e_api_Span h.Tides))), (59, (V.i (h.Tides.length : Int))), (60, (V.i x3)), (66, (V.sl (List.map e_api_Berth h.Berths))), (67, (V.i (h.Berths.length : Int))), (68, (V.i x2))], [.rows 6 [(e_api_Harbour h)], .rows 5 [(e_api_Call c)], .rows 2 [(e_api_Span x)]], 0, none, 118⟩) ?_ ?_
    ·intro _ hM
     replace hM : law06_slots_j6 x2 = some b_2 := hM
     unfold law06_slots_j6 at hM
     refine GS.region ?_
     refine X.opR rfl (X.addE rfl rfl) rfl ?_
     refine X.q rfl (GS.opsNil ?_)
     have hE := Option.some.inj hM
     exact X.gc [some 0, some 1, some 2] (hc_5 (w64 (x2 + 1)) hE.symm) rfl rfl rfl (ga rfl rfl) (gb9 rfl rfl rfl (gb9 rfl rfl rfl (gb9 rfl rfl rfl gb_nil)))
    intro hj_6
    refine GS.block (GS.seq ?_)
    obtain ⟨x1, h_8, hM⟩ := bind_of hM
    refine GS.region ?_
    refine X.opR rfl (X.indexF (f := e_api_Berth) h_8 (fun _ => rfl) rfl rfl rfl rfl) rfl ?_
    refine X.opR rfl (X.loadF h_8 rfl rfl rfl) rfl ?_
    refine X.opW (H' := [.rows 6 [(e_api_Harbour h)], .rows 5 [(e_api_Call c)], .rows 2 [(e_api_Span x)], .rows 2 [(V.agg [(V.i 0), (V.i 0)])]]) rfl rfl rfl rfl ?_
    refine X.op0W (H' := [.rows 6 [(e_api_Harbour h)], .rows 5 [(e_api_Call c)], .rows 2 [(e_api_Span x)], .rows 2 [(e_api_Berth x1)]]) rfl rfl rfl (X.nq ?_)
    iterate 4 refine X.q rfl ?_
    refine X.opW (H' := [.rows 6 [(e_api_Harbour h)], .rows 5 [(e_api_Call c)], .rows 2 [(e_api_Span x)], .rows 2 [(e_api_Berth x1)], .rows 2 [(V.agg [(V.i 0), (V.i 0)])]]) rfl rfl rfl rfl ?_
    refine X.op0W (H' := [.rows 6 [(e_api_Harbour h)], .rows 5 [(e_api_Call c)], .rows 2 [(e_api_Span x)], .rows 2 [(e_api_Berth x1)], .rows 2 [(V.agg [(V.i x3), (V.i x1.ID)])]]) rfl rfl rfl (GS.opsNil (GS.seq (X.sq ?_)))
    refine X.mid [(3, (V.ptr 0 0 0)), (4, (V.ptr 1 0 0)), (7, (V.sl (List.map e_api_Slot y.1))), (14, (V.i x3)), (15, (V.ptr 2 0 0)), (18, (V.ptr 4 0 0)), (58, (V.sl (List.map e_api_Span h.Tides))), (59, (V.i (h.Tides.length : Int))), (60, (V.i x3)), (66, (V.sl (List.map e_api_Berth h.Berths))), (67, (V.i (h.Berths.length : Int))), (68, (V.i x2)), (87, (V.b ((decide (x.Lo < c.From)) || (decide (c.To < x.Hi)))))] ?_ ?_
    ·intro hg
     refine X.split (decide (x.Lo < c.From)) (fun h_9 => ?_) (fun h_9 => ?_)
     ·iterate 6 refine X.q rfl ?_
      iterate 5 refine X.off (X.off_f rfl rfl rfl h_9) rfl ?_
      refine X.opR rfl (X.pickor_t (y := decide (c.To < x.Hi)) rfl h_9 rfl) rfl (GS.opsNil ?_)
      exact X.norm _ hg rfl (sr rfl)
     iterate 6 refine X.q rfl ?_
     iterate 5 refine X.opR (X.on_f rfl rfl rfl h_9) rfl rfl ?_
     refine X.opR rfl (X.pickor_f (y := decide (c.To < x.Hi)) rfl h_9 rfl) rfl (GS.opsNil ?_)
     exact X.norm _ hg rfl (sr rfl)
    refine X.cond rfl (fun h_10 => ?_) (fun h_10 => ?_)
    ·replace hM := ite_t h_10 hM
     refine GS.exit rfl ?_
     exact X.gc [some 0, some 1, some 2] (hj_6 () hM) rfl rfl rfl (ga rfl rfl) (gb9 rfl rfl rfl (gb9 rfl rfl rfl (gb9 rfl rfl rfl gb_nil)))
    replace hM := ite_f h_10 hM
    refine GS.skip (GS.seq ?_)
    obtain ⟨y2, h_11, hM⟩ := bind_of hM
    refine GS.region ?_
    iterate 4 refine X.q rfl ?_
    refine X.call (ok_berth_Allow h_11) rfl rfl rfl (.cons (.shut (n := 9) rfl) (.cons (.shut (n := 9) rfl) (.cons (.shut (n := 9) rfl) .nil))) ?_
    iterate 5 refine X.q rfl ?_
    refine GS.opsNil (GS.seq ?_)
    obtain ⟨y3, h_12, hM⟩ := gb_of hM
    refine GS.region ?_
    refine X.mid [(3, (V.ptr 0 0 0)), (4, (V.ptr 1 0 0)), (7, (V.sl (List.map e_api_Slot y.1))), (14, (V.i x3)), (15, (V.ptr 2 0 0)), (58, (V.sl (List.map e_api_Span h.Tides))), (59, (V.i (h.Tides.length : Int))), (60, (V.i x3)), (66, (V.sl (List.map e_api_Berth h.Berths))), (67, (V.i (h.Berths.length : Int))), (68, (V.i x2)), (115, (V.b (((!decide (y2.2 = 0)) && (!decide (y2.2 = 5))) || (!(y3 == ((decide (y2.2 = 0)) && (decide (c.Draught ≤ y2.1))))))))] ?_ ?_
    ·intro hg
     refine X.split (!decide (y2.2 = 0)) (fun h_13 => ?_) (fun h_13 => ?_)
     ·refine X.split (((!decide (y2.2 = 0)) && (!decide (y2.2 = 5)))) (fun h_14 => ?_) (fun h_14 => ?_)
      ·iterate 3 refine X.q rfl ?_
       iterate 2 refine X.opR (X.on_t rfl rfl rfl h_13) rfl rfl ?_
       refine X.opR rfl (X.pickand_t (y := !decide (y2.2 = 5)) rfl h_13 rfl) rfl ?_
       refine X.q rfl ?_
       iterate 6 refine X.off (X.off_f rfl rfl rfl h_14) rfl ?_
       iterate 4 refine X.off rfl rfl ?_
       iterate 2 refine X.off (X.off_f rfl rfl rfl h_14) rfl ?_
       refine X.opR rfl (X.pickor_t (y := !(y3 == ((decide (y2.2 = 0)) && (decide (c.Draught ≤ y2.1))))) rfl h_14 rfl) rfl (GS.opsNil ?_)
       exact X.norm _ hg rfl (sr rfl)
      refine X.split (decide (y2.2 = 0)) (fun h_15 => ?_) (fun h_15 => ?_)
      ·iterate 3 refine X.q rfl ?_
       iterate 2 refine X.opR (X.on_t rfl rfl rfl h_13) rfl rfl ?_
       refine X.opR rfl (X.pickand_t (y := !decide (y2.2 = 5)) rfl h_13 rfl) rfl ?_
       refine X.q rfl ?_
       iterate 2 refine X.opR (X.on_f rfl rfl rfl h_14) rfl rfl ?_
       refine X.call (ok_law06_has (h_12 (X.nt h_14))) (X.on_f rfl rfl rfl h_14) rfl rfl (.cons (.shut (n := 9) rfl) (.cons (.shut (n := 9) rfl) .nil)) ?_
       iterate 3 refine X.opR (X.on_f rfl rfl rfl h_14) rfl rfl ?_
       iterate 4 refine X.opR (X.on_t rfl rfl rfl h_15) rfl rfl ?_
       refine X.opR (X.on_f rfl rfl rfl h_14) (X.pickand_t (y := decide (c.Draught ≤ y2.1)) rfl h_15 rfl) rfl ?_
       refine X.opR (X.on_f rfl rfl rfl h_14) rfl rfl ?_
       refine X.opR rfl (X.pickor_f (y := !(y3 == ((decide (y2.2 = 0)) && (decide (c.Draught ≤ y2.1))))) rfl h_14 rfl) rfl (GS.opsNil ?_)
       exact X.norm _ hg rfl (sr rfl)
      iterate 3 refine X.q rfl ?_
      iterate 2 refine X.opR (X.on_t rfl rfl rfl h_13) rfl rfl ?_
      refine X.opR rfl (X.pickand_t (y := !decide (y2.2 = 5)) rfl h_13 rfl) rfl ?_
      refine X.q rfl ?_
      iterate 2 refine X.opR (X.on_f rfl rfl rfl h_14) rfl rfl ?_
      refine X.call (ok_law06_has (h_12 (X.nt h_14))) (X.on_f rfl rfl rfl h_14) rfl rfl (.cons (.shut (n := 9) rfl) (.cons (.shut (n := 9) rfl) .nil)) ?_
      iterate 3 refine X.opR (X.on_f rfl rfl rfl h_14) rfl rfl ?_
      iterate 4 refine X.off (X.off_t rfl rfl rfl h_15) rfl ?_
      refine X.opR (X.on_f rfl rfl rfl h_14) (X.pickand_f (y := decide (c.Draught ≤ y2.1)) rfl h_15 rfl) rfl ?_
      refine X.opR (X.on_f rfl rfl rfl h_14) rfl rfl ?_
      refine X.opR rfl (X.pickor_f (y := !(y3 == ((decide (y2.2 = 0)) && (decide (c.Draught ≤ y2.1))))) rfl h_14 rfl) rfl (GS.opsNil ?_)
      exact X.norm _ hg rfl (sr rfl)
     refine X.split (decide (y2.2 = 0)) (fun h_16 => ?_) (fun h_16 => ?_)
     ·iterate 3 refine X.q rfl ?_
      iterate 2 refine X.off (X.off_t rfl rfl rfl h_13) rfl ?_
      refine X.opR rfl (X.pickand_f (y := !decide (y2.2 = 5)) rfl h_13 rfl) rfl ?_
      refine X.q rfl ?_
      iterate 2 refine X.opR (X.on_f rfl rfl rfl (X.and_ff h_13)) rfl rfl ?_
      refine X.call (ok_law06_has (h_12 (X.nt (X.and_ff h_13)))) (X.on_f rfl rfl rfl (X.and_ff h_13)) rfl rfl (.cons (.shut (n := 9) rfl) (.cons (.shut (n := 9) rfl) .nil)) ?_
      iterate 3 refine X.opR (X.on_f rfl rfl rfl (X.and_ff h_13)) rfl rfl ?_
      iterate 4 refine X.opR (X.on_t rfl rfl rfl h_16) rfl rfl ?_
      refine X.opR (X.on_f rfl rfl rfl (X.and_ff h_13)) (X.pickand_t (y := decide (c.Draught ≤ y2.1)) rfl h_16 rfl) rfl ?_
      refine X.opR (X.on_f rfl rfl rfl (X.and_ff h_13)) rfl rfl ?_
      refine X.opR rfl (X.pickor_f (y := !(y3 == ((decide (y2.2 = 0)) && (decide (c.Draught ≤ y2.1))))) rfl (X.and_ff h_13) rfl) rfl (GS.opsNil ?_)
      exact X.norm _ hg rfl (sr rfl)
     iterate 3 refine X.q rfl ?_
     iterate 2 refine X.off (X.off_t rfl rfl rfl h_13) rfl ?_
     refine X.opR rfl (X.pickand_f (y := !decide (y2.2 = 5)) rfl h_13 rfl) rfl ?_
     refine X.q rfl ?_
     iterate 2 refine X.opR (X.on_f rfl rfl rfl (X.and_ff h_13)) rfl rfl ?_
     refine X.call (ok_law06_has (h_12 (X.nt (X.and_ff h_13)))) (X.on_f rfl rfl rfl (X.and_ff h_13)) rfl rfl (.cons (.shut (n := 9) rfl) (.cons (.shut (n := 9) rfl) .nil)) ?_
     iterate 3 refine X.opR (X.on_f rfl rfl rfl (X.and_ff h_13)) rfl rfl ?_
     iterate 4 refine X.off (X.off_t rfl rfl rfl h_16) rfl ?_
     refine X.opR (X.on_f rfl rfl rfl (X.and_ff h_13)) (X.pickand_f (y := decide (c.Draught ≤ y2.1)) rfl h_16 rfl) rfl ?_
     refine X.opR (X.on_f rfl rfl rfl (X.and_ff h_13)) rfl rfl ?_
     refine X.opR rfl (X.pickor_f (y := !(y3 == ((decide (y2.2 = 0)) && (decide (c.Draught ≤ y2.1))))) rfl (X.and_ff h_13) rfl) rfl (GS.opsNil ?_)
     exact X.norm _ hg rfl (sr rfl)
    refine X.cond rfl (fun h_17 => ?_) (fun h_17 => ?_)
    ·replace hM := ite_t h_17 hM
     refine X.sq ?_
     refine X.q rfl (GS.opsNil ?_)
     have hE := Option.some.inj hM
     replace hE := hr_2 _ hE.symm
     replace hE := hr_1 _ hE.symm
     subst hE
     exact GS.ret ⟨_, rfl, ⟨30, rfl⟩⟩
    replace hM := ite_f h_17 hM
    refine GS.skip ?_
    refine GS.endB ?_
    exact X.gc [some 0, some 1, some 2] (hj_6 () hM) rfl rfl rfl (ga rfl rfl) (gb9 rfl rfl rfl (gb9 rfl rfl rfl (gb9 rfl rfl rfl gb_nil)))
   replace hM := ite_f h_7 hM
   refine GS.exit rfl ?_
   obtain ⟨y_2, hM, hy⟩ := map_of hM
   rw [hr_2 _ hy.symm] at hM
   exact X.gc [some 0, some 1] (hj_4 () hM) rfl rfl rfl (ga rfl rfl) (gb9 rfl rfl rfl (gb9 rfl rfl rfl gb_nil))
  replace hM := ite_f h_5 hM
  refine GS.exit rfl ?_
  obtain ⟨y_1, hM, hy⟩ := map_of hM
  rw [hr_1 _ hy.symm] at hM
  exact X.gc [] (hj_2 () hM) rfl rfl rfl (gk_nil) (gb_nil)
 intro hj_1
 refine GS.block ?_
 refine X.gc [some 0, some 1] (X.loop (σ := Int) (fun v => ⟨[(3, (V.ptr 0 0 0)), (4, (V.ptr 1 0 0)), (7, (V.sl (List.map e_api_Slot y.1))), (10, (V.sl (List.map e_api_Slot y1.1))), (46, (V.sl (List.map e_api_Slot y.1))), (47, (V.i (y.1.length : Int))), (48, (V.i v))], [.rows 6 [(e_api_Harbour h)], .rows 5 [(e_api_Call c)]], 0, none, 118⟩) hM ?_ rfl) rfl rfl rfl (ga rfl rfl) (gb9 rfl rfl rfl (gb9 rfl rfl rfl gb_nil))
 intro x5 b_1 hM hc_7 hr_1
 rw [law06_slots_b7] at hM
 refine X.sq ?_
 refine X.q rfl (GS.opsNil (GS.seq ?_))
 refine X.cond rfl (fun h_18 => ?_) (fun h_18 => ?_)
 ·replace hM := ite_t h_18 hM
  refine GS.skip (GS.seq (GS.block (GS.seq ?_)))
  obtain ⟨x4, h_19, hM⟩ := bind_of hM
  refine GS.region ?_
  refine X.opR rfl (X.indexF (f := e_api_Slot) h_19 (fun _ => rfl) rfl rfl rfl rfl) rfl ?_
  refine X.opR rfl (X.loadF h_19 rfl rfl rfl) rfl ?_
  refine X.opW rfl rfl rfl rfl ?_
  refine X.op0W rfl rfl rfl (GS.opsNil (GS.seq ?_))
  obtain ⟨y4, h_20, hM⟩ := bind_of hM
  refine GS.region ?_
  iterate 2 refine X.q rfl ?_
  refine X.call (ok_law06_has h_20) rfl rfl rfl (.cons (.shut (n := 9) rfl) (.cons (.shut (n := 9) rfl) .nil)) ?_
  refine X.q rfl (GS.opsNil ?_)
  refine X.cond rfl (fun h_21 => ?_) (fun h_21 => ?_)
  ·replace hM := ite_t h_21 hM
   refine X.sq ?_
   refine X.q rfl (GS.opsNil ?_)
   have hE := Option.some.inj hM
   replace hE := hr_1 _ hE.symm
   subst hE
   exact GS.ret ⟨_, rfl, ⟨30, rfl⟩⟩
  replace hM := ite_f h_21 hM
  refine GS.skip ?_
  refine GS.endB (GS.region ?_)
  refine X.opR rfl (X.addE rfl rfl) rfl ?_
  refine X.q rfl (GS.opsNil ?_)
  have hE := Option.some.inj hM
  exact X.gc [some 0, some 1] (hc_7 (w64 (x5 + 1)) hE.symm) rfl rfl rfl (ga rfl rfl) (gb9 rfl rfl rfl (gb9 rfl rfl rfl gb_nil))
 replace hM := ite_f h_18 hM
 refine GS.exit rfl ?_
 obtain ⟨y_1, hM, hy⟩ := map_of hM
 rw [hr_1 _ hy.symm] at hM
 exact X.gc [some 0, some 1] (hj_1 () hM) rfl rfl rfl (ga rfl rfl) (gb9 rfl rfl rfl (gb9 rfl rfl rfl gb_nil))

set_option maxHeartbeats 4000000 in
theorem ok_law06_BerthClear {h : api_Harbour} {l : (List api_Call)} {less : Int} {r : Bool} (hM : law06_BerthClear h l less = some r) : Ct Try.prog 3 [(e_api_Harbour h), (V.sl (List.map e_api_Call l)), (V.lit (.int .u8 less))] (V.b r) := by
 refine ct_of_gs CC_ok rfl ?_
 unfold law06_BerthClear at hM
 refine X.sq ?_
 refine X.opW rfl rfl rfl rfl ?_
 refine X.q rfl (GS.opsNil ?_)
 iterate 2 refine GS.seq ?_
 obtain ⟨y, h_1, hM⟩ := bind_of hM
 refine GS.region ?_
 refine X.mid [(1, (V.sl (List.map e_api_Call l))), (2, (V.lit (.int .u8 less))), (3, (V.ptr 0 0 0)), (22, (V.b ((!y) || (decide (6 < (l.length : Int))))))] ?_ ?_
 ·intro hg
  refine X.split (!y) (fun h_2 => ?_) (fun h_2 => ?_)
  ·refine X.q rfl ?_
   refine X.call (ok_law06_small h_1) rfl rfl rfl (.cons (.shut (n := 9) rfl) .nil) ?_
   iterate 2 refine X.q rfl ?_
   iterate 3 refine X.off (X.off_f rfl rfl rfl h_2) rfl ?_
   refine X.opR rfl (X.pickor_t (y := decide (6 < (l.length : Int))) rfl h_2 rfl) rfl (GS.opsNil ?_)
   exact X.norm _ hg rfl (sr rfl)
  refine X.q rfl ?_
  refine X.call (ok_law06_small h_1) rfl rfl rfl (.cons (.shut (n := 9) rfl) .nil) ?_
  iterate 2 refine X.q rfl ?_
  refine X.opR (X.on_f rfl rfl rfl h_2) rfl rfl ?_
  refine X.opR (X.on_f rfl rfl rfl h_2) (X.lenF rfl rfl rfl) rfl ?_
  refine X.opR (X.on_f rfl rfl rfl h_2) rfl rfl ?_
  refine X.opR rfl (X.pickor_f (y := decide (6 < (l.length : Int))) rfl h_2 rfl) rfl (GS.opsNil ?_)
  exact X.norm _ hg rfl (sr rfl)
 refine X.cond rfl (fun h_3 => ?_) (fun h_3 => ?_)
 ·replace hM := ite_t h_3 hM
  refine GS.seq ?_
  obtain ⟨y1, h_4, hM⟩ := bind_of hM
  refine GS.region ?_
  refine X.call (ok_law06_sanity h_4) rfl rfl rfl .nil ?_
  refine X.q rfl (GS.opsNil ?_)
  cases hM
  exact GS.ret ⟨_, rfl, ⟨30, rfl⟩⟩
 replace hM := ite_f h_3 hM
 refine GS.skip (GS.seq ?_)
 obtain ⟨y2, h_5, hM⟩ := bind_of hM
 refine GS.region ?_
 iterate 2 refine X.q rfl ?_
 refine X.call (ok_berth_Plan h_5) rfl rfl rfl (.cons (.shut (n := 9) rfl) (.cons (.shut (n := 9) rfl) .nil)) ?_
 iterate 5 refine X.q rfl ?_
 refine GS.opsNil (GS.seq (X.sq ?_))
 iterate 2 refine X.q rfl ?_
 refine GS.opsNil ?_
 refine X.cond rfl (fun h_6 => ?_) (fun h_6 => ?_)
 ·replace hM := ite_t h_6 hM
  refine GS.seq ?_
  obtain ⟨y3, h_7, hM⟩ := bind_of hM
  refine GS.region ?_
  refine X.mid [(6, (V.b (y3 && (decide ((y2.1.length : Int) = 0)))))] ?_ ?_
  ·intro hg
   refine X.split (y3) (fun h_8 => ?_) (fun h_8 => ?_)
   ·refine X.call (ok_law06_sanity h_7) rfl rfl rfl .nil ?_
    refine X.q rfl ?_
    refine X.opR (X.on_t rfl rfl rfl h_8) rfl rfl ?_
    refine X.opR (X.on_t rfl rfl rfl h_8) (X.lenF rfl rfl rfl) rfl ?_
    refine X.opR (X.on_t rfl rfl rfl h_8) rfl rfl ?_
    refine X.opR rfl (X.pickand_t (y := decide ((y2.1.length : Int) = 0)) rfl h_8 rfl) rfl ?_
    refine X.q rfl (GS.opsNil ?_)
    exact X.norm _ hg rfl (sr rfl)
   refine X.call (ok_law06_sanity h_7) rfl rfl rfl .nil ?_
   refine X.q rfl ?_
   iterate 3 refine X.off (X.off_t rfl rfl rfl h_8) rfl ?_
   refine X.opR rfl (X.pickand_f (y := decide ((y2.1.length : Int) = 0)) rfl h_8 rfl) rfl ?_
   refine X.q rfl (GS.opsNil ?_)
   exact X.norm _ hg rfl (sr rfl)
  cases hM
  exact GS.ret ⟨_, rfl, ⟨30, rfl⟩⟩
 replace hM := ite_f h_6 hM
 refine GS.skip (GS.seq (X.sq ?_))
 refine X.q rfl ?_
 refine X.opR rfl (X.lenF rfl rfl rfl) rfl ?_
 refine X.q rfl (GS.opsNil ?_)
 refine X.join (τ := Unit) (fun v => law06_BerthClear_j1 h l less = some r) (fun v => ⟨[(1, (V.sl (List.map e_api_Call l))), (2, (V.lit (.int .u8 less))), (3, (V.ptr 0 0 0))], [.rows 6 [(e_api_Harbour h)]], 0, none, 78⟩) ?_ ?_
 ·intro _ hM
  replace hM : law06_BerthClear_j1 h l less = some r := hM
  unfold law06_BerthClear_j1 at hM
  refine GS.seq (X.sq ?_)
  refine X.q rfl ?_
  refine X.opR rfl (X.lenF rfl rfl rfl) rfl ?_
  refine X.q rfl (GS.opsNil ?_)
  refine X.join (τ := Unit) (fun v => law06_BerthClear_j2 = some r) (fun v => ⟨[], [], 0, none, 78⟩) ?_ ?_
  ·intro _ hM
   replace hM : law06_BerthClear_j2 = some r := hM
   unfold law06_BerthClear_j2 at hM
   refine GS.seq ?_
   obtain ⟨y4, h_9, hM⟩ := bind_of hM
   refine GS.region ?_
   refine X.call (ok_law06_sanity h_9) rfl rfl rfl .nil ?_
   refine X.q rfl (GS.opsNil ?_)
   cases hM
   exact GS.ret ⟨_, rfl, ⟨30, rfl⟩⟩
  intro hj_2
  refine GS.block ?_
  refine X.gc [some 0] (X.loop (σ := Int) (fun v => ⟨[(2, (V.lit (.int .u8 less))), (3, (V.ptr 0 0 0)), (64, (V.sl (List.map e_api_Call l))), (65, (V.i (l.length : Int))), (66, (V.i v))], [.rows 6 [(e_api_Harbour h)]], 0, none, 78⟩) hM ?_ rfl) rfl rfl rfl (ga rfl rfl) (gb9 rfl rfl rfl gb_nil)
  intro x1 b_1 hM hc_3 hr_1
  rw [law06_BerthClear_b3] at hM
  refine X.sq ?_
  refine X.q rfl (GS.opsNil (GS.seq ?_))
  refine X.cond rfl (fun h_10 => ?_) (fun h_10 => ?_)
  ·replace hM := ite_t h_10 hM
   refine GS.skip (GS.seq (GS.block (GS.seq ?_)))
   obtain ⟨x, h_11, hM⟩ := bind_of hM
   refine GS.region ?_
   refine X.opR rfl (X.indexF (f := e_api_Call) h_11 (fun _ => rfl) rfl rfl rfl rfl) rfl ?_
   refine X.opR rfl (X.loadF h_11 rfl rfl rfl) rfl ?_
   refine X.opW rfl rfl rfl rfl ?_
   refine X.op0W rfl rfl rfl (GS.opsNil (GS.seq ?_))
   obtain ⟨y5, h_12, hM⟩ := bind_of hM
   refine GS.region ?_
   iterate 3 refine X.q rfl ?_
   refine X.opR rfl (X.convE rfl rfl rfl rfl) rfl ?_
   refine X.call (ok_law06_slots h_12) rfl rfl rfl (.cons (.shut (n := 9) rfl) (.cons (.shut (n := 9) rfl) (.cons (.shut (n := 9) rfl) .nil))) ?_
   refine X.q rfl (GS.opsNil ?_)
   refine X.cond rfl (fun h_13 => ?_) (fun h_13 => ?_)
   ·replace hM := ite_t h_13 hM
    refine X.sq ?_
    refine X.q rfl (GS.opsNil ?_)
    have hE := Option.some.inj hM
    replace hE := hr_1 _ hE.symm
    subst hE
    exact GS.ret ⟨_, rfl, ⟨30, rfl⟩⟩
   replace hM := ite_f h_13 hM
   refine GS.skip ?_
   refine GS.endB (GS.region ?_)
   refine X.opR rfl (X.addE rfl rfl) rfl ?_
   refine X.q rfl (GS.opsNil ?_)
   have hE := Option.some.inj hM
   exact X.gc [some 0] (hc_3 (w64 (x1 + 1)) hE.symm) rfl rfl rfl (ga rfl rfl) (gb9 rfl rfl rfl gb_nil)
  replace hM := ite_f h_10 hM
  refine GS.exit rfl ?_
  obtain ⟨y_1, hM, hy⟩ := map_of hM
  rw [hr_1 _ hy.symm] at hM
  exact X.gc [] (hj_2 () hM) rfl rfl rfl (gk_nil) (gb_nil)
 intro hj_1
 refine GS.block ?_
 refine X.gc [some 0] (X.loop (σ := Int) (fun v => ⟨[(1, (V.sl (List.map e_api_Call l))), (2, (V.lit (.int .u8 less))), (3, (V.ptr 0 0 0)), (38, (V.sl (List.map e_api_Stay y2.1))), (39, (V.i (y2.1.length : Int))), (40, (V.i v))], [.rows 6 [(e_api_Harbour h)]], 0, none, 78⟩) hM ?_ rfl) rfl rfl rfl (ga rfl rfl) (gb9 rfl rfl rfl gb_nil)
 intro x5 b_1 hM hc_4 hr_1
 rw [law06_BerthClear_b4] at hM
 refine X.sq ?_
 refine X.q rfl (GS.opsNil (GS.seq ?_))
 refine X.cond rfl (fun h_14 => ?_) (fun h_14 => ?_)
 ·replace hM := ite_t h_14 hM
  refine GS.skip (GS.seq (GS.block (GS.seq ?_)))
  obtain ⟨x2, h_15, hM⟩ := bind_of hM
  refine GS.region ?_
  refine X.opR rfl (X.indexF (f := e_api_Stay) h_15 (fun _ => rfl) rfl rfl rfl rfl) rfl ?_
  refine X.opR rfl (X.loadF h_15 rfl rfl rfl) rfl ?_
  refine X.opW rfl rfl rfl rfl ?_
  refine X.op0W rfl rfl rfl (X.nq ?_)
  refine X.q rfl ?_
  refine X.opR rfl (X.lenF rfl rfl rfl) rfl ?_
  refine X.q rfl (GS.opsNil ?_)
  refine X.join (τ := Unit) (fun v => law06_BerthClear_j5 x5 = some b_1) (fun v => ⟨[(1, (V.sl (List.map e_api_Call l))), (2, (V.lit (.int .u8 less))), (3, (V.ptr 0 0 0)), (38, (V.sl (List.map e_api_Stay y2.1))), (39, (V.i (y2.1.length : Int))), (40, (V.i x5))], [.rows 6 [(e_api_Harbour h)]], 0, none, 78⟩) ?_ ?_
  ·intro _ hM
   replace hM : law06_BerthClear_j5 x5 = some b_1 := hM
   unfold law06_BerthClear_j5 at hM
   refine GS.endB (GS.region ?_)
   refine X.opR rfl (X.addE rfl rfl) rfl ?_
   refine X.q rfl (GS.opsNil ?_)
   have hE := Option.some.inj hM
   exact X.gc [some 0] (hc_4 (w64 (x5 + 1)) hE.symm) rfl rfl rfl (ga rfl rfl) (gb9 rfl rfl rfl gb_nil)
  intro hj_5
  refine GS.block ?_
  refine X.gc [some 0, some 1] (X.loop (σ := Int) (fun v => ⟨[(1, (V.sl (List.map e_api_Call l))), (2, (V.lit (.int .u8 less))), (3, (V.ptr 0 0 0)), (10, (V.ptr 1 0 0)), (38, (V.sl (List.map e_api_Stay y2.1))), (39, (V.i (y2.1.length : Int))), (40, (V.i x5)), (44, (V.sl (List.map e_api_Call l))), (45, (V.i (l.length : Int))), (46, (V.i v))], [.rows 6 [(e_api_Harbour h)], .rows 5 [(e_api_Stay x2)]], 0, none, 78⟩) hM ?_ rfl) rfl rfl rfl (ga rfl rfl) (gb9 rfl rfl rfl (gb9 rfl rfl rfl gb_nil))
  intro x4 b_2 hM hc_6 hr_2
  rw [law06_BerthClear_b6] at hM
  refine X.sq ?_
  refine X.q rfl (GS.opsNil (GS.seq ?_))
  refine X.cond rfl (fun h_16 => ?_) (fun h_16 => ?_)
  ·replace hM := ite_t h_16 hM
   refine GS.skip (GS.seq (GS.block (GS.seq ?_)))
   obtain ⟨x3, h_17, hM⟩ := bind_of hM
   refine GS.region ?_
   refine X.opR rfl (X.indexF (f := e_api_Call) h_17 (fun _ => rfl) rfl rfl rfl rfl) rfl ?_
   refine X.opR rfl (X.loadF h_17 rfl rfl rfl) rfl ?_
   refine X.opW rfl rfl rfl rfl ?_
   refine X.op0W rfl rfl rfl (GS.opsNil (GS.seq ?_))
   obtain ⟨y6, h_18, hM⟩ := gb_of hM
   refine GS.region ?_
   refine X.mid [(1, (V.sl (List.map e_api_Call l))), (2, (V.lit (.int .u8 less))), (3, (V.ptr 0 0 0)), (10, (V.ptr 1 0 0)), (38, (V.sl (List.map e_api_Stay y2.1))), (39, (V.i (y2.1.length : Int))), (40, (V.i x5)), (44, (V.sl (List.map e_api_Call l))), (45, (V.i (l.length : Int))), (46, (V.i x4)), (61, (V.b ((decide (x3.ID = x2.Call)) && (!y6))))] ?_ ?_
   ·intro hg
    refine X.split (decide (x3.ID = x2.Call)) (fun h_19 => ?_) (fun h_19 => ?_)
    ·iterate 6 refine X.q rfl ?_
     iterate 3 refine X.opR (X.on_t rfl rfl rfl h_19) rfl rfl ?_
     refine X.call (ok_law06_clear (h_18 h_19)) (X.on_t rfl rfl rfl h_19) rfl rfl (.cons (.shut (n := 9) rfl) (.cons (.shut (n := 9) rfl) (.cons (.shut (n := 9) rfl) .nil))) ?_
     refine X.opR (X.on_t rfl rfl rfl h_19) rfl rfl ?_
     refine X.opR rfl (X.pickand_t (y := !y6) rfl h_19 rfl) rfl (GS.opsNil ?_)
     exact X.norm _ hg rfl (sr rfl)
    iterate 6 refine X.q rfl ?_
    iterate 5 refine X.off (X.off_t rfl rfl rfl h_19) rfl ?_
    refine X.opR rfl (X.pickand_f (y := !y6) rfl h_19 rfl) rfl (GS.opsNil ?_)
    exact X.norm _ hg rfl (sr rfl)
   refine X.cond rfl (fun h_20 => ?_) (fun h_20 => ?_)
   ·replace hM := ite_t h_20 hM
    refine X.sq ?_
    refine X.q rfl (GS.opsNil ?_)
    have hE := Option.some.inj hM
    replace hE := hr_2 _ hE.symm
    replace hE := hr_1 _ hE.symm
    subst hE
    exact GS.ret ⟨_, rfl, ⟨30, rfl⟩⟩
   replace hM := ite_f h_20 hM
   refine GS.skip ?_
   refine GS.endB (GS.region ?_)
   refine X.opR rfl (X.addE rfl rfl) rfl ?_
   refine X.q rfl (GS.opsNil ?_)
   have hE := Option.some.inj hM
   exact X.gc [some 0, some 1] (hc_6 (w64 (x4 + 1)) hE.symm) rfl rfl rfl (ga rfl rfl) (gb9 rfl rfl rfl (gb9 rfl rfl rfl gb_nil))
  replace hM := ite_f h_16 hM
  refine GS.exit rfl ?_
  obtain ⟨y_2, hM, hy⟩ := map_of hM
  rw [hr_2 _ hy.symm] at hM
  exact X.gc [some 0] (hj_5 () hM) rfl rfl rfl (ga rfl rfl) (gb9 rfl rfl rfl gb_nil)
 replace hM := ite_f h_14 hM
 refine GS.exit rfl ?_
 obtain ⟨y_1, hM, hy⟩ := map_of hM
 rw [hr_1 _ hy.symm] at hM
 exact X.gc [some 0] (hj_1 () hM) rfl rfl rfl (ga rfl rfl) (gb9 rfl rfl rfl gb_nil)

end Go.Proofs.Ytnkngglimidldaa
