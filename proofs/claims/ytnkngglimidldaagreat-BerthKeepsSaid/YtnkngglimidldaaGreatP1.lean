/- The program's functions compute the plain ones. Conditions: none. Printed by a program (wip/tools/xg.py). -/
import Derived.Test.YtnkngglimidldaaGreatTok
import Derived.Test.YtnkngglimidldaaGreatSrt
import Derived.Test.YtnkngglimidldaaGreatM
set_option linter.unusedVariables false
set_option linter.unusedSimpArgs false
namespace Go.Proofs.YtnkngglimidldaaGreat
open Go Go.Am Go.Proofs Go.Mx
noncomputable def CC : Cfg := cfg (Ct Tryz.prog)
theorem ZK : CC.OK := cfg_ok fun f args v h => h
abbrev zw (x : zp) : V := .agg [(V.i x.ID), (V.i x.Begin), (V.i x.Every), (V.sl (List.map V.i x.Heights))]
abbrev jv (x : yD) : V := .agg [(V.i x.From), (V.i x.To), (V.i x.Add)]
abbrev ZB (x : zX) : V := .agg [(V.i x.Level), (V.sl (List.map zw x.Cycles)), (V.sl (List.map jv x.Shifts))]
abbrev zT (x : zj) : V := .agg [(V.i x.ID), (V.i x.Depth)]
abbrev zI (x : zD) : V := .agg [(V.i x.Lo), (V.i x.Hi)]
abbrev zG (x : zK) : V := .agg [(V.i x.Water.Level), (V.sl (List.map zw x.Water.Cycles)), (V.sl (List.map jv x.Water.Shifts)), (V.sl (List.map zT x.Berths)), (V.sl (List.map zI x.Tides)), (V.i x.Keel)]
abbrev zF (x : zM) : V := .agg [(V.i x.ID), (V.i x.Draught), (V.i x.From), (V.i x.To), (V.i x.Long)]
abbrev zC (x : zE) : V := .agg [(V.i x.Tide), (V.i x.Berth)]
abbrev zR (x : zO) : V := .agg [(V.i x.Call), (V.i x.Slot.Tide), (V.i x.Slot.Berth), (V.i x.Span.Lo), (V.i x.Span.Hi)]
set_option maxHeartbeats 4000000 in
theorem zAH {h : zK} {r : Bool} (hM : qV h = some r) : Ct Tryz.prog 7 [(zG h)] (V.b r) := by
 refine ze ZK rfl ?_
 unfold qV at hM
 refine X.sq ?_
 refine X.opW rfl rfl rfl rfl (X.q rfl (GS.zA (GS.seq (X.sq (X.q rfl (GS.zA ?_))))))
 refine X.join (τ := Unit) (fun v => Qi h = some r) (fun v => ⟨[(1, (V.ptr 0 0 0))], [.rows 6 [(zG h)]], 0, none, 67⟩) ?_ ?_
 ·intro _ hM
  replace hM : Qi h = some r := hM
  unfold Qi at hM
  refine X.sq ?_
  refine X.mid [(2, (V.b ((((decide ((h.Water.Cycles.length : Int) ≤ 8)) && (decide ((h.Water.Shifts.length : Int) ≤ 25))) && (decide ((h.Berths.length : Int) ≤ 10))) && ((decide ((h.Tides.length : Int) ≤ 3)) || ((decide (12 < (h.Tides.length : Int))) && (decide ((h.Tides.length : Int) ≤ 20)))))))] ?_ ?_
  ·intro hg
   refine X.split (decide ((h.Water.Cycles.length : Int) ≤ 8)) (fun h_1 => ?_) (fun h_1 => ?_)
   ·refine X.split (((decide ((h.Water.Cycles.length : Int) ≤ 8)) && (decide ((h.Water.Shifts.length : Int) ≤ 25)))) (fun h_2 => ?_) (fun h_2 => ?_)
    ·refine X.split ((((decide ((h.Water.Cycles.length : Int) ≤ 8)) && (decide ((h.Water.Shifts.length : Int) ≤ 25))) && (decide ((h.Berths.length : Int) ≤ 10)))) (fun h_3 => ?_) (fun h_3 => ?_)
     ·refine X.split (decide ((h.Tides.length : Int) ≤ 3)) (fun h_4 => ?_) (fun h_4 => ?_)
      ·iterate 3 refine X.q rfl ?_
       refine X.opR rfl (X.lenF rfl rfl rfl) rfl (X.q rfl (X.q rfl ?_))
       iterate 3 refine X.opR (X.on_t rfl rfl rfl h_1) rfl rfl ?_
       refine X.opR (X.on_t rfl rfl rfl h_1) (X.lenF rfl rfl rfl) rfl ?_
       refine X.opR (X.on_t rfl rfl rfl h_1) rfl rfl ?_
       refine X.opR rfl (X.zW (y := decide ((h.Water.Shifts.length : Int) ≤ 25)) rfl h_1 rfl) rfl (X.q rfl ?_)
       iterate 2 refine X.opR (X.on_t rfl rfl rfl h_2) rfl rfl ?_
       refine X.opR (X.on_t rfl rfl rfl h_2) (X.lenF rfl rfl rfl) rfl ?_
       refine X.opR (X.on_t rfl rfl rfl h_2) rfl rfl ?_
       refine X.opR rfl (X.zW (y := decide ((h.Berths.length : Int) ≤ 10)) rfl h_2 rfl) rfl (X.q rfl ?_)
       iterate 2 refine X.opR (X.on_t rfl rfl rfl h_3) rfl rfl ?_
       refine X.opR (X.on_t rfl rfl rfl h_3) (X.lenF rfl rfl rfl) rfl ?_
       iterate 2 refine X.opR (X.on_t rfl rfl rfl h_3) rfl rfl ?_
       iterate 5 refine X.off (X.ZL rfl rfl rfl h_4) rfl ?_
       iterate 4 refine X.off rfl rfl ?_
       refine X.off (X.ZL rfl rfl rfl h_4) rfl ?_
       refine X.opR (X.on_t rfl rfl rfl h_3) (X.zd (y := ((decide (12 < (h.Tides.length : Int))) && (decide ((h.Tides.length : Int) ≤ 20)))) rfl h_4 rfl) rfl ?_
       refine X.opR rfl (X.zW (y := ((decide ((h.Tides.length : Int) ≤ 3)) || ((decide (12 < (h.Tides.length : Int))) && (decide ((h.Tides.length : Int) ≤ 20))))) rfl h_3 rfl) rfl (X.q rfl (GS.zA ?_))
       exact X.norm _ hg rfl (sr rfl)
      refine X.split (decide (12 < (h.Tides.length : Int))) (fun h_5 => ?_) (fun h_5 => ?_)
      ·iterate 3 refine X.q rfl ?_
       refine X.opR rfl (X.lenF rfl rfl rfl) rfl (X.q rfl (X.q rfl ?_))
       iterate 3 refine X.opR (X.on_t rfl rfl rfl h_1) rfl rfl ?_
       refine X.opR (X.on_t rfl rfl rfl h_1) (X.lenF rfl rfl rfl) rfl ?_
       refine X.opR (X.on_t rfl rfl rfl h_1) rfl rfl ?_
       refine X.opR rfl (X.zW (y := decide ((h.Water.Shifts.length : Int) ≤ 25)) rfl h_1 rfl) rfl (X.q rfl ?_)
       iterate 2 refine X.opR (X.on_t rfl rfl rfl h_2) rfl rfl ?_
       refine X.opR (X.on_t rfl rfl rfl h_2) (X.lenF rfl rfl rfl) rfl ?_
       refine X.opR (X.on_t rfl rfl rfl h_2) rfl rfl ?_
       refine X.opR rfl (X.zW (y := decide ((h.Berths.length : Int) ≤ 10)) rfl h_2 rfl) rfl (X.q rfl ?_)
       iterate 2 refine X.opR (X.on_t rfl rfl rfl h_3) rfl rfl ?_
       refine X.opR (X.on_t rfl rfl rfl h_3) (X.lenF rfl rfl rfl) rfl ?_
       iterate 2 refine X.opR (X.on_t rfl rfl rfl h_3) rfl rfl ?_
       iterate 2 refine X.opR (X.on_f rfl rfl rfl h_4) rfl rfl ?_
       refine X.opR (X.on_f rfl rfl rfl h_4) (X.lenF rfl rfl rfl) rfl ?_
       iterate 2 refine X.opR (X.on_f rfl rfl rfl h_4) rfl rfl ?_
       iterate 2 refine X.opR (X.on_t rfl rfl rfl h_5) rfl rfl ?_
       refine X.opR (X.on_t rfl rfl rfl h_5) (X.lenF rfl rfl rfl) rfl ?_
       refine X.opR (X.on_t rfl rfl rfl h_5) rfl rfl ?_
       refine X.opR (X.on_f rfl rfl rfl h_4) (X.zW (y := decide ((h.Tides.length : Int) ≤ 20)) rfl h_5 rfl) rfl ?_
       refine X.opR (X.on_t rfl rfl rfl h_3) (X.zb (y := ((decide (12 < (h.Tides.length : Int))) && (decide ((h.Tides.length : Int) ≤ 20)))) rfl h_4 rfl) rfl ?_
       refine X.opR rfl (X.zW (y := ((decide ((h.Tides.length : Int) ≤ 3)) || ((decide (12 < (h.Tides.length : Int))) && (decide ((h.Tides.length : Int) ≤ 20))))) rfl h_3 rfl) rfl (X.q rfl (GS.zA ?_))
       exact X.norm _ hg rfl (sr rfl)
      iterate 3 refine X.q rfl ?_
      refine X.opR rfl (X.lenF rfl rfl rfl) rfl (X.q rfl (X.q rfl ?_))
      iterate 3 refine X.opR (X.on_t rfl rfl rfl h_1) rfl rfl ?_
      refine X.opR (X.on_t rfl rfl rfl h_1) (X.lenF rfl rfl rfl) rfl ?_
      refine X.opR (X.on_t rfl rfl rfl h_1) rfl rfl ?_
      refine X.opR rfl (X.zW (y := decide ((h.Water.Shifts.length : Int) ≤ 25)) rfl h_1 rfl) rfl (X.q rfl ?_)
      iterate 2 refine X.opR (X.on_t rfl rfl rfl h_2) rfl rfl ?_
      refine X.opR (X.on_t rfl rfl rfl h_2) (X.lenF rfl rfl rfl) rfl ?_
      refine X.opR (X.on_t rfl rfl rfl h_2) rfl rfl ?_
      refine X.opR rfl (X.zW (y := decide ((h.Berths.length : Int) ≤ 10)) rfl h_2 rfl) rfl (X.q rfl ?_)
      iterate 2 refine X.opR (X.on_t rfl rfl rfl h_3) rfl rfl ?_
      refine X.opR (X.on_t rfl rfl rfl h_3) (X.lenF rfl rfl rfl) rfl ?_
      iterate 2 refine X.opR (X.on_t rfl rfl rfl h_3) rfl rfl ?_
      iterate 2 refine X.opR (X.on_f rfl rfl rfl h_4) rfl rfl ?_
      refine X.opR (X.on_f rfl rfl rfl h_4) (X.lenF rfl rfl rfl) rfl ?_
      iterate 2 refine X.opR (X.on_f rfl rfl rfl h_4) rfl rfl ?_
      iterate 4 refine X.off (X.zn rfl rfl rfl h_5) rfl ?_
      refine X.opR (X.on_f rfl rfl rfl h_4) (X.zQ (y := decide ((h.Tides.length : Int) ≤ 20)) rfl h_5 rfl) rfl ?_
      refine X.opR (X.on_t rfl rfl rfl h_3) (X.zb (y := ((decide (12 < (h.Tides.length : Int))) && (decide ((h.Tides.length : Int) ≤ 20)))) rfl h_4 rfl) rfl ?_
      refine X.opR rfl (X.zW (y := ((decide ((h.Tides.length : Int) ≤ 3)) || ((decide (12 < (h.Tides.length : Int))) && (decide ((h.Tides.length : Int) ≤ 20))))) rfl h_3 rfl) rfl (X.q rfl (GS.zA ?_))
      exact X.norm _ hg rfl (sr rfl)
     iterate 3 refine X.q rfl ?_
     refine X.opR rfl (X.lenF rfl rfl rfl) rfl (X.q rfl (X.q rfl ?_))
     iterate 3 refine X.opR (X.on_t rfl rfl rfl h_1) rfl rfl ?_
     refine X.opR (X.on_t rfl rfl rfl h_1) (X.lenF rfl rfl rfl) rfl ?_
     refine X.opR (X.on_t rfl rfl rfl h_1) rfl rfl ?_
     refine X.opR rfl (X.zW (y := decide ((h.Water.Shifts.length : Int) ≤ 25)) rfl h_1 rfl) rfl (X.q rfl ?_)
     iterate 2 refine X.opR (X.on_t rfl rfl rfl h_2) rfl rfl ?_
     refine X.opR (X.on_t rfl rfl rfl h_2) (X.lenF rfl rfl rfl) rfl ?_
     refine X.opR (X.on_t rfl rfl rfl h_2) rfl rfl ?_
     refine X.opR rfl (X.zW (y := decide ((h.Berths.length : Int) ≤ 10)) rfl h_2 rfl) rfl (X.q rfl ?_)
     iterate 5 refine X.off (X.zn rfl rfl rfl h_3) rfl ?_
     iterate 10 refine X.off rfl rfl ?_
     refine X.off (X.zn rfl rfl rfl h_3) rfl ?_
     refine X.opR rfl (X.zQ (y := ((decide ((h.Tides.length : Int) ≤ 3)) || ((decide (12 < (h.Tides.length : Int))) && (decide ((h.Tides.length : Int) ≤ 20))))) rfl h_3 rfl) rfl (X.q rfl (GS.zA ?_))
     exact X.norm _ hg rfl (sr rfl)
    iterate 3 refine X.q rfl ?_
    refine X.opR rfl (X.lenF rfl rfl rfl) rfl (X.q rfl (X.q rfl ?_))
    iterate 3 refine X.opR (X.on_t rfl rfl rfl h_1) rfl rfl ?_
    refine X.opR (X.on_t rfl rfl rfl h_1) (X.lenF rfl rfl rfl) rfl ?_
    refine X.opR (X.on_t rfl rfl rfl h_1) rfl rfl ?_
    refine X.opR rfl (X.zW (y := decide ((h.Water.Shifts.length : Int) ≤ 25)) rfl h_1 rfl) rfl (X.q rfl ?_)
    iterate 4 refine X.off (X.zn rfl rfl rfl h_2) rfl ?_
    refine X.opR rfl (X.zQ (y := decide ((h.Berths.length : Int) ≤ 10)) rfl h_2 rfl) rfl (X.q rfl ?_)
    iterate 5 refine X.off (X.zn rfl rfl rfl (X.zB h_2)) rfl ?_
    iterate 10 refine X.off rfl rfl ?_
    refine X.off (X.zn rfl rfl rfl (X.zB h_2)) rfl ?_
    refine X.opR rfl (X.zQ (y := ((decide ((h.Tides.length : Int) ≤ 3)) || ((decide (12 < (h.Tides.length : Int))) && (decide ((h.Tides.length : Int) ≤ 20))))) rfl (X.zB h_2) rfl) rfl (X.q rfl (GS.zA ?_))
    exact X.norm _ hg rfl (sr rfl)
   iterate 3 refine X.q rfl ?_
   refine X.opR rfl (X.lenF rfl rfl rfl) rfl (X.q rfl (X.q rfl ?_))
   iterate 5 refine X.off (X.zn rfl rfl rfl h_1) rfl ?_
   refine X.opR rfl (X.zQ (y := decide ((h.Water.Shifts.length : Int) ≤ 25)) rfl h_1 rfl) rfl (X.q rfl ?_)
   iterate 4 refine X.off (X.zn rfl rfl rfl (X.zB h_1)) rfl ?_
   refine X.opR rfl (X.zQ (y := decide ((h.Berths.length : Int) ≤ 10)) rfl (X.zB h_1) rfl) rfl (X.q rfl ?_)
   iterate 5 refine X.off (X.zn rfl rfl rfl (X.zB (X.zB h_1))) rfl ?_
   iterate 10 refine X.off rfl rfl ?_
   refine X.off (X.zn rfl rfl rfl (X.zB (X.zB h_1))) rfl ?_
   refine X.opR rfl (X.zQ (y := ((decide ((h.Tides.length : Int) ≤ 3)) || ((decide (12 < (h.Tides.length : Int))) && (decide ((h.Tides.length : Int) ≤ 20))))) rfl (X.zB (X.zB h_1)) rfl) rfl (X.q rfl (GS.zA ?_))
   exact X.norm _ hg rfl (sr rfl)
  cases hM
  exact GS.ret ⟨_, rfl, ⟨30, rfl⟩⟩
 intro hj_1
 refine GS.block ?_
 refine X.gc [some 0] (X.loop (σ := Int) (fun v => ⟨[(1, (V.ptr 0 0 0)), (3, (V.i v))], [.rows 6 [(zG h)]], 0, none, 67⟩) hM ?_ rfl) rfl rfl rfl (ga rfl rfl) (gb9 rfl rfl rfl zL)
 intro i b_1 hM hc_2 hr_1
 rw [Qj] at hM
 refine GS.seq (X.sq (X.q rfl (X.q rfl (X.q rfl ?_))))
 refine X.opR rfl (X.lenF rfl rfl rfl) rfl (X.q rfl (GS.zA ?_))
 refine X.cond rfl (fun h_6 => ?_) (fun h_6 => ?_)
 ·replace hM := zZ h_6 hM
  refine GS.skip (GS.seq (GS.block (GS.seq ?_)))
  obtain ⟨x, h_7, hM⟩ := zH hM
  obtain ⟨x1, h_8, hM⟩ := zH hM
  refine X.drawc (by kernel_rfl) rfl ?_
  iterate 3 refine X.cop rfl rfl rfl rfl ?_
  refine X.cop rfl (X.ZC (f := zI) h_7 (fun _ => rfl) rfl rfl rfl rfl) rfl rfl ?_
  refine X.cop rfl rfl rfl rfl ?_
  refine X.cop rfl (X.ZS h_7 rfl rfl rfl) rfl rfl ?_
  iterate 3 refine X.cop rfl rfl rfl rfl ?_
  refine X.cop rfl (X.ZC (f := zI) h_8 (fun _ => rfl) rfl rfl rfl rfl) rfl rfl ?_
  refine X.cop rfl rfl rfl rfl ?_
  refine X.cop rfl (X.ZS h_8 rfl rfl rfl) rfl rfl ?_
  refine X.cop rfl (X.subE rfl rfl) rfl rfl ?_
  refine X.cop rfl rfl rfl rfl ?_
  refine X.cnil ?_
  refine X.norm [(1, (V.ptr 0 0 0)), (3, (V.i i)), (4, (V.i (w64 (x.Hi - x1.Lo))))] ?_ rfl (sr rfl)
  refine X.sq ?_
  refine X.mid [(1, (V.ptr 0 0 0)), (3, (V.i i)), (30, (V.b ((decide (240 ≤ (w64 (x.Hi - x1.Lo)))) && (decide ((w64 (x.Hi - x1.Lo)) < 1440)))))] ?_ ?_
  ·intro hg
   refine X.split (decide (240 ≤ (w64 (x.Hi - x1.Lo)))) (fun h_9 => ?_) (fun h_9 => ?_)
   ·iterate 3 refine X.q rfl ?_
    iterate 2 refine X.opR (X.on_t rfl rfl rfl h_9) rfl rfl ?_
    refine X.opR rfl (X.zW (y := decide ((w64 (x.Hi - x1.Lo)) < 1440)) rfl h_9 rfl) rfl (GS.zA ?_)
    exact X.norm _ hg rfl (sr rfl)
   iterate 3 refine X.q rfl ?_
   iterate 2 refine X.off (X.zn rfl rfl rfl h_9) rfl ?_
   refine X.opR rfl (X.zQ (y := decide ((w64 (x.Hi - x1.Lo)) < 1440)) rfl h_9 rfl) rfl (GS.zA ?_)
   exact X.norm _ hg rfl (sr rfl)
  refine X.cond rfl (fun h_10 => ?_) (fun h_10 => ?_)
  ·replace hM := zZ h_10 hM
   refine X.sq (X.q rfl (GS.zA ?_))
   have hE := Option.some.inj hM
   replace hE := hr_1 _ hE.symm
   subst hE
   exact GS.ret ⟨_, rfl, ⟨30, rfl⟩⟩
  replace hM := za h_10 hM
  refine GS.skip ?_
  refine GS.endB (GS.region (X.q rfl ?_))
  refine X.opR rfl (X.addE rfl rfl) rfl (X.q rfl (GS.zA ?_))
  have hE := Option.some.inj hM
  exact X.gc [some 0] (hc_2 (w64 (i + 1)) hE.symm) rfl rfl rfl (ga rfl rfl) (gb9 rfl rfl rfl zL)
 replace hM := za h_6 hM
 refine GS.exit rfl ?_
 obtain ⟨y_1, hM, hy⟩ := ZN hM
 rw [hr_1 _ hy.symm] at hM
 exact X.gc [some 0] (hj_1 () hM) rfl rfl rfl (ga rfl rfl) (gb9 rfl rfl rfl zL)
theorem zEK : Ct Tryz.prog 38 [] (zG (ZR)) := by
 refine ze ZK rfl ?_
 generalize hM : ZR = r
 unfold ZR at hM
 refine X.sq ?_
 refine X.opW rfl rfl rfl rfl (X.nq ?_)
 refine X.opW rfl rfl rfl rfl (X.q rfl ?_)
 refine X.opW rfl rfl rfl rfl (X.q rfl ?_)
 refine X.opW (H' := [.rows 6 [(V.agg [(V.i 0), V.nil, V.nil, V.nil, V.nil, (V.i 0)])], .rows 1 (List.map V.i ([0, 100, 200, 100])), .rows 4 [(V.agg [(V.i 1), (V.i 0), (V.i 60), (V.osl 1 0 (List.length ([0, 100, 200, 100])))])], .rows 3 [(V.agg [(V.i 0), V.nil, V.nil])]]) rfl rfl rfl rfl ?_
 refine X.op0W (H' := [.rows 6 [(V.agg [(V.i 0), V.nil, V.nil, V.nil, V.nil, (V.i 0)])], .rows 1 (List.map V.i ([0, 100, 200, 100])), .rows 4 [(V.agg [(V.i 1), (V.i 0), (V.i 60), (V.osl 1 0 (List.length ([0, 100, 200, 100])))])], .rows 3 [(V.agg [(V.i 500), (V.osl 2 0 1), V.nil])]]) rfl rfl rfl (X.nq (X.q rfl (X.q rfl (X.q rfl ?_))))
 refine X.opW (H' := [.rows 6 [(V.agg [(V.i 0), V.nil, V.nil, V.nil, V.nil, (V.i 0)])], .rows 1 (List.map V.i ([0, 100, 200, 100])), .rows 4 [(V.agg [(V.i 1), (V.i 0), (V.i 60), (V.osl 1 0 (List.length ([0, 100, 200, 100])))])], .rows 3 [(V.agg [(V.i 500), (V.osl 2 0 1), V.nil])], .rows 2 (List.map zT ([(⟨1, 300⟩ : zj), (⟨2, 100⟩ : zj)]))]) rfl rfl rfl rfl (X.q rfl (X.q rfl ?_))
 refine X.opW (H' := [.rows 6 [(V.agg [(V.i 0), V.nil, V.nil, V.nil, V.nil, (V.i 0)])], .rows 1 (List.map V.i ([0, 100, 200, 100])), .rows 4 [(V.agg [(V.i 1), (V.i 0), (V.i 60), (V.osl 1 0 (List.length ([0, 100, 200, 100])))])], .rows 3 [(V.agg [(V.i 500), (V.osl 2 0 1), V.nil])], .rows 2 (List.map zT ([(⟨1, 300⟩ : zj), (⟨2, 100⟩ : zj)])), .rows 2 (List.map zI ([(⟨0, 239⟩ : zD), (⟨240, 479⟩ : zD)]))]) rfl rfl rfl rfl ?_
 refine X.q rfl ?_
 refine X.op0W (H' := [.rows 6 [(V.agg [(V.i 500), (V.osl 2 0 1), V.nil, (V.osl 4 0 (List.length ([(⟨1, 300⟩ : zj), (⟨2, 100⟩ : zj)]))), (V.osl 5 0 (List.length ([(⟨0, 239⟩ : zD), (⟨240, 479⟩ : zD)]))), (V.i 50)])], .rows 1 (List.map V.i ([0, 100, 200, 100])), .rows 4 [(V.agg [(V.i 1), (V.i 0), (V.i 60), (V.osl 1 0 (List.length ([0, 100, 200, 100])))])], .rows 3 [(V.agg [(V.i 500), (V.osl 2 0 1), V.nil])], .rows 2 (List.map zT ([(⟨1, 300⟩ : zj), (⟨2, 100⟩ : zj)])), .rows 2 (List.map zI ([(⟨0, 239⟩ : zD), (⟨240, 479⟩ : zD)]))]) rfl rfl rfl (GS.zA ?_)
 subst hM
 exact GS.ret ⟨_, rfl, ⟨30, rfl⟩⟩
theorem ZX (n : Int) (lo : Int) (hi : Int) : Ct Tryz.prog 92 [(V.i n), (V.i lo), (V.i hi)] (V.b (zf n lo hi)) := by
 refine ze ZK rfl ?_
 generalize hM : zf n lo hi = r
 unfold zf at hM
 refine X.sq (X.q rfl (X.nq ?_))
 refine X.mid [(6, (V.b ((decide (lo ≤ n)) && (decide (n ≤ hi)))))] ?_ ?_
 ·intro hg
  refine X.split (decide (lo ≤ n)) (fun h_1 => ?_) (fun h_1 => ?_)
  ·iterate 4 refine X.q rfl ?_
   iterate 3 refine X.opR (X.on_t rfl rfl rfl h_1) rfl rfl ?_
   refine X.opR rfl (X.zW (y := decide (n ≤ hi)) rfl h_1 rfl) rfl (X.q rfl (GS.zA ?_))
   exact X.norm _ hg rfl (sr rfl)
  iterate 4 refine X.q rfl ?_
  iterate 3 refine X.off (X.zn rfl rfl rfl h_1) rfl ?_
  refine X.opR rfl (X.zQ (y := decide (n ≤ hi)) rfl h_1 rfl) rfl (X.q rfl (GS.zA ?_))
  exact X.norm _ hg rfl (sr rfl)
 subst hM
 exact GS.ret ⟨_, rfl, ⟨30, rfl⟩⟩
theorem zAd (n : Int) : Ct Tryz.prog 88 [(V.i n)] (V.b (Zk n)) := by
 refine ze ZK rfl ?_
 generalize hM : Zk n = r
 unfold Zk at hM
 refine X.sq (X.q rfl (X.nq (X.q rfl ?_)))
 refine X.call (ZX n (-4000) 4000) rfl rfl rfl (.cons (.shut (n := 9) rfl) (.cons (.shut (n := 9) rfl) (.cons (.shut (n := 9) rfl) .nil))) (X.q rfl (GS.zA ?_))
 subst hM
 exact GS.ret ⟨_, rfl, ⟨30, rfl⟩⟩
theorem YI (tick : Int) : Ct Tryz.prog 83 [(V.i tick)] (V.b (Zo tick)) := by
 refine ze ZK rfl ?_
 generalize hM : Zo tick = r
 unfold Zo at hM
 refine X.sq (X.q rfl (X.nq (X.q rfl ?_)))
 refine X.call (ZX tick 0 1048576) rfl rfl rfl (.cons (.shut (n := 9) rfl) (.cons (.shut (n := 9) rfl) (.cons (.shut (n := 9) rfl) .nil))) (X.q rfl (GS.zA ?_))
 subst hM
 exact GS.ret ⟨_, rfl, ⟨30, rfl⟩⟩
theorem zE4 (h : Int) : Ct Tryz.prog 118 [(V.i h)] (V.b (jT h)) := by
 refine ze ZK rfl ?_
 generalize hM : jT h = r
 unfold jT at hM
 refine X.sq (X.q rfl (X.nq (X.q rfl ?_)))
 refine X.call (zAd h) rfl rfl rfl (.cons (.shut (n := 9) rfl) .nil) (X.q rfl (X.q rfl ?_))
 refine GS.zA ?_
 subst hM
 exact GS.ret ⟨_, rfl, ⟨30, rfl⟩⟩
theorem YY {s : (List Int)} {r : Int} (hM : Zb s = some r) : Ct Tryz.prog 141 [(V.sl (List.map V.i s)), (V.fn 118 [])] (V.i r) := by
 refine ze ZK rfl ?_
 unfold Zb at hM
 refine X.sq (X.q rfl (GS.zA (GS.seq (X.sq (X.q rfl ?_)))))
 refine X.opR rfl (X.lenF rfl rfl rfl) rfl (X.q rfl (GS.zA ?_))
 refine X.join (τ := Unit) (fun v => Zm = some r) (fun v => ⟨[], [], 0, none, 19⟩) ?_ ?_
 ·intro _ hM
  replace hM : Zm = some r := hM
  unfold Zm at hM
  refine X.sq (X.q rfl (GS.zA ?_))
  cases hM
  exact GS.ret ⟨_, rfl, ⟨30, rfl⟩⟩
 intro hj_1
 refine GS.block ?_
 refine X.gc [] (X.loop (σ := Int) (fun v => ⟨[(0, (V.sl (List.map V.i s))), (1, (V.fn 118 [])), (7, (V.i (s.length : Int))), (8, (V.i v))], [], 0, none, 19⟩) hM ?_ rfl) rfl rfl rfl (ga rfl rfl) (zL)
 intro x1 b_1 hM hc_2 hr_1
 rw [Z5] at hM
 refine X.sq (X.q rfl (GS.zA (GS.seq ?_)))
 refine X.cond rfl (fun h_1 => ?_) (fun h_1 => ?_)
 ·replace hM := zZ h_1 hM
  refine GS.skip (GS.seq (GS.block (X.sq (X.q rfl (X.q rfl ?_)))))
  refine GS.zA (GS.seq ?_)
  obtain ⟨x, h_2, hM⟩ := zH hM
  refine GS.region (X.q rfl (X.q rfl (X.q rfl ?_)))
  refine X.opR rfl (X.ZC (f := V.i) h_2 (fun _ => rfl) rfl rfl rfl rfl) rfl ?_
  refine X.opR rfl (X.ZS h_2 rfl rfl rfl) rfl ?_
  refine X.call (zE4 x) rfl rfl rfl (.cons (.shut (n := 9) rfl) .nil) (GS.zA ?_)
  refine X.cond rfl (fun h_3 => ?_) (fun h_3 => ?_)
  ·replace hM := zZ h_3 hM
   refine X.sq (X.q rfl (X.q rfl ?_))
   refine GS.zA ?_
   have hE := Option.some.inj hM
   replace hE := hr_1 _ hE.symm
   subst hE
   exact GS.ret ⟨_, rfl, ⟨30, rfl⟩⟩
  replace hM := za h_3 hM
  refine GS.skip ?_
  refine GS.endB (GS.region ?_)
  refine X.opR rfl (X.addE rfl rfl) rfl (X.q rfl (GS.zA ?_))
  have hE := Option.some.inj hM
  exact X.gc [] (hc_2 (w64 (x1 + 1)) hE.symm) rfl rfl rfl (ga rfl rfl) (zL)
 replace hM := za h_1 hM
 refine GS.exit rfl ?_
 obtain ⟨y_1, hM, hy⟩ := ZN hM
 rw [hr_1 _ hy.symm] at hM
 exact X.gc [] (hj_1 () hM) rfl rfl rfl (Jq) (zL)
theorem yx {s : (List Int)} {r : Bool} (hM : ZF s = some r) : Ct Tryz.prog 117 [(V.sl (List.map V.i s)), (V.fn 118 [])] (V.b r) := by
 refine ze ZK rfl ?_
 unfold ZF at hM
 refine X.sq (X.q rfl (GS.zA (GS.seq ?_)))
 obtain ⟨y, h_1, hM⟩ := zH hM
 refine GS.region (X.q rfl (X.q rfl ?_))
 refine X.call (YY h_1) rfl rfl rfl (.cons (.shut (n := 9) rfl) (.cons (.shut (n := 9) rfl) .nil)) (X.q rfl (X.q rfl ?_))
 refine GS.zA ?_
 cases hM
 exact GS.ret ⟨_, rfl, ⟨30, rfl⟩⟩
theorem zGc {c : zp} {r : Bool} (hM : QG c = some r) : Ct Tryz.prog 89 [(zw c)] (V.b r) := by
 refine ze ZK rfl ?_
 unfold QG at hM
 refine X.sq ?_
 refine X.opW rfl rfl rfl rfl (X.q rfl (GS.zA (GS.seq ?_)))
 obtain ⟨y, h_1, hM⟩ := zCA hM
 refine GS.region ?_
 refine X.mid [(2, (V.b (((((zf c.ID 1 1099511627776) && (Zo c.Begin)) && (zf c.Every 1 120)) && (zf (c.Heights.length : Int) 1 60)) && (!y))))] ?_ ?_
 ·intro hg
  refine X.split ((zf c.ID 1 1099511627776)) (fun h_2 => ?_) (fun h_2 => ?_)
  ·refine X.split (((zf c.ID 1 1099511627776) && (Zo c.Begin))) (fun h_3 => ?_) (fun h_3 => ?_)
   ·refine X.split ((((zf c.ID 1 1099511627776) && (Zo c.Begin)) && (zf c.Every 1 120))) (fun h_4 => ?_) (fun h_4 => ?_)
    ·refine X.split (((((zf c.ID 1 1099511627776) && (Zo c.Begin)) && (zf c.Every 1 120)) && (zf (c.Heights.length : Int) 1 60))) (fun h_5 => ?_) (fun h_5 => ?_)
     ·iterate 2 refine X.q rfl ?_
      refine X.call (ZX c.ID 1 1099511627776) rfl rfl rfl (.cons (.shut (n := 9) rfl) (.cons (.shut (n := 9) rfl) (.cons (.shut (n := 9) rfl) .nil))) (X.q rfl ?_)
      iterate 2 refine X.opR (X.on_t rfl rfl rfl h_2) rfl rfl ?_
      refine X.call (YI c.Begin) (X.on_t rfl rfl rfl h_2) rfl rfl (.cons (.shut (n := 9) rfl) .nil) ?_
      refine X.opR rfl (X.zW (y := (Zo c.Begin)) rfl h_2 rfl) rfl (X.q rfl ?_)
      iterate 2 refine X.opR (X.on_t rfl rfl rfl h_3) rfl rfl ?_
      refine X.call (ZX c.Every 1 120) (X.on_t rfl rfl rfl h_3) rfl rfl (.cons (.shut (n := 9) rfl) (.cons (.shut (n := 9) rfl) (.cons (.shut (n := 9) rfl) .nil))) ?_
      refine X.opR rfl (X.zW (y := (zf c.Every 1 120)) rfl h_3 rfl) rfl (X.q rfl ?_)
      iterate 2 refine X.opR (X.on_t rfl rfl rfl h_4) rfl rfl ?_
      refine X.opR (X.on_t rfl rfl rfl h_4) (X.lenF rfl rfl rfl) rfl ?_
      refine X.call (ZX (c.Heights.length : Int) 1 60) (X.on_t rfl rfl rfl h_4) rfl rfl (.cons (.shut (n := 9) rfl) (.cons (.shut (n := 9) rfl) (.cons (.shut (n := 9) rfl) .nil))) ?_
      refine X.opR rfl (X.zW (y := (zf (c.Heights.length : Int) 1 60)) rfl h_4 rfl) rfl (X.q rfl ?_)
      iterate 2 refine X.opR (X.on_t rfl rfl rfl h_5) rfl rfl ?_
      refine X.call (yx (h_1 h_5)) (X.on_t rfl rfl rfl h_5) rfl rfl (.cons (.shut (n := 9) rfl) (.cons (.shut (n := 9) rfl) .nil)) ?_
      refine X.opR (X.on_t rfl rfl rfl h_5) rfl rfl ?_
      refine X.opR rfl (X.zW (y := !y) rfl h_5 rfl) rfl (X.q rfl (GS.zA ?_))
      exact X.norm _ hg rfl (sr rfl)
     refine X.q rfl (X.q rfl ?_)
     refine X.call (ZX c.ID 1 1099511627776) rfl rfl rfl (.cons (.shut (n := 9) rfl) (.cons (.shut (n := 9) rfl) (.cons (.shut (n := 9) rfl) .nil))) (X.q rfl ?_)
     iterate 2 refine X.opR (X.on_t rfl rfl rfl h_2) rfl rfl ?_
     refine X.call (YI c.Begin) (X.on_t rfl rfl rfl h_2) rfl rfl (.cons (.shut (n := 9) rfl) .nil) ?_
     refine X.opR rfl (X.zW (y := (Zo c.Begin)) rfl h_2 rfl) rfl (X.q rfl ?_)
     iterate 2 refine X.opR (X.on_t rfl rfl rfl h_3) rfl rfl ?_
     refine X.call (ZX c.Every 1 120) (X.on_t rfl rfl rfl h_3) rfl rfl (.cons (.shut (n := 9) rfl) (.cons (.shut (n := 9) rfl) (.cons (.shut (n := 9) rfl) .nil))) ?_
     refine X.opR rfl (X.zW (y := (zf c.Every 1 120)) rfl h_3 rfl) rfl (X.q rfl ?_)
     iterate 2 refine X.opR (X.on_t rfl rfl rfl h_4) rfl rfl ?_
     refine X.opR (X.on_t rfl rfl rfl h_4) (X.lenF rfl rfl rfl) rfl ?_
     refine X.call (ZX (c.Heights.length : Int) 1 60) (X.on_t rfl rfl rfl h_4) rfl rfl (.cons (.shut (n := 9) rfl) (.cons (.shut (n := 9) rfl) (.cons (.shut (n := 9) rfl) .nil))) ?_
     refine X.opR rfl (X.zW (y := (zf (c.Heights.length : Int) 1 60)) rfl h_4 rfl) rfl (X.q rfl ?_)
     iterate 4 refine X.off (X.zn rfl rfl rfl h_5) rfl ?_
     refine X.opR rfl (X.zQ (y := !y) rfl h_5 rfl) rfl (X.q rfl (GS.zA ?_))
     exact X.norm _ hg rfl (sr rfl)
    refine X.q rfl (X.q rfl ?_)
    refine X.call (ZX c.ID 1 1099511627776) rfl rfl rfl (.cons (.shut (n := 9) rfl) (.cons (.shut (n := 9) rfl) (.cons (.shut (n := 9) rfl) .nil))) (X.q rfl ?_)
    iterate 2 refine X.opR (X.on_t rfl rfl rfl h_2) rfl rfl ?_
    refine X.call (YI c.Begin) (X.on_t rfl rfl rfl h_2) rfl rfl (.cons (.shut (n := 9) rfl) .nil) ?_
    refine X.opR rfl (X.zW (y := (Zo c.Begin)) rfl h_2 rfl) rfl (X.q rfl ?_)
    iterate 2 refine X.opR (X.on_t rfl rfl rfl h_3) rfl rfl ?_
    refine X.call (ZX c.Every 1 120) (X.on_t rfl rfl rfl h_3) rfl rfl (.cons (.shut (n := 9) rfl) (.cons (.shut (n := 9) rfl) (.cons (.shut (n := 9) rfl) .nil))) ?_
    refine X.opR rfl (X.zW (y := (zf c.Every 1 120)) rfl h_3 rfl) rfl (X.q rfl ?_)
    iterate 4 refine X.off (X.zn rfl rfl rfl h_4) rfl ?_
    refine X.opR rfl (X.zQ (y := (zf (c.Heights.length : Int) 1 60)) rfl h_4 rfl) rfl (X.q rfl ?_)
    iterate 4 refine X.off (X.zn rfl rfl rfl (X.zB h_4)) rfl ?_
    refine X.opR rfl (X.zQ (y := !y) rfl (X.zB h_4) rfl) rfl (X.q rfl (GS.zA ?_))
    exact X.norm _ hg rfl (sr rfl)
   refine X.q rfl (X.q rfl ?_)
   refine X.call (ZX c.ID 1 1099511627776) rfl rfl rfl (.cons (.shut (n := 9) rfl) (.cons (.shut (n := 9) rfl) (.cons (.shut (n := 9) rfl) .nil))) (X.q rfl ?_)
   iterate 2 refine X.opR (X.on_t rfl rfl rfl h_2) rfl rfl ?_
   refine X.call (YI c.Begin) (X.on_t rfl rfl rfl h_2) rfl rfl (.cons (.shut (n := 9) rfl) .nil) ?_
   refine X.opR rfl (X.zW (y := (Zo c.Begin)) rfl h_2 rfl) rfl (X.q rfl ?_)
   iterate 3 refine X.off (X.zn rfl rfl rfl h_3) rfl ?_
   refine X.opR rfl (X.zQ (y := (zf c.Every 1 120)) rfl h_3 rfl) rfl (X.q rfl ?_)
   iterate 4 refine X.off (X.zn rfl rfl rfl (X.zB h_3)) rfl ?_
   refine X.opR rfl (X.zQ (y := (zf (c.Heights.length : Int) 1 60)) rfl (X.zB h_3) rfl) rfl (X.q rfl ?_)
   iterate 4 refine X.off (X.zn rfl rfl rfl (X.zB (X.zB h_3))) rfl ?_
   refine X.opR rfl (X.zQ (y := !y) rfl (X.zB (X.zB h_3)) rfl) rfl (X.q rfl (GS.zA ?_))
   exact X.norm _ hg rfl (sr rfl)
  refine X.q rfl (X.q rfl ?_)
  refine X.call (ZX c.ID 1 1099511627776) rfl rfl rfl (.cons (.shut (n := 9) rfl) (.cons (.shut (n := 9) rfl) (.cons (.shut (n := 9) rfl) .nil))) (X.q rfl ?_)
  iterate 3 refine X.off (X.zn rfl rfl rfl h_2) rfl ?_
  refine X.opR rfl (X.zQ (y := (Zo c.Begin)) rfl h_2 rfl) rfl (X.q rfl ?_)
  iterate 3 refine X.off (X.zn rfl rfl rfl (X.zB h_2)) rfl ?_
  refine X.opR rfl (X.zQ (y := (zf c.Every 1 120)) rfl (X.zB h_2) rfl) rfl (X.q rfl ?_)
  iterate 4 refine X.off (X.zn rfl rfl rfl (X.zB (X.zB h_2))) rfl ?_
  refine X.opR rfl (X.zQ (y := (zf (c.Heights.length : Int) 1 60)) rfl (X.zB (X.zB h_2)) rfl) rfl (X.q rfl ?_)
  iterate 4 refine X.off (X.zn rfl rfl rfl (X.zB (X.zB (X.zB h_2)))) rfl ?_
  refine X.opR rfl (X.zQ (y := !y) rfl (X.zB (X.zB (X.zB h_2))) rfl) rfl (X.q rfl (GS.zA ?_))
  exact X.norm _ hg rfl (sr rfl)
 cases hM
 exact GS.ret ⟨_, rfl, ⟨30, rfl⟩⟩
theorem zE8 (x : zp) (c : zp) : Ct Tryz.prog 91 [(zw x), (V.fptr [(zw c)] 0 0)] (V.b (yI x c)) := by
 refine ze ZK rfl ?_
 generalize hM : yI x c = r
 unfold yI at hM
 refine X.sq ?_
 refine X.opW rfl rfl rfl rfl (X.q rfl (X.nq ?_))
 iterate 6 refine X.q rfl ?_
 refine GS.zA ?_
 subst hM
 exact GS.ret ⟨_, rfl, ⟨30, rfl⟩⟩
theorem yE {s : (List zp)} {c : zp} {r : Int} (hM : zz s c = some r) : Ct Tryz.prog 119 [(V.sl (List.map zw s)), (V.fn 91 [(V.fptr [(zw c)] 0 0)])] (V.i r) := by
 refine ze ZK rfl ?_
 unfold zz at hM
 refine X.sq (X.q rfl (GS.zA (GS.seq (X.sq (X.q rfl ?_)))))
 refine X.opR rfl (X.lenF rfl rfl rfl) rfl (X.q rfl (GS.zA ?_))
 refine X.join (τ := Unit) (fun v => ZV = some r) (fun v => ⟨[], [], 0, none, 19⟩) ?_ ?_
 ·intro _ hM
  replace hM : ZV = some r := hM
  unfold ZV at hM
  refine X.sq (X.q rfl (GS.zA ?_))
  cases hM
  exact GS.ret ⟨_, rfl, ⟨30, rfl⟩⟩
 intro hj_1
 refine GS.block ?_
 refine X.gc [] (X.loop (σ := Int) (fun v => ⟨[(0, (V.sl (List.map zw s))), (1, (V.fn 91 [(V.fptr [(zw c)] 0 0)])), (7, (V.i (s.length : Int))), (8, (V.i v))], [], 0, none, 19⟩) hM ?_ rfl) rfl rfl rfl (ga rfl rfl) (zL)
 intro x1 b_1 hM hc_2 hr_1
 rw [ZM] at hM
 refine X.sq (X.q rfl (GS.zA (GS.seq ?_)))
 refine X.cond rfl (fun h_1 => ?_) (fun h_1 => ?_)
 ·replace hM := zZ h_1 hM
  refine GS.skip (GS.seq (GS.block (X.sq (X.q rfl (X.q rfl ?_)))))
  refine GS.zA (GS.seq ?_)
  obtain ⟨x, h_2, hM⟩ := zH hM
  refine GS.region (X.q rfl (X.q rfl (X.q rfl ?_)))
  refine X.opR rfl (X.ZC (f := zw) h_2 (fun _ => rfl) rfl rfl rfl rfl) rfl ?_
  refine X.opR rfl (X.ZS h_2 rfl rfl rfl) rfl ?_
  refine X.call (zE8 x c) rfl rfl rfl (.cons (.shut (n := 9) rfl) (.cons (.shut (n := 9) rfl) .nil)) (GS.zA ?_)
  refine X.cond rfl (fun h_3 => ?_) (fun h_3 => ?_)
  ·replace hM := zZ h_3 hM
   refine X.sq (X.q rfl (X.q rfl ?_))
   refine GS.zA ?_
   have hE := Option.some.inj hM
   replace hE := hr_1 _ hE.symm
   subst hE
   exact GS.ret ⟨_, rfl, ⟨30, rfl⟩⟩
  replace hM := za h_3 hM
  refine GS.skip ?_
  refine GS.endB (GS.region ?_)
  refine X.opR rfl (X.addE rfl rfl) rfl (X.q rfl (GS.zA ?_))
  have hE := Option.some.inj hM
  exact X.gc [] (hc_2 (w64 (x1 + 1)) hE.symm) rfl rfl rfl (ga rfl rfl) (zL)
 replace hM := za h_1 hM
 refine GS.exit rfl ?_
 obtain ⟨y_1, hM, hy⟩ := ZN hM
 rw [hr_1 _ hy.symm] at hM
 exact X.gc [] (hj_1 () hM) rfl rfl rfl (Jq) (zL)
theorem Jo {s : (List zp)} {c : zp} {r : Bool} (hM : ZD s c = some r) : Ct Tryz.prog 90 [(V.sl (List.map zw s)), (V.fn 91 [(V.fptr [(zw c)] 0 0)])] (V.b r) := by
 refine ze ZK rfl ?_
 unfold ZD at hM
 refine X.sq (X.q rfl (GS.zA (GS.seq ?_)))
 obtain ⟨y, h_1, hM⟩ := zH hM
 refine GS.region (X.q rfl (X.q rfl ?_))
 refine X.call (yE h_1) rfl rfl rfl (.cons (.shut (n := 9) rfl) (.cons (.shut (n := 9) rfl) .nil)) (X.q rfl (X.q rfl ?_))
 refine GS.zA ?_
 cases hM
 exact GS.ret ⟨_, rfl, ⟨30, rfl⟩⟩
set_option maxHeartbeats 4000000 in
theorem zAe {w : zX} {r : Int} (hM : yJ w = some r) : Ct Tryz.prog 51 [(ZB w)] (V.i r) := by
 refine ze ZK rfl ?_
 unfold yJ at hM
 refine X.sq ?_
 refine X.opW rfl rfl rfl rfl (X.q rfl (GS.zA (GS.seq (GS.block (X.sq (X.q rfl (X.q rfl ?_)))))))
 refine X.call (zAd w.Level) rfl rfl rfl (.cons (.shut (n := 9) rfl) .nil) (X.q rfl (X.q rfl ?_))
 refine GS.zA ?_
 refine X.cond rfl (fun h_1 => ?_) (fun h_1 => ?_)
 ·replace hM := zZ h_1 hM
  refine X.sq (X.q rfl (GS.zA ?_))
  cases hM
  exact GS.ret ⟨_, rfl, ⟨30, rfl⟩⟩
 replace hM := za h_1 hM
 refine X.sq ?_
 refine X.mid [(1, (V.ptr 0 0 0)), (13, (V.b ((decide (6 < (w.Cycles.length : Int))) || (decide (20 < (w.Shifts.length : Int))))))] ?_ ?_
 ·intro hg
  refine X.split (decide (6 < (w.Cycles.length : Int))) (fun h_2 => ?_) (fun h_2 => ?_)
  ·iterate 2 refine X.q rfl ?_
   refine X.opR rfl (X.lenF rfl rfl rfl) rfl (X.q rfl (X.q rfl ?_))
   iterate 4 refine X.off (X.ZL rfl rfl rfl h_2) rfl ?_
   refine X.opR rfl (X.zd (y := decide (20 < (w.Shifts.length : Int))) rfl h_2 rfl) rfl (X.q rfl (GS.zA ?_))
   exact X.norm _ hg rfl (sr rfl)
  refine X.q rfl (X.q rfl ?_)
  refine X.opR rfl (X.lenF rfl rfl rfl) rfl (X.q rfl (X.q rfl ?_))
  iterate 2 refine X.opR (X.on_f rfl rfl rfl h_2) rfl rfl ?_
  refine X.opR (X.on_f rfl rfl rfl h_2) (X.lenF rfl rfl rfl) rfl ?_
  refine X.opR (X.on_f rfl rfl rfl h_2) rfl rfl ?_
  refine X.opR rfl (X.zb (y := decide (20 < (w.Shifts.length : Int))) rfl h_2 rfl) rfl (X.q rfl (GS.zA ?_))
  exact X.norm _ hg rfl (sr rfl)
 refine X.cond rfl (fun h_3 => ?_) (fun h_3 => ?_)
 ·replace hM := zZ h_3 hM
  refine X.sq (X.q rfl (GS.zA ?_))
  cases hM
  exact GS.ret ⟨_, rfl, ⟨30, rfl⟩⟩
 replace hM := za h_3 hM
 refine GS.skip ?_
 refine GS.endB (GS.seq (X.sq (X.q rfl (X.q rfl ?_))))
 refine X.opR rfl (X.lenF rfl rfl rfl) rfl (X.q rfl (GS.zA ?_))
 refine X.join (τ := Unit) (fun v => JG w = some r) (fun v => ⟨[(1, (V.ptr 0 0 0))], [.rows 3 [(ZB w)]], 0, none, 71⟩) ?_ ?_
 ·intro _ hM
  replace hM : JG w = some r := hM
  unfold JG at hM
  refine X.sq (X.q rfl (GS.zA (GS.seq (X.sq (X.q rfl (X.q rfl ?_))))))
  refine X.opR rfl (X.lenF rfl rfl rfl) rfl (X.q rfl (GS.zA ?_))
  refine X.join (τ := Unit) (fun v => qA = some r) (fun v => ⟨[], [], 0, none, 71⟩) ?_ ?_
  ·intro _ hM
   replace hM : qA = some r := hM
   unfold qA at hM
   refine X.sq (X.q rfl (GS.zA ?_))
   cases hM
   exact GS.ret ⟨_, rfl, ⟨30, rfl⟩⟩
  intro hj_2
  refine GS.block ?_
  refine X.gc [] (X.loop (σ := (Int × Int)) (fun v => ⟨[(5, (V.i v.1)), (43, (V.sl (List.map jv w.Shifts))), (44, (V.i (w.Shifts.length : Int))), (45, (V.i v.2))], [], 0, none, 71⟩) hM ?_ rfl) rfl rfl rfl (ga rfl rfl) (zL)
  rintro ⟨last, x1⟩ b_1 hM hc_3 hr_1
  rw [Yw] at hM
  refine X.sq (X.q rfl (GS.zA (GS.seq ?_)))
  refine X.cond rfl (fun h_4 => ?_) (fun h_4 => ?_)
  ·replace hM := zZ h_4 hM
   refine GS.skip (GS.seq (GS.block (GS.seq ?_)))
   obtain ⟨x, h_5, hM⟩ := zH hM
   refine GS.region ?_
   refine X.opR rfl (X.ZC (f := jv) h_5 (fun _ => rfl) rfl rfl rfl rfl) rfl ?_
   refine X.opR rfl (X.ZS h_5 rfl rfl rfl) rfl ?_
   refine X.opW rfl rfl rfl rfl ?_
   refine X.op0W rfl rfl rfl (GS.zA (GS.seq (X.sq ?_)))
   refine X.mid [(7, (V.ptr 0 0 0)), (43, (V.sl (List.map jv w.Shifts))), (44, (V.i (w.Shifts.length : Int))), (45, (V.i x1)), (67, (V.b (((!(zf x.From (w64 (last + 1)) x.To)) || (decide (728 < x.To))) || (!(Zk x.Add)))))] ?_ ?_
   ·intro hg
    refine X.split (!(zf x.From (w64 (last + 1)) x.To)) (fun h_6 => ?_) (fun h_6 => ?_)
    ·iterate 3 refine X.q rfl ?_
     refine X.opR rfl (X.addE rfl rfl) rfl (X.q rfl (X.q rfl ?_))
     refine X.call (ZX x.From (w64 (last + 1)) x.To) rfl rfl rfl (.cons (.shut (n := 9) rfl) (.cons (.shut (n := 9) rfl) (.cons (.shut (n := 9) rfl) .nil))) (X.q rfl (X.q rfl ?_))
     iterate 3 refine X.off (X.ZL rfl rfl rfl h_6) rfl ?_
     refine X.opR rfl (X.zd (y := decide (728 < x.To)) rfl h_6 rfl) rfl (X.q rfl ?_)
     iterate 4 refine X.off (X.ZL rfl rfl rfl (X.zU h_6)) rfl ?_
     refine X.opR rfl (X.zd (y := !(Zk x.Add)) rfl (X.zU h_6) rfl) rfl (GS.zA ?_)
     exact X.norm _ hg rfl (sr rfl)
    refine X.split (((!(zf x.From (w64 (last + 1)) x.To)) || (decide (728 < x.To)))) (fun h_7 => ?_) (fun h_7 => ?_)
    ·iterate 3 refine X.q rfl ?_
     refine X.opR rfl (X.addE rfl rfl) rfl (X.q rfl (X.q rfl ?_))
     refine X.call (ZX x.From (w64 (last + 1)) x.To) rfl rfl rfl (.cons (.shut (n := 9) rfl) (.cons (.shut (n := 9) rfl) (.cons (.shut (n := 9) rfl) .nil))) (X.q rfl (X.q rfl ?_))
     iterate 3 refine X.opR (X.on_f rfl rfl rfl h_6) rfl rfl ?_
     refine X.opR rfl (X.zb (y := decide (728 < x.To)) rfl h_6 rfl) rfl (X.q rfl ?_)
     iterate 4 refine X.off (X.ZL rfl rfl rfl h_7) rfl ?_
     refine X.opR rfl (X.zd (y := !(Zk x.Add)) rfl h_7 rfl) rfl (GS.zA ?_)
     exact X.norm _ hg rfl (sr rfl)
    iterate 3 refine X.q rfl ?_
    refine X.opR rfl (X.addE rfl rfl) rfl (X.q rfl (X.q rfl ?_))
    refine X.call (ZX x.From (w64 (last + 1)) x.To) rfl rfl rfl (.cons (.shut (n := 9) rfl) (.cons (.shut (n := 9) rfl) (.cons (.shut (n := 9) rfl) .nil))) (X.q rfl (X.q rfl ?_))
    iterate 3 refine X.opR (X.on_f rfl rfl rfl h_6) rfl rfl ?_
    refine X.opR rfl (X.zb (y := decide (728 < x.To)) rfl h_6 rfl) rfl (X.q rfl ?_)
    iterate 2 refine X.opR (X.on_f rfl rfl rfl h_7) rfl rfl ?_
    refine X.call (zAd x.Add) (X.on_f rfl rfl rfl h_7) rfl rfl (.cons (.shut (n := 9) rfl) .nil) ?_
    refine X.opR (X.on_f rfl rfl rfl h_7) rfl rfl ?_
    refine X.opR rfl (X.zb (y := !(Zk x.Add)) rfl h_7 rfl) rfl (GS.zA ?_)
    exact X.norm _ hg rfl (sr rfl)
   refine X.cond rfl (fun h_8 => ?_) (fun h_8 => ?_)
   ·replace hM := zZ h_8 hM
    refine X.sq (X.q rfl (GS.zA ?_))
    have hE := Option.some.inj hM
    replace hE := hr_1 _ hE.symm
    subst hE
    exact GS.ret ⟨_, rfl, ⟨30, rfl⟩⟩
   replace hM := za h_8 hM
   refine GS.skip (GS.region (X.q rfl (X.q rfl (X.q rfl ?_))))
   refine GS.zA ?_
   refine GS.endB (GS.region ?_)
   refine X.opR rfl (X.addE rfl rfl) rfl (X.q rfl (GS.zA ?_))
   have hE := Option.some.inj hM
   exact X.gc [] (hc_3 (x.To, w64 (x1 + 1)) hE.symm) rfl rfl rfl (ga rfl rfl) (zL)
  replace hM := za h_4 hM
  refine GS.exit rfl ?_
  obtain ⟨y_1, hM, hy⟩ := ZN hM
  rw [hr_1 _ hy.symm] at hM
  exact X.gc [] (hj_2 () hM) rfl rfl rfl (Jq) (zL)
 intro hj_1
 refine GS.block ?_
 refine X.gc [some 0] (X.loop (σ := Int) (fun v => ⟨[(1, (V.ptr 0 0 0)), (25, (V.sl (List.map zw w.Cycles))), (26, (V.i (w.Cycles.length : Int))), (27, (V.i v))], [.rows 3 [(ZB w)]], 0, none, 71⟩) hM ?_ rfl) rfl rfl rfl (ga rfl rfl) (gb9 rfl rfl rfl zL)
 intro x3 b_1 hM hc_4 hr_1
 rw [Yv] at hM
 refine X.sq (X.q rfl (GS.zA (GS.seq ?_)))
 refine X.cond rfl (fun h_9 => ?_) (fun h_9 => ?_)
 ·replace hM := zZ h_9 hM
  refine GS.skip (GS.seq (GS.block (GS.seq ?_)))
  obtain ⟨x2, h_10, hM⟩ := zH hM
  refine GS.region (X.q rfl ?_)
  refine X.opR rfl (X.ZC (f := zw) h_10 (fun _ => rfl) rfl rfl rfl rfl) rfl ?_
  refine X.opR rfl (X.ZS h_10 rfl rfl rfl) rfl ?_
  refine X.opW rfl rfl rfl rfl (X.q rfl ?_)
  refine X.op0W rfl rfl rfl (GS.zA ?_)
  iterate 2 refine GS.seq ?_
  obtain ⟨y, h_11, hM⟩ := zH hM
  refine GS.region (X.q rfl ?_)
  refine X.call (zGc h_11) rfl rfl rfl (.cons (.shut (n := 9) rfl) .nil) (X.q rfl (GS.zA ?_))
  refine X.cond rfl (fun h_12 => ?_) (fun h_12 => ?_)
  ·replace hM := zZ h_12 hM
   refine X.sq (X.q rfl (GS.zA ?_))
   have hE := Option.some.inj hM
   replace hE := hr_1 _ hE.symm
   subst hE
   exact GS.ret ⟨_, rfl, ⟨30, rfl⟩⟩
  replace hM := za h_12 hM
  refine GS.skip (GS.seq ?_)
  obtain ⟨l, h_13, hM⟩ := zH hM
  obtain ⟨y1, h_14, hM⟩ := zH hM
  refine GS.region (X.q rfl (X.q rfl (X.q rfl ?_)))
  refine X.opR rfl (X.sliceF (f := zw) h_13 (fun _ => rfl) rfl rfl rfl rfl rfl rfl (X.zBS rfl)) rfl (X.q rfl ?_)
  refine X.zBd (Jo h_14) rfl rfl rfl (m := 9) rfl (.cons (.shut (n := 9) rfl) (.cons (FR.arg ⟨30, rfl⟩) .nil)) (GS.zA ?_)
  refine X.cond rfl (fun h_15 => ?_) (fun h_15 => ?_)
  ·replace hM := zZ h_15 hM
   refine X.sq (X.q rfl (GS.zA ?_))
   have hE := Option.some.inj hM
   replace hE := hr_1 _ hE.symm
   subst hE
   exact GS.ret ⟨_, rfl, ⟨30, rfl⟩⟩
  replace hM := za h_15 hM
  refine GS.skip ?_
  refine GS.endB (GS.region ?_)
  refine X.opR rfl (X.addE rfl rfl) rfl (X.q rfl (GS.zA ?_))
  have hE := Option.some.inj hM
  exact X.gc [some 0] (hc_4 (w64 (x3 + 1)) hE.symm) rfl rfl rfl (ga rfl rfl) (gb9 rfl rfl rfl zL)
 replace hM := za h_9 hM
 refine GS.exit rfl ?_
 obtain ⟨y_1, hM, hy⟩ := ZN hM
 rw [hr_1 _ hy.symm] at hM
 exact X.gc [some 0] (hj_1 () hM) rfl rfl rfl (ga rfl rfl) (gb9 rfl rfl rfl zL)
theorem ZG (n : Int) (lo : Int) (hi : Int) : Ct Tryz.prog 46 [(V.i n), (V.i lo), (V.i hi)] (V.b (zY n lo hi)) := by
 refine ze ZK rfl ?_
 generalize hM : zY n lo hi = r
 unfold zY at hM
 refine X.sq (X.q rfl (X.nq ?_))
 refine X.mid [(6, (V.b ((decide (lo ≤ n)) && (decide (n ≤ hi)))))] ?_ ?_
 ·intro hg
  refine X.split (decide (lo ≤ n)) (fun h_1 => ?_) (fun h_1 => ?_)
  ·iterate 4 refine X.q rfl ?_
   iterate 3 refine X.opR (X.on_t rfl rfl rfl h_1) rfl rfl ?_
   refine X.opR rfl (X.zW (y := decide (n ≤ hi)) rfl h_1 rfl) rfl (X.q rfl (GS.zA ?_))
   exact X.norm _ hg rfl (sr rfl)
  iterate 4 refine X.q rfl ?_
  iterate 3 refine X.off (X.zn rfl rfl rfl h_1) rfl ?_
  refine X.opR rfl (X.zQ (y := decide (n ≤ hi)) rfl h_1 rfl) rfl (X.q rfl (GS.zA ?_))
  exact X.norm _ hg rfl (sr rfl)
 subst hM
 exact GS.ret ⟨_, rfl, ⟨30, rfl⟩⟩
theorem zEL (b : zj) : Ct Tryz.prog 41 [(zT b)] (V.i (Y5 b)) := by
 refine ze ZK rfl ?_
 generalize hM : Y5 b = r
 unfold Y5 at hM
 refine X.sq ?_
 refine X.opW rfl rfl rfl rfl (X.q rfl (X.nq (X.q rfl (X.q rfl (X.q rfl ?_)))))
 refine GS.zA ?_
 subst hM
 exact GS.ret ⟨_, rfl, ⟨30, rfl⟩⟩
theorem yY (x : zj) (c : Int) : Ct Tryz.prog 82 [(zT x), (V.fptr [(V.fn 41 [])] 0 0), (V.fptr [(V.i c)] 0 0)] (V.b (Zi x c)) := by
 refine ze ZK rfl ?_
 generalize hM : Zi x c = r
 unfold Zi at hM
 refine X.sq ?_
 refine X.opW rfl rfl rfl rfl (X.q rfl (GS.zA (GS.seq ?_)))
 refine X.drawc (by kernel_rfl) rfl ?_
 iterate 2 refine X.cop rfl rfl rfl rfl ?_
 refine X.ccall (zEL x) rfl rfl rfl rfl (.cons (.shut (n := 9) rfl) .nil) ?_
 iterate 3 refine X.cop rfl rfl rfl rfl ?_
 refine X.cnil ?_
 refine X.norm [(4, (V.b (decide ((Y5 x) = c))))] ?_ rfl (sr rfl)
 subst hM
 exact GS.ret ⟨_, rfl, ⟨30, rfl⟩⟩
theorem jF {s : (List zj)} {c : Int} {r : Int} (hM : zu s c = some r) : Ct Tryz.prog 81 [(V.sl (List.map zT s)), (V.fn 82 [(V.fptr [(V.fn 41 [])] 0 0), (V.fptr [(V.i c)] 0 0)])] (V.i r) := by
 refine ze ZK rfl ?_
 unfold zu at hM
 refine X.sq (X.q rfl (GS.zA (GS.seq (X.sq (X.q rfl ?_)))))
 refine X.opR rfl (X.lenF rfl rfl rfl) rfl (X.q rfl (GS.zA ?_))
 refine X.join (τ := Unit) (fun v => zq = some r) (fun v => ⟨[], [], 0, none, 19⟩) ?_ ?_
 ·intro _ hM
  replace hM : zq = some r := hM
  unfold zq at hM
  refine X.sq (X.q rfl (GS.zA ?_))
  cases hM
  exact GS.ret ⟨_, rfl, ⟨30, rfl⟩⟩
 intro hj_1
 refine GS.block ?_
 refine X.gc [] (X.loop (σ := Int) (fun v => ⟨[(0, (V.sl (List.map zT s))), (1, (V.fn 82 [(V.fptr [(V.fn 41 [])] 0 0), (V.fptr [(V.i c)] 0 0)])), (7, (V.i (s.length : Int))), (8, (V.i v))], [], 0, none, 19⟩) hM ?_ rfl) rfl rfl rfl (ga rfl rfl) (zL)
 intro x1 b_1 hM hc_2 hr_1
 rw [zh] at hM
 refine X.sq (X.q rfl (GS.zA (GS.seq ?_)))
 refine X.cond rfl (fun h_1 => ?_) (fun h_1 => ?_)
 ·replace hM := zZ h_1 hM
  refine GS.skip (GS.seq (GS.block (X.sq (X.q rfl (X.q rfl ?_)))))
  refine GS.zA (GS.seq ?_)
  obtain ⟨x, h_2, hM⟩ := zH hM
  refine GS.region (X.q rfl (X.q rfl (X.q rfl ?_)))
  refine X.opR rfl (X.ZC (f := zT) h_2 (fun _ => rfl) rfl rfl rfl rfl) rfl ?_
  refine X.opR rfl (X.ZS h_2 rfl rfl rfl) rfl ?_
  refine X.call (yY x c) rfl rfl rfl (.cons (.shut (n := 9) rfl) (.cons (.shut (n := 9) rfl) (.cons (.shut (n := 9) rfl) .nil))) (GS.zA ?_)
  refine X.cond rfl (fun h_3 => ?_) (fun h_3 => ?_)
  ·replace hM := zZ h_3 hM
   refine X.sq (X.q rfl (X.q rfl ?_))
   refine GS.zA ?_
   have hE := Option.some.inj hM
   replace hE := hr_1 _ hE.symm
   subst hE
   exact GS.ret ⟨_, rfl, ⟨30, rfl⟩⟩
  replace hM := za h_3 hM
  refine GS.skip ?_
  refine GS.endB (GS.region ?_)
  refine X.opR rfl (X.addE rfl rfl) rfl (X.q rfl (GS.zA ?_))
  have hE := Option.some.inj hM
  exact X.gc [] (hc_2 (w64 (x1 + 1)) hE.symm) rfl rfl rfl (ga rfl rfl) (zL)
 replace hM := za h_1 hM
 refine GS.exit rfl ?_
 obtain ⟨y_1, hM, hy⟩ := ZN hM
 rw [hr_1 _ hy.symm] at hM
 exact X.gc [] (hj_1 () hM) rfl rfl rfl (Jq) (zL)
theorem Zf {l : (List zj)} {id : Int} {r : Int} (hM : zo l id = some r) : Ct Tryz.prog 40 [(V.sl (List.map zT l)), (V.i id), (V.fn 41 [])] (V.i r) := by
 refine ze ZK rfl ?_
 unfold zo at hM
 refine X.sq ?_
 iterate 2 refine X.opW rfl rfl rfl rfl ?_
 refine X.q rfl (GS.zA (GS.seq ?_))
 obtain ⟨y, h_1, hM⟩ := zH hM
 refine GS.region (X.q rfl (X.q rfl ?_))
 refine X.zBd (jF h_1) rfl rfl rfl (m := 9) rfl (.cons (.shut (n := 9) rfl) (.cons (FR.arg ⟨30, rfl⟩) .nil)) (X.q rfl (GS.zA ?_))
 cases hM
 exact GS.ret ⟨_, rfl, ⟨30, rfl⟩⟩
theorem zAI (s : zD) : Ct Tryz.prog 47 [(zI s)] (V.b (je s)) := by
 refine ze ZK rfl ?_
 generalize hM : je s = r
 unfold je at hM
 refine X.sq ?_
 refine X.opW rfl rfl rfl rfl (X.q rfl (X.nq ?_))
 refine X.mid [(2, (V.b ((((decide (0 ≤ s.Lo)) && (decide (s.Lo ≤ s.Hi))) && (decide (s.Hi ≤ 1048576))) && (decide ((w64 (s.Hi - s.Lo)) < 1440)))))] ?_ ?_
 ·intro hg
  refine X.split (decide (0 ≤ s.Lo)) (fun h_1 => ?_) (fun h_1 => ?_)
  ·refine X.split (((decide (0 ≤ s.Lo)) && (decide (s.Lo ≤ s.Hi)))) (fun h_2 => ?_) (fun h_2 => ?_)
   ·refine X.split ((((decide (0 ≤ s.Lo)) && (decide (s.Lo ≤ s.Hi))) && (decide (s.Hi ≤ 1048576)))) (fun h_3 => ?_) (fun h_3 => ?_)
    ·iterate 4 refine X.q rfl ?_
     iterate 5 refine X.opR (X.on_t rfl rfl rfl h_1) rfl rfl ?_
     refine X.opR rfl (X.zW (y := decide (s.Lo ≤ s.Hi)) rfl h_1 rfl) rfl (X.q rfl ?_)
     iterate 3 refine X.opR (X.on_t rfl rfl rfl h_2) rfl rfl ?_
     refine X.opR rfl (X.zW (y := decide (s.Hi ≤ 1048576)) rfl h_2 rfl) rfl (X.q rfl ?_)
     iterate 4 refine X.opR (X.on_t rfl rfl rfl h_3) rfl rfl ?_
     refine X.opR (X.on_t rfl rfl rfl h_3) (X.subE rfl rfl) rfl ?_
     refine X.opR (X.on_t rfl rfl rfl h_3) rfl rfl ?_
     refine X.opR rfl (X.zW (y := decide ((w64 (s.Hi - s.Lo)) < 1440)) rfl h_3 rfl) rfl (X.q rfl (GS.zA ?_))
     exact X.norm _ hg rfl (sr rfl)
    iterate 4 refine X.q rfl ?_
    iterate 5 refine X.opR (X.on_t rfl rfl rfl h_1) rfl rfl ?_
    refine X.opR rfl (X.zW (y := decide (s.Lo ≤ s.Hi)) rfl h_1 rfl) rfl (X.q rfl ?_)
    iterate 3 refine X.opR (X.on_t rfl rfl rfl h_2) rfl rfl ?_
    refine X.opR rfl (X.zW (y := decide (s.Hi ≤ 1048576)) rfl h_2 rfl) rfl (X.q rfl ?_)
    iterate 6 refine X.off (X.zn rfl rfl rfl h_3) rfl ?_
    refine X.opR rfl (X.zQ (y := decide ((w64 (s.Hi - s.Lo)) < 1440)) rfl h_3 rfl) rfl (X.q rfl (GS.zA ?_))
    exact X.norm _ hg rfl (sr rfl)
   iterate 4 refine X.q rfl ?_
   iterate 5 refine X.opR (X.on_t rfl rfl rfl h_1) rfl rfl ?_
   refine X.opR rfl (X.zW (y := decide (s.Lo ≤ s.Hi)) rfl h_1 rfl) rfl (X.q rfl ?_)
   iterate 3 refine X.off (X.zn rfl rfl rfl h_2) rfl ?_
   refine X.opR rfl (X.zQ (y := decide (s.Hi ≤ 1048576)) rfl h_2 rfl) rfl (X.q rfl ?_)
   iterate 6 refine X.off (X.zn rfl rfl rfl (X.zB h_2)) rfl ?_
   refine X.opR rfl (X.zQ (y := decide ((w64 (s.Hi - s.Lo)) < 1440)) rfl (X.zB h_2) rfl) rfl (X.q rfl (GS.zA ?_))
   exact X.norm _ hg rfl (sr rfl)
  iterate 4 refine X.q rfl ?_
  iterate 5 refine X.off (X.zn rfl rfl rfl h_1) rfl ?_
  refine X.opR rfl (X.zQ (y := decide (s.Lo ≤ s.Hi)) rfl h_1 rfl) rfl (X.q rfl ?_)
  iterate 3 refine X.off (X.zn rfl rfl rfl (X.zB h_1)) rfl ?_
  refine X.opR rfl (X.zQ (y := decide (s.Hi ≤ 1048576)) rfl (X.zB h_1) rfl) rfl (X.q rfl ?_)
  iterate 6 refine X.off (X.zn rfl rfl rfl (X.zB (X.zB h_1))) rfl ?_
  refine X.opR rfl (X.zQ (y := decide ((w64 (s.Hi - s.Lo)) < 1440)) rfl (X.zB (X.zB h_1)) rfl) rfl (X.q rfl (GS.zA ?_))
  exact X.norm _ hg rfl (sr rfl)
 subst hM
 exact GS.ret ⟨_, rfl, ⟨30, rfl⟩⟩
set_option maxHeartbeats 4000000 in
theorem YJ {h : zK} {r : Int} (hM : Jm h = some r) : Ct Tryz.prog 13 [(zG h)] (V.i r) := by
 refine ze ZK rfl ?_
 unfold Jm at hM
 refine X.sq ?_
 refine X.opW rfl rfl rfl rfl (X.q rfl (GS.zA ?_))
 iterate 2 refine GS.seq ?_
 obtain ⟨y, h_1, hM⟩ := zH hM
 refine GS.region (X.q rfl (X.q rfl ?_))
 refine X.call (zAe h_1) rfl rfl rfl (.cons (.shut (n := 9) rfl) .nil) (X.q rfl (X.nq (X.q rfl (X.q rfl ?_))))
 refine GS.zA ?_
 refine X.cond rfl (fun h_2 => ?_) (fun h_2 => ?_)
 ·replace hM := zZ h_2 hM
  refine X.sq (X.q rfl (X.q rfl ?_))
  refine GS.zA ?_
  cases hM
  exact GS.ret ⟨_, rfl, ⟨30, rfl⟩⟩
 replace hM := za h_2 hM
 refine GS.skip (GS.seq (X.sq ?_))
 refine X.mid [(1, (V.ptr 0 0 0)), (24, (V.b ((decide (6 < (h.Berths.length : Int))) || (decide (12 < (h.Tides.length : Int))))))] ?_ ?_
 ·intro hg
  refine X.split (decide (6 < (h.Berths.length : Int))) (fun h_3 => ?_) (fun h_3 => ?_)
  ·iterate 2 refine X.q rfl ?_
   refine X.opR rfl (X.lenF rfl rfl rfl) rfl (X.q rfl (X.q rfl ?_))
   iterate 4 refine X.off (X.ZL rfl rfl rfl h_3) rfl ?_
   refine X.opR rfl (X.zd (y := decide (12 < (h.Tides.length : Int))) rfl h_3 rfl) rfl (GS.zA ?_)
   exact X.norm _ hg rfl (sr rfl)
  refine X.q rfl (X.q rfl ?_)
  refine X.opR rfl (X.lenF rfl rfl rfl) rfl (X.q rfl (X.q rfl ?_))
  iterate 2 refine X.opR (X.on_f rfl rfl rfl h_3) rfl rfl ?_
  refine X.opR (X.on_f rfl rfl rfl h_3) (X.lenF rfl rfl rfl) rfl ?_
  refine X.opR (X.on_f rfl rfl rfl h_3) rfl rfl ?_
  refine X.opR rfl (X.zb (y := decide (12 < (h.Tides.length : Int))) rfl h_3 rfl) rfl (GS.zA ?_)
  exact X.norm _ hg rfl (sr rfl)
 refine X.cond rfl (fun h_4 => ?_) (fun h_4 => ?_)
 ·replace hM := zZ h_4 hM
  refine X.sq (X.q rfl (GS.zA ?_))
  cases hM
  exact GS.ret ⟨_, rfl, ⟨30, rfl⟩⟩
 replace hM := za h_4 hM
 refine GS.skip (GS.seq (X.sq (X.q rfl (X.q rfl ?_))))
 refine X.opR rfl (X.lenF rfl rfl rfl) rfl (X.q rfl (GS.zA ?_))
 refine X.join (τ := Unit) (fun v => YR h = some r) (fun v => ⟨[(1, (V.ptr 0 0 0))], [.rows 6 [(zG h)]], 0, none, 74⟩) ?_ ?_
 ·intro _ hM
  replace hM : YR h = some r := hM
  unfold YR at hM
  refine X.sq (X.q rfl (GS.zA (GS.seq (X.sq (X.q rfl (X.q rfl ?_))))))
  refine X.opR rfl (X.lenF rfl rfl rfl) rfl (X.q rfl (GS.zA ?_))
  refine X.join (τ := Unit) (fun v => YQ h = some r) (fun v => ⟨[(1, (V.ptr 0 0 0))], [.rows 6 [(zG h)]], 0, none, 74⟩) ?_ ?_
  ·intro _ hM
   replace hM : YQ h = some r := hM
   unfold YQ at hM
   refine GS.seq (X.sq (X.q rfl (X.q rfl ?_)))
   refine X.call (ZG h.Keel 0 8000) rfl rfl rfl (.cons (.shut (n := 9) rfl) (.cons (.shut (n := 9) rfl) (.cons (.shut (n := 9) rfl) .nil))) (X.q rfl (GS.zA ?_))
   refine X.cond rfl (fun h_5 => ?_) (fun h_5 => ?_)
   ·replace hM := zZ h_5 hM
    refine X.sq (X.q rfl (GS.zA ?_))
    cases hM
    exact GS.ret ⟨_, rfl, ⟨30, rfl⟩⟩
   replace hM := za h_5 hM
   refine GS.skip (X.sq (X.q rfl (GS.zA ?_)))
   cases hM
   exact GS.ret ⟨_, rfl, ⟨30, rfl⟩⟩
  intro hj_2
  refine GS.block ?_
  refine X.gc [some 0] (X.loop (σ := (Int × Int)) (fun v => ⟨[(1, (V.ptr 0 0 0)), (6, (V.i v.1)), (52, (V.sl (List.map zI h.Tides))), (53, (V.i (h.Tides.length : Int))), (54, (V.i v.2))], [.rows 6 [(zG h)]], 0, none, 74⟩) hM ?_ rfl) rfl rfl rfl (ga rfl rfl) (gb9 rfl rfl rfl zL)
  rintro ⟨last, x1⟩ b_1 hM hc_3 hr_1
  rw [Qs] at hM
  refine X.sq (X.q rfl (GS.zA (GS.seq ?_)))
  refine X.cond rfl (fun h_6 => ?_) (fun h_6 => ?_)
  ·replace hM := zZ h_6 hM
   refine GS.skip (GS.seq (GS.block (GS.seq ?_)))
   obtain ⟨x, h_7, hM⟩ := zH hM
   refine GS.region ?_
   refine X.opR rfl (X.ZC (f := zI) h_7 (fun _ => rfl) rfl rfl rfl rfl) rfl ?_
   refine X.opR rfl (X.ZS h_7 rfl rfl rfl) rfl ?_
   refine X.opW rfl rfl rfl rfl ?_
   refine X.op0W rfl rfl rfl (GS.zA (GS.seq (X.sq ?_)))
   refine X.mid [(1, (V.ptr 0 0 0)), (8, (V.ptr 1 0 0)), (52, (V.sl (List.map zI h.Tides))), (53, (V.i (h.Tides.length : Int))), (54, (V.i x1)), (66, (V.b ((!(je x)) || (decide (x.Lo ≤ last)))))] ?_ ?_
   ·intro hg
    refine X.split (!(je x)) (fun h_8 => ?_) (fun h_8 => ?_)
    ·refine X.q rfl ?_
     refine X.call (zAI x) rfl rfl rfl (.cons (.shut (n := 9) rfl) .nil) (X.q rfl (X.q rfl ?_))
     iterate 4 refine X.off (X.ZL rfl rfl rfl h_8) rfl ?_
     refine X.opR rfl (X.zd (y := decide (x.Lo ≤ last)) rfl h_8 rfl) rfl (GS.zA ?_)
     exact X.norm _ hg rfl (sr rfl)
    refine X.q rfl ?_
    refine X.call (zAI x) rfl rfl rfl (.cons (.shut (n := 9) rfl) .nil) (X.q rfl (X.q rfl ?_))
    iterate 4 refine X.opR (X.on_f rfl rfl rfl h_8) rfl rfl ?_
    refine X.opR rfl (X.zb (y := decide (x.Lo ≤ last)) rfl h_8 rfl) rfl (GS.zA ?_)
    exact X.norm _ hg rfl (sr rfl)
   refine X.cond rfl (fun h_9 => ?_) (fun h_9 => ?_)
   ·replace hM := zZ h_9 hM
    refine X.sq (X.q rfl (GS.zA ?_))
    have hE := Option.some.inj hM
    replace hE := hr_1 _ hE.symm
    subst hE
    exact GS.ret ⟨_, rfl, ⟨30, rfl⟩⟩
   replace hM := za h_9 hM
   refine GS.skip (GS.region (X.q rfl (X.q rfl (X.q rfl ?_))))
   refine GS.zA ?_
   refine GS.endB (GS.region ?_)
   refine X.opR rfl (X.addE rfl rfl) rfl (X.q rfl (GS.zA ?_))
   have hE := Option.some.inj hM
   exact X.gc [some 0] (hc_3 (x.Hi, w64 (x1 + 1)) hE.symm) rfl rfl rfl (ga rfl rfl) (gb9 rfl rfl rfl zL)
  replace hM := za h_6 hM
  refine GS.exit rfl ?_
  obtain ⟨y_1, hM, hy⟩ := ZN hM
  rw [hr_1 _ hy.symm] at hM
  exact X.gc [some 0] (hj_2 () hM) rfl rfl rfl (ga rfl rfl) (gb9 rfl rfl rfl zL)
 intro hj_1
 refine GS.block ?_
 refine X.gc [some 0] (X.loop (σ := Int) (fun v => ⟨[(1, (V.ptr 0 0 0)), (26, (V.sl (List.map zT h.Berths))), (27, (V.i (h.Berths.length : Int))), (28, (V.i v))], [.rows 6 [(zG h)]], 0, none, 74⟩) hM ?_ rfl) rfl rfl rfl (ga rfl rfl) (gb9 rfl rfl rfl zL)
 intro x3 b_1 hM hc_4 hr_1
 rw [Qr] at hM
 refine X.sq (X.q rfl (GS.zA (GS.seq ?_)))
 refine X.cond rfl (fun h_10 => ?_) (fun h_10 => ?_)
 ·replace hM := zZ h_10 hM
  refine GS.skip (GS.seq (GS.block (GS.seq ?_)))
  obtain ⟨x2, h_11, hM⟩ := zH hM
  refine GS.region (X.q rfl ?_)
  refine X.opR rfl (X.ZC (f := zT) h_11 (fun _ => rfl) rfl rfl rfl rfl) rfl ?_
  refine X.opR rfl (X.ZS h_11 rfl rfl rfl) rfl ?_
  refine X.opW rfl rfl rfl rfl (X.q rfl ?_)
  refine X.op0W rfl rfl rfl (GS.zA (GS.seq (X.sq ?_)))
  refine X.mid [(1, (V.ptr 0 0 0)), (4, (V.i x3)), (5, (V.ptr 1 0 0)), (26, (V.sl (List.map zT h.Berths))), (27, (V.i (h.Berths.length : Int))), (28, (V.i x3)), (42, (V.b ((!(zY x2.ID 1 1099511627776)) || (!(zY x2.Depth 0 8000)))))] ?_ ?_
  ·intro hg
   refine X.split (!(zY x2.ID 1 1099511627776)) (fun h_12 => ?_) (fun h_12 => ?_)
   ·iterate 2 refine X.q rfl ?_
    refine X.call (ZG x2.ID 1 1099511627776) rfl rfl rfl (.cons (.shut (n := 9) rfl) (.cons (.shut (n := 9) rfl) (.cons (.shut (n := 9) rfl) .nil))) (X.q rfl (X.q rfl ?_))
    iterate 4 refine X.off (X.ZL rfl rfl rfl h_12) rfl ?_
    refine X.opR rfl (X.zd (y := !(zY x2.Depth 0 8000)) rfl h_12 rfl) rfl (GS.zA ?_)
    exact X.norm _ hg rfl (sr rfl)
   refine X.q rfl (X.q rfl ?_)
   refine X.call (ZG x2.ID 1 1099511627776) rfl rfl rfl (.cons (.shut (n := 9) rfl) (.cons (.shut (n := 9) rfl) (.cons (.shut (n := 9) rfl) .nil))) (X.q rfl (X.q rfl ?_))
   iterate 2 refine X.opR (X.on_f rfl rfl rfl h_12) rfl rfl ?_
   refine X.call (ZG x2.Depth 0 8000) (X.on_f rfl rfl rfl h_12) rfl rfl (.cons (.shut (n := 9) rfl) (.cons (.shut (n := 9) rfl) (.cons (.shut (n := 9) rfl) .nil))) ?_
   refine X.opR (X.on_f rfl rfl rfl h_12) rfl rfl ?_
   refine X.opR rfl (X.zb (y := !(zY x2.Depth 0 8000)) rfl h_12 rfl) rfl (GS.zA ?_)
   exact X.norm _ hg rfl (sr rfl)
  refine X.cond rfl (fun h_13 => ?_) (fun h_13 => ?_)
  ·replace hM := zZ h_13 hM
   refine X.sq (X.q rfl (GS.zA ?_))
   have hE := Option.some.inj hM
   replace hE := hr_1 _ hE.symm
   subst hE
   exact GS.ret ⟨_, rfl, ⟨30, rfl⟩⟩
  replace hM := za h_13 hM
  refine GS.skip (GS.seq ?_)
  obtain ⟨y1, h_14, hM⟩ := zH hM
  refine GS.region ?_
  iterate 4 refine X.q rfl ?_
  refine X.call (Zf h_14) rfl rfl rfl (.cons (.shut (n := 9) rfl) (.cons (.shut (n := 9) rfl) (.cons (.shut (n := 9) rfl) .nil))) (X.q rfl (X.q rfl ?_))
  refine GS.zA ?_
  refine X.cond rfl (fun h_15 => ?_) (fun h_15 => ?_)
  ·replace hM := zZ h_15 hM
   refine X.sq (X.q rfl (GS.zA ?_))
   have hE := Option.some.inj hM
   replace hE := hr_1 _ hE.symm
   subst hE
   exact GS.ret ⟨_, rfl, ⟨30, rfl⟩⟩
  replace hM := za h_15 hM
  refine GS.skip ?_
  refine GS.endB (GS.region ?_)
  refine X.opR rfl (X.addE rfl rfl) rfl (X.q rfl (GS.zA ?_))
  have hE := Option.some.inj hM
  exact X.gc [some 0] (hc_4 (w64 (x3 + 1)) hE.symm) rfl rfl rfl (ga rfl rfl) (gb9 rfl rfl rfl zL)
 replace hM := za h_10 hM
 refine GS.exit rfl ?_
 obtain ⟨y_1, hM, hy⟩ := ZN hM
 rw [hr_1 _ hy.symm] at hM
 exact X.gc [some 0] (hj_1 () hM) rfl rfl rfl (ga rfl rfl) (gb9 rfl rfl rfl zL)
def j7 (n : Nat) : List V := V.i (-1) :: (List.range n).map fun i => V.i (i : Nat)
def YA (w : zX) : V := .fmap (j7 w.Cycles.length) (.fn 135 [.fptr [ZB w] 0 0] :: w.Cycles.map fun c => .fn 137 [.fptr [zw c] 0 0])
theorem zEw : ∀ (n a : Nat) (i : Int) (k : Nat), a ≤ i → i < a + n → qW (.i i) ((List.range' a n).map fun i => V.i (i : Nat)) k = some (some (k + (i.toNat - a)))
 | 0, a, i, k, h1, h2 => by omega
 | n + 1, a, i, k, h1, h2 => by
  simp only [List.range'_succ, List.map_cons, qW, qj, JU, if_true]
  by_cases h : i = a
  ·subst h; simp
  ·have ih := zEw n (a + 1) i (k + 1) (by omega) (by omega)
   simp only [h, decide_false, ih]
   congr 2
   omega
theorem zJn : ∀ (n a : Nat) (i : Int) (k : Nat), (i < a ∨ a + n ≤ i) → qW (.i i) ((List.range' a n).map fun i => V.i (i : Nat)) k = some none
 | 0, a, i, k, h => by simp [qW]
 | n + 1, a, i, k, h => by
  simp only [List.range'_succ, List.map_cons, qW, qj, JU, if_true]
  have h1 : ¬ i = a := by omega
  simp only [h1, decide_false]
  exact zJn n (a + 1) i (k + 1) (by omega)
theorem zHt {K : List (Nat × V)} {H : List Blk} {lo nid : Nat} {xo ko : Operand} {w : zX} {i : Int} (h : decide (i = -1) = true) (hx : kev K xo = some (YA w)) (hk : kev K ko = some (.i i)) : zg CC K H lo nid (.lookup 183 xo ko false) = some ⟨.fn 135 [.fptr [ZB w] 0 0], [], []⟩ := by
 have h1 : i = -1 := by simpa using h
 subst h1
 simp only [zg, J9, hx, hk]
 rfl
theorem zHu {K : List (Nat × V)} {H : List Blk} {lo nid : Nat} {xo ko : Operand} {w : zX} {i : Int} {c : zp} (h : ix w.Cycles i = some c) (hx : kev K xo = some (YA w)) (hk : kev K ko = some (.i i)) : zg CC K H lo nid (.lookup 183 xo ko false) = some ⟨.fn 137 [.fptr [zw c] 0 0], [], []⟩ := by
 obtain ⟨h0, h1, h2⟩ := zCk h
 have hf := zEw w.Cycles.length 0 i 1 (by omega) (by omega)
 have hne : ¬ i = -1 := by omega
 simp only [zg, J9, hx, hk]
 unfold zB2 YA
 have hm : zDb CC 183 = some (.int .i64, t147) := rfl
 simp only [hm, zA3, JU, cond_true, zAM, j7, qW, qj, if_true, hne, decide_false]
 rw [List.range_eq_range', hf]
 simp only [Nat.sub_zero]
 rw [show 1 + i.toNat = i.toNat + 1 by omega]
 simp only [Am.get]
 rw [ZU, List.getElem?_map, h2]
 rfl
theorem zBu (n : Nat) : j7 n = (((-1 : Int) :: (List.range n).map fun (i : Nat) => (i : Int))).map V.i := by simp [j7]
theorem zGZ (n : Nat) : j7 (n + 1) = j7 n ++ [V.i (n : Nat)] := by simp [j7, List.range_succ]
def qC (n : Nat) : List V := .fn 135 [.ptr 0 0 0] :: (List.range n).map fun i => .fn 137 [.ptr (i + 2) 0 0]
theorem zHm (n : Nat) : qC (n + 1) = qC n ++ [.fn 137 [.ptr (n + 2) 0 0]] := by simp [qC, List.range_succ]
def zDS (w : zX) (i : Nat) : List Blk := (w.Cycles.take i).map fun c => .rows 4 [zw c]
def qS (w : zX) (i : Nat) : List Blk := .rows 3 [ZB w] :: .map (j7 i) (qC i) :: zDS w i
theorem zKk (w : zX) (i : Nat) (h : i ≤ w.Cycles.length) : (qS w i).length = i + 2 := by simp [qS, zDS]; omega
theorem zJa (w : zX) (i : Nat) (c : zp) (h : w.Cycles[i]? = some c) : hput (qS w i ++ [.rows 4 [zw c]]) 1 (.map (j7 (i + 1)) (qC (i + 1))) = qS w (i + 1) := by
 simp only [qS, List.cons_append, hput, zDS, List.take_add_one, h, List.map_append]
 rfl
theorem zIZ (w : zX) (j : Nat) (c : zp) (h : w.Cycles[j]? = some c) : hget (qS w w.Cycles.length) (j + 2) = .rows 4 [zw c] := by
 simp only [hget, qS, Am.get, zDS, List.take_length]
 rw [ZU, List.getElem?_map, h]
 rfl
theorem zLV (w : zX) : ∃ n, frz (qS w w.Cycles.length) 0 n (.map 1) = some (YA w) := by
 refine ⟨9, ?_⟩
 have h1 : mapO (frz (qS w w.Cycles.length) 0 8) (j7 w.Cycles.length) = some (j7 w.Cycles.length) := by
  rw [zBu]; exact Yb (g := frz (qS w w.Cycles.length) 0 8) (f := V.i) (fun _ => rfl) _
 have h2 : ∀ l : List Nat, (∀ j ∈ l, j < w.Cycles.length) → mapO (frz (qS w w.Cycles.length) 0 8) (l.map fun i => .fn 137 [.ptr (i + 2) 0 0]) = some (l.map fun i => .fn 137 [.fptr [zw (w.Cycles.getD i default)] 0 0]) := by
  intro l
  induction l with
  | nil => intro _; rfl
  | cons j r ih =>
   intro h
   have hj := h j List.mem_cons_self
   have hg := zIZ w j (w.Cycles.getD j default) (by rw [List.getD_eq_getElem?_getD, List.getElem?_eq_getElem hj]; rfl)
   have h3 : frz (qS w w.Cycles.length) 0 8 (.fn 137 [.ptr (j + 2) 0 0]) = some (.fn 137 [.fptr [zw (w.Cycles.getD j default)] 0 0]) := by
    exact X.frzFn (X.mapO1 (X.frzPtr hg rfl))
   simp only [List.map_cons, mapO, h3, ih (fun x hx => h x (List.mem_cons_of_mem _ hx))]
 have h4 := h2 (List.range w.Cycles.length) (fun j hj => List.mem_range.1 hj)
 have h5 : mapO (frz (qS w w.Cycles.length) 0 8) (qC w.Cycles.length) = some (.fn 135 [.fptr [ZB w] 0 0] :: w.Cycles.map fun c => .fn 137 [.fptr [zw c] 0 0]) := by
  have h6 : frz (qS w w.Cycles.length) 0 8 (.fn 135 [.ptr 0 0 0]) = some (.fn 135 [.fptr [ZB w] 0 0]) := rfl
  simp only [qC, mapO, h6, h4]
  congr 2
  refine List.ext_getElem (by simp) fun i h1 h2 => ?_
  simp only [List.length_map] at h2
  simp [List.getD_eq_getElem?_getD, h2]
 exact X.frzMap rfl h1 h5
theorem zGd {w r : zX} (hM : zBC w = some r) : Ct Tryz.prog 112 [ZB w] (YA r) := by
 have hlen : w.Cycles.length ≤ 9223372036854775807 ∧ r = w := by
  unfold zBC at hM
  split at hM
  ·exact ⟨by assumption, (Option.some.inj hM).symm⟩
  ·cases hM
 obtain ⟨hlen, rfl⟩ := hlen
 refine ze ZK rfl ?_
 refine GS.seq ?_
 refine GS.region ?_
 refine X.opW rfl rfl rfl rfl ?_
 refine X.opR rfl rfl rfl ?_
 refine GS.zA ?_
 refine GS.seq ?_
 refine GS.region ?_
 refine X.opW rfl rfl rfl rfl ?_
 refine X.opR rfl rfl rfl ?_
 refine X.op0W rfl rfl rfl ?_
 iterate 2 refine X.opR rfl rfl rfl ?_
 refine GS.zA ?_
 iterate 2 refine GS.seq ?_
 refine GS.region ?_
 iterate 2 refine X.opR rfl rfl rfl ?_
 refine X.opR rfl (X.lenF rfl rfl rfl) rfl ?_
 refine X.opR rfl rfl rfl ?_
 refine GS.zA ?_
 refine GS.block ?_
 refine X.norm (H' := qS r 0) [(12, V.i (0 : Nat)), (11, V.i (r.Cycles.length : Nat)), (10, V.sl (r.Cycles.map zw)), (3, V.map 1)] ?_ rfl (sr rfl)
 refine X.loopI (fun i => ⟨[(12, V.i (i : Nat)), (11, V.i (r.Cycles.length : Nat)), (10, V.sl (r.Cycles.map zw)), (3, V.map 1)], qS r i, 0, none, 22⟩) r.Cycles.length (fun i hi IH => ?_) ?_
 ·obtain ⟨c, hc⟩ : ∃ c, r.Cycles[i]? = some c := ⟨_, List.getElem?_eq_getElem hi⟩
  have hix : ix r.Cycles (i : Int) = some c := by unfold ix; rw [if_pos (by omega)]; simpa using hc
  refine GS.seq ?_
  refine GS.region ?_
  refine X.opR rfl rfl rfl ?_
  refine GS.zA ?_
  refine GS.seq ?_
  refine X.cond rfl (fun h => ?_) (fun h => ?_)
  ·refine GS.skip ?_
   refine GS.seq ?_
   refine GS.block ?_
   refine GS.seq ?_
   refine GS.region ?_
   refine X.opR rfl rfl rfl ?_
   refine X.opR rfl (X.ZC (f := zw) hix (fun _ => rfl) rfl rfl rfl rfl) rfl ?_
   refine X.opR rfl (X.ZS hix rfl rfl rfl) rfl ?_
   refine X.opW rfl rfl X.zIX rfl ?_
   refine X.opR rfl rfl rfl ?_
   refine X.op0W rfl (X.zLG (v := zw c) (r := zw c) rfl rfl rfl rfl rfl) X.puts_end' ?_
   refine GS.zA ?_
   refine GS.region ?_
   iterate 3 refine X.opR rfl rfl rfl ?_
   refine X.op0W rfl (X.zKs (kd := .int .i64) (kv := V.i (i : Nat)) (vv := .fn 137 [.ptr (qS r i).length 0 0]) (ks := j7 i) (vs := qC i) rfl rfl rfl rfl rfl rfl (by rw [zBu]; exact X.zGD _ _ _ (by simp; omega))) rfl ?_
   refine GS.zA ?_
   refine GS.endB ?_
   refine GS.region ?_
   refine X.opR rfl (X.addE rfl rfl) rfl ?_
   refine X.opR rfl rfl rfl ?_
   refine GS.zA ?_
   refine X.normH _ IH rfl ?_ (X.sub_eq rfl ?_ (sr rfl))
   ·rw [← zJa r i c hc]
    simp only [puts]
    have e1 : QR (V.i (i : Nat)) (j7 i) = (j7 i).length := by
     rw [zBu, X.zHC _ _ (by simp; omega), List.length_map]
    have e2 : (j7 i).length = (qC i).length := by simp [j7, qC]
    rw [e1, X.zHz, e2, X.zHz, ← zGZ, zKk r i (by omega), ← zHm]
    rfl
   ·rw [ZH (by omega) (by omega)]; rfl
  ·simp only [decide_eq_false_iff_not] at h
   exact absurd (by omega) h
 ·refine GS.seq ?_
  refine GS.region ?_
  refine X.opR rfl rfl rfl ?_
  refine GS.zA ?_
  refine GS.seq ?_
  refine X.cond rfl (fun h => ?_) (fun h => ?_)
  ·simp at h
  ·refine GS.exit rfl ?_
   refine GS.seq ?_
   refine GS.region ?_
   iterate 2 refine X.opR rfl rfl rfl ?_
   refine GS.zA ?_
   exact GS.ret ⟨_, rfl, zLV r⟩
theorem zBZ {w : zX} {r : zX × zX} (hM : YV w = some r) : Ct Tryz.prog 84 [(ZB w)] (V.fn 113 [(V.fptr [(ZB r.1)] 0 0), (V.fptr [(YA r.2)] 0 0)]) := by
 refine ze ZK rfl ?_
 unfold YV at hM
 refine X.sq ?_
 refine X.opW rfl rfl rfl rfl (X.q rfl (GS.zA (GS.seq ?_)))
 obtain ⟨y, h_1, hM⟩ := zH hM
 refine GS.region (X.q rfl ?_)
 refine X.call (zGd h_1) rfl rfl rfl (.cons (.shut (n := 9) rfl) .nil) ?_
 refine X.opW rfl rfl rfl rfl ?_
 refine X.op0W rfl rfl rfl (X.nq (X.q rfl (X.q rfl ?_)))
 refine GS.zA ?_
 cases hM
 exact GS.ret ⟨_, rfl, ⟨30, rfl⟩⟩
theorem zC1 {w : zX} {tick : Int} {r : Int} (hM : yW w tick = some r) : Ct Tryz.prog 136 [(ZB w), (V.i tick)] (V.i r) := by
 refine ze ZK rfl ?_
 unfold yW at hM
 refine X.sq ?_
 refine X.opW rfl rfl rfl rfl (X.q rfl (GS.zA (GS.seq (X.sq (X.q rfl (X.q rfl ?_))))))
 refine X.opR rfl (X.lenF rfl rfl rfl) rfl (X.q rfl (GS.zA ?_))
 refine X.join (τ := Unit) (fun v => yG = some r) (fun v => ⟨[], [], 0, none, 24⟩) ?_ ?_
 ·intro _ hM
  replace hM : yG = some r := hM
  unfold yG at hM
  refine X.sq (X.q rfl (GS.zA ?_))
  cases hM
  exact GS.ret ⟨_, rfl, ⟨30, rfl⟩⟩
 intro hj_1
 refine GS.block ?_
 refine X.gc [] (X.loop (σ := Int) (fun v => ⟨[(1, (V.i tick)), (8, (V.sl (List.map jv w.Shifts))), (9, (V.i (w.Shifts.length : Int))), (10, (V.i v))], [], 0, none, 24⟩) hM ?_ rfl) rfl rfl rfl (ga rfl rfl) (zL)
 intro x1 b_1 hM hc_2 hr_1
 rw [yH] at hM
 refine X.sq (X.q rfl (GS.zA (GS.seq ?_)))
 refine X.cond rfl (fun h_1 => ?_) (fun h_1 => ?_)
 ·replace hM := zZ h_1 hM
  refine GS.skip (GS.seq (GS.block (GS.seq ?_)))
  obtain ⟨x, h_2, hM⟩ := zH hM
  refine GS.region ?_
  refine X.opR rfl (X.ZC (f := jv) h_2 (fun _ => rfl) rfl rfl rfl rfl) rfl ?_
  refine X.opR rfl (X.ZS h_2 rfl rfl rfl) rfl ?_
  refine X.opW rfl rfl rfl rfl ?_
  refine X.op0W rfl rfl rfl (GS.zA (GS.seq ?_))
  obtain ⟨q, h_3, hM⟩ := zH hM
  refine GS.region (X.q rfl ?_)
  refine X.opR rfl (X.quoE h_3 rfl rfl) rfl ?_
  iterate 4 refine X.q rfl ?_
  refine X.call (ZX q x.From x.To) rfl rfl rfl (.cons (.shut (n := 9) rfl) (.cons (.shut (n := 9) rfl) (.cons (.shut (n := 9) rfl) .nil))) (GS.zA ?_)
  refine X.cond rfl (fun h_4 => ?_) (fun h_4 => ?_)
  ·replace hM := zZ h_4 hM
   refine X.sq (X.q rfl (X.q rfl (X.q rfl ?_)))
   refine GS.zA ?_
   have hE := Option.some.inj hM
   replace hE := hr_1 _ hE.symm
   subst hE
   exact GS.ret ⟨_, rfl, ⟨30, rfl⟩⟩
  replace hM := za h_4 hM
  refine GS.skip ?_
  refine GS.endB (GS.region ?_)
  refine X.opR rfl (X.addE rfl rfl) rfl (X.q rfl (GS.zA ?_))
  have hE := Option.some.inj hM
  exact X.gc [] (hc_2 (w64 (x1 + 1)) hE.symm) rfl rfl rfl (ga rfl rfl) (zL)
 replace hM := za h_1 hM
 refine GS.exit rfl ?_
 obtain ⟨y_1, hM, hy⟩ := ZN hM
 rw [hr_1 _ hy.symm] at hM
 exact X.gc [] (hj_1 () hM) rfl rfl rfl (Jq) (zL)
theorem zE6 {tick : Int} {c : zX} {r : Int} (hM : qo tick c = some r) : Ct Tryz.prog 135 [(V.i tick), (V.fptr [(ZB c)] 0 0)] (V.i r) := by
 refine ze ZK rfl ?_
 unfold qo at hM
 refine X.sq (X.q rfl (GS.zA (GS.seq ?_)))
 obtain ⟨y, h_1, hM⟩ := zH hM
 refine GS.region (X.q rfl (X.q rfl ?_))
 refine X.call (zC1 h_1) rfl rfl rfl (.cons (.shut (n := 9) rfl) (.cons (.shut (n := 9) rfl) .nil)) (X.q rfl (GS.zA ?_))
 cases hM
 exact GS.ret ⟨_, rfl, ⟨30, rfl⟩⟩
theorem zCh {a : Int} {b : Int} {r : Int × Int} (hM : Q2 a b = some r) : Ct Tryz.prog 148 [(V.i a), (V.i b)] (V.tup [(V.i r.1), (V.i r.2)]) := by
 refine ze ZK rfl ?_
 unfold Q2 at hM
 refine X.sq (X.q rfl (X.q rfl ?_))
 refine GS.zA (GS.seq ?_)
 obtain ⟨q, h_1, hM⟩ := zH hM
 obtain ⟨q1, h_2, hM⟩ := zH hM
 refine GS.region (X.q rfl (X.q rfl ?_))
 refine X.opR rfl (X.remE h_1 rfl rfl) rfl (X.q rfl ?_)
 refine X.opR rfl (X.addE rfl rfl) rfl (X.q rfl ?_)
 refine X.opR rfl (X.remE h_2 rfl rfl) rfl (X.q rfl (GS.zA (GS.seq ?_)))
 obtain ⟨q2, h_3, hM⟩ := zH hM
 refine GS.region (X.q rfl (X.q rfl ?_))
 refine X.opR rfl (X.subE rfl rfl) rfl (X.q rfl ?_)
 refine X.opR rfl (X.quoE h_3 rfl rfl) rfl (X.q rfl (X.q rfl (X.q rfl ?_)))
 refine GS.zA ?_
 cases hM
 exact GS.ret ⟨_, rfl, ⟨30, rfl⟩⟩
theorem zGb {c : zp} {tick : Int} {r : Int} (hM : zAB c tick = some r) : Ct Tryz.prog 138 [(zw c), (V.i tick)] (V.i r) := by
 refine ze ZK rfl ?_
 unfold zAB at hM
 refine X.sq ?_
 refine X.opW rfl rfl rfl rfl (X.q rfl (GS.zA (GS.seq ?_)))
 obtain ⟨y, h_1, hM⟩ := zH hM
 refine GS.region (X.q rfl (X.q rfl (X.q rfl ?_)))
 refine X.opR rfl (X.subE rfl rfl) rfl (X.q rfl (X.q rfl ?_))
 refine X.call (zCh h_1) rfl rfl rfl (.cons (.shut (n := 9) rfl) (.cons (.shut (n := 9) rfl) .nil)) ?_
 iterate 5 refine X.q rfl ?_
 refine GS.zA (GS.seq ?_)
 obtain ⟨y1, h_2, hM⟩ := zH hM
 refine GS.region (X.q rfl (X.q rfl (X.q rfl ?_)))
 refine X.opR rfl (X.lenF rfl rfl rfl) rfl ?_
 refine X.call (zCh h_2) rfl rfl rfl (.cons (.shut (n := 9) rfl) (.cons (.shut (n := 9) rfl) .nil)) ?_
 iterate 5 refine X.q rfl ?_
 refine GS.zA (GS.seq ?_)
 obtain ⟨x, h_3, hM⟩ := zH hM
 refine GS.region (X.q rfl (X.q rfl (X.q rfl ?_)))
 refine X.opR rfl (X.ZC (f := V.i) h_3 (fun _ => rfl) rfl rfl rfl rfl) rfl ?_
 refine X.opR rfl (X.ZS h_3 rfl rfl rfl) rfl (X.q rfl (GS.zA ?_))
 cases hM
 exact GS.ret ⟨_, rfl, ⟨30, rfl⟩⟩
theorem zE5 {tick : Int} {c : zp} {r : Int} (hM : qn tick c = some r) : Ct Tryz.prog 137 [(V.i tick), (V.fptr [(zw c)] 0 0)] (V.i r) := by
 refine ze ZK rfl ?_
 unfold qn at hM
 refine X.sq (X.q rfl (GS.zA (GS.seq ?_)))
 obtain ⟨y, h_1, hM⟩ := zH hM
 refine GS.region (X.q rfl (X.q rfl ?_))
 refine X.call (zGb h_1) rfl rfl rfl (.cons (.shut (n := 9) rfl) (.cons (.shut (n := 9) rfl) .nil)) (X.q rfl (GS.zA ?_))
 cases hM
 exact GS.ret ⟨_, rfl, ⟨30, rfl⟩⟩
theorem Qg {tick : Int} {c : zX} {c1 : zX} {r : Int} (hM : JR tick c c1 = some r) : Ct Tryz.prog 113 [(V.i tick), (V.fptr [(ZB c)] 0 0), (V.fptr [(YA c1)] 0 0)] (V.i r) := by
 refine ze ZK rfl ?_
 unfold JR at hM
 refine X.sq (X.q rfl (X.nq (X.q rfl (X.q rfl (X.q rfl ?_)))))
 refine GS.zA (GS.seq (X.sq (X.q rfl (GS.zA ?_))))
 refine X.join (τ := Int) (fun v => yz v = some r) (fun v => ⟨[(5, (V.i v))], [], 0, none, 24⟩) ?_ ?_
 ·intro h hM
  replace hM : yz h = some r := hM
  unfold yz at hM
  refine X.sq (X.q rfl (X.q rfl ?_))
  refine GS.zA ?_
  cases hM
  exact GS.ret ⟨_, rfl, ⟨30, rfl⟩⟩
 intro hj_1
 refine GS.block ?_
 refine X.gc [] (X.loop (σ := (Int × Int)) (fun v => ⟨[(0, (V.i tick)), (1, (V.fptr [(ZB c)] 0 0)), (2, (V.fptr [(YA c1)] 0 0)), (5, (V.i v.1)), (6, (V.i v.2))], [], 0, none, 24⟩) hM ?_ rfl) rfl rfl rfl (ga rfl rfl) (zL)
 rintro ⟨h1, i⟩ b_1 hM hc_2 hr_1
 rw [y0] at hM
 refine GS.seq (X.sq (X.q rfl (X.q rfl (X.q rfl ?_))))
 refine X.opR rfl (X.lenF rfl rfl rfl) rfl (X.q rfl (GS.zA ?_))
 refine X.cond rfl (fun h_1 => ?_) (fun h_1 => ?_)
 ·replace hM := zZ h_1 hM
  refine GS.skip (GS.seq (GS.block (GS.region (X.q rfl (X.q rfl (X.q rfl ?_))))))
  refine X.split (decide (i = -1)) (fun h_2 => ?_) (fun h_2 => ?_)
  ·replace hM := zZ h_2 hM
   refine X.opR rfl (zHt h_2 rfl rfl) rfl ?_
   obtain ⟨y, h_4, hM⟩ := zH hM
   refine X.q rfl ?_
   refine X.call (zE6 h_4) rfl rfl rfl (.cons (.shut (n := 9) rfl) (.cons (.shut (n := 9) rfl) .nil)) ?_
   refine X.opR rfl (X.addE rfl rfl) rfl (X.q rfl (GS.zA ?_))
   refine GS.endB (GS.region (X.q rfl ?_))
   refine X.opR rfl (X.addE rfl rfl) rfl (X.q rfl (GS.zA ?_))
   have hE := Option.some.inj hM
   exact X.gc [] (hc_2 (w64 (h1 + y), w64 (i + 1)) hE.symm) rfl rfl rfl (ga rfl rfl) (zL)
  replace hM := za h_2 hM
  obtain ⟨c2, h_3, hM⟩ := zH hM
  refine X.opR rfl (zHu h_3 rfl rfl) rfl ?_
  obtain ⟨y1, h_5, hM⟩ := zH hM
  refine X.q rfl ?_
  refine X.call (zE5 h_5) rfl rfl rfl (.cons (.shut (n := 9) rfl) (.cons (.shut (n := 9) rfl) .nil)) ?_
  refine X.opR rfl (X.addE rfl rfl) rfl (X.q rfl (GS.zA ?_))
  refine GS.endB (GS.region (X.q rfl ?_))
  refine X.opR rfl (X.addE rfl rfl) rfl (X.q rfl (GS.zA ?_))
  have hE := Option.some.inj hM
  exact X.gc [] (hc_2 (w64 (h1 + y1), w64 (i + 1)) hE.symm) rfl rfl rfl (ga rfl rfl) (zL)
 replace hM := za h_1 hM
 refine GS.exit rfl ?_
 obtain ⟨y_1, hM, hy⟩ := ZN hM
 rw [hr_1 _ hy.symm] at hM
 exact X.gc [] (hj_1 h1 hM) rfl rfl rfl (ga rfl rfl) (zL)
theorem zFj {w : zX} {tick : Int} {r : Int × Int} (hM : zBh w tick = some r) : Ct Tryz.prog 42 [(ZB w), (V.i tick)] (V.tup [(V.i r.1), (V.i r.2)]) := by
 refine ze ZK rfl ?_
 unfold zBh at hM
 refine X.sq ?_
 refine X.opW rfl rfl rfl rfl (X.q rfl (X.q rfl ?_))
 refine GS.zA ?_
 iterate 2 refine GS.seq ?_
 obtain ⟨y, h_1, hM⟩ := zH hM
 refine GS.region (X.q rfl ?_)
 refine X.call (zAe h_1) rfl rfl rfl (.cons (.shut (n := 9) rfl) .nil) (X.q rfl (X.nq (X.q rfl (X.q rfl ?_))))
 refine GS.zA ?_
 refine X.cond rfl (fun h_2 => ?_) (fun h_2 => ?_)
 ·replace hM := zZ h_2 hM
  refine X.sq (X.q rfl (X.q rfl (X.q rfl ?_)))
  refine GS.zA ?_
  cases hM
  exact GS.ret ⟨_, rfl, ⟨30, rfl⟩⟩
 replace hM := za h_2 hM
 refine GS.skip (GS.seq (X.sq (X.q rfl ?_)))
 refine X.call (YI tick) rfl rfl rfl (.cons (.shut (n := 9) rfl) .nil) (X.q rfl (GS.zA ?_))
 refine X.cond rfl (fun h_3 => ?_) (fun h_3 => ?_)
 ·replace hM := zZ h_3 hM
  refine X.sq (X.q rfl (X.q rfl ?_))
  refine GS.zA ?_
  cases hM
  exact GS.ret ⟨_, rfl, ⟨30, rfl⟩⟩
 replace hM := za h_3 hM
 refine GS.skip (GS.seq ?_)
 obtain ⟨y1, h_4, hM⟩ := zH hM
 obtain ⟨y2, h_5, hM⟩ := zH hM
 refine GS.region (X.q rfl ?_)
 refine X.call (zBZ h_4) rfl rfl rfl (.cons (.shut (n := 9) rfl) .nil) (X.q rfl ?_)
 refine X.call (Qg h_5) rfl rfl rfl (.cons (.shut (n := 9) rfl) (.cons (.shut (n := 9) rfl) (.cons (.shut (n := 9) rfl) .nil))) (X.q rfl (X.q rfl ?_))
 refine GS.zA ?_
 cases hM
 exact GS.ret ⟨_, rfl, ⟨30, rfl⟩⟩
theorem zFk {h : zK} {id : Int} {tick : Int} {r : Int × Int} (hM : zAZ h id tick = some r) : Ct Tryz.prog 9 [(zG h), (V.i id), (V.i tick)] (V.tup [(V.i r.1), (V.i r.2)]) := by
 refine ze ZK rfl ?_
 unfold zAZ at hM
 refine X.sq ?_
 refine X.opW rfl rfl rfl rfl (X.q rfl (X.q rfl ?_))
 refine GS.zA ?_
 iterate 2 refine GS.seq ?_
 obtain ⟨y, h_1, hM⟩ := zH hM
 refine GS.region (X.q rfl ?_)
 refine X.call (YJ h_1) rfl rfl rfl (.cons (.shut (n := 9) rfl) .nil) (X.q rfl (X.nq (X.q rfl (X.q rfl ?_))))
 refine GS.zA ?_
 refine X.cond rfl (fun h_2 => ?_) (fun h_2 => ?_)
 ·replace hM := zZ h_2 hM
  refine X.sq (X.q rfl (X.q rfl (X.q rfl ?_)))
  refine GS.zA ?_
  cases hM
  exact GS.ret ⟨_, rfl, ⟨30, rfl⟩⟩
 replace hM := za h_2 hM
 refine GS.skip (GS.seq ?_)
 obtain ⟨y1, h_3, hM⟩ := zH hM
 refine GS.region (X.q rfl (X.q rfl (X.q rfl ?_)))
 refine X.call (Zf h_3) rfl rfl rfl (.cons (.shut (n := 9) rfl) (.cons (.shut (n := 9) rfl) (.cons (.shut (n := 9) rfl) .nil))) (X.q rfl (GS.zA (GS.seq (X.sq (X.q rfl (X.q rfl ?_))))))
 refine GS.zA ?_
 refine X.cond rfl (fun h_4 => ?_) (fun h_4 => ?_)
 ·replace hM := zZ h_4 hM
  refine X.sq (X.q rfl (X.q rfl ?_))
  refine GS.zA ?_
  cases hM
  exact GS.ret ⟨_, rfl, ⟨30, rfl⟩⟩
 replace hM := za h_4 hM
 refine GS.skip (GS.seq ?_)
 obtain ⟨y2, h_5, hM⟩ := zH hM
 refine GS.region (X.q rfl (X.q rfl (X.q rfl ?_)))
 refine X.call (zFj h_5) rfl rfl rfl (.cons (.shut (n := 9) rfl) (.cons (.shut (n := 9) rfl) .nil)) ?_
 iterate 5 refine X.q rfl ?_
 refine GS.zA (GS.seq (X.sq (X.q rfl (X.q rfl ?_))))
 refine GS.zA ?_
 refine X.cond rfl (fun h_6 => ?_) (fun h_6 => ?_)
 ·replace hM := zZ h_6 hM
  refine X.sq (X.q rfl (X.q rfl ?_))
  refine GS.zA ?_
  cases hM
  exact GS.ret ⟨_, rfl, ⟨30, rfl⟩⟩
 replace hM := za h_6 hM
 refine GS.skip (GS.seq ?_)
 obtain ⟨x, h_7, hM⟩ := zH hM
 refine GS.region (X.q rfl (X.q rfl (X.q rfl ?_)))
 refine X.opR rfl (X.ZC (f := zT) h_7 (fun _ => rfl) rfl rfl rfl rfl) rfl (X.q rfl ?_)
 refine X.opR rfl (X.ZS h_7 rfl rfl rfl) rfl (X.q rfl ?_)
 refine X.opR rfl (X.addE rfl rfl) rfl (X.q rfl (X.q rfl ?_))
 refine GS.zA ?_
 cases hM
 exact GS.ret ⟨_, rfl, ⟨30, rfl⟩⟩
theorem zBb (h : zK) (b : zj) (draught : Int) : Ct Tryz.prog 49 [(zG h), (zT b), (V.i draught)] (V.i (yQ h b draught)) := by
 refine ze ZK rfl ?_
 generalize hM : yQ h b draught = r
 unfold yQ at hM
 refine X.sq ?_
 iterate 2 refine X.opW rfl rfl rfl rfl ?_
 refine X.q rfl (X.nq (X.q rfl (X.q rfl (X.q rfl ?_))))
 refine X.opR rfl (X.addE rfl rfl) rfl (X.q rfl (X.q rfl ?_))
 refine X.opR rfl (X.subE rfl rfl) rfl (X.q rfl (GS.zA ?_))
 subst hM
 exact GS.ret ⟨_, rfl, ⟨30, rfl⟩⟩
theorem zE7 (s : zD) : Ct Tryz.prog 115 [(zI s)] (V.i (QY s)) := by
 refine ze ZK rfl ?_
 generalize hM : QY s = r
 unfold QY at hM
 refine X.sq ?_
 refine X.opW rfl rfl rfl rfl (X.q rfl (GS.zA (GS.seq (GS.block (X.sq ?_)))))
 refine X.mid [(1, (V.ptr 0 0 0)), (3, (V.b (((decide (s.Lo < 0)) || (decide (s.Hi < s.Lo))) || (decide (1048576 < s.Hi)))))] ?_ ?_
 ·intro hg
  refine X.split (decide (s.Lo < 0)) (fun h_1 => ?_) (fun h_1 => ?_)
  ·iterate 4 refine X.q rfl ?_
   iterate 5 refine X.off (X.ZL rfl rfl rfl h_1) rfl ?_
   refine X.opR rfl (X.zd (y := decide (s.Hi < s.Lo)) rfl h_1 rfl) rfl (X.q rfl ?_)
   iterate 3 refine X.off (X.ZL rfl rfl rfl (X.zU h_1)) rfl ?_
   refine X.opR rfl (X.zd (y := decide (1048576 < s.Hi)) rfl (X.zU h_1) rfl) rfl (X.q rfl (GS.zA ?_))
   exact X.norm _ hg rfl (sr rfl)
  refine X.split (((decide (s.Lo < 0)) || (decide (s.Hi < s.Lo)))) (fun h_2 => ?_) (fun h_2 => ?_)
  ·iterate 4 refine X.q rfl ?_
   iterate 5 refine X.opR (X.on_f rfl rfl rfl h_1) rfl rfl ?_
   refine X.opR rfl (X.zb (y := decide (s.Hi < s.Lo)) rfl h_1 rfl) rfl (X.q rfl ?_)
   iterate 3 refine X.off (X.ZL rfl rfl rfl h_2) rfl ?_
   refine X.opR rfl (X.zd (y := decide (1048576 < s.Hi)) rfl h_2 rfl) rfl (X.q rfl (GS.zA ?_))
   exact X.norm _ hg rfl (sr rfl)
  iterate 4 refine X.q rfl ?_
  iterate 5 refine X.opR (X.on_f rfl rfl rfl h_1) rfl rfl ?_
  refine X.opR rfl (X.zb (y := decide (s.Hi < s.Lo)) rfl h_1 rfl) rfl (X.q rfl ?_)
  iterate 3 refine X.opR (X.on_f rfl rfl rfl h_2) rfl rfl ?_
  refine X.opR rfl (X.zb (y := decide (1048576 < s.Hi)) rfl h_2 rfl) rfl (X.q rfl (GS.zA ?_))
  exact X.norm _ hg rfl (sr rfl)
 refine X.cond rfl (fun h_3 => ?_) (fun h_3 => ?_)
 ·replace hM := zZ h_3 hM
  refine X.sq (X.q rfl (GS.zA ?_))
  subst hM
  exact GS.ret ⟨_, rfl, ⟨30, rfl⟩⟩
 replace hM := za h_3 hM
 refine X.sq ?_
 iterate 4 refine X.q rfl ?_
 refine X.opR rfl (X.subE rfl rfl) rfl (X.q rfl (X.q rfl ?_))
 refine GS.zA ?_
 refine X.cond rfl (fun h_4 => ?_) (fun h_4 => ?_)
 ·replace hM := zZ h_4 hM
  refine X.sq (X.q rfl (GS.zA ?_))
  subst hM
  exact GS.ret ⟨_, rfl, ⟨30, rfl⟩⟩
 replace hM := za h_4 hM
 refine GS.skip ?_
 refine GS.endB (X.sq (X.q rfl (GS.zA ?_)))
 subst hM
 exact GS.ret ⟨_, rfl, ⟨30, rfl⟩⟩
theorem zGe {w : zX} {s : zD} {r : Int} (hM : zAC w s = some r) : Ct Tryz.prog 86 [(ZB w), (zI s)] (V.i r) := by
 refine ze ZK rfl ?_
 unfold zAC at hM
 refine X.sq ?_
 iterate 2 refine X.opW rfl rfl rfl rfl ?_
 refine X.q rfl (GS.zA ?_)
 iterate 2 refine GS.seq ?_
 obtain ⟨y, h_1, hM⟩ := zH hM
 refine GS.region (X.q rfl ?_)
 refine X.call (zAe h_1) rfl rfl rfl (.cons (.shut (n := 9) rfl) .nil) (X.q rfl (X.nq (X.q rfl (X.q rfl ?_))))
 refine GS.zA ?_
 refine X.cond rfl (fun h_2 => ?_) (fun h_2 => ?_)
 ·replace hM := zZ h_2 hM
  refine X.sq (X.q rfl (X.q rfl ?_))
  refine GS.zA ?_
  cases hM
  exact GS.ret ⟨_, rfl, ⟨30, rfl⟩⟩
 replace hM := za h_2 hM
 refine GS.skip (X.sq (X.q rfl ?_))
 refine X.call (zE7 s) rfl rfl rfl (.cons (.shut (n := 9) rfl) .nil) (X.q rfl (GS.zA ?_))
 cases hM
 exact GS.ret ⟨_, rfl, ⟨30, rfl⟩⟩
theorem zFi (w : zX) (s : zD) : Ct Tryz.prog 87 [(ZB w), (zI s)] (V.fn 116 [(V.fptr [(ZB ((ZJ w s).1))] 0 0), (V.fptr [(zI ((ZJ w s).2))] 0 0)]) := by
 refine ze ZK rfl ?_
 generalize hM : ZJ w s = r
 unfold ZJ at hM
 refine X.sq ?_
 iterate 2 refine X.opW rfl rfl rfl rfl ?_
 refine X.q rfl (X.nq (X.q rfl (X.q rfl ?_)))
 refine GS.zA ?_
 subst hM
 exact GS.ret ⟨_, rfl, ⟨30, rfl⟩⟩
set_option maxHeartbeats 4000000 in
theorem zBa {w : zX} {s : zD} {height : Int} {r : (List zD) × Int} (hM : YW w s height = some r) : Ct Tryz.prog 48 [(ZB w), (zI s), (V.i height)] (V.tup [(V.sl (List.map zI r.1)), (V.i r.2)]) := by
 refine ze ZK rfl ?_
 unfold YW at hM
 refine X.sq ?_
 iterate 3 refine X.opW rfl rfl rfl rfl ?_
 refine X.q rfl (X.q rfl ?_)
 refine GS.zA ?_
 iterate 2 refine GS.seq ?_
 obtain ⟨y, h_1, hM⟩ := zH hM
 refine GS.region (X.q rfl (X.q rfl ?_))
 refine X.call (zGe h_1) rfl rfl rfl (.cons (.shut (n := 9) rfl) (.cons (.shut (n := 9) rfl) .nil)) (X.q rfl (X.nq (X.q rfl (X.q rfl ?_))))
 refine GS.zA ?_
 refine X.cond rfl (fun h_2 => ?_) (fun h_2 => ?_)
 ·replace hM := zZ h_2 hM
  refine X.sq (X.q rfl (X.q rfl (X.q rfl ?_)))
  refine GS.zA ?_
  cases hM
  exact GS.ret ⟨_, rfl, ⟨30, rfl⟩⟩
 replace hM := za h_2 hM
 refine GS.skip (X.sq ?_)
 refine X.opW (H' := [.rows 3 [(ZB w)], .rows 2 [(zI s)], .rows 1 [(V.i height)], .rows 1 [V.nil]]) rfl rfl rfl rfl (GS.zA (GS.seq (X.sq (X.q rfl (X.q rfl ?_)))))
 refine X.call (zFi w s) rfl rfl rfl (.cons (.shut (n := 9) rfl) (.cons (.shut (n := 9) rfl) .nil)) (GS.zA (GS.block ?_))
 refine X.gc [some 2, some 3] (H' := [.rows 1 [(V.i height)], .rows 1 [V.nil]]) (K' := [(5, (V.ptr 0 0 0)), (9, (V.ptr 1 0 0)), (20, (V.fn 116 [(V.fptr [(ZB ((ZJ w s).1))] 0 0), (V.fptr [(zI ((ZJ w s).2))] 0 0)]))]) ?_ rfl rfl rfl (ga rfl rfl) (gb9 rfl rfl rfl (gb9 rfl rfl rfl zL))
 refine X.range rfl rfl (jb ⟨9, rfl⟩ (jb ⟨9, rfl⟩ (jb ⟨9, rfl⟩ zDd))) rfl ?_
 intro R_3 hrn_3 hrK_3 hrp_3 hra_3 hrb_3 hlow_3
 refine GS.seq ?_
 obtain ⟨y1, h_4, hM⟩ := zH hM
 refine GS.region (X.q rfl ?_)
 refine X.call (zBZ h_4) rfl rfl rfl (.cons (.shut (n := 9) rfl) .nil) (X.q rfl (GS.zA (GS.seq ?_)))
 obtain ⟨y2, h_5, hM⟩ := zH hM
 refine X.draw (by kernel_rfl) ?_
 iterate 8 refine X.dop rfl rfl rfl rfl (by kernel_rfl) rfl rfl ?_
 refine X.dcall (Qg h_5) rfl rfl rfl (by kernel_rfl) rfl (.cons (.shut (n := 9) rfl) (.cons (.shut (n := 9) rfl) (.cons (.shut (n := 9) rfl) .nil))) ?_
 iterate 2 refine X.dop rfl rfl rfl rfl (by kernel_rfl) rfl rfl ?_
 refine X.dop0 rfl rfl rfl rfl (by kernel_rfl) rfl ?_
 refine X.dnil ?_
 refine X.norm [(0, (V.yld 2)), (2, (V.fptr [(zI ((ZJ w s).2))] 0 0)), (4, (V.fn 113 [(V.fptr [(ZB y1.1)] 0 0), (V.fptr [(YA y1.2)] 0 0)])), (5, (V.ptr 3 0 0))] ?_ rfl (sr rfl)
 refine GS.seq (X.sq (X.q rfl (X.q rfl ?_)))
 refine X.opR rfl (X.addE rfl rfl) rfl (X.q rfl (GS.zA ?_))
 refine X.join (τ := Int × Int × Int × (List zD)) (fun v => yX height v.1 v.2.1 v.2.2.1 v.2.2.2 = some r) (fun v => ⟨[(0, (V.yld 2)), (5, (V.ptr 3 0 0))], [.rows 1 [(V.i height)], .rows 1 [(ovl 4 v.2.2.2)], lr R_3 .ready none, .rows 3 [(V.agg [(V.i v.1), (V.i v.2.1), (V.i v.2.2.1)])], obl 2 zI v.2.2.2], 0, none, 51⟩) ?_ ?_
 ·rintro ⟨Lo, Hi, Height, l⟩ hM
  replace hM : yX height Lo Hi Height l = some r := hM
  unfold yX at hM
  refine GS.region (X.q rfl (X.q rfl ?_))
  refine X.yld hrn_3 hrK_3 hrp_3 hra_3 hrb_3 rfl rfl rfl rfl rfl rfl (GS.region ?_)
  refine X.opW (H' := [.rows 1 [(V.i height)], .rows 1 [(ovl 4 l)], lr R_3 .ready none, .rows 3 [(V.agg [(V.i Lo), (V.i Hi), (V.i Height)])], obl 2 zI l, .rows 3 [(V.agg [(V.i 0), (V.i 0), (V.i 0)])]]) rfl rfl rfl rfl ?_
  refine X.op0W (H' := [.rows 1 [(V.i height)], .rows 1 [(ovl 4 l)], lr R_3 .ready none, .rows 3 [(V.agg [(V.i Lo), (V.i Hi), (V.i Height)])], obl 2 zI l, .rows 3 [(V.agg [(V.i Lo), (V.i Hi), (V.i Height)])]]) rfl rfl rfl (GS.zA ?_)
  refine GS.nil (X.begin' rfl rfl ?_ rfl)
  refine GS.block (GS.seq (X.sq ?_))
  iterate 4 refine X.q rfl ?_
  refine GS.zA ?_
  refine X.cond rfl (fun h_6 => ?_) (fun h_6 => ?_)
  ·replace hM := zZ h_6 hM
   refine GS.exit rfl ?_
   refine GS.nil ⟨_, rfl, ?_⟩
   refine X.norm (H' := [.rows 1 [(V.i height)], .rows 1 [(ovl 4 l)], lr R_3 .ready none, .rows 3 [(V.agg [(V.i Lo), (V.i Hi), (V.i Height)])], obl 2 zI l, .rows 3 [(V.agg [(V.i Lo), (V.i Hi), (V.i Height)])]]) [(50, (V.b true))] ?_ rfl (sr rfl)
   refine GS.zA ?_
   refine GS.nil ⟨_, _, rfl, rfl, ?_⟩
   refine X.norm (H' := [.rows 1 [(V.i height)], .rows 1 [(ovl 4 l)], .dead, .rows 3 [(V.agg [(V.i Lo), (V.i Hi), (V.i Height)])], obl 2 zI l, .rows 3 [(V.agg [(V.i Lo), (V.i Hi), (V.i Height)])]]) [(5, (V.ptr 0 0 0)), (9, (V.ptr 1 0 0)), (20, (V.fn 116 [(V.fptr [(ZB ((ZJ w s).1))] 0 0), (V.fptr [(zI ((ZJ w s).2))] 0 0)]))] ?_ rfl (sr rfl)
   refine GS.endB (X.sq ?_)
   refine X.opR rfl (v := (ovl 4 l)) (by rcases X.YG (z := true) 4 l with h0 | ⟨n0, h0⟩ <;> simp only [h0] <;> rfl) rfl (X.q rfl (X.q rfl ?_))
   refine GS.zA ?_
   have hE := Option.some.inj hM
   subst hE
   exact GS.ret ⟨_, rfl, FR.tup (.cons (FR.ovl (f := zI) (l := l) 9 rfl rfl (fun _ => rfl)) (.cons ⟨30, rfl⟩ .nil))⟩
  replace hM := za h_6 hM
  refine GS.skip (X.sq ?_)
  refine X.opR rfl (v := (ovl 4 l)) (by rcases X.YG (z := true) 4 l with h0 | ⟨n0, h0⟩ <;> simp only [h0] <;> rfl) rfl ?_
  refine X.opR rfl (X.lenN (l := l) rfl rfl rfl) rfl (X.q rfl (GS.zA (GS.seq ?_)))
  obtain ⟨x, h_7, hM⟩ := zCA hM
  refine X.mid [(9, (V.ptr 1 0 0)), (10, (V.ptr 5 0 0)), (11, (V.i (l.length : Int))), (42, (V.b ((decide (0 < (l.length : Int))) && (decide ((w64 (x.Hi + 1)) = Lo)))))] ?_ ?_
  ·intro hg
   refine X.split (decide (0 < (l.length : Int))) (fun h_8 => ?_) (fun h_8 => ?_)
   ·refine X.drawc (by kernel_rfl) rfl ?_
    iterate 3 refine X.cop rfl rfl rfl rfl ?_
    refine X.cop (X.on_t rfl rfl rfl h_8) (v := (ovl 4 l)) (by rcases X.YG (z := true) 4 l with h0 | ⟨n0, h0⟩ <;> simp only [h0] <;> rfl) rfl rfl ?_
    refine X.cop (X.on_t rfl rfl rfl h_8) rfl rfl rfl ?_
    refine X.cop (X.on_t rfl rfl rfl h_8) (X.subE rfl rfl) rfl rfl ?_
    refine X.cop (X.on_t rfl rfl rfl h_8) (X.zBL (h_7 h_8) rfl rfl rfl rfl rfl) rfl rfl ?_
    refine X.cop (X.on_t rfl rfl rfl h_8) rfl rfl rfl ?_
    refine X.cop (X.on_t rfl rfl rfl h_8) (X.zF2 (h_7 h_8) rfl rfl rfl rfl) rfl rfl ?_
    refine X.cop (X.on_t rfl rfl rfl h_8) (X.addE rfl rfl) rfl rfl ?_
    iterate 4 refine X.cop (X.on_t rfl rfl rfl h_8) rfl rfl rfl ?_
    refine X.cop rfl (X.zW (y := decide ((w64 (x.Hi + 1)) = Lo)) rfl h_8 rfl) rfl rfl ?_
    refine X.cnil ?_
    exact X.norm _ hg rfl (sr rfl)
   refine X.drawc (by kernel_rfl) rfl ?_
   iterate 3 refine X.cop rfl rfl rfl rfl ?_
   iterate 11 refine X.coff (X.zn rfl rfl rfl h_8) rfl rfl ?_
   refine X.cop rfl (X.zQ (y := decide ((w64 (x.Hi + 1)) = Lo)) rfl h_8 rfl) rfl rfl ?_
   refine X.cnil ?_
   exact X.norm _ hg rfl (sr rfl)
  refine X.cond rfl (fun h_9 => ?_) (fun h_9 => ?_)
  ·replace hM := zZ h_9 hM
   obtain ⟨x1, h_10, hM⟩ := zH hM
   refine GS.region ?_
   refine X.opR rfl (v := (ovl 4 l)) (by rcases X.YG (z := true) 4 l with h0 | ⟨n0, h0⟩ <;> simp only [h0] <;> rfl) rfl (X.q rfl ?_)
   refine X.opR rfl (X.subE rfl rfl) rfl (X.q rfl (X.q rfl (X.q rfl ?_)))
   refine X.opR rfl (X.zBL h_10 rfl rfl rfl rfl rfl) rfl (X.q rfl ?_)
   refine X.op0W (H' := [.rows 1 [(V.i height)], .rows 1 [(ovl 4 l)], lr R_3 .busy none, .rows 3 [(V.agg [(V.i Lo), (V.i Hi), (V.i Height)])], obl 2 zI (put l (w64 ((l.length : Int) - 1)) (⟨x1.Lo, Hi⟩ : zD)), .rows 3 [(V.agg [(V.i Lo), (V.i Hi), (V.i Height)])]]) rfl (X.zAc (b := (⟨x1.Lo, Hi⟩ : zD)) h_10 rfl rfl rfl rfl rfl rfl rfl) rfl (GS.zA ?_)
   refine GS.endB ?_
   refine GS.nil ⟨_, rfl, ?_⟩
   refine X.norm (H' := [.rows 1 [(V.i height)], .rows 1 [(ovl 4 l)], lr R_3 .ready none, .rows 3 [(V.agg [(V.i Lo), (V.i Hi), (V.i Height)])], obl 2 zI (put l (w64 ((l.length : Int) - 1)) (⟨x1.Lo, Hi⟩ : zD)), .rows 3 [(V.agg [(V.i Lo), (V.i Hi), (V.i Height)])]]) [(50, (V.b true))] ?_ rfl (sr rfl)
   refine GS.zA ?_
   refine GS.nil ⟨_, _, rfl, rfl, ?_⟩
   refine X.norm (H' := [.rows 1 [(V.i height)], .rows 1 [(ovl 4 l)], .dead, .rows 3 [(V.agg [(V.i Lo), (V.i Hi), (V.i Height)])], obl 2 zI (put l (w64 ((l.length : Int) - 1)) (⟨x1.Lo, Hi⟩ : zD)), .rows 3 [(V.agg [(V.i Lo), (V.i Hi), (V.i Height)])]]) [(5, (V.ptr 0 0 0)), (9, (V.ptr 1 0 0)), (20, (V.fn 116 [(V.fptr [(ZB ((ZJ w s).1))] 0 0), (V.fptr [(zI ((ZJ w s).2))] 0 0)]))] ?_ rfl (sr rfl)
   refine GS.endB (X.sq ?_)
   refine X.opR rfl (v := (ovl 4 l)) (by rcases X.YG (z := true) 4 l with h0 | ⟨n0, h0⟩ <;> simp only [h0] <;> rfl) rfl (X.q rfl (X.q rfl ?_))
   refine GS.zA ?_
   have hE := Option.some.inj hM
   subst hE
   exact GS.ret ⟨_, rfl, FR.tup (.cons (FR.eq X.zDU (FR.ovl (f := zI) (l := (put l (w64 ((l.length : Int) - 1)) (⟨x1.Lo, Hi⟩ : zD))) 9 rfl rfl (fun _ => rfl))) (.cons ⟨30, rfl⟩ .nil))⟩
  replace hM := za h_9 hM
  obtain ⟨l1, h_11, hM⟩ := zH hM
  refine GS.region ?_
  refine X.opR rfl (v := (ovl 4 l)) (by rcases X.YG (z := true) 4 l with h0 | ⟨n0, h0⟩ <;> simp only [h0] <;> rfl) rfl (X.q rfl (X.q rfl ?_))
  refine X.opW (H' := [.rows 1 [(V.i height)], .rows 1 [(ovl 4 l)], lr R_3 .busy none, .rows 3 [(V.agg [(V.i Lo), (V.i Hi), (V.i Height)])], obl 2 zI l, .rows 3 [(V.agg [(V.i Lo), (V.i Hi), (V.i Height)])], .rows 2 (List.map zI ([(⟨Lo, Hi⟩ : zD)]))]) rfl rfl rfl rfl ?_
  refine X.appN (f := zI) h_11 (fun _ => rfl) (by rfl) (by rfl) (by rfl) (by rfl) (by rfl) (by rfl) (by rfl) (by rfl) (by rfl) (by rfl) (by rfl) (by exact rfl) (by rfl) (by rfl) ?_
  refine X.op0W (H' := [.rows 1 [(V.i height)], .rows 1 [(V.osl 7 0 (List.length l1))], lr R_3 .busy none, .rows 3 [(V.agg [(V.i Lo), (V.i Hi), (V.i Height)])], .dead, .rows 3 [(V.agg [(V.i Lo), (V.i Hi), (V.i Height)])], .rows 2 (List.map zI ([(⟨Lo, Hi⟩ : zD)])), .rows 2 (List.map zI l1)]) rfl (v := jI) (wr := [(1, .rows 1 [(V.osl 7 0 (List.length l1))])]) (by rcases X.YG (z := true) 4 l with h0 | ⟨n0, h0⟩ <;> simp only [h0] <;> rfl) rfl (GS.zA ?_)
  refine GS.endB ?_
  refine GS.nil ⟨_, rfl, ?_⟩
  refine X.norm (H' := [.rows 1 [(V.i height)], .rows 1 [(V.osl 7 0 (List.length l1))], lr R_3 .ready none, .rows 3 [(V.agg [(V.i Lo), (V.i Hi), (V.i Height)])], .dead, .rows 3 [(V.agg [(V.i Lo), (V.i Hi), (V.i Height)])], .rows 2 (List.map zI ([(⟨Lo, Hi⟩ : zD)])), .rows 2 (List.map zI l1)]) [(50, (V.b true))] ?_ rfl (sr rfl)
  refine GS.zA ?_
  refine GS.nil ⟨_, _, rfl, rfl, ?_⟩
  refine X.norm (H' := [.rows 1 [(V.i height)], .rows 1 [(V.osl 7 0 (List.length l1))], .dead, .rows 3 [(V.agg [(V.i Lo), (V.i Hi), (V.i Height)])], .dead, .rows 3 [(V.agg [(V.i Lo), (V.i Hi), (V.i Height)])], .rows 2 (List.map zI ([(⟨Lo, Hi⟩ : zD)])), .rows 2 (List.map zI l1)]) [(5, (V.ptr 0 0 0)), (9, (V.ptr 1 0 0)), (20, (V.fn 116 [(V.fptr [(ZB ((ZJ w s).1))] 0 0), (V.fptr [(zI ((ZJ w s).2))] 0 0)]))] ?_ rfl (sr rfl)
  refine GS.endB (X.sq (X.q rfl (X.q rfl (X.q rfl ?_))))
  refine GS.zA ?_
  have hE := Option.some.inj hM
  subst hE
  exact GS.ret ⟨_, rfl, FR.tup (.cons (FR.osl (f := zI) (l := l1) 9 rfl rfl (fun _ => rfl)) (.cons ⟨30, rfl⟩ .nil))⟩
 intro hj_1
 refine GS.block ?_
 refine X.gc [some 3, none] (X.loop (σ := (Int × Int × Int × Int × (List zD))) (fun v => ⟨[(0, (V.yld 2)), (2, (V.fptr [(zI ((ZJ w s).2))] 0 0)), (4, (V.fn 113 [(V.fptr [(ZB y1.1)] 0 0), (V.fptr [(YA y1.2)] 0 0)])), (5, (V.ptr 3 0 0)), (6, (V.i v.1))], [.rows 1 [(V.i height)], .rows 1 [(ovl 4 v.2.2.2.2)], lr R_3 .ready none, .rows 3 [(V.agg [(V.i v.2.1), (V.i v.2.2.1), (V.i v.2.2.2.1)])], obl 2 zI v.2.2.2.2], 0, none, 51⟩) hM ?_ rfl) rfl rfl rfl (ga rfl rfl) (gb9 rfl rfl rfl (gb9 rfl rfl rfl (jW hlow_3 rfl rfl rfl (gb9 rfl rfl rfl (gb_pad' rfl zL)))))
 rintro ⟨t, Lo2, Hi1, Height2, l5⟩ b_1 hM hc_2 hr_1
 rw [Y9] at hM
 refine GS.seq (X.sq ?_)
 iterate 4 refine X.q rfl ?_
 refine GS.zA ?_
 refine X.cond rfl (fun h_12 => ?_) (fun h_12 => ?_)
 ·replace hM := zZ h_12 hM
  refine GS.skip (GS.seq ?_)
  refine X.join (τ := Int × Int × (List zD)) (fun v => Z3 t v.1 v.2.1 v.2.2 = some b_1) (fun v => ⟨[(0, (V.yld 2)), (2, (V.fptr [(zI ((ZJ w s).2))] 0 0)), (4, (V.fn 113 [(V.fptr [(ZB y1.1)] 0 0), (V.fptr [(YA y1.2)] 0 0)])), (5, (V.ptr 3 0 0)), (6, (V.i t))], [.rows 1 [(V.i height)], .rows 1 [(ovl 4 v.2.2)], lr R_3 .ready none, .rows 3 [(V.agg [(V.i v.1), (V.i t), (V.i v.2.1)])], obl 2 zI v.2.2], 0, none, 51⟩) ?_ ?_
  ·rintro ⟨Lo1, Height1, l2⟩ hM
   replace hM : Z3 t Lo1 Height1 l2 = some b_1 := hM
   unfold Z3 at hM
   refine GS.region (X.q rfl ?_)
   refine X.opR rfl (X.addE rfl rfl) rfl (X.q rfl (GS.zA ?_))
   have hE := Option.some.inj hM
   exact X.gc [some 3, some 4] (hc_2 (w64 (t + 1), Lo1, t, Height1, l2) hE.symm) rfl rfl rfl (ga rfl rfl) (gb9 rfl rfl rfl (Zs rfl rfl (zi rfl) (jW hlow_3 rfl rfl rfl (gb9 rfl rfl rfl (zk 9 rfl rfl (fun _ => rfl) zL)))))
  intro hj_3
  refine GS.block (GS.seq ?_)
  obtain ⟨y3, h_13, hM⟩ := zH hM
  refine GS.region (X.q rfl (X.q rfl ?_))
  refine X.call (Qg h_13) rfl rfl rfl (.cons (.shut (n := 9) rfl) (.cons (.shut (n := 9) rfl) (.cons (.shut (n := 9) rfl) .nil))) (X.q rfl (GS.zA (GS.seq (X.sq ?_))))
  iterate 4 refine X.q rfl ?_
  refine GS.zA ?_
  refine X.cond rfl (fun h_14 => ?_) (fun h_14 => ?_)
  ·replace hM := zZ h_14 hM
   refine X.sq (X.q rfl (X.q rfl (X.q rfl ?_)))
   refine X.op0W (H' := [.rows 1 [(V.i height)], .rows 1 [(ovl 4 l5)], lr R_3 .ready none, .rows 3 [(V.agg [(V.i Lo2), (V.i t), (V.i Height2)])], obl 2 zI l5]) rfl rfl rfl (GS.zA ?_)
   refine GS.exit rfl ?_
   exact X.gc [some 3, some 4] (hj_3 (Lo2, Height2, l5) hM) rfl rfl rfl (ga rfl rfl) (gb9 rfl rfl rfl (Zs rfl rfl (zi rfl) (jW hlow_3 rfl rfl rfl (gb9 rfl rfl rfl (zk 9 rfl rfl (fun _ => rfl) zL)))))
  replace hM := za h_14 hM
  refine GS.skip (GS.seq (X.sq (X.q rfl (X.q rfl ?_))))
  refine X.yld hrn_3 hrK_3 hrp_3 hra_3 hrb_3 rfl rfl rfl rfl rfl rfl (GS.region ?_)
  refine X.opW (H' := [.rows 1 [(V.i height)], .rows 1 [(ovl 4 l5)], lr R_3 .ready none, .rows 3 [(V.agg [(V.i Lo2), (V.i Hi1), (V.i Height2)])], obl 2 zI l5, .rows 3 [(V.agg [(V.i 0), (V.i 0), (V.i 0)])]]) rfl rfl rfl rfl ?_
  refine X.op0W (H' := [.rows 1 [(V.i height)], .rows 1 [(ovl 4 l5)], lr R_3 .ready none, .rows 3 [(V.agg [(V.i Lo2), (V.i Hi1), (V.i Height2)])], obl 2 zI l5, .rows 3 [(V.agg [(V.i Lo2), (V.i Hi1), (V.i Height2)])]]) rfl rfl rfl (GS.zA ?_)
  refine GS.nil (X.begin' rfl rfl ?_ rfl)
  refine GS.block (GS.seq (X.sq ?_))
  iterate 4 refine X.q rfl ?_
  refine GS.zA ?_
  refine X.cond rfl (fun h_15 => ?_) (fun h_15 => ?_)
  ·replace hM := zZ h_15 hM
   refine GS.exit rfl ?_
   refine GS.nil ⟨_, rfl, ?_⟩
   refine X.norm (H' := [.rows 1 [(V.i height)], .rows 1 [(ovl 4 l5)], lr R_3 .ready none, .rows 3 [(V.agg [(V.i Lo2), (V.i Hi1), (V.i Height2)])], obl 2 zI l5, .rows 3 [(V.agg [(V.i Lo2), (V.i Hi1), (V.i Height2)])]]) [(0, (V.yld 2)), (2, (V.fptr [(zI ((ZJ w s).2))] 0 0)), (4, (V.fn 113 [(V.fptr [(ZB y1.1)] 0 0), (V.fptr [(YA y1.2)] 0 0)])), (5, (V.ptr 3 0 0)), (6, (V.i t)), (7, (V.i y3)), (41, (V.b true))] ?_ rfl (sr rfl)
   refine X.q rfl (GS.zA ?_)
   refine GS.ql rfl (GS.skip (GS.region ?_))
   iterate 5 refine X.q rfl ?_
   refine X.op0W (H' := [.rows 1 [(V.i height)], .rows 1 [(ovl 4 l5)], lr R_3 .ready none, .rows 3 [(V.agg [(V.i t), (V.i t), (V.i y3)])], obl 2 zI l5, .rows 3 [(V.agg [(V.i Lo2), (V.i Hi1), (V.i Height2)])]]) rfl rfl rfl (GS.zA ?_)
   refine GS.endB ?_
   exact X.gc [some 3, some 4] (hj_3 (t, y3, l5) hM) rfl rfl rfl (ga rfl rfl) (gb9 rfl rfl rfl (Zs rfl rfl (zi rfl) (jW hlow_3 rfl rfl rfl (gb9 rfl rfl rfl (zk 9 rfl rfl (fun _ => rfl) zL)))))
  replace hM := za h_15 hM
  refine GS.skip (X.sq ?_)
  refine X.opR rfl (v := (ovl 4 l5)) (by rcases X.YG (z := true) 4 l5 with h0 | ⟨n0, h0⟩ <;> simp only [h0] <;> rfl) rfl ?_
  refine X.opR rfl (X.lenN (l := l5) rfl rfl rfl) rfl (X.q rfl (GS.zA (GS.seq ?_)))
  obtain ⟨x2, h_16, hM⟩ := zCA hM
  refine X.mid [(9, (V.ptr 1 0 0)), (10, (V.ptr 5 0 0)), (11, (V.i (l5.length : Int))), (42, (V.b ((decide (0 < (l5.length : Int))) && (decide ((w64 (x2.Hi + 1)) = Lo2)))))] ?_ ?_
  ·intro hg
   refine X.split (decide (0 < (l5.length : Int))) (fun h_17 => ?_) (fun h_17 => ?_)
   ·refine X.drawc (by kernel_rfl) rfl ?_
    iterate 3 refine X.cop rfl rfl rfl rfl ?_
    refine X.cop (X.on_t rfl rfl rfl h_17) (v := (ovl 4 l5)) (by rcases X.YG (z := true) 4 l5 with h0 | ⟨n0, h0⟩ <;> simp only [h0] <;> rfl) rfl rfl ?_
    refine X.cop (X.on_t rfl rfl rfl h_17) rfl rfl rfl ?_
    refine X.cop (X.on_t rfl rfl rfl h_17) (X.subE rfl rfl) rfl rfl ?_
    refine X.cop (X.on_t rfl rfl rfl h_17) (X.zBL (h_16 h_17) rfl rfl rfl rfl rfl) rfl rfl ?_
    refine X.cop (X.on_t rfl rfl rfl h_17) rfl rfl rfl ?_
    refine X.cop (X.on_t rfl rfl rfl h_17) (X.zF2 (h_16 h_17) rfl rfl rfl rfl) rfl rfl ?_
    refine X.cop (X.on_t rfl rfl rfl h_17) (X.addE rfl rfl) rfl rfl ?_
    iterate 4 refine X.cop (X.on_t rfl rfl rfl h_17) rfl rfl rfl ?_
    refine X.cop rfl (X.zW (y := decide ((w64 (x2.Hi + 1)) = Lo2)) rfl h_17 rfl) rfl rfl ?_
    refine X.cnil ?_
    exact X.norm _ hg rfl (sr rfl)
   refine X.drawc (by kernel_rfl) rfl ?_
   iterate 3 refine X.cop rfl rfl rfl rfl ?_
   iterate 11 refine X.coff (X.zn rfl rfl rfl h_17) rfl rfl ?_
   refine X.cop rfl (X.zQ (y := decide ((w64 (x2.Hi + 1)) = Lo2)) rfl h_17 rfl) rfl rfl ?_
   refine X.cnil ?_
   exact X.norm _ hg rfl (sr rfl)
  refine X.cond rfl (fun h_18 => ?_) (fun h_18 => ?_)
  ·replace hM := zZ h_18 hM
   obtain ⟨x3, h_19, hM⟩ := zH hM
   refine GS.region ?_
   refine X.opR rfl (v := (ovl 4 l5)) (by rcases X.YG (z := true) 4 l5 with h0 | ⟨n0, h0⟩ <;> simp only [h0] <;> rfl) rfl (X.q rfl ?_)
   refine X.opR rfl (X.subE rfl rfl) rfl (X.q rfl (X.q rfl (X.q rfl ?_)))
   refine X.opR rfl (X.zBL h_19 rfl rfl rfl rfl rfl) rfl (X.q rfl ?_)
   refine X.op0W (H' := [.rows 1 [(V.i height)], .rows 1 [(ovl 4 l5)], lr R_3 .busy none, .rows 3 [(V.agg [(V.i Lo2), (V.i Hi1), (V.i Height2)])], obl 2 zI (put l5 (w64 ((l5.length : Int) - 1)) (⟨x3.Lo, Hi1⟩ : zD)), .rows 3 [(V.agg [(V.i Lo2), (V.i Hi1), (V.i Height2)])]]) rfl (X.zAc (b := (⟨x3.Lo, Hi1⟩ : zD)) h_19 rfl rfl rfl rfl rfl rfl rfl) rfl (GS.zA ?_)
   refine GS.endB ?_
   refine GS.nil ⟨_, rfl, ?_⟩
   refine X.norm (H' := [.rows 1 [(V.i height)], .rows 1 [(ovl 4 l5)], lr R_3 .ready none, .rows 3 [(V.agg [(V.i Lo2), (V.i Hi1), (V.i Height2)])], obl 2 zI (put l5 (w64 ((l5.length : Int) - 1)) (⟨x3.Lo, Hi1⟩ : zD)), .rows 3 [(V.agg [(V.i Lo2), (V.i Hi1), (V.i Height2)])]]) [(0, (V.yld 2)), (2, (V.fptr [(zI ((ZJ w s).2))] 0 0)), (4, (V.fn 113 [(V.fptr [(ZB y1.1)] 0 0), (V.fptr [(YA y1.2)] 0 0)])), (5, (V.ptr 3 0 0)), (6, (V.i t)), (7, (V.i y3)), (41, (V.b true))] ?_ rfl (sr rfl)
   refine X.q rfl (GS.zA ?_)
   refine GS.ql rfl (GS.skip (GS.region ?_))
   iterate 5 refine X.q rfl ?_
   refine X.op0W (H' := [.rows 1 [(V.i height)], .rows 1 [(ovl 4 l5)], lr R_3 .ready none, .rows 3 [(V.agg [(V.i t), (V.i t), (V.i y3)])], obl 2 zI (put l5 (w64 ((l5.length : Int) - 1)) (⟨x3.Lo, Hi1⟩ : zD)), .rows 3 [(V.agg [(V.i Lo2), (V.i Hi1), (V.i Height2)])]]) rfl rfl rfl (GS.zA ?_)
   refine GS.endB ?_
   exact X.gc [some 3, some 4] (hj_3 (t, y3, (put l5 (w64 ((l5.length : Int) - 1)) (⟨x3.Lo, Hi1⟩ : zD))) hM) rfl rfl rfl (ga rfl rfl) (gb9 rfl rfl rfl (Zs rfl rfl (Yq X.zDU (zi rfl)) (jW hlow_3 rfl rfl rfl (gb9 rfl rfl rfl (zk 9 rfl rfl (fun _ => rfl) zL)))))
  replace hM := za h_18 hM
  obtain ⟨l3, h_20, hM⟩ := zH hM
  refine GS.region ?_
  refine X.opR rfl (v := (ovl 4 l5)) (by rcases X.YG (z := true) 4 l5 with h0 | ⟨n0, h0⟩ <;> simp only [h0] <;> rfl) rfl (X.q rfl (X.q rfl ?_))
  refine X.opW (H' := [.rows 1 [(V.i height)], .rows 1 [(ovl 4 l5)], lr R_3 .busy none, .rows 3 [(V.agg [(V.i Lo2), (V.i Hi1), (V.i Height2)])], obl 2 zI l5, .rows 3 [(V.agg [(V.i Lo2), (V.i Hi1), (V.i Height2)])], .rows 2 (List.map zI ([(⟨Lo2, Hi1⟩ : zD)]))]) rfl rfl rfl rfl ?_
  refine X.appN (f := zI) h_20 (fun _ => rfl) (by rfl) (by rfl) (by rfl) (by rfl) (by rfl) (by rfl) (by rfl) (by rfl) (by rfl) (by rfl) (by rfl) (by exact rfl) (by rfl) (by rfl) ?_
  refine X.op0W (H' := [.rows 1 [(V.i height)], .rows 1 [(V.osl 7 0 (List.length l3))], lr R_3 .busy none, .rows 3 [(V.agg [(V.i Lo2), (V.i Hi1), (V.i Height2)])], .dead, .rows 3 [(V.agg [(V.i Lo2), (V.i Hi1), (V.i Height2)])], .rows 2 (List.map zI ([(⟨Lo2, Hi1⟩ : zD)])), .rows 2 (List.map zI l3)]) rfl (v := jI) (wr := [(1, .rows 1 [(V.osl 7 0 (List.length l3))])]) (by rcases X.YG (z := true) 4 l5 with h0 | ⟨n0, h0⟩ <;> simp only [h0] <;> rfl) rfl (GS.zA ?_)
  refine GS.endB ?_
  refine GS.nil ⟨_, rfl, ?_⟩
  refine X.norm (H' := [.rows 1 [(V.i height)], .rows 1 [(V.osl 7 0 (List.length l3))], lr R_3 .ready none, .rows 3 [(V.agg [(V.i Lo2), (V.i Hi1), (V.i Height2)])], .dead, .rows 3 [(V.agg [(V.i Lo2), (V.i Hi1), (V.i Height2)])], .rows 2 (List.map zI ([(⟨Lo2, Hi1⟩ : zD)])), .rows 2 (List.map zI l3)]) [(0, (V.yld 2)), (2, (V.fptr [(zI ((ZJ w s).2))] 0 0)), (4, (V.fn 113 [(V.fptr [(ZB y1.1)] 0 0), (V.fptr [(YA y1.2)] 0 0)])), (5, (V.ptr 3 0 0)), (6, (V.i t)), (7, (V.i y3)), (41, (V.b true))] ?_ rfl (sr rfl)
  refine X.q rfl (GS.zA ?_)
  refine GS.ql rfl (GS.skip (GS.region ?_))
  iterate 5 refine X.q rfl ?_
  refine X.op0W (H' := [.rows 1 [(V.i height)], .rows 1 [(V.osl 7 0 (List.length l3))], lr R_3 .ready none, .rows 3 [(V.agg [(V.i t), (V.i t), (V.i y3)])], .dead, .rows 3 [(V.agg [(V.i Lo2), (V.i Hi1), (V.i Height2)])], .rows 2 (List.map zI ([(⟨Lo2, Hi1⟩ : zD)])), .rows 2 (List.map zI l3)]) rfl rfl rfl (GS.zA ?_)
  refine GS.endB ?_
  exact X.gc [some 3, some 7] (hj_3 (t, y3, l3) hM) rfl rfl rfl (ga rfl rfl) (gb9 rfl rfl rfl (Zs rfl rfl (qh (jH h_20) rfl) (jW hlow_3 rfl rfl rfl (gb9 rfl rfl rfl (gb_obl' 9 (jH h_20) rfl rfl (fun _ => rfl) zL)))))
 replace hM := za h_12 hM
 refine GS.exit rfl ?_
 obtain ⟨y_1, hM, hy⟩ := ZN hM
 rw [hr_1 _ hy.symm] at hM
 exact X.gc [some 3, some 4] (hj_1 (Lo2, Hi1, Height2, l5) hM) rfl rfl rfl (ga rfl rfl) (gb9 rfl rfl rfl (Zs rfl rfl (zi rfl) (jW hlow_3 rfl rfl rfl (gb9 rfl rfl rfl (zk 9 rfl rfl (fun _ => rfl) zL)))))
theorem zBy {h : zK} {id : Int} {draught : Int} {s : zD} {r : Int × Bool × Int} (hM : QX h id draught s = some r) : Ct Tryz.prog 11 [(zG h), (V.i id), (V.i draught), (zI s)] (V.tup [(V.i r.1), (V.b r.2.1), (V.i r.2.2)]) := by
 refine ze ZK rfl ?_
 unfold QX at hM
 refine X.sq ?_
 iterate 2 refine X.opW rfl rfl rfl rfl ?_
 iterate 3 refine X.q rfl ?_
 refine GS.zA ?_
 iterate 2 refine GS.seq ?_
 obtain ⟨y, h_1, hM⟩ := zH hM
 refine GS.region (X.q rfl ?_)
 refine X.call (YJ h_1) rfl rfl rfl (.cons (.shut (n := 9) rfl) .nil) (X.q rfl (X.nq (X.q rfl (X.q rfl ?_))))
 refine GS.zA ?_
 refine X.cond rfl (fun h_2 => ?_) (fun h_2 => ?_)
 ·replace hM := zZ h_2 hM
  refine X.sq ?_
  iterate 4 refine X.q rfl ?_
  refine GS.zA ?_
  cases hM
  exact GS.ret ⟨_, rfl, ⟨30, rfl⟩⟩
 replace hM := za h_2 hM
 refine GS.skip (GS.seq ?_)
 obtain ⟨y1, h_3, hM⟩ := zH hM
 refine GS.region (X.q rfl (X.q rfl (X.q rfl ?_)))
 refine X.call (Zf h_3) rfl rfl rfl (.cons (.shut (n := 9) rfl) (.cons (.shut (n := 9) rfl) (.cons (.shut (n := 9) rfl) .nil))) (X.q rfl (GS.zA (GS.seq (X.sq (X.q rfl (X.q rfl ?_))))))
 refine GS.zA ?_
 refine X.cond rfl (fun h_4 => ?_) (fun h_4 => ?_)
 ·replace hM := zZ h_4 hM
  refine X.sq (X.q rfl (X.q rfl (X.q rfl ?_)))
  refine GS.zA ?_
  cases hM
  exact GS.ret ⟨_, rfl, ⟨30, rfl⟩⟩
 replace hM := za h_4 hM
 refine GS.skip (GS.seq (X.sq ?_))
 refine X.mid [(2, (V.i draught)), (4, (V.ptr 0 0 0)), (7, (V.ptr 1 0 0)), (12, (V.i y1)), (33, (V.b ((!(zY draught 0 8000)) || (!(je s)))))] ?_ ?_
 ·intro hg
  refine X.split (!(zY draught 0 8000)) (fun h_5 => ?_) (fun h_5 => ?_)
  ·refine X.q rfl ?_
   refine X.call (ZG draught 0 8000) rfl rfl rfl (.cons (.shut (n := 9) rfl) (.cons (.shut (n := 9) rfl) (.cons (.shut (n := 9) rfl) .nil))) (X.q rfl (X.q rfl ?_))
   iterate 3 refine X.off (X.ZL rfl rfl rfl h_5) rfl ?_
   refine X.opR rfl (X.zd (y := !(je s)) rfl h_5 rfl) rfl (GS.zA ?_)
   exact X.norm _ hg rfl (sr rfl)
  refine X.q rfl ?_
  refine X.call (ZG draught 0 8000) rfl rfl rfl (.cons (.shut (n := 9) rfl) (.cons (.shut (n := 9) rfl) (.cons (.shut (n := 9) rfl) .nil))) (X.q rfl (X.q rfl ?_))
  refine X.opR (X.on_f rfl rfl rfl h_5) rfl rfl ?_
  refine X.call (zAI s) (X.on_f rfl rfl rfl h_5) rfl rfl (.cons (.shut (n := 9) rfl) .nil) ?_
  refine X.opR (X.on_f rfl rfl rfl h_5) rfl rfl ?_
  refine X.opR rfl (X.zb (y := !(je s)) rfl h_5 rfl) rfl (GS.zA ?_)
  exact X.norm _ hg rfl (sr rfl)
 refine X.cond rfl (fun h_6 => ?_) (fun h_6 => ?_)
 ·replace hM := zZ h_6 hM
  refine X.sq (X.q rfl (X.q rfl (X.q rfl ?_)))
  refine GS.zA ?_
  cases hM
  exact GS.ret ⟨_, rfl, ⟨30, rfl⟩⟩
 replace hM := za h_6 hM
 refine GS.skip (GS.seq ?_)
 obtain ⟨x, h_7, hM⟩ := zH hM
 obtain ⟨y2, h_8, hM⟩ := zH hM
 refine X.drawc (by kernel_rfl) rfl ?_
 iterate 7 refine X.cop rfl rfl rfl rfl ?_
 refine X.cop rfl (X.ZC (f := zT) h_7 (fun _ => rfl) rfl rfl rfl rfl) rfl rfl ?_
 refine X.cop rfl (X.ZS h_7 rfl rfl rfl) rfl rfl ?_
 refine X.cop rfl rfl rfl rfl ?_
 refine X.ccall (zBb h x draught) rfl rfl rfl rfl (.cons (.shut (n := 9) rfl) (.cons (.shut (n := 9) rfl) (.cons (.shut (n := 9) rfl) .nil))) ?_
 refine X.ccall (zBa h_8) rfl rfl rfl rfl (.cons (.shut (n := 9) rfl) (.cons (.shut (n := 9) rfl) (.cons (.shut (n := 9) rfl) .nil))) ?_
 iterate 5 refine X.cop rfl rfl rfl rfl ?_
 refine X.cnil ?_
 refine X.norm [(7, (V.ptr 1 0 0)), (13, (V.sl (List.map zI y2.1))), (14, (V.i y2.2))] ?_ rfl (sr rfl)
 refine GS.seq (GS.block (X.sq (X.q rfl (X.q rfl (X.q rfl ?_)))))
 refine GS.zA ?_
 refine X.cond rfl (fun h_9 => ?_) (fun h_9 => ?_)
 ·replace hM := zZ h_9 hM
  refine X.sq ?_
  iterate 4 refine X.q rfl ?_
  refine GS.zA ?_
  cases hM
  exact GS.ret ⟨_, rfl, ⟨30, rfl⟩⟩
 replace hM := za h_9 hM
 refine GS.seq ?_
 obtain ⟨x1, h_10, hM⟩ := zCA hM
 refine X.mid [(7, (V.ptr 1 0 0)), (13, (V.sl (List.map zI y2.1))), (53, (V.b ((decide ((y2.1.length : Int) = 0)) || (decide (s.Lo < x1.Lo)))))] ?_ ?_
 ·intro hg
  refine X.split (decide ((y2.1.length : Int) = 0)) (fun h_11 => ?_) (fun h_11 => ?_)
  ·refine X.drawc (by kernel_rfl) rfl ?_
   refine X.cop rfl rfl rfl rfl ?_
   refine X.cop rfl (X.lenF rfl rfl rfl) rfl rfl ?_
   iterate 2 refine X.cop rfl rfl rfl rfl ?_
   iterate 7 refine X.coff (X.ZL rfl rfl rfl h_11) rfl rfl ?_
   refine X.cop rfl (X.zd (y := decide (s.Lo < x1.Lo)) rfl h_11 rfl) rfl rfl ?_
   refine X.cop rfl rfl rfl rfl ?_
   refine X.cnil ?_
   exact X.norm _ hg rfl (sr rfl)
  refine X.drawc (by kernel_rfl) rfl ?_
  refine X.cop rfl rfl rfl rfl ?_
  refine X.cop rfl (X.lenF rfl rfl rfl) rfl rfl ?_
  iterate 2 refine X.cop rfl rfl rfl rfl ?_
  refine X.cop (X.on_f rfl rfl rfl h_11) rfl rfl rfl ?_
  refine X.cop (X.on_f rfl rfl rfl h_11) (X.ZC (f := zI) (h_10 (X.nt h_11)) (fun _ => rfl) rfl rfl rfl rfl) rfl rfl ?_
  refine X.cop (X.on_f rfl rfl rfl h_11) rfl rfl rfl ?_
  refine X.cop (X.on_f rfl rfl rfl h_11) (X.ZS (h_10 (X.nt h_11)) rfl rfl rfl) rfl rfl ?_
  iterate 3 refine X.cop (X.on_f rfl rfl rfl h_11) rfl rfl rfl ?_
  refine X.cop rfl (X.zb (y := decide (s.Lo < x1.Lo)) rfl h_11 rfl) rfl rfl ?_
  refine X.cop rfl rfl rfl rfl ?_
  refine X.cnil ?_
  exact X.norm _ hg rfl (sr rfl)
 refine X.cond rfl (fun h_12 => ?_) (fun h_12 => ?_)
 ·replace hM := zZ h_12 hM
  refine X.sq ?_
  iterate 5 refine X.q rfl ?_
  refine GS.zA ?_
  cases hM
  exact GS.ret ⟨_, rfl, ⟨30, rfl⟩⟩
 replace hM := za h_12 hM
 refine GS.seq ?_
 obtain ⟨x2, h_13, hM⟩ := zH hM
 refine X.drawc (by kernel_rfl) rfl ?_
 refine X.cop rfl rfl rfl rfl ?_
 refine X.cop rfl (X.ZC (f := zI) h_13 (fun _ => rfl) rfl rfl rfl rfl) rfl rfl ?_
 refine X.cop rfl rfl rfl rfl ?_
 refine X.cop rfl (X.ZS h_13 rfl rfl rfl) rfl rfl ?_
 iterate 4 refine X.cop rfl rfl rfl rfl ?_
 refine X.cnil ?_
 refine X.norm [(13, (V.sl (List.map zI y2.1))), (68, (V.b (decide (x2.Hi < s.Hi))))] ?_ rfl (sr rfl)
 refine X.cond rfl (fun h_14 => ?_) (fun h_14 => ?_)
 ·replace hM := zZ h_14 hM
  refine GS.seq ?_
  obtain ⟨x3, h_15, hM⟩ := zH hM
  refine GS.region (X.q rfl ?_)
  refine X.opR rfl (X.ZC (f := zI) h_15 (fun _ => rfl) rfl rfl rfl rfl) rfl (X.q rfl ?_)
  refine X.opR rfl (X.ZS h_15 rfl rfl rfl) rfl ?_
  refine X.opR rfl (X.addE rfl rfl) rfl (X.q rfl (X.q rfl (X.q rfl ?_)))
  refine GS.zA ?_
  cases hM
  exact GS.ret ⟨_, rfl, ⟨30, rfl⟩⟩
 replace hM := za h_14 hM
 refine GS.skip ?_
 refine GS.endB (X.sq (X.q rfl (X.q rfl (X.q rfl ?_))))
 refine GS.zA ?_
 cases hM
 exact GS.ret ⟨_, rfl, ⟨30, rfl⟩⟩
theorem YZ {n : Int} {r : (List zM)} (hM : jS n = some r) : Ct Tryz.prog 39 [(V.i n)] (V.sl (List.map zF r)) := by
 refine ze ZK rfl ?_
 unfold jS at hM
 refine X.sq (X.q rfl (X.nq (X.q rfl (GS.zA (GS.seq (X.sq (X.q rfl (GS.zA ?_))))))))
 refine X.join (τ := (List zM)) (fun v => Yd v = some r) (fun v => ⟨[(3, (ovl 0 v))], [obl 5 zF v], 0, none, 17⟩) ?_ ?_
 ·intro l hM
  replace hM : Yd l = some r := hM
  unfold Yd at hM
  refine X.sq (X.q rfl (X.q rfl ?_))
  refine GS.zA ?_
  have hE := Option.some.inj hM
  subst hE
  exact GS.ret ⟨_, rfl, FR.ovl (f := zF) (l := l) 9 rfl rfl (fun _ => rfl)⟩
 intro hj_1
 refine GS.block ?_
 refine X.gc [none] (X.loop (σ := (Int × (List zM))) (fun v => ⟨[(0, (V.i n)), (3, (ovl 0 v.2)), (4, (V.i v.1))], [obl 5 zF v.2], 0, none, 17⟩) hM ?_ rfl) rfl rfl rfl (ga rfl rfl) (gb_pad' rfl zL)
 rintro ⟨i, l2⟩ b_1 hM hc_2 hr_1
 rw [zA2] at hM
 refine GS.seq (X.sq (X.q rfl (X.q rfl (X.q rfl ?_))))
 refine GS.zA ?_
 refine X.cond rfl (fun h_1 => ?_) (fun h_1 => ?_)
 ·replace hM := zZ h_1 hM
  refine GS.skip (GS.seq (GS.block ?_))
  obtain ⟨l1, h_2, hM⟩ := zH hM
  refine GS.region (X.q rfl (X.q rfl ?_))
  refine X.opR rfl (X.addE rfl rfl) rfl (X.q rfl ?_)
  refine X.opW rfl rfl rfl rfl ?_
  refine X.appN (f := zF) h_2 (fun _ => rfl) (by rfl) (by rfl) (by rfl) (by rfl) (by rfl) (by rfl) (by rfl) (by rfl) (by rfl) (by rfl) (by rfl) (by exact rfl) (by rfl) (by rfl) (X.q rfl (GS.zA ?_))
  refine GS.endB (GS.region (X.q rfl ?_))
  refine X.opR rfl (X.addE rfl rfl) rfl (X.q rfl (GS.zA ?_))
  have hE := Option.some.inj hM
  exact X.gc [some 2] (hc_2 (w64 (i + 1), l1) hE.symm) rfl rfl rfl (zN rfl ⟨9, rfl⟩ (zN rfl (qh (jH h_2) rfl) (ga rfl rfl))) (gb_obl' 9 (jH h_2) rfl rfl (fun _ => rfl) zL)
 replace hM := za h_1 hM
 refine GS.exit rfl ?_
 obtain ⟨y_1, hM, hy⟩ := ZN hM
 rw [hr_1 _ hy.symm] at hM
 exact X.gc [some 0] (hj_1 l2 hM) rfl rfl rfl (zN rfl (zi rfl) Jq) (zk 9 rfl rfl (fun _ => rfl) zL)
theorem zBx (c : zM) : Ct Tryz.prog 53 [(zF c)] (V.b (YO c)) := by
 refine ze ZK rfl ?_
 generalize hM : YO c = r
 unfold YO at hM
 refine X.sq ?_
 refine X.opW rfl rfl rfl rfl (X.q rfl (X.nq ?_))
 refine X.mid [(2, (V.b ((((((zY c.ID 1 1099511627776) && (zY c.Draught 0 8000)) && (decide (0 ≤ c.From))) && (decide (c.From ≤ c.To))) && (decide (c.To ≤ 1048576))) && (zY c.Long 1 1440))))] ?_ ?_
 ·intro hg
  refine X.split ((zY c.ID 1 1099511627776)) (fun h_1 => ?_) (fun h_1 => ?_)
  ·refine X.split (((zY c.ID 1 1099511627776) && (zY c.Draught 0 8000))) (fun h_2 => ?_) (fun h_2 => ?_)
   ·refine X.split ((((zY c.ID 1 1099511627776) && (zY c.Draught 0 8000)) && (decide (0 ≤ c.From)))) (fun h_3 => ?_) (fun h_3 => ?_)
    ·refine X.split (((((zY c.ID 1 1099511627776) && (zY c.Draught 0 8000)) && (decide (0 ≤ c.From))) && (decide (c.From ≤ c.To)))) (fun h_4 => ?_) (fun h_4 => ?_)
     ·refine X.split ((((((zY c.ID 1 1099511627776) && (zY c.Draught 0 8000)) && (decide (0 ≤ c.From))) && (decide (c.From ≤ c.To))) && (decide (c.To ≤ 1048576)))) (fun h_5 => ?_) (fun h_5 => ?_)
      ·iterate 2 refine X.q rfl ?_
       refine X.call (ZG c.ID 1 1099511627776) rfl rfl rfl (.cons (.shut (n := 9) rfl) (.cons (.shut (n := 9) rfl) (.cons (.shut (n := 9) rfl) .nil))) (X.q rfl ?_)
       iterate 2 refine X.opR (X.on_t rfl rfl rfl h_1) rfl rfl ?_
       refine X.call (ZG c.Draught 0 8000) (X.on_t rfl rfl rfl h_1) rfl rfl (.cons (.shut (n := 9) rfl) (.cons (.shut (n := 9) rfl) (.cons (.shut (n := 9) rfl) .nil))) ?_
       refine X.opR rfl (X.zW (y := (zY c.Draught 0 8000)) rfl h_1 rfl) rfl (X.q rfl ?_)
       iterate 3 refine X.opR (X.on_t rfl rfl rfl h_2) rfl rfl ?_
       refine X.opR rfl (X.zW (y := decide (0 ≤ c.From)) rfl h_2 rfl) rfl (X.q rfl ?_)
       iterate 5 refine X.opR (X.on_t rfl rfl rfl h_3) rfl rfl ?_
       refine X.opR rfl (X.zW (y := decide (c.From ≤ c.To)) rfl h_3 rfl) rfl (X.q rfl ?_)
       iterate 3 refine X.opR (X.on_t rfl rfl rfl h_4) rfl rfl ?_
       refine X.opR rfl (X.zW (y := decide (c.To ≤ 1048576)) rfl h_4 rfl) rfl (X.q rfl ?_)
       iterate 2 refine X.opR (X.on_t rfl rfl rfl h_5) rfl rfl ?_
       refine X.call (ZG c.Long 1 1440) (X.on_t rfl rfl rfl h_5) rfl rfl (.cons (.shut (n := 9) rfl) (.cons (.shut (n := 9) rfl) (.cons (.shut (n := 9) rfl) .nil))) ?_
       refine X.opR rfl (X.zW (y := (zY c.Long 1 1440)) rfl h_5 rfl) rfl (X.q rfl (GS.zA ?_))
       exact X.norm _ hg rfl (sr rfl)
      refine X.q rfl (X.q rfl ?_)
      refine X.call (ZG c.ID 1 1099511627776) rfl rfl rfl (.cons (.shut (n := 9) rfl) (.cons (.shut (n := 9) rfl) (.cons (.shut (n := 9) rfl) .nil))) (X.q rfl ?_)
      iterate 2 refine X.opR (X.on_t rfl rfl rfl h_1) rfl rfl ?_
      refine X.call (ZG c.Draught 0 8000) (X.on_t rfl rfl rfl h_1) rfl rfl (.cons (.shut (n := 9) rfl) (.cons (.shut (n := 9) rfl) (.cons (.shut (n := 9) rfl) .nil))) ?_
      refine X.opR rfl (X.zW (y := (zY c.Draught 0 8000)) rfl h_1 rfl) rfl (X.q rfl ?_)
      iterate 3 refine X.opR (X.on_t rfl rfl rfl h_2) rfl rfl ?_
      refine X.opR rfl (X.zW (y := decide (0 ≤ c.From)) rfl h_2 rfl) rfl (X.q rfl ?_)
      iterate 5 refine X.opR (X.on_t rfl rfl rfl h_3) rfl rfl ?_
      refine X.opR rfl (X.zW (y := decide (c.From ≤ c.To)) rfl h_3 rfl) rfl (X.q rfl ?_)
      iterate 3 refine X.opR (X.on_t rfl rfl rfl h_4) rfl rfl ?_
      refine X.opR rfl (X.zW (y := decide (c.To ≤ 1048576)) rfl h_4 rfl) rfl (X.q rfl ?_)
      iterate 3 refine X.off (X.zn rfl rfl rfl h_5) rfl ?_
      refine X.opR rfl (X.zQ (y := (zY c.Long 1 1440)) rfl h_5 rfl) rfl (X.q rfl (GS.zA ?_))
      exact X.norm _ hg rfl (sr rfl)
     refine X.q rfl (X.q rfl ?_)
     refine X.call (ZG c.ID 1 1099511627776) rfl rfl rfl (.cons (.shut (n := 9) rfl) (.cons (.shut (n := 9) rfl) (.cons (.shut (n := 9) rfl) .nil))) (X.q rfl ?_)
     iterate 2 refine X.opR (X.on_t rfl rfl rfl h_1) rfl rfl ?_
     refine X.call (ZG c.Draught 0 8000) (X.on_t rfl rfl rfl h_1) rfl rfl (.cons (.shut (n := 9) rfl) (.cons (.shut (n := 9) rfl) (.cons (.shut (n := 9) rfl) .nil))) ?_
     refine X.opR rfl (X.zW (y := (zY c.Draught 0 8000)) rfl h_1 rfl) rfl (X.q rfl ?_)
     iterate 3 refine X.opR (X.on_t rfl rfl rfl h_2) rfl rfl ?_
     refine X.opR rfl (X.zW (y := decide (0 ≤ c.From)) rfl h_2 rfl) rfl (X.q rfl ?_)
     iterate 5 refine X.opR (X.on_t rfl rfl rfl h_3) rfl rfl ?_
     refine X.opR rfl (X.zW (y := decide (c.From ≤ c.To)) rfl h_3 rfl) rfl (X.q rfl ?_)
     iterate 3 refine X.off (X.zn rfl rfl rfl h_4) rfl ?_
     refine X.opR rfl (X.zQ (y := decide (c.To ≤ 1048576)) rfl h_4 rfl) rfl (X.q rfl ?_)
     iterate 3 refine X.off (X.zn rfl rfl rfl (X.zB h_4)) rfl ?_
     refine X.opR rfl (X.zQ (y := (zY c.Long 1 1440)) rfl (X.zB h_4) rfl) rfl (X.q rfl (GS.zA ?_))
     exact X.norm _ hg rfl (sr rfl)
    refine X.q rfl (X.q rfl ?_)
    refine X.call (ZG c.ID 1 1099511627776) rfl rfl rfl (.cons (.shut (n := 9) rfl) (.cons (.shut (n := 9) rfl) (.cons (.shut (n := 9) rfl) .nil))) (X.q rfl ?_)
    iterate 2 refine X.opR (X.on_t rfl rfl rfl h_1) rfl rfl ?_
    refine X.call (ZG c.Draught 0 8000) (X.on_t rfl rfl rfl h_1) rfl rfl (.cons (.shut (n := 9) rfl) (.cons (.shut (n := 9) rfl) (.cons (.shut (n := 9) rfl) .nil))) ?_
    refine X.opR rfl (X.zW (y := (zY c.Draught 0 8000)) rfl h_1 rfl) rfl (X.q rfl ?_)
    iterate 3 refine X.opR (X.on_t rfl rfl rfl h_2) rfl rfl ?_
    refine X.opR rfl (X.zW (y := decide (0 ≤ c.From)) rfl h_2 rfl) rfl (X.q rfl ?_)
    iterate 5 refine X.off (X.zn rfl rfl rfl h_3) rfl ?_
    refine X.opR rfl (X.zQ (y := decide (c.From ≤ c.To)) rfl h_3 rfl) rfl (X.q rfl ?_)
    iterate 3 refine X.off (X.zn rfl rfl rfl (X.zB h_3)) rfl ?_
    refine X.opR rfl (X.zQ (y := decide (c.To ≤ 1048576)) rfl (X.zB h_3) rfl) rfl (X.q rfl ?_)
    iterate 3 refine X.off (X.zn rfl rfl rfl (X.zB (X.zB h_3))) rfl ?_
    refine X.opR rfl (X.zQ (y := (zY c.Long 1 1440)) rfl (X.zB (X.zB h_3)) rfl) rfl (X.q rfl (GS.zA ?_))
    exact X.norm _ hg rfl (sr rfl)
   refine X.q rfl (X.q rfl ?_)
   refine X.call (ZG c.ID 1 1099511627776) rfl rfl rfl (.cons (.shut (n := 9) rfl) (.cons (.shut (n := 9) rfl) (.cons (.shut (n := 9) rfl) .nil))) (X.q rfl ?_)
   iterate 2 refine X.opR (X.on_t rfl rfl rfl h_1) rfl rfl ?_
   refine X.call (ZG c.Draught 0 8000) (X.on_t rfl rfl rfl h_1) rfl rfl (.cons (.shut (n := 9) rfl) (.cons (.shut (n := 9) rfl) (.cons (.shut (n := 9) rfl) .nil))) ?_
   refine X.opR rfl (X.zW (y := (zY c.Draught 0 8000)) rfl h_1 rfl) rfl (X.q rfl ?_)
   iterate 3 refine X.off (X.zn rfl rfl rfl h_2) rfl ?_
   refine X.opR rfl (X.zQ (y := decide (0 ≤ c.From)) rfl h_2 rfl) rfl (X.q rfl ?_)
   iterate 5 refine X.off (X.zn rfl rfl rfl (X.zB h_2)) rfl ?_
   refine X.opR rfl (X.zQ (y := decide (c.From ≤ c.To)) rfl (X.zB h_2) rfl) rfl (X.q rfl ?_)
   iterate 3 refine X.off (X.zn rfl rfl rfl (X.zB (X.zB h_2))) rfl ?_
   refine X.opR rfl (X.zQ (y := decide (c.To ≤ 1048576)) rfl (X.zB (X.zB h_2)) rfl) rfl (X.q rfl ?_)
   iterate 3 refine X.off (X.zn rfl rfl rfl (X.zB (X.zB (X.zB h_2)))) rfl ?_
   refine X.opR rfl (X.zQ (y := (zY c.Long 1 1440)) rfl (X.zB (X.zB (X.zB h_2))) rfl) rfl (X.q rfl (GS.zA ?_))
   exact X.norm _ hg rfl (sr rfl)
  refine X.q rfl (X.q rfl ?_)
  refine X.call (ZG c.ID 1 1099511627776) rfl rfl rfl (.cons (.shut (n := 9) rfl) (.cons (.shut (n := 9) rfl) (.cons (.shut (n := 9) rfl) .nil))) (X.q rfl ?_)
  iterate 3 refine X.off (X.zn rfl rfl rfl h_1) rfl ?_
  refine X.opR rfl (X.zQ (y := (zY c.Draught 0 8000)) rfl h_1 rfl) rfl (X.q rfl ?_)
  iterate 3 refine X.off (X.zn rfl rfl rfl (X.zB h_1)) rfl ?_
  refine X.opR rfl (X.zQ (y := decide (0 ≤ c.From)) rfl (X.zB h_1) rfl) rfl (X.q rfl ?_)
  iterate 5 refine X.off (X.zn rfl rfl rfl (X.zB (X.zB h_1))) rfl ?_
  refine X.opR rfl (X.zQ (y := decide (c.From ≤ c.To)) rfl (X.zB (X.zB h_1)) rfl) rfl (X.q rfl ?_)
  iterate 3 refine X.off (X.zn rfl rfl rfl (X.zB (X.zB (X.zB h_1)))) rfl ?_
  refine X.opR rfl (X.zQ (y := decide (c.To ≤ 1048576)) rfl (X.zB (X.zB (X.zB h_1))) rfl) rfl (X.q rfl ?_)
  iterate 3 refine X.off (X.zn rfl rfl rfl (X.zB (X.zB (X.zB (X.zB h_1))))) rfl ?_
  refine X.opR rfl (X.zQ (y := (zY c.Long 1 1440)) rfl (X.zB (X.zB (X.zB (X.zB h_1)))) rfl) rfl (X.q rfl (GS.zA ?_))
  exact X.norm _ hg rfl (sr rfl)
 subst hM
 exact GS.ret ⟨_, rfl, ⟨30, rfl⟩⟩
theorem zAh {h : zK} {x : zE} {r : zj × Bool} (hM : QL h x = some r) : Ct Tryz.prog 57 [(zG h), (zC x)] (V.tup [(zT r.1), (V.b r.2)]) := by
 refine ze ZK rfl ?_
 unfold QL at hM
 refine X.sq ?_
 iterate 3 refine X.opW rfl rfl rfl rfl ?_
 refine X.q rfl (GS.zA (GS.seq ?_))
 obtain ⟨y, h_1, hM⟩ := zH hM
 refine GS.region ?_
 iterate 4 refine X.q rfl ?_
 refine X.call (Zf h_1) rfl rfl rfl (.cons (.shut (n := 9) rfl) (.cons (.shut (n := 9) rfl) (.cons (.shut (n := 9) rfl) .nil))) (X.q rfl (GS.zA (GS.seq (X.sq ?_))))
 refine X.mid [(2, (V.ptr 0 0 0)), (4, (V.ptr 2 0 0)), (6, (V.i y)), (23, (V.b ((decide (y < 0)) || (!(zY x.Tide 0 (w64 ((h.Tides.length : Int) - 1)))))))] ?_ ?_
 ·intro hg
  refine X.split (decide (y < 0)) (fun h_2 => ?_) (fun h_2 => ?_)
  ·iterate 3 refine X.q rfl ?_
   iterate 8 refine X.off (X.ZL rfl rfl rfl h_2) rfl ?_
   refine X.opR rfl (X.zd (y := !(zY x.Tide 0 (w64 ((h.Tides.length : Int) - 1)))) rfl h_2 rfl) rfl (GS.zA ?_)
   exact X.norm _ hg rfl (sr rfl)
  iterate 3 refine X.q rfl ?_
  iterate 4 refine X.opR (X.on_f rfl rfl rfl h_2) rfl rfl ?_
  refine X.opR (X.on_f rfl rfl rfl h_2) (X.lenF rfl rfl rfl) rfl ?_
  refine X.opR (X.on_f rfl rfl rfl h_2) (X.subE rfl rfl) rfl ?_
  refine X.call (ZG x.Tide 0 (w64 ((h.Tides.length : Int) - 1))) (X.on_f rfl rfl rfl h_2) rfl rfl (.cons (.shut (n := 9) rfl) (.cons (.shut (n := 9) rfl) (.cons (.shut (n := 9) rfl) .nil))) ?_
  refine X.opR (X.on_f rfl rfl rfl h_2) rfl rfl ?_
  refine X.opR rfl (X.zb (y := !(zY x.Tide 0 (w64 ((h.Tides.length : Int) - 1)))) rfl h_2 rfl) rfl (GS.zA ?_)
  exact X.norm _ hg rfl (sr rfl)
 refine X.cond rfl (fun h_3 => ?_) (fun h_3 => ?_)
 ·replace hM := zZ h_3 hM
  refine X.sq (X.q rfl ?_)
  refine X.op0W rfl rfl rfl (X.q rfl (GS.zA ?_))
  cases hM
  exact GS.ret ⟨_, rfl, ⟨30, rfl⟩⟩
 replace hM := za h_3 hM
 refine GS.skip (GS.seq ?_)
 obtain ⟨x1, h_4, hM⟩ := zH hM
 refine GS.region (X.q rfl (X.q rfl (X.q rfl ?_)))
 refine X.opR rfl (X.ZC (f := zT) h_4 (fun _ => rfl) rfl rfl rfl rfl) rfl ?_
 refine X.opR rfl (X.ZS h_4 rfl rfl rfl) rfl ?_
 refine X.op0W rfl rfl rfl (X.q rfl (GS.zA ?_))
 cases hM
 exact GS.ret ⟨_, rfl, ⟨30, rfl⟩⟩
theorem zHq {w : zX} {s : zD} {height : Int} {long : Int} {r : zD × Int} (hM : zAv w s height long = some r) : Ct Tryz.prog 98 [(ZB w), (zI s), (V.i height), (V.i long)] (V.tup [(zI r.1), (V.i r.2)]) := by
 refine ze ZK rfl ?_
 unfold zAv at hM
 refine X.sq ?_
 iterate 3 refine X.opW rfl rfl rfl rfl ?_
 refine X.q rfl (GS.zA (GS.seq ?_))
 obtain ⟨y, h_1, hM⟩ := zH hM
 refine GS.region (X.q rfl (X.q rfl (X.q rfl ?_)))
 refine X.call (zBa h_1) rfl rfl rfl (.cons (.shut (n := 9) rfl) (.cons (.shut (n := 9) rfl) (.cons (.shut (n := 9) rfl) .nil))) ?_
 iterate 5 refine X.q rfl ?_
 refine GS.zA (GS.seq (X.sq (X.q rfl (X.q rfl ?_))))
 refine GS.zA ?_
 refine X.cond rfl (fun h_2 => ?_) (fun h_2 => ?_)
 ·replace hM := zZ h_2 hM
  refine X.sq (X.q rfl (X.q rfl ?_))
  refine X.op0W rfl rfl rfl (X.q rfl (GS.zA ?_))
  cases hM
  exact GS.ret ⟨_, rfl, ⟨30, rfl⟩⟩
 replace hM := za h_2 hM
 refine GS.skip (GS.seq (X.sq (X.q rfl (X.q rfl ?_))))
 refine GS.zA ?_
 refine X.cond rfl (fun h_3 => ?_) (fun h_3 => ?_)
 ·replace hM := zZ h_3 hM
  refine X.sq (X.q rfl ?_)
  refine X.op0W rfl rfl rfl (X.q rfl (GS.zA ?_))
  cases hM
  exact GS.ret ⟨_, rfl, ⟨30, rfl⟩⟩
 replace hM := za h_3 hM
 refine GS.skip (GS.seq (X.sq (X.q rfl ?_)))
 refine X.opR rfl (X.lenF rfl rfl rfl) rfl (X.q rfl (GS.zA ?_))
 refine X.join (τ := Unit) (fun v => qp = some r) (fun v => ⟨[(8, (V.ptr 0 0 0))], [.rows 2 [(V.agg [(V.i 0), (V.i 0)])]], 0, none, 45⟩) ?_ ?_
 ·intro _ hM
  replace hM : qp = some r := hM
  unfold qp at hM
  refine X.sq (X.q rfl ?_)
  refine X.op0W rfl rfl rfl (X.q rfl (GS.zA ?_))
  cases hM
  exact GS.ret ⟨_, rfl, ⟨30, rfl⟩⟩
 intro hj_1
 refine GS.block ?_
 refine X.gc [some 2] (X.loop (σ := Int) (fun v => ⟨[(3, (V.i long)), (8, (V.ptr 0 0 0)), (28, (V.sl (List.map zI y.1))), (29, (V.i (y.1.length : Int))), (30, (V.i v))], [.rows 2 [(V.agg [(V.i 0), (V.i 0)])]], 0, none, 45⟩) hM ?_ rfl) rfl rfl rfl (ga rfl rfl) (gb9 rfl rfl rfl zL)
 intro x1 b_1 hM hc_2 hr_1
 rw [qq] at hM
 refine X.sq (X.q rfl (GS.zA (GS.seq ?_)))
 refine X.cond rfl (fun h_4 => ?_) (fun h_4 => ?_)
 ·replace hM := zZ h_4 hM
  refine GS.skip (GS.seq (GS.block (GS.seq ?_)))
  obtain ⟨x, h_5, hM⟩ := zH hM
  refine GS.region ?_
  refine X.opR rfl (X.ZC (f := zI) h_5 (fun _ => rfl) rfl rfl rfl rfl) rfl ?_
  refine X.opR rfl (X.ZS h_5 rfl rfl rfl) rfl ?_
  refine X.opW rfl rfl rfl rfl ?_
  refine X.op0W rfl rfl rfl (X.nq ?_)
  iterate 4 refine X.q rfl ?_
  refine X.opR rfl (X.subE rfl rfl) rfl (X.q rfl ?_)
  refine X.opR rfl (X.subE rfl rfl) rfl (X.q rfl (GS.zA ?_))
  refine X.cond rfl (fun h_6 => ?_) (fun h_6 => ?_)
  ·replace hM := zZ h_6 hM
   refine X.sq (X.q rfl ?_)
   refine X.op0W rfl rfl rfl (X.q rfl (GS.zA ?_))
   have hE := Option.some.inj hM
   replace hE := hr_1 _ hE.symm
   subst hE
   exact GS.ret ⟨_, rfl, ⟨30, rfl⟩⟩
  replace hM := za h_6 hM
  refine GS.skip ?_
  refine GS.endB (GS.region ?_)
  refine X.opR rfl (X.addE rfl rfl) rfl (X.q rfl (GS.zA ?_))
  have hE := Option.some.inj hM
  exact X.gc [some 0] (hc_2 (w64 (x1 + 1)) hE.symm) rfl rfl rfl (ga rfl rfl) (gb9 rfl rfl rfl zL)
 replace hM := za h_4 hM
 refine GS.exit rfl ?_
 obtain ⟨y_1, hM, hy⟩ := ZN hM
 rw [hr_1 _ hy.symm] at hM
 exact X.gc [some 0] (hj_1 () hM) rfl rfl rfl (ga rfl rfl) (gb9 rfl rfl rfl zL)
theorem qD {h : zK} {c : zM} {x : zE} {b : zj} {r : zD × Bool} (hM : YL h c x b = some r) : Ct Tryz.prog 58 [(zG h), (zF c), (zC x), (zT b)] (V.tup [(zI r.1), (V.b r.2)]) := by
 refine ze ZK rfl ?_
 unfold YL at hM
 refine X.sq ?_
 iterate 3 refine X.opW rfl rfl rfl rfl ?_
 refine X.opW (H' := [.rows 6 [(zG h)], .rows 5 [(zF c)], .rows 2 [(zC x)], .rows 2 [(zT b)]]) rfl rfl rfl rfl ?_
 refine X.opW (H' := [.rows 6 [(zG h)], .rows 5 [(zF c)], .rows 2 [(zC x)], .rows 2 [(zT b)], .rows 2 [(V.agg [(V.i 0), (V.i 0)])]]) rfl rfl rfl rfl (X.q rfl (GS.zA (GS.seq ?_)))
 obtain ⟨x1, h_1, hM⟩ := zH hM
 refine GS.region ?_
 iterate 4 refine X.q rfl ?_
 refine X.opR rfl (X.ZC (f := zI) h_1 (fun _ => rfl) rfl rfl rfl rfl) rfl ?_
 refine X.opR rfl (X.ZS h_1 rfl rfl rfl) rfl ?_
 refine X.opW (H' := [.rows 6 [(zG h)], .rows 5 [(zF c)], .rows 2 [(zC x)], .rows 2 [(zT b)], .rows 2 [(V.agg [(V.i 0), (V.i 0)])], .rows 2 [(V.agg [(V.i 0), (V.i 0)])]]) rfl rfl rfl rfl ?_
 refine X.op0W (H' := [.rows 6 [(zG h)], .rows 5 [(zF c)], .rows 2 [(zC x)], .rows 2 [(zT b)], .rows 2 [(V.agg [(V.i 0), (V.i 0)])], .rows 2 [(zI x1)]]) rfl rfl rfl (X.nq ?_)
 iterate 4 refine X.q rfl ?_
 refine X.opR rfl (X.maxE rfl rfl) rfl ?_
 iterate 4 refine X.q rfl ?_
 refine X.opR rfl (X.minE rfl rfl) rfl (X.q rfl ?_)
 refine X.opW (H' := [.rows 6 [(zG h)], .rows 5 [(zF c)], .rows 2 [(zC x)], .rows 2 [(zT b)], .rows 2 [(V.agg [(V.i 0), (V.i 0)])], .rows 2 [(zI x1)], .rows 2 [(V.agg [(V.i 0), (V.i 0)])]]) rfl rfl rfl rfl ?_
 refine X.op0W (H' := [.rows 6 [(zG h)], .rows 5 [(zF c)], .rows 2 [(zC x)], .rows 2 [(zT b)], .rows 2 [(V.agg [(V.i 0), (V.i 0)])], .rows 2 [(zI x1)], .rows 2 [(V.agg [(V.i (max x1.Lo c.From)), (V.i (min x1.Hi c.To))])]]) rfl rfl rfl (GS.zA (GS.seq (X.sq ?_)))
 iterate 5 refine X.q rfl ?_
 refine GS.zA ?_
 refine X.cond rfl (fun h_2 => ?_) (fun h_2 => ?_)
 ·replace hM := zZ h_2 hM
  refine X.sq (X.q rfl ?_)
  refine X.op0W (H' := [.rows 6 [(zG h)], .rows 5 [(zF c)], .rows 2 [(zC x)], .rows 2 [(zT b)], .rows 2 [(V.agg [(V.i 0), (V.i 0)])], .rows 2 [(zI x1)], .rows 2 [(V.agg [(V.i (max x1.Lo c.From)), (V.i (min x1.Hi c.To))])]]) rfl rfl rfl (X.q rfl (GS.zA ?_))
  cases hM
  exact GS.ret ⟨_, rfl, ⟨30, rfl⟩⟩
 replace hM := za h_2 hM
 refine GS.skip (GS.seq ?_)
 obtain ⟨y, h_3, hM⟩ := zH hM
 refine X.draw (by kernel_rfl) ?_
 iterate 7 refine X.dop rfl rfl rfl rfl (by kernel_rfl) rfl rfl ?_
 refine X.dcall (zBb h b c.Draught) rfl rfl rfl (by kernel_rfl) rfl (.cons (.shut (n := 9) rfl) (.cons (.shut (n := 9) rfl) (.cons (.shut (n := 9) rfl) .nil))) ?_
 iterate 2 refine X.dop rfl rfl rfl rfl (by kernel_rfl) rfl rfl ?_
 refine X.dcall (zHq h_3) rfl rfl rfl (by kernel_rfl) rfl (.cons (.shut (n := 9) rfl) (.cons (.shut (n := 9) rfl) (.cons (.shut (n := 9) rfl) (.cons (.shut (n := 9) rfl) .nil)))) ?_
 iterate 4 refine X.dop rfl rfl rfl rfl (by kernel_rfl) rfl rfl ?_
 refine X.dop0 rfl rfl rfl rfl (by kernel_rfl) rfl ?_
 refine X.dop rfl rfl rfl rfl (by kernel_rfl) rfl rfl ?_
 refine X.dnil ?_
 refine X.norm [(5, (V.ptr 1 0 0)), (8, (V.ptr 4 0 0)), (12, (V.ptr 7 0 0)), (13, (V.i y.2))] ?_ rfl (sr rfl)
 refine GS.seq (X.sq (X.q rfl (X.q rfl ?_)))
 refine GS.zA ?_
 refine X.cond rfl (fun h_4 => ?_) (fun h_4 => ?_)
 ·replace hM := zZ h_4 hM
  refine X.sq (X.q rfl ?_)
  refine X.op0W (H' := [.rows 6 [(zG h)], .rows 5 [(zF c)], .rows 2 [(zC x)], .rows 2 [(zT b)], .rows 2 [(V.agg [(V.i 0), (V.i 0)])], .rows 2 [(zI x1)], .rows 2 [(V.agg [(V.i (max x1.Lo c.From)), (V.i (min x1.Hi c.To))])], .rows 2 [(zI y.1)]]) rfl rfl rfl (X.q rfl (GS.zA ?_))
  cases hM
  exact GS.ret ⟨_, rfl, ⟨30, rfl⟩⟩
 replace hM := za h_4 hM
 refine GS.skip (X.sq ?_)
 iterate 6 refine X.q rfl ?_
 refine X.opR rfl (X.addE rfl rfl) rfl ?_
 refine X.opR rfl (X.subE rfl rfl) rfl (X.q rfl ?_)
 refine X.op0W (H' := [.rows 6 [(zG h)], .rows 5 [(zF c)], .rows 2 [(zC x)], .rows 2 [(zT b)], .rows 2 [(V.agg [(V.i y.1.Lo), (V.i (w64 ((w64 (y.1.Lo + c.Long)) - 1)))])], .rows 2 [(zI x1)], .rows 2 [(V.agg [(V.i (max x1.Lo c.From)), (V.i (min x1.Hi c.To))])], .rows 2 [(zI y.1)]]) rfl rfl rfl (X.q rfl (GS.zA ?_))
 cases hM
 exact GS.ret ⟨_, rfl, ⟨30, rfl⟩⟩
theorem zGf {h : zK} {c : zM} {x : zE} {r : zD × Bool × Int} (hM : zBT h c x = some r) : Ct Tryz.prog 17 [(zG h), (zF c), (zC x)] (V.tup [(zI r.1), (V.b r.2.1), (V.i r.2.2)]) := by
 refine ze ZK rfl ?_
 unfold zBT at hM
 refine X.sq ?_
 iterate 3 refine X.opW rfl rfl rfl rfl ?_
 refine X.opW (H' := [.rows 6 [(zG h)], .rows 5 [(zF c)], .rows 2 [(zC x)], .rows 2 [(V.agg [(V.i 0), (V.i 0)])]]) rfl rfl rfl rfl (X.q rfl (X.q rfl ?_))
 refine GS.zA ?_
 iterate 2 refine GS.seq ?_
 obtain ⟨y, h_1, hM⟩ := zH hM
 refine GS.region (X.q rfl ?_)
 refine X.call (YJ h_1) rfl rfl rfl (.cons (.shut (n := 9) rfl) .nil) (X.q rfl (X.nq (X.q rfl (X.q rfl ?_))))
 refine GS.zA ?_
 refine X.cond rfl (fun h_2 => ?_) (fun h_2 => ?_)
 ·replace hM := zZ h_2 hM
  refine X.sq (X.q rfl (X.q rfl ?_))
  refine X.op0W (H' := [.rows 6 [(zG h)], .rows 5 [(zF c)], .rows 2 [(zC x)], .rows 2 [(V.agg [(V.i 0), (V.i 0)])]]) rfl rfl rfl (X.q rfl (X.q rfl ?_))
  refine GS.zA ?_
  cases hM
  exact GS.ret ⟨_, rfl, ⟨30, rfl⟩⟩
 replace hM := za h_2 hM
 refine GS.skip (GS.seq (X.sq (X.q rfl ?_)))
 refine X.call (zBx c) rfl rfl rfl (.cons (.shut (n := 9) rfl) .nil) (X.q rfl (GS.zA ?_))
 refine X.cond rfl (fun h_3 => ?_) (fun h_3 => ?_)
 ·replace hM := zZ h_3 hM
  refine X.sq (X.q rfl ?_)
  refine X.op0W (H' := [.rows 6 [(zG h)], .rows 5 [(zF c)], .rows 2 [(zC x)], .rows 2 [(V.agg [(V.i 0), (V.i 0)])]]) rfl rfl rfl (X.q rfl (X.q rfl ?_))
  refine GS.zA ?_
  cases hM
  exact GS.ret ⟨_, rfl, ⟨30, rfl⟩⟩
 replace hM := za h_3 hM
 refine GS.skip (GS.seq ?_)
 obtain ⟨y1, h_4, hM⟩ := zH hM
 refine GS.region (X.q rfl (X.q rfl ?_))
 refine X.call (zAh h_4) rfl rfl rfl (.cons (.shut (n := 9) rfl) (.cons (.shut (n := 9) rfl) .nil)) (X.q rfl (X.q rfl (X.q rfl ?_)))
 refine X.opW (H' := [.rows 6 [(zG h)], .rows 5 [(zF c)], .rows 2 [(zC x)], .rows 2 [(V.agg [(V.i 0), (V.i 0)])], .rows 2 [(V.agg [(V.i 0), (V.i 0)])]]) rfl rfl rfl rfl ?_
 refine X.op0W (H' := [.rows 6 [(zG h)], .rows 5 [(zF c)], .rows 2 [(zC x)], .rows 2 [(V.agg [(V.i 0), (V.i 0)])], .rows 2 [(zT y1.1)]]) rfl rfl rfl (X.q rfl (GS.zA (GS.seq (X.sq (X.q rfl (X.q rfl ?_))))))
 refine GS.zA ?_
 refine X.cond rfl (fun h_5 => ?_) (fun h_5 => ?_)
 ·replace hM := zZ h_5 hM
  refine X.sq (X.q rfl ?_)
  refine X.op0W (H' := [.rows 6 [(zG h)], .rows 5 [(zF c)], .rows 2 [(zC x)], .rows 2 [(V.agg [(V.i 0), (V.i 0)])], .rows 2 [(zT y1.1)]]) rfl rfl rfl (X.q rfl (X.q rfl ?_))
  refine GS.zA ?_
  cases hM
  exact GS.ret ⟨_, rfl, ⟨30, rfl⟩⟩
 replace hM := za h_5 hM
 refine GS.skip (GS.seq ?_)
 obtain ⟨y2, h_6, hM⟩ := zH hM
 refine GS.region ?_
 iterate 4 refine X.q rfl ?_
 refine X.call (qD h_6) rfl rfl rfl (.cons (.shut (n := 9) rfl) (.cons (.shut (n := 9) rfl) (.cons (.shut (n := 9) rfl) (.cons (.shut (n := 9) rfl) .nil)))) (X.q rfl (X.q rfl (X.q rfl ?_)))
 refine X.opW (H' := [.rows 6 [(zG h)], .rows 5 [(zF c)], .rows 2 [(zC x)], .rows 2 [(V.agg [(V.i 0), (V.i 0)])], .rows 2 [(zT y1.1)], .rows 2 [(V.agg [(V.i 0), (V.i 0)])]]) rfl rfl rfl rfl ?_
 refine X.op0W (H' := [.rows 6 [(zG h)], .rows 5 [(zF c)], .rows 2 [(zC x)], .rows 2 [(V.agg [(V.i 0), (V.i 0)])], .rows 2 [(zT y1.1)], .rows 2 [(zI y2.1)]]) rfl rfl rfl (X.q rfl (X.nq (X.q rfl (X.q rfl ?_))))
 refine X.op0W (H' := [.rows 6 [(zG h)], .rows 5 [(zF c)], .rows 2 [(zC x)], .rows 2 [(zI y2.1)], .rows 2 [(zT y1.1)], .rows 2 [(zI y2.1)]]) rfl rfl rfl (X.q rfl (X.q rfl ?_))
 refine GS.zA ?_
 cases hM
 exact GS.ret ⟨_, rfl, ⟨30, rfl⟩⟩
theorem zA1 {draught : Int} {c : zK} {c1 : Int} {c2 : zE} {c3 : zj} {r : Bool} (hM : qL draught c c1 c2 c3 = some r) : Ct Tryz.prog 61 [(V.i draught), (V.fptr [(zG c)] 0 0), (V.fptr [(V.i c1)] 0 0), (V.fptr [(zC c2)] 0 0), (V.fptr [(zT c3)] 0 0)] (V.b r) := by
 refine ze ZK rfl ?_
 unfold qL at hM
 refine X.sq (X.q rfl (GS.zA (GS.seq ?_)))
 obtain ⟨y, h_1, hM⟩ := zH hM
 refine GS.region ?_
 iterate 6 refine X.q rfl ?_
 refine X.call (qD h_1) rfl rfl rfl (.cons (.shut (n := 9) rfl) (.cons (.shut (n := 9) rfl) (.cons (.shut (n := 9) rfl) (.cons (.shut (n := 9) rfl) .nil)))) (X.q rfl (X.q rfl (X.q rfl ?_)))
 refine X.opW rfl rfl rfl rfl ?_
 refine X.op0W rfl rfl rfl (X.q rfl (X.nq (X.q rfl (X.q rfl ?_))))
 refine GS.zA ?_
 cases hM
 exact GS.ret ⟨_, rfl, ⟨30, rfl⟩⟩
theorem zFl {h : zK} {x : zE} {long : Int} {r : Int × Int} (hM : zAa h x long = some r) : Ct Tryz.prog 19 [(zG h), (zC x), (V.i long)] (V.tup [(V.i r.1), (V.i r.2)]) := by
 refine ze ZK rfl ?_
 unfold zAa at hM
 refine X.sq ?_
 iterate 3 refine X.opW rfl rfl rfl rfl ?_
 refine X.q rfl (X.q rfl ?_)
 refine GS.zA ?_
 iterate 2 refine GS.seq ?_
 obtain ⟨y, h_1, hM⟩ := zH hM
 refine GS.region (X.q rfl ?_)
 refine X.call (YJ h_1) rfl rfl rfl (.cons (.shut (n := 9) rfl) .nil) (X.q rfl (X.nq (X.q rfl (X.q rfl ?_))))
 refine GS.zA ?_
 refine X.cond rfl (fun h_2 => ?_) (fun h_2 => ?_)
 ·replace hM := zZ h_2 hM
  refine X.sq (X.q rfl (X.q rfl (X.q rfl ?_)))
  refine GS.zA ?_
  cases hM
  exact GS.ret ⟨_, rfl, ⟨30, rfl⟩⟩
 replace hM := za h_2 hM
 refine GS.skip (GS.seq ?_)
 obtain ⟨y1, h_3, hM⟩ := zH hM
 refine GS.region (X.q rfl (X.q rfl ?_))
 refine X.call (zAh h_3) rfl rfl rfl (.cons (.shut (n := 9) rfl) (.cons (.shut (n := 9) rfl) .nil)) (X.q rfl (X.q rfl (X.q rfl ?_)))
 refine X.opW (H' := [.rows 6 [(zG h)], .rows 2 [(zC x)], .rows 1 [(V.i long)], .rows 2 [(V.agg [(V.i 0), (V.i 0)])]]) rfl rfl rfl rfl ?_
 refine X.op0W (H' := [.rows 6 [(zG h)], .rows 2 [(zC x)], .rows 1 [(V.i long)], .rows 2 [(zT y1.1)]]) rfl rfl rfl (X.q rfl (GS.zA (GS.seq (GS.block (X.sq (X.q rfl (X.q rfl (X.q rfl ?_))))))))
 refine GS.zA ?_
 refine X.cond rfl (fun h_4 => ?_) (fun h_4 => ?_)
 ·replace hM := zZ h_4 hM
  refine X.sq (X.q rfl (X.q rfl ?_))
  refine GS.zA ?_
  cases hM
  exact GS.ret ⟨_, rfl, ⟨30, rfl⟩⟩
 replace hM := za h_4 hM
 refine X.sq (X.q rfl ?_)
 refine X.call (ZG long 1 1440) rfl rfl rfl (.cons (.shut (n := 9) rfl) (.cons (.shut (n := 9) rfl) (.cons (.shut (n := 9) rfl) .nil))) (X.q rfl (X.q rfl ?_))
 refine GS.zA ?_
 refine X.cond rfl (fun h_5 => ?_) (fun h_5 => ?_)
 ·replace hM := zZ h_5 hM
  refine X.sq (X.q rfl (X.q rfl ?_))
  refine GS.zA ?_
  cases hM
  exact GS.ret ⟨_, rfl, ⟨30, rfl⟩⟩
 replace hM := za h_5 hM
 refine GS.skip ?_
 refine GS.endB (X.sq (X.q rfl (X.q rfl ?_)))
 refine GS.zA ?_
 iterate 2 refine GS.seq ?_
 obtain ⟨y2, h_6, hM⟩ := zH hM
 refine GS.region (X.q rfl ?_)
 refine X.zBd (zA1 h_6) rfl rfl rfl (m := 9) rfl (.cons (.shut (n := 9) rfl) (.cons (FR.arg ⟨30, rfl⟩) (.cons (FR.arg ⟨30, rfl⟩) (.cons (FR.arg ⟨30, rfl⟩) (.cons (FR.arg ⟨30, rfl⟩) .nil))))) (X.q rfl (GS.zA ?_))
 refine X.cond rfl (fun h_7 => ?_) (fun h_7 => ?_)
 ·replace hM := zZ h_7 hM
  refine X.sq (X.q rfl (X.q rfl ?_))
  refine GS.zA ?_
  cases hM
  exact GS.ret ⟨_, rfl, ⟨30, rfl⟩⟩
 replace hM := za h_7 hM
 refine GS.skip (X.sq (X.q rfl (X.q rfl ?_)))
 refine GS.zA (GS.seq ?_)
 refine X.join (τ := Int) (fun v => Qu v = some r) (fun v => ⟨[(12, (V.i v))], [], 0, none, 52⟩) ?_ ?_
 ·intro lo hM
  replace hM : Qu lo = some r := hM
  unfold Qu at hM
  refine X.sq (X.q rfl (X.q rfl (X.q rfl ?_)))
  refine GS.zA ?_
  cases hM
  exact GS.ret ⟨_, rfl, ⟨30, rfl⟩⟩
 intro hj_1
 refine GS.block ?_
 refine X.gc [some 0, some 2, some 1, some 3] (X.loop (σ := (Int × Int)) (fun v => ⟨[(11, (V.fn 61 [(V.ptr 0 0 0), (V.ptr 1 0 0), (V.ptr 2 0 0), (V.ptr 3 0 0)])), (12, (V.i v.1)), (13, (V.i v.2))], [.rows 6 [(zG h)], .rows 1 [(V.i long)], .rows 2 [(zC x)], .rows 2 [(zT y1.1)]], 0, none, 52⟩) hM ?_ rfl) rfl rfl rfl (ga rfl rfl) (gb9 rfl rfl rfl (gb9 rfl rfl rfl (gb9 rfl rfl rfl (gb9 rfl rfl rfl zL))))
 rintro ⟨lo2, hi1⟩ b_1 hM hc_2 hr_1
 rw [zCK] at hM
 refine GS.seq (X.sq (X.q rfl (X.q rfl (X.q rfl ?_))))
 refine GS.zA ?_
 refine X.cond rfl (fun h_8 => ?_) (fun h_8 => ?_)
 ·replace hM := zZ h_8 hM
  refine GS.skip ?_
  refine X.join (τ := Int × Int) (fun v => YU v.1 v.2 = some b_1) (fun v => ⟨[(11, (V.fn 61 [(V.ptr 0 0 0), (V.ptr 1 0 0), (V.ptr 2 0 0), (V.ptr 3 0 0)])), (12, (V.i v.1)), (13, (V.i v.2))], [.rows 6 [(zG h)], .rows 1 [(V.i long)], .rows 2 [(zC x)], .rows 2 [(zT y1.1)]], 0, none, 52⟩) ?_ ?_
  ·rintro ⟨lo1, hi⟩ hM
   replace hM : YU lo1 hi = some b_1 := hM
   unfold YU at hM
   have hE := Option.some.inj hM
   exact X.gc [some 0, some 1, some 2, some 3] (hc_2 (lo1, hi) hE.symm) rfl rfl rfl (ga rfl rfl) (gb9 rfl rfl rfl (gb9 rfl rfl rfl (gb9 rfl rfl rfl (gb9 rfl rfl rfl zL))))
  intro hj_3
  refine GS.block (GS.seq ?_)
  obtain ⟨q, h_9, hM⟩ := zH hM
  refine GS.region (X.q rfl (X.q rfl ?_))
  iterate 2 refine X.opR rfl (X.addE rfl rfl) rfl ?_
  refine X.opR rfl (X.quoE h_9 rfl rfl) rfl (X.q rfl (GS.zA (GS.seq ?_)))
  obtain ⟨y3, h_10, hM⟩ := zH hM
  refine GS.region (X.q rfl (X.q rfl ?_))
  refine X.zBd (zA1 h_10) rfl rfl rfl (m := 9) rfl (.cons (.shut (n := 9) rfl) (.cons (FR.arg ⟨30, rfl⟩) (.cons (FR.arg ⟨30, rfl⟩) (.cons (FR.arg ⟨30, rfl⟩) (.cons (FR.arg ⟨30, rfl⟩) .nil))))) (GS.zA ?_)
  refine X.cond rfl (fun h_11 => ?_) (fun h_11 => ?_)
  ·replace hM := zZ h_11 hM
   refine GS.region (X.q rfl (X.q rfl ?_))
   refine GS.zA ?_
   refine GS.endB ?_
   exact X.gc [some 0, some 1, some 2, some 3] (hj_3 (q, hi1) hM) rfl rfl rfl (ga rfl rfl) (gb9 rfl rfl rfl (gb9 rfl rfl rfl (gb9 rfl rfl rfl (gb9 rfl rfl rfl zL))))
  replace hM := za h_11 hM
  refine GS.region (X.q rfl ?_)
  refine X.opR rfl (X.subE rfl rfl) rfl (X.q rfl (GS.zA ?_))
  refine GS.endB ?_
  exact X.gc [some 0, some 1, some 2, some 3] (hj_3 (lo2, w64 (q - 1)) hM) rfl rfl rfl (ga rfl rfl) (gb9 rfl rfl rfl (gb9 rfl rfl rfl (gb9 rfl rfl rfl (gb9 rfl rfl rfl zL))))
 replace hM := za h_8 hM
 refine GS.exit rfl ?_
 obtain ⟨y_1, hM, hy⟩ := ZN hM
 rw [hr_1 _ hy.symm] at hM
 exact X.gc [] (hj_1 lo2 hM) rfl rfl rfl (ga rfl rfl) (zL)
theorem zFA (c : zM) : Ct Tryz.prog 55 [(zF c)] (V.i (Qq c)) := by
 refine ze ZK rfl ?_
 generalize hM : Qq c = r
 unfold Qq at hM
 refine X.sq ?_
 refine X.opW rfl rfl rfl rfl (X.q rfl (X.nq (X.q rfl (X.q rfl (X.q rfl ?_)))))
 refine GS.zA ?_
 subst hM
 exact GS.ret ⟨_, rfl, ⟨30, rfl⟩⟩
theorem YD (x : zM) (c : Int) : Ct Tryz.prog 97 [(zF x), (V.fptr [(V.fn 55 [])] 0 0), (V.fptr [(V.i c)] 0 0)] (V.b (Zq x c)) := by
 refine ze ZK rfl ?_
 generalize hM : Zq x c = r
 unfold Zq at hM
 refine X.sq ?_
 refine X.opW rfl rfl rfl rfl (X.q rfl (GS.zA (GS.seq ?_)))
 refine X.drawc (by kernel_rfl) rfl ?_
 iterate 2 refine X.cop rfl rfl rfl rfl ?_
 refine X.ccall (zFA x) rfl rfl rfl rfl (.cons (.shut (n := 9) rfl) .nil) ?_
 iterate 3 refine X.cop rfl rfl rfl rfl ?_
 refine X.cnil ?_
 refine X.norm [(4, (V.b (decide ((Qq x) = c))))] ?_ rfl (sr rfl)
 subst hM
 exact GS.ret ⟨_, rfl, ⟨30, rfl⟩⟩
theorem jK {s : (List zM)} {c : Int} {r : Int} (hM : zy s c = some r) : Ct Tryz.prog 96 [(V.sl (List.map zF s)), (V.fn 97 [(V.fptr [(V.fn 55 [])] 0 0), (V.fptr [(V.i c)] 0 0)])] (V.i r) := by
 refine ze ZK rfl ?_
 unfold zy at hM
 refine X.sq (X.q rfl (GS.zA (GS.seq (X.sq (X.q rfl ?_)))))
 refine X.opR rfl (X.lenF rfl rfl rfl) rfl (X.q rfl (GS.zA ?_))
 refine X.join (τ := Unit) (fun v => zt = some r) (fun v => ⟨[], [], 0, none, 19⟩) ?_ ?_
 ·intro _ hM
  replace hM : zt = some r := hM
  unfold zt at hM
  refine X.sq (X.q rfl (GS.zA ?_))
  cases hM
  exact GS.ret ⟨_, rfl, ⟨30, rfl⟩⟩
 intro hj_1
 refine GS.block ?_
 refine X.gc [] (X.loop (σ := Int) (fun v => ⟨[(0, (V.sl (List.map zF s))), (1, (V.fn 97 [(V.fptr [(V.fn 55 [])] 0 0), (V.fptr [(V.i c)] 0 0)])), (7, (V.i (s.length : Int))), (8, (V.i v))], [], 0, none, 19⟩) hM ?_ rfl) rfl rfl rfl (ga rfl rfl) (zL)
 intro x1 b_1 hM hc_2 hr_1
 rw [zm] at hM
 refine X.sq (X.q rfl (GS.zA (GS.seq ?_)))
 refine X.cond rfl (fun h_1 => ?_) (fun h_1 => ?_)
 ·replace hM := zZ h_1 hM
  refine GS.skip (GS.seq (GS.block (X.sq (X.q rfl (X.q rfl ?_)))))
  refine GS.zA (GS.seq ?_)
  obtain ⟨x, h_2, hM⟩ := zH hM
  refine GS.region (X.q rfl (X.q rfl (X.q rfl ?_)))
  refine X.opR rfl (X.ZC (f := zF) h_2 (fun _ => rfl) rfl rfl rfl rfl) rfl ?_
  refine X.opR rfl (X.ZS h_2 rfl rfl rfl) rfl ?_
  refine X.call (YD x c) rfl rfl rfl (.cons (.shut (n := 9) rfl) (.cons (.shut (n := 9) rfl) (.cons (.shut (n := 9) rfl) .nil))) (GS.zA ?_)
  refine X.cond rfl (fun h_3 => ?_) (fun h_3 => ?_)
  ·replace hM := zZ h_3 hM
   refine X.sq (X.q rfl (X.q rfl ?_))
   refine GS.zA ?_
   have hE := Option.some.inj hM
   replace hE := hr_1 _ hE.symm
   subst hE
   exact GS.ret ⟨_, rfl, ⟨30, rfl⟩⟩
  replace hM := za h_3 hM
  refine GS.skip ?_
  refine GS.endB (GS.region ?_)
  refine X.opR rfl (X.addE rfl rfl) rfl (X.q rfl (GS.zA ?_))
  have hE := Option.some.inj hM
  exact X.gc [] (hc_2 (w64 (x1 + 1)) hE.symm) rfl rfl rfl (ga rfl rfl) (zL)
 replace hM := za h_1 hM
 refine GS.exit rfl ?_
 obtain ⟨y_1, hM, hy⟩ := ZN hM
 rw [hr_1 _ hy.symm] at hM
 exact X.gc [] (hj_1 () hM) rfl rfl rfl (Jq) (zL)
theorem Zn {l : (List zM)} {id : Int} {r : Int} (hM : zv l id = some r) : Ct Tryz.prog 54 [(V.sl (List.map zF l)), (V.i id), (V.fn 55 [])] (V.i r) := by
 refine ze ZK rfl ?_
 unfold zv at hM
 refine X.sq ?_
 iterate 2 refine X.opW rfl rfl rfl rfl ?_
 refine X.q rfl (GS.zA (GS.seq ?_))
 obtain ⟨y, h_1, hM⟩ := zH hM
 refine GS.region (X.q rfl (X.q rfl ?_))
 refine X.zBd (jK h_1) rfl rfl rfl (m := 9) rfl (.cons (.shut (n := 9) rfl) (.cons (FR.arg ⟨30, rfl⟩) .nil)) (X.q rfl (GS.zA ?_))
 cases hM
 exact GS.ret ⟨_, rfl, ⟨30, rfl⟩⟩
theorem ja {h : zK} {l : (List zM)} {r : Int} (hM : Zh h l = some r) : Ct Tryz.prog 15 [(zG h), (V.sl (List.map zF l))] (V.i r) := by
 refine ze ZK rfl ?_
 unfold Zh at hM
 refine X.sq ?_
 refine X.opW rfl rfl rfl rfl (X.q rfl (GS.zA ?_))
 iterate 2 refine GS.seq ?_
 obtain ⟨y, h_1, hM⟩ := zH hM
 refine GS.region (X.q rfl ?_)
 refine X.call (YJ h_1) rfl rfl rfl (.cons (.shut (n := 9) rfl) .nil) (X.q rfl (X.nq (X.q rfl (X.q rfl ?_))))
 refine GS.zA ?_
 refine X.cond rfl (fun h_2 => ?_) (fun h_2 => ?_)
 ·replace hM := zZ h_2 hM
  refine X.sq (X.q rfl (X.q rfl ?_))
  refine GS.zA ?_
  cases hM
  exact GS.ret ⟨_, rfl, ⟨30, rfl⟩⟩
 replace hM := za h_2 hM
 refine GS.skip (GS.seq (X.sq (X.q rfl ?_)))
 refine X.opR rfl (X.lenF rfl rfl rfl) rfl (X.q rfl (GS.zA ?_))
 refine X.cond rfl (fun h_3 => ?_) (fun h_3 => ?_)
 ·replace hM := zZ h_3 hM
  refine X.sq (X.q rfl (GS.zA ?_))
  cases hM
  exact GS.ret ⟨_, rfl, ⟨30, rfl⟩⟩
 replace hM := za h_3 hM
 refine GS.skip (GS.seq (X.sq (X.q rfl ?_)))
 refine X.opR rfl (X.lenF rfl rfl rfl) rfl (X.q rfl (GS.zA ?_))
 refine X.join (τ := Unit) (fun v => J1 = some r) (fun v => ⟨[], [], 0, none, 33⟩) ?_ ?_
 ·intro _ hM
  replace hM : J1 = some r := hM
  unfold J1 at hM
  refine X.sq (X.q rfl (GS.zA ?_))
  cases hM
  exact GS.ret ⟨_, rfl, ⟨30, rfl⟩⟩
 intro hj_1
 refine GS.block ?_
 refine X.gc [] (X.loop (σ := Int) (fun v => ⟨[(1, (V.sl (List.map zF l))), (16, (V.sl (List.map zF l))), (17, (V.i (l.length : Int))), (18, (V.i v))], [], 0, none, 33⟩) hM ?_ rfl) rfl rfl rfl (ga rfl rfl) (zL)
 intro x1 b_1 hM hc_2 hr_1
 rw [J2] at hM
 refine X.sq (X.q rfl (GS.zA (GS.seq ?_)))
 refine X.cond rfl (fun h_4 => ?_) (fun h_4 => ?_)
 ·replace hM := zZ h_4 hM
  refine GS.skip (GS.seq (GS.block (GS.seq ?_)))
  obtain ⟨x, h_5, hM⟩ := zH hM
  refine GS.region (X.q rfl ?_)
  refine X.opR rfl (X.ZC (f := zF) h_5 (fun _ => rfl) rfl rfl rfl rfl) rfl ?_
  refine X.opR rfl (X.ZS h_5 rfl rfl rfl) rfl ?_
  refine X.opW rfl rfl rfl rfl (X.q rfl ?_)
  refine X.op0W rfl rfl rfl (GS.zA (GS.seq (X.sq (X.q rfl ?_))))
  refine X.call (zBx x) rfl rfl rfl (.cons (.shut (n := 9) rfl) .nil) (X.q rfl (GS.zA ?_))
  refine X.cond rfl (fun h_6 => ?_) (fun h_6 => ?_)
  ·replace hM := zZ h_6 hM
   refine X.sq (X.q rfl (GS.zA ?_))
   have hE := Option.some.inj hM
   replace hE := hr_1 _ hE.symm
   subst hE
   exact GS.ret ⟨_, rfl, ⟨30, rfl⟩⟩
  replace hM := za h_6 hM
  refine GS.skip (GS.seq ?_)
  obtain ⟨y1, h_7, hM⟩ := zH hM
  refine GS.region (X.q rfl (X.q rfl (X.q rfl ?_)))
  refine X.call (Zn h_7) rfl rfl rfl (.cons (.shut (n := 9) rfl) (.cons (.shut (n := 9) rfl) (.cons (.shut (n := 9) rfl) .nil))) (X.q rfl (X.q rfl ?_))
  refine GS.zA ?_
  refine X.cond rfl (fun h_8 => ?_) (fun h_8 => ?_)
  ·replace hM := zZ h_8 hM
   refine X.sq (X.q rfl (GS.zA ?_))
   have hE := Option.some.inj hM
   replace hE := hr_1 _ hE.symm
   subst hE
   exact GS.ret ⟨_, rfl, ⟨30, rfl⟩⟩
  replace hM := za h_8 hM
  refine GS.skip ?_
  refine GS.endB (GS.region ?_)
  refine X.opR rfl (X.addE rfl rfl) rfl (X.q rfl (GS.zA ?_))
  have hE := Option.some.inj hM
  exact X.gc [] (hc_2 (w64 (x1 + 1)) hE.symm) rfl rfl rfl (ga rfl rfl) (zL)
 replace hM := za h_4 hM
 refine GS.exit rfl ?_
 obtain ⟨y_1, hM, hy⟩ := ZN hM
 rw [hr_1 _ hy.symm] at hM
 exact X.gc [] (hj_1 () hM) rfl rfl rfl (Jq) (zL)
theorem zAJ (h : zK) : Ct Tryz.prog 99 [(zG h)] (V.fn 120 [(V.fptr [(zG (zV h))] 0 0)]) := by
 refine ze ZK rfl ?_
 generalize hM : zV h = r
 unfold zV at hM
 refine X.sq ?_
 refine X.opW rfl rfl rfl rfl (X.q rfl (X.nq (X.q rfl (X.q rfl ?_))))
 refine GS.zA ?_
 subst hM
 exact GS.ret ⟨_, rfl, ⟨30, rfl⟩⟩
theorem Ji (a b : zE) : qj (zC a) (zC b) = some (decide (a = b)) := by
 have h : qj (zC a) (zC b) = some (decide ([(IntKind.i64, a.Tide), (IntKind.i64, a.Berth)] = [(IntKind.i64, b.Tide), (IntKind.i64, b.Berth)])) := rfl
 rw [h]
 congr 1
 cases a
 cases b
 simp
set_option maxHeartbeats 4000000 in
theorem zBw {h : zK} {c : zM} {r : (List zE) × (List (zE × zD))} (hM : QW h c = some r) : Ct Tryz.prog 62 [(zG h), (zF c)] (V.tup [(V.sl (List.map zC r.1)), (V.fmap (List.map (fun p : zE × zD => zC p.1) r.2) (List.map (fun p : zE × zD => zI p.2) r.2))]) := by
 refine ze ZK rfl ?_
 unfold QW at hM
 refine X.sq ?_
 iterate 2 refine X.opW rfl rfl rfl rfl ?_
 refine X.q rfl (X.q rfl ?_)
 refine X.nq ?_
 refine X.opW rfl rfl rfl rfl (X.nq ?_)
 refine X.opW (H' := [.rows 6 [(zG h)], .rows 5 [(zF c)], .rows 1 [V.nil], .map (List.map (fun p : zE × zD => zC p.1) []) (List.map (fun p : zE × zD => zI p.2) [])]) rfl rfl rfl rfl ?_
 refine X.opW (H' := [.rows 6 [(zG h)], .rows 5 [(zF c)], .rows 1 [V.nil], .map (List.map (fun p : zE × zD => zC p.1) []) (List.map (fun p : zE × zD => zI p.2) []), .rows 1 [(V.lit (.map none))]]) rfl rfl rfl rfl ?_
 refine X.op0W (H' := [.rows 6 [(zG h)], .rows 5 [(zF c)], .rows 1 [V.nil], .map (List.map (fun p : zE × zD => zC p.1) []) (List.map (fun p : zE × zD => zI p.2) []), .rows 1 [(V.map 3)]]) rfl rfl rfl (GS.zA (GS.seq (X.sq (X.q rfl ?_))))
 refine X.call (zAJ h) rfl rfl rfl (.cons (.shut (n := 9) rfl) .nil) (GS.zA (GS.block ?_))
 refine X.gc [some 0, some 1, some 2, some 4, some 3] (H' := [.rows 6 [(zG h)], .rows 5 [(zF c)], .rows 1 [V.nil], .rows 1 [(V.map 4)], .map (List.map (fun p : zE × zD => zC p.1) []) (List.map (fun p : zE × zD => zI p.2) [])]) (K' := [(2, (V.ptr 0 0 0)), (3, (V.ptr 1 0 0)), (6, (V.ptr 2 0 0)), (7, (V.ptr 3 0 0)), (14, (V.fn 120 [(V.fptr [(zG (zV h))] 0 0)]))]) ?_ rfl rfl rfl (ga rfl rfl) (gb9 rfl rfl rfl (gb9 rfl rfl rfl (gb9 rfl rfl rfl (gb9 rfl rfl rfl (X.ZQ 9 rfl rfl (fun _ => rfl) (fun _ => rfl) zL)))))
 refine X.range rfl rfl (jb ⟨9, rfl⟩ (jb ⟨9, rfl⟩ (jb ⟨9, rfl⟩ (jb ⟨9, rfl⟩ (jb ⟨9, rfl⟩ zDd))))) rfl ?_
 intro R_1 hrn_1 hrK_1 hrp_1 hra_1 hrb_1 hlow_1
 refine X.sq (X.q rfl (X.q rfl ?_))
 refine X.opR rfl (X.lenF rfl rfl rfl) rfl (X.q rfl (GS.zA (GS.block ?_)))
 refine X.gc [none] (X.loop (σ := (Int × (List zE) × (List (zE × zD)))) (fun v => ⟨[(0, (V.yld 5)), (1, (V.fptr [(zG (zV h))] 0 0)), (8, (V.i (((zV h).Tides).length : Int))), (9, (V.i v.1))], [.rows 6 [(zG h)], .rows 5 [(zF c)], .rows 1 [(ovl 6 v.2.1)], .rows 1 [(V.map 4)], .map (List.map (fun p : zE × zD => zC p.1) v.2.2) (List.map (fun p : zE × zD => zI p.2) v.2.2), lr R_1 .ready none, obl 2 zC v.2.1], 0, none, 29⟩) hM ?_ rfl) rfl rfl rfl (ga rfl rfl) (gb9 rfl rfl rfl (gb9 rfl rfl rfl (gb9 rfl rfl rfl (gb9 rfl rfl rfl (X.ZQ 9 rfl rfl (fun _ => rfl) (fun _ => rfl) (jW hlow_1 rfl rfl rfl (gb_pad' rfl zL)))))))
 rintro ⟨x2, l2, m1⟩ b_1 hM hc_1 hr_1
 rw [Qo] at hM
 refine X.sq (X.q rfl (GS.zA (GS.seq ?_)))
 refine X.cond rfl (fun h_2 => ?_) (fun h_2 => ?_)
 ·replace hM := zZ h_2 hM
  refine GS.skip (GS.seq (GS.block (X.sq (X.q rfl (X.q rfl ?_)))))
  refine X.nq (X.q rfl (X.q rfl ?_))
  refine X.opR rfl (X.lenF rfl rfl rfl) rfl (X.q rfl (GS.zA ?_))
  refine X.join (τ := (List zE) × (List (zE × zD))) (fun v => YM x2 v.1 v.2 = some b_1) (fun v => ⟨[(0, (V.yld 5)), (1, (V.fptr [(zG (zV h))] 0 0)), (8, (V.i (((zV h).Tides).length : Int))), (9, (V.i x2))], [.rows 6 [(zG h)], .rows 5 [(zF c)], .rows 1 [(ovl 6 v.1)], .rows 1 [(V.map 4)], .map (List.map (fun p : zE × zD => zC p.1) v.2) (List.map (fun p : zE × zD => zI p.2) v.2), lr R_1 .ready none, obl 2 zC v.1], 0, none, 29⟩) ?_ ?_
  ·rintro ⟨l, m⟩ hM
   replace hM : YM x2 l m = some b_1 := hM
   unfold YM at hM
   refine GS.endB (GS.region ?_)
   refine X.opR rfl (X.addE rfl rfl) rfl (X.q rfl (GS.zA ?_))
   have hE := Option.some.inj hM
   exact X.gc [some 6] (hc_1 (w64 (x2 + 1), l, m) hE.symm) rfl rfl rfl (ga rfl rfl) (gb9 rfl rfl rfl (gb9 rfl rfl rfl (Zs rfl rfl (zi rfl) (gb9 rfl rfl rfl (X.ZQ 9 rfl rfl (fun _ => rfl) (fun _ => rfl) (jW hlow_1 rfl rfl rfl (zk 9 rfl rfl (fun _ => rfl) zL)))))))
  intro hj_2
  refine GS.block ?_
  refine X.gc [some 6] (X.loop (σ := (Int × (List zE) × (List (zE × zD)))) (fun v => ⟨[(0, (V.yld 5)), (1, (V.fptr [(zG (zV h))] 0 0)), (3, (V.i x2)), (8, (V.i (((zV h).Tides).length : Int))), (9, (V.i x2)), (13, (V.sl (List.map zT ((zV h).Berths)))), (14, (V.i (((zV h).Berths).length : Int))), (15, (V.i v.1))], [.rows 6 [(zG h)], .rows 5 [(zF c)], .rows 1 [(ovl 6 v.2.1)], .rows 1 [(V.map 4)], .map (List.map (fun p : zE × zD => zC p.1) v.2.2) (List.map (fun p : zE × zD => zI p.2) v.2.2), lr R_1 .ready none, obl 2 zC v.2.1], 0, none, 29⟩) hM ?_ rfl) rfl rfl rfl (ga rfl rfl) (gb9 rfl rfl rfl (gb9 rfl rfl rfl (Zs rfl rfl (zi rfl) (gb9 rfl rfl rfl (X.ZQ 9 rfl rfl (fun _ => rfl) (fun _ => rfl) (jW hlow_1 rfl rfl rfl (zk 9 rfl rfl (fun _ => rfl) zL)))))))
  rintro ⟨x1, l3, m2⟩ b_2 hM hc_3 hr_2
  rw [YN] at hM
  refine X.sq (X.q rfl (GS.zA (GS.seq ?_)))
  refine X.cond rfl (fun h_3 => ?_) (fun h_3 => ?_)
  ·replace hM := zZ h_3 hM
   refine GS.skip (GS.seq (GS.block (GS.seq ?_)))
   obtain ⟨x, h_4, hM⟩ := zH hM
   refine GS.region ?_
   refine X.opR rfl (X.ZC (f := zT) h_4 (fun _ => rfl) rfl rfl rfl rfl) rfl ?_
   refine X.opR rfl (X.ZS h_4 rfl rfl rfl) rfl ?_
   refine X.opW (H' := [.rows 6 [(zG h)], .rows 5 [(zF c)], .rows 1 [(ovl 6 l3)], .rows 1 [(V.map 4)], .map (List.map (fun p : zE × zD => zC p.1) m2) (List.map (fun p : zE × zD => zI p.2) m2), lr R_1 .ready none, obl 2 zC l3, .rows 2 [(V.agg [(V.i 0), (V.i 0)])]]) rfl rfl rfl rfl ?_
   refine X.op0W (H' := [.rows 6 [(zG h)], .rows 5 [(zF c)], .rows 1 [(ovl 6 l3)], .rows 1 [(V.map 4)], .map (List.map (fun p : zE × zD => zC p.1) m2) (List.map (fun p : zE × zD => zI p.2) m2), lr R_1 .ready none, obl 2 zC l3, .rows 2 [(zT x)]]) rfl rfl rfl (X.nq ?_)
   iterate 6 refine X.q rfl ?_
   refine X.yld hrn_1 hrK_1 hrp_1 hra_1 hrb_1 rfl rfl rfl rfl rfl rfl (X.sq ?_)
   refine X.opW (H' := [.rows 6 [(zG h)], .rows 5 [(zF c)], .rows 1 [(ovl 6 l3)], .rows 1 [(V.map 4)], .map (List.map (fun p : zE × zD => zC p.1) m2) (List.map (fun p : zE × zD => zI p.2) m2), lr R_1 .ready none, obl 2 zC l3, .rows 2 [(zT x)], .rows 2 [(V.agg [(V.i 0), (V.i 0)])]]) rfl rfl rfl rfl ?_
   refine X.op0W (H' := [.rows 6 [(zG h)], .rows 5 [(zF c)], .rows 1 [(ovl 6 l3)], .rows 1 [(V.map 4)], .map (List.map (fun p : zE × zD => zC p.1) m2) (List.map (fun p : zE × zD => zI p.2) m2), lr R_1 .ready none, obl 2 zC l3, .rows 2 [(zT x)], .rows 2 [(V.agg [(V.i x2), (V.i x.ID)])]]) rfl rfl rfl (X.mq ?_)
   refine X.opW (H' := [.rows 6 [(zG h)], .rows 5 [(zF c)], .rows 1 [(ovl 6 l3)], .rows 1 [(V.map 4)], .map (List.map (fun p : zE × zD => zC p.1) m2) (List.map (fun p : zE × zD => zI p.2) m2), lr R_1 .ready none, obl 2 zC l3, .rows 2 [(zT x)], .rows 2 [(V.agg [(V.i x2), (V.i x.ID)])], .rows 2 [(V.agg [(V.i 0), (V.i 0)])]]) rfl rfl rfl rfl ?_
   refine X.op0W (H' := [.rows 6 [(zG h)], .rows 5 [(zF c)], .rows 1 [(ovl 6 l3)], .rows 1 [(V.map 4)], .map (List.map (fun p : zE × zD => zC p.1) m2) (List.map (fun p : zE × zD => zI p.2) m2), lr R_1 .ready none, obl 2 zC l3, .rows 2 [(zT x)], .rows 2 [(V.agg [(V.i x2), (V.i x.ID)])], .rows 2 [(zT x)]]) rfl rfl rfl (GS.zA ?_)
   refine GS.nil (X.begin' rfl rfl ?_ rfl)
   refine GS.block (GS.seq ?_)
   obtain ⟨y, h_5, hM⟩ := zH hM
   refine GS.region ?_
   iterate 4 refine X.q rfl ?_
   refine X.call (qD h_5) rfl rfl rfl (.cons (.shut (n := 9) rfl) (.cons (.shut (n := 9) rfl) (.cons (.shut (n := 9) rfl) (.cons (.shut (n := 9) rfl) .nil)))) (X.q rfl (X.q rfl (X.q rfl ?_)))
   refine X.opW (H' := [.rows 6 [(zG h)], .rows 5 [(zF c)], .rows 1 [(ovl 6 l3)], .rows 1 [(V.map 4)], .map (List.map (fun p : zE × zD => zC p.1) m2) (List.map (fun p : zE × zD => zI p.2) m2), lr R_1 .busy none, obl 2 zC l3, .rows 2 [(zT x)], .rows 2 [(V.agg [(V.i x2), (V.i x.ID)])], .rows 2 [(zT x)], .rows 2 [(V.agg [(V.i 0), (V.i 0)])]]) rfl rfl rfl rfl ?_
   refine X.op0W (H' := [.rows 6 [(zG h)], .rows 5 [(zF c)], .rows 1 [(ovl 6 l3)], .rows 1 [(V.map 4)], .map (List.map (fun p : zE × zD => zC p.1) m2) (List.map (fun p : zE × zD => zI p.2) m2), lr R_1 .busy none, obl 2 zC l3, .rows 2 [(zT x)], .rows 2 [(V.agg [(V.i x2), (V.i x.ID)])], .rows 2 [(zT x)], .rows 2 [(zI y.1)]]) rfl rfl rfl ?_
   refine X.q rfl (X.nq (X.q rfl (GS.zA ?_)))
   refine X.cond rfl (fun h_6 => ?_) (fun h_6 => ?_)
   ·replace hM := zZ h_6 hM
    refine GS.seq ?_
    obtain ⟨l1, h_7, hM⟩ := zH hM
    refine GS.region ?_
    refine X.opR rfl (v := (ovl 6 l3)) (by rcases X.YG (z := true) 6 l3 with h0 | ⟨n0, h0⟩ <;> simp only [h0] <;> rfl) rfl (X.q rfl ?_)
    refine X.opW (H' := [.rows 6 [(zG h)], .rows 5 [(zF c)], .rows 1 [(ovl 6 l3)], .rows 1 [(V.map 4)], .map (List.map (fun p : zE × zD => zC p.1) m2) (List.map (fun p : zE × zD => zI p.2) m2), lr R_1 .busy none, obl 2 zC l3, .rows 2 [(zT x)], .rows 2 [(V.agg [(V.i x2), (V.i x.ID)])], .rows 2 [(zT x)], .rows 2 [(zI y.1)], .rows 2 (List.map zC ([(⟨x2, x.ID⟩ : zE)]))]) rfl rfl rfl rfl ?_
    refine X.appN (f := zC) h_7 (fun _ => rfl) (by rfl) (by rfl) (by rfl) (by rfl) (by rfl) (by rfl) (by rfl) (by rfl) (by rfl) (by rfl) (by rfl) (by exact rfl) (by rfl) (by rfl) ?_
    refine X.op0W (H' := [.rows 6 [(zG h)], .rows 5 [(zF c)], .rows 1 [(V.osl 12 0 (List.length l1))], .rows 1 [(V.map 4)], .map (List.map (fun p : zE × zD => zC p.1) m2) (List.map (fun p : zE × zD => zI p.2) m2), lr R_1 .busy none, .dead, .rows 2 [(zT x)], .rows 2 [(V.agg [(V.i x2), (V.i x.ID)])], .rows 2 [(zT x)], .rows 2 [(zI y.1)], .rows 2 (List.map zC ([(⟨x2, x.ID⟩ : zE)])), .rows 2 (List.map zC l1)]) rfl (v := jI) (wr := [(2, .rows 1 [(V.osl 12 0 (List.length l1))])]) (by rcases X.YG (z := true) 6 l3 with h0 | ⟨n0, h0⟩ <;> simp only [h0] <;> rfl) rfl (X.mq ?_)
    iterate 3 refine X.q rfl ?_
    refine X.op0W (H' := [.rows 6 [(zG h)], .rows 5 [(zF c)], .rows 1 [(V.osl 12 0 (List.length l1))], .rows 1 [(V.map 4)], .map (List.map (fun p : zE × zD => zC p.1) (putM posE m2 (⟨x2, x.ID⟩ : zE) y.1)) (List.map (fun p : zE × zD => zI p.2) (putM posE m2 (⟨x2, x.ID⟩ : zE) y.1)), lr R_1 .busy none, .dead, .rows 2 [(zT x)], .rows 2 [(V.agg [(V.i x2), (V.i x.ID)])], .rows 2 [(zT x)], .rows 2 [(zI y.1)], .rows 2 (List.map zC ([(⟨x2, x.ID⟩ : zE)])), .rows 2 (List.map zC l1)]) rfl (X.putW (f := zC) (g := zI) (pos := posE) (k := (⟨x2, x.ID⟩ : zE)) (v := y.1) (l := m2) Ji (fun l => (X.zHD _ _).trans (List.length_map ..)) rfl rfl rfl rfl rfl rfl rfl) rfl (GS.zA ?_)
    refine GS.endB ?_
    refine GS.nil ⟨_, rfl, ?_⟩
    refine X.norm (H' := [.rows 6 [(zG h)], .rows 5 [(zF c)], .rows 1 [(V.osl 12 0 (List.length l1))], .rows 1 [(V.map 4)], .map (List.map (fun p : zE × zD => zC p.1) (putM posE m2 (⟨x2, x.ID⟩ : zE) y.1)) (List.map (fun p : zE × zD => zI p.2) (putM posE m2 (⟨x2, x.ID⟩ : zE) y.1)), lr R_1 .ready none, .dead, .rows 2 [(zT x)], .rows 2 [(V.agg [(V.i x2), (V.i x.ID)])], .rows 2 [(zT x)], .rows 2 [(zI y.1)], .rows 2 (List.map zC ([(⟨x2, x.ID⟩ : zE)])), .rows 2 (List.map zC l1)]) [(0, (V.yld 5)), (1, (V.fptr [(zG (zV h))] 0 0)), (3, (V.i x2)), (8, (V.i (((zV h).Tides).length : Int))), (9, (V.i x2)), (13, (V.sl (List.map zT ((zV h).Berths)))), (14, (V.i (((zV h).Berths).length : Int))), (15, (V.i x1)), (25, (V.b true))] ?_ rfl (sr rfl)
    refine X.q rfl (GS.zA ?_)
    refine GS.ql rfl (GS.skip ?_)
    refine GS.endB (GS.region ?_)
    refine X.opR rfl (X.addE rfl rfl) rfl (X.q rfl (GS.zA ?_))
    have hE := Option.some.inj hM
    exact X.gc [some 12] (hc_3 (w64 (x1 + 1), l1, (putM posE m2 (⟨x2, x.ID⟩ : zE) y.1)) hE.symm) rfl rfl rfl (ga rfl rfl) (gb9 rfl rfl rfl (gb9 rfl rfl rfl (Zs rfl rfl (qh (jH h_7) rfl) (gb9 rfl rfl rfl (X.ZQ 9 rfl rfl (fun _ => rfl) (fun _ => rfl) (jW hlow_1 rfl rfl rfl (gb_obl' 9 (jH h_7) rfl rfl (fun _ => rfl) zL)))))))
   replace hM := za h_6 hM
   refine GS.skip ?_
   refine GS.endB ?_
   refine GS.nil ⟨_, rfl, ?_⟩
   refine X.norm (H' := [.rows 6 [(zG h)], .rows 5 [(zF c)], .rows 1 [(ovl 6 l3)], .rows 1 [(V.map 4)], .map (List.map (fun p : zE × zD => zC p.1) m2) (List.map (fun p : zE × zD => zI p.2) m2), lr R_1 .ready none, obl 2 zC l3, .rows 2 [(zT x)], .rows 2 [(V.agg [(V.i x2), (V.i x.ID)])], .rows 2 [(zT x)], .rows 2 [(zI y.1)]]) [(0, (V.yld 5)), (1, (V.fptr [(zG (zV h))] 0 0)), (3, (V.i x2)), (8, (V.i (((zV h).Tides).length : Int))), (9, (V.i x2)), (13, (V.sl (List.map zT ((zV h).Berths)))), (14, (V.i (((zV h).Berths).length : Int))), (15, (V.i x1)), (25, (V.b true))] ?_ rfl (sr rfl)
   refine X.q rfl (GS.zA ?_)
   refine GS.ql rfl (GS.skip ?_)
   refine GS.endB (GS.region ?_)
   refine X.opR rfl (X.addE rfl rfl) rfl (X.q rfl (GS.zA ?_))
   have hE := Option.some.inj hM
   exact X.gc [some 6] (hc_3 (w64 (x1 + 1), l3, m2) hE.symm) rfl rfl rfl (ga rfl rfl) (gb9 rfl rfl rfl (gb9 rfl rfl rfl (Zs rfl rfl (zi rfl) (gb9 rfl rfl rfl (X.ZQ 9 rfl rfl (fun _ => rfl) (fun _ => rfl) (jW hlow_1 rfl rfl rfl (zk 9 rfl rfl (fun _ => rfl) zL)))))))
  replace hM := za h_3 hM
  refine GS.exit rfl ?_
  obtain ⟨y_2, hM, hy⟩ := ZN hM
  rw [hr_2 _ hy.symm] at hM
  exact X.gc [some 6] (hj_2 (l3, m2) hM) rfl rfl rfl (ga rfl rfl) (gb9 rfl rfl rfl (gb9 rfl rfl rfl (Zs rfl rfl (zi rfl) (gb9 rfl rfl rfl (X.ZQ 9 rfl rfl (fun _ => rfl) (fun _ => rfl) (jW hlow_1 rfl rfl rfl (zk 9 rfl rfl (fun _ => rfl) zL)))))))
 replace hM := za h_2 hM
 refine GS.exit rfl ?_
 refine GS.nil ⟨_, _, rfl, rfl, ?_⟩
 refine X.norm (H' := [.rows 6 [(zG h)], .rows 5 [(zF c)], .rows 1 [(ovl 6 l2)], .rows 1 [(V.map 4)], .map (List.map (fun p : zE × zD => zC p.1) m1) (List.map (fun p : zE × zD => zI p.2) m1), .dead, obl 2 zC l2]) [(2, (V.ptr 0 0 0)), (3, (V.ptr 1 0 0)), (6, (V.ptr 2 0 0)), (7, (V.ptr 3 0 0)), (14, (V.fn 120 [(V.fptr [(zG (zV h))] 0 0)]))] ?_ rfl (sr rfl)
 refine GS.endB (GS.seq ?_)
 refine X.drawc (by kernel_rfl) rfl ?_
 refine X.cop rfl (v := (ovl 6 l2)) (by rcases X.YG (z := true) 6 l2 with h0 | ⟨n0, h0⟩ <;> simp only [h0] <;> rfl) rfl rfl ?_
 iterate 3 refine X.cop rfl rfl rfl rfl ?_
 refine X.cnil ?_
 refine X.norm [(4, (ovl 6 l2)), (5, (V.map 4))] ?_ rfl (sr rfl)
 have hE := Option.some.inj hM
 replace hE := hr_1 _ hE.symm
 subst hE
 exact GS.ret ⟨_, rfl, FR.tup (.cons (FR.ovl (f := zC) (l := l2) 9 rfl rfl (fun _ => rfl)) (.cons (X.frMap (f := zC) (g := zI) (pa := fun p => p.1) (pb := fun p => p.2) (l := m1) 9 rfl rfl (fun _ => rfl) (fun _ => rfl)) .nil))⟩
abbrev zS (x : zJ) : V := .agg [(V.sl (List.map zF x.calls)), (V.sl (List.map zC x.slots)), (V.sl (List.map (fun l => V.fmap (List.map (fun p => zC p.1) l) (List.map (fun p => zI p.2) l)) x.can)), (V.sl (List.map V.i x.old))]
set_option maxHeartbeats 4000000 in
theorem qE {h : zK} {l : (List zM)} {r : zJ} (hM : Js h l = some r) : Ct Tryz.prog 64 [(zG h), (V.sl (List.map zF l))] (V.fptr [(zS r)] 0 0) := by
 refine ze ZK rfl ?_
 unfold Js at hM
 refine X.sq ?_
 refine X.opW rfl rfl rfl rfl (X.q rfl (X.nq (X.q rfl (X.q rfl ?_))))
 iterate 2 refine X.opW rfl rfl rfl rfl ?_
 refine X.op0W rfl rfl rfl (GS.zA (GS.seq (X.sq (X.q rfl ?_))))
 refine X.call (zAJ h) rfl rfl rfl (.cons (.shut (n := 9) rfl) .nil) (GS.zA (GS.block ?_))
 refine X.gc [some 0, some 2, some 1] (H' := [.rows 6 [(zG h)], .rows 1 [(V.ptr 2 0 0)], .rows 4 [(V.agg [(V.sl (List.map zF l)), V.nil, V.nil, V.nil])]]) (K' := [(1, (V.sl (List.map zF l))), (2, (V.ptr 0 0 0)), (5, (V.ptr 1 0 0)), (15, (V.fn 120 [(V.fptr [(zG (zV h))] 0 0)]))]) ?_ rfl rfl rfl (ga rfl rfl) (gb9 rfl rfl rfl (gb9 rfl rfl rfl (gb9 rfl rfl rfl zL)))
 refine X.range rfl rfl (jb ⟨9, rfl⟩ (jb ⟨9, rfl⟩ (jb ⟨9, rfl⟩ (jb ⟨9, rfl⟩ zDd)))) rfl ?_
 intro R_1 hrn_1 hrK_1 hrp_1 hra_1 hrb_1 hlow_1
 refine X.sq (X.q rfl (X.q rfl ?_))
 refine X.opR rfl (X.lenF rfl rfl rfl) rfl (X.q rfl (GS.zA (GS.block ?_)))
 refine X.gc [none] (X.loop (σ := (Int × (List zE))) (fun v => ⟨[(0, (V.yld 3)), (1, (V.fptr [(zG (zV h))] 0 0)), (8, (V.i (((zV h).Tides).length : Int))), (9, (V.i v.1))], [.rows 6 [(zG h)], .rows 1 [(V.ptr 2 0 0)], .rows 4 [(V.agg [(V.sl (List.map zF l)), (ovl 4 v.2), V.nil, V.nil])], lr R_1 .ready none, obl 2 zC v.2], 0, none, 29⟩) hM ?_ rfl) rfl rfl rfl (ga rfl rfl) (gb9 rfl rfl rfl (gb9 rfl rfl rfl (gb9 rfl rfl rfl (jW hlow_1 rfl rfl rfl (gb_pad' rfl zL)))))
 rintro ⟨x4, l10⟩ b_1 hM hc_1 hr_1
 rw [qI] at hM
 refine X.sq (X.q rfl (GS.zA (GS.seq ?_)))
 refine X.cond rfl (fun h_2 => ?_) (fun h_2 => ?_)
 ·replace hM := zZ h_2 hM
  refine GS.skip (GS.seq (GS.block (X.sq (X.q rfl (X.q rfl ?_)))))
  refine X.nq (X.q rfl (X.q rfl ?_))
  refine X.opR rfl (X.lenF rfl rfl rfl) rfl (X.q rfl (GS.zA ?_))
  refine X.join (τ := (List zE)) (fun v => Y3 x4 v = some b_1) (fun v => ⟨[(0, (V.yld 3)), (1, (V.fptr [(zG (zV h))] 0 0)), (8, (V.i (((zV h).Tides).length : Int))), (9, (V.i x4))], [.rows 6 [(zG h)], .rows 1 [(V.ptr 2 0 0)], .rows 4 [(V.agg [(V.sl (List.map zF l)), (ovl 4 v), V.nil, V.nil])], lr R_1 .ready none, obl 2 zC v], 0, none, 29⟩) ?_ ?_
  ·intro l1 hM
   replace hM : Y3 x4 l1 = some b_1 := hM
   unfold Y3 at hM
   refine GS.endB (GS.region ?_)
   refine X.opR rfl (X.addE rfl rfl) rfl (X.q rfl (GS.zA ?_))
   have hE := Option.some.inj hM
   exact X.gc [some 4] (hc_1 (w64 (x4 + 1), l1) hE.symm) rfl rfl rfl (ga rfl rfl) (gb9 rfl rfl rfl (gb9 rfl rfl rfl (Zs rfl rfl (jV (.cons ⟨9, rfl⟩ (.cons (zi rfl) (.cons ⟨9, rfl⟩ (.cons ⟨9, rfl⟩ .nil))))) (jW hlow_1 rfl rfl rfl (zk 9 rfl rfl (fun _ => rfl) zL)))))
  intro hj_2
  refine GS.block ?_
  refine X.gc [some 4] (X.loop (σ := (Int × (List zE))) (fun v => ⟨[(0, (V.yld 3)), (1, (V.fptr [(zG (zV h))] 0 0)), (3, (V.i x4)), (8, (V.i (((zV h).Tides).length : Int))), (9, (V.i x4)), (13, (V.sl (List.map zT ((zV h).Berths)))), (14, (V.i (((zV h).Berths).length : Int))), (15, (V.i v.1))], [.rows 6 [(zG h)], .rows 1 [(V.ptr 2 0 0)], .rows 4 [(V.agg [(V.sl (List.map zF l)), (ovl 4 v.2), V.nil, V.nil])], lr R_1 .ready none, obl 2 zC v.2], 0, none, 29⟩) hM ?_ rfl) rfl rfl rfl (ga rfl rfl) (gb9 rfl rfl rfl (gb9 rfl rfl rfl (Zs rfl rfl (jV (.cons ⟨9, rfl⟩ (.cons (zi rfl) (.cons ⟨9, rfl⟩ (.cons ⟨9, rfl⟩ .nil))))) (jW hlow_1 rfl rfl rfl (zk 9 rfl rfl (fun _ => rfl) zL)))))
  rintro ⟨x1, l3⟩ b_2 hM hc_3 hr_2
  rw [Y4] at hM
  refine X.sq (X.q rfl (GS.zA (GS.seq ?_)))
  refine X.cond rfl (fun h_3 => ?_) (fun h_3 => ?_)
  ·replace hM := zZ h_3 hM
   refine GS.skip (GS.seq (GS.block (GS.seq ?_)))
   obtain ⟨x, h_4, hM⟩ := zH hM
   refine GS.region ?_
   refine X.opR rfl (X.ZC (f := zT) h_4 (fun _ => rfl) rfl rfl rfl rfl) rfl ?_
   refine X.opR rfl (X.ZS h_4 rfl rfl rfl) rfl ?_
   refine X.opW (H' := [.rows 6 [(zG h)], .rows 1 [(V.ptr 2 0 0)], .rows 4 [(V.agg [(V.sl (List.map zF l)), (ovl 4 l3), V.nil, V.nil])], lr R_1 .ready none, obl 2 zC l3, .rows 2 [(V.agg [(V.i 0), (V.i 0)])]]) rfl rfl rfl rfl ?_
   refine X.op0W (H' := [.rows 6 [(zG h)], .rows 1 [(V.ptr 2 0 0)], .rows 4 [(V.agg [(V.sl (List.map zF l)), (ovl 4 l3), V.nil, V.nil])], lr R_1 .ready none, obl 2 zC l3, .rows 2 [(zT x)]]) rfl rfl rfl (X.nq ?_)
   iterate 6 refine X.q rfl ?_
   refine X.yld hrn_1 hrK_1 hrp_1 hra_1 hrb_1 rfl rfl rfl rfl rfl rfl (GS.region ?_)
   refine X.opW (H' := [.rows 6 [(zG h)], .rows 1 [(V.ptr 2 0 0)], .rows 4 [(V.agg [(V.sl (List.map zF l)), (ovl 4 l3), V.nil, V.nil])], lr R_1 .ready none, obl 2 zC l3, .rows 2 [(zT x)], .rows 2 [(V.agg [(V.i 0), (V.i 0)])]]) rfl rfl rfl rfl ?_
   refine X.op0W (H' := [.rows 6 [(zG h)], .rows 1 [(V.ptr 2 0 0)], .rows 4 [(V.agg [(V.sl (List.map zF l)), (ovl 4 l3), V.nil, V.nil])], lr R_1 .ready none, obl 2 zC l3, .rows 2 [(zT x)], .rows 2 [(V.agg [(V.i x4), (V.i x.ID)])]]) rfl rfl rfl (GS.zA ?_)
   refine GS.nil (X.begin' rfl rfl ?_ rfl)
   refine GS.block ?_
   obtain ⟨l2, h_5, hM⟩ := zH hM
   refine X.draw (by kernel_rfl) ?_
   iterate 7 refine X.dop rfl rfl rfl rfl (by kernel_rfl) rfl rfl ?_
   refine X.zHO (f := zC) h_5 (fun _ => rfl) (by rfl) (by rfl) (by rfl) (by rfl) (by rfl) (by rfl) (by rfl) (by rfl) (by rfl) (by rfl) (by rfl) (by exact rfl) (by rfl) (by rfl) (by kernel_rfl) (by rfl) (by rfl) ?_
   iterate 2 refine X.dop rfl rfl rfl rfl (by kernel_rfl) rfl rfl ?_
   refine X.dop0 rfl rfl rfl rfl (by kernel_rfl) rfl ?_
   refine X.dnil ?_
   refine X.norm [] ?_ rfl W.zHc
   refine GS.endB ?_
   refine GS.nil ⟨_, rfl, ?_⟩
   refine X.norm (H' := [.rows 6 [(zG h)], .rows 1 [(V.ptr 2 0 0)], .rows 4 [(V.agg [(V.sl (List.map zF l)), (V.osl 8 0 (List.length l2)), V.nil, V.nil])], lr R_1 .ready none, .dead, .rows 2 [(zT x)], .rows 2 [(V.agg [(V.i x4), (V.i x.ID)])], .rows 2 (List.map zC ([(⟨x4, x.ID⟩ : zE)])), .rows 2 (List.map zC l2)]) [(0, (V.yld 3)), (1, (V.fptr [(zG (zV h))] 0 0)), (3, (V.i x4)), (8, (V.i (((zV h).Tides).length : Int))), (9, (V.i x4)), (13, (V.sl (List.map zT ((zV h).Berths)))), (14, (V.i (((zV h).Berths).length : Int))), (15, (V.i x1)), (25, (V.b true))] ?_ rfl (sr rfl)
   refine X.q rfl (GS.zA ?_)
   refine GS.ql rfl (GS.skip ?_)
   refine GS.endB (GS.region ?_)
   refine X.opR rfl (X.addE rfl rfl) rfl (X.q rfl (GS.zA ?_))
   have hE := Option.some.inj hM
   exact X.gc [some 8] (hc_3 (w64 (x1 + 1), l2) hE.symm) rfl rfl rfl (ga rfl rfl) (gb9 rfl rfl rfl (gb9 rfl rfl rfl (Zs rfl rfl (jV (.cons ⟨9, rfl⟩ (.cons (qh (jH h_5) rfl) (.cons ⟨9, rfl⟩ (.cons ⟨9, rfl⟩ .nil))))) (jW hlow_1 rfl rfl rfl (gb_obl' 9 (jH h_5) rfl rfl (fun _ => rfl) zL)))))
  replace hM := za h_3 hM
  refine GS.exit rfl ?_
  obtain ⟨y_2, hM, hy⟩ := ZN hM
  rw [hr_2 _ hy.symm] at hM
  exact X.gc [some 4] (hj_2 l3 hM) rfl rfl rfl (ga rfl rfl) (gb9 rfl rfl rfl (gb9 rfl rfl rfl (Zs rfl rfl (jV (.cons ⟨9, rfl⟩ (.cons (zi rfl) (.cons ⟨9, rfl⟩ (.cons ⟨9, rfl⟩ .nil))))) (jW hlow_1 rfl rfl rfl (zk 9 rfl rfl (fun _ => rfl) zL)))))
 replace hM := za h_2 hM
 refine GS.exit rfl ?_
 refine GS.nil ⟨_, _, rfl, rfl, ?_⟩
 refine X.norm (H' := [.rows 6 [(zG h)], .rows 1 [(V.ptr 2 0 0)], .rows 4 [(V.agg [(V.sl (List.map zF l)), (ovl 4 l10), V.nil, V.nil])], .dead, obl 2 zC l10]) [(1, (V.sl (List.map zF l))), (2, (V.ptr 0 0 0)), (5, (V.ptr 1 0 0)), (15, (V.fn 120 [(V.fptr [(zG (zV h))] 0 0)]))] ?_ rfl (sr rfl)
 refine GS.endB (GS.seq (X.sq (X.q rfl ?_)))
 refine X.opR rfl (X.lenF rfl rfl rfl) rfl (X.q rfl (GS.zA ?_))
 refine X.join (τ := (List (List (zE × zD))) × (List Int)) (fun v => Y2 l l10 v.1 v.2 = some b_1) (fun v => ⟨[(5, (V.ptr 0 0 0))], [.rows 1 [(V.ptr 1 0 0)], .rows 4 [(V.agg [(V.sl (List.map zF l)), (ovl 2 l10), (ovl 3 v.1), (ovl 4 v.2)])], obl 2 zC l10, obl 1 (fun l => V.fmap (List.map (fun p => zC p.1) l) (List.map (fun p => zI p.2) l)) v.1, obl 1 V.i v.2], 0, none, 61⟩) ?_ ?_
 ·rintro ⟨l4, l5⟩ hM
  replace hM : Y2 l l10 l4 l5 = some b_1 := hM
  unfold Y2 at hM
  refine X.sq (X.q rfl (X.q rfl ?_))
  refine GS.zA ?_
  have hE := Option.some.inj hM
  replace hE := hr_1 _ hE.symm
  subst hE
  exact GS.ret ⟨_, rfl, FR.ptr rfl rfl (FR.agg (.cons ⟨30, rfl⟩ (.cons (FR.ovl (f := zC) (l := l10) 9 rfl rfl (fun _ => rfl)) (.cons (FR.ovl (f := (fun l => V.fmap (List.map (fun p => zC p.1) l) (List.map (fun p => zI p.2) l))) (l := l4) 9 rfl rfl (fun _ => rfl)) (.cons (FR.ovl (f := V.i) (l := l5) 9 rfl rfl (fun _ => rfl)) .nil)))))⟩
 intro hj_4
 refine GS.block ?_
 refine X.gc [some 0, some 1, some 2, some 4, none, none] (X.loop (σ := (Int × (List (List (zE × zD))) × (List Int))) (fun v => ⟨[(2, (V.ptr 0 0 0)), (5, (V.ptr 1 0 0)), (28, (V.sl (List.map zF l))), (29, (V.i (l.length : Int))), (30, (V.i v.1))], [.rows 6 [(zG h)], .rows 1 [(V.ptr 2 0 0)], .rows 4 [(V.agg [(V.sl (List.map zF l)), (ovl 3 l10), (ovl 4 v.2.1), (ovl 5 v.2.2)])], obl 2 zC l10, obl 1 (fun l => V.fmap (List.map (fun p => zC p.1) l) (List.map (fun p => zI p.2) l)) v.2.1, obl 1 V.i v.2.2], 0, none, 61⟩) hM ?_ rfl) rfl rfl rfl (ga rfl rfl) (gb9 rfl rfl rfl (gb9 rfl rfl rfl (Zs rfl rfl (jV (.cons ⟨9, rfl⟩ (.cons (zi rfl) (.cons ⟨9, rfl⟩ (.cons ⟨9, rfl⟩ .nil))))) (zk 9 rfl rfl (fun _ => rfl) (gb_pad' rfl (gb_pad' rfl zL))))))
 rintro ⟨x3, l8, l9⟩ b_2 hM hc_5 hr_2
 rw [qH] at hM
 refine X.sq (X.q rfl (GS.zA (GS.seq ?_)))
 refine X.cond rfl (fun h_6 => ?_) (fun h_6 => ?_)
 ·replace hM := zZ h_6 hM
  refine GS.skip (GS.seq (GS.block (GS.seq ?_)))
  obtain ⟨x2, h_7, hM⟩ := zH hM
  refine GS.region ?_
  refine X.opR rfl (X.ZC (f := zF) h_7 (fun _ => rfl) rfl rfl rfl rfl) rfl ?_
  refine X.opR rfl (X.ZS h_7 rfl rfl rfl) rfl ?_
  refine X.opW (H' := [.rows 6 [(zG h)], .rows 1 [(V.ptr 2 0 0)], .rows 4 [(V.agg [(V.sl (List.map zF l)), (ovl 3 l10), (ovl 4 l8), (ovl 5 l9)])], obl 2 zC l10, obl 1 (fun l => V.fmap (List.map (fun p => zC p.1) l) (List.map (fun p => zI p.2) l)) l8, obl 1 V.i l9, .rows 5 [(V.agg [(V.i 0), (V.i 0), (V.i 0), (V.i 0), (V.i 0)])]]) rfl rfl rfl rfl ?_
  refine X.op0W (H' := [.rows 6 [(zG h)], .rows 1 [(V.ptr 2 0 0)], .rows 4 [(V.agg [(V.sl (List.map zF l)), (ovl 3 l10), (ovl 4 l8), (ovl 5 l9)])], obl 2 zC l10, obl 1 (fun l => V.fmap (List.map (fun p => zC p.1) l) (List.map (fun p => zI p.2) l)) l8, obl 1 V.i l9, .rows 5 [(zF x2)]]) rfl rfl rfl (GS.zA (GS.seq ?_))
  obtain ⟨y, h_8, hM⟩ := zH hM
  refine GS.region (X.q rfl (X.q rfl ?_))
  refine X.call (zBw h_8) rfl rfl rfl (.cons (.shut (n := 9) rfl) (.cons (.shut (n := 9) rfl) .nil)) ?_
  iterate 5 refine X.q rfl ?_
  refine GS.zA ?_
  obtain ⟨l6, h_9, hM⟩ := zH hM
  obtain ⟨l7, h_10, hM⟩ := zH hM
  refine X.draw (by kernel_rfl) ?_
  iterate 8 refine X.dop rfl rfl rfl rfl (by kernel_rfl) rfl rfl ?_
  refine X.zHO (f := (fun l => V.fmap (List.map (fun p => zC p.1) l) (List.map (fun p => zI p.2) l))) h_9 (fun _ => rfl) (by rfl) (by rfl) (by rfl) (by rfl) (by rfl) (by rfl) (by rfl) (by rfl) (by rfl) (by rfl) (by rfl) (by exact rfl) (by rfl) (by rfl) (by kernel_rfl) (by rfl) (by rfl) ?_
  iterate 5 refine X.dop rfl rfl rfl rfl (by kernel_rfl) rfl rfl ?_
  refine X.zHO (f := V.i) h_10 (fun _ => rfl) (by rfl) (by rfl) (by rfl) (by rfl) (by rfl) (by rfl) (by rfl) (by rfl) (by rfl) (by rfl) (by rfl) (by exact rfl) (by rfl) (by rfl) (by kernel_rfl) (by rfl) (by rfl) ?_
  iterate 2 refine X.dop rfl rfl rfl rfl (by kernel_rfl) rfl rfl ?_
  refine X.dop0 rfl rfl rfl rfl (by kernel_rfl) rfl ?_
  iterate 2 refine X.dop rfl rfl rfl rfl (by kernel_rfl) rfl rfl ?_
  refine X.dop0 rfl rfl rfl rfl (by kernel_rfl) rfl ?_
  refine X.dnil ?_
  refine X.norm [(2, (V.ptr 0 0 0)), (5, (V.ptr 1 0 0)), (28, (V.sl (List.map zF l))), (29, (V.i (l.length : Int))), (30, (V.i x3))] ?_ rfl (sr rfl)
  refine GS.endB (GS.region ?_)
  refine X.opR rfl (X.addE rfl rfl) rfl (X.q rfl (GS.zA ?_))
  have hE := Option.some.inj hM
  exact X.gc [some 0, some 1, some 2, some 3, some 8, some 10] (hc_5 (w64 (x3 + 1), l6, l7) hE.symm) rfl rfl rfl (ga rfl rfl) (gb9 rfl rfl rfl (gb9 rfl rfl rfl (Zs rfl rfl (jV (.cons ⟨9, rfl⟩ (.cons (zi rfl) (.cons (qh (jH h_9) rfl) (.cons (qh (jH h_10) rfl) .nil))))) (zk 9 rfl rfl (fun _ => rfl) (gb_obl' 9 (jH h_9) rfl rfl (fun _ => rfl) (gb_obl' 9 (jH h_10) rfl rfl (fun _ => rfl) zL))))))
 replace hM := za h_6 hM
 refine GS.exit rfl ?_
 obtain ⟨y_2, hM, hy⟩ := ZN hM
 rw [hr_2 _ hy.symm] at hM
 exact X.gc [some 1, some 2, some 3, some 4, some 5] (hj_4 (l8, l9) hM) rfl rfl rfl (ga rfl rfl) (gb9 rfl rfl rfl (Zs rfl rfl (jV (.cons ⟨9, rfl⟩ (.cons (zi rfl) (.cons (zi rfl) (.cons (zi rfl) .nil))))) (zk 9 rfl rfl (fun _ => rfl) (zk 9 rfl rfl (fun _ => rfl) (zk 9 rfl rfl (fun _ => rfl) zL)))))
set_option maxHeartbeats 4000000 in
theorem zIf {b : zJ} {ship : Int} {r : (List Int)} (hM : jX b ship = some r) : Ct Tryz.prog 100 [(V.fptr [(zS b)] 0 0), (V.i ship)] (V.sl (List.map V.i r)) := by
 refine ze ZK rfl ?_
 unfold jX at hM
 refine X.sq (X.q rfl (GS.zA (GS.seq ?_)))
 obtain ⟨l, h_1, hM⟩ := zH hM
 refine X.draw (by kernel_rfl) ?_
 iterate 4 refine X.dop rfl rfl rfl rfl (by kernel_rfl) rfl rfl ?_
 refine X.dop rfl (X.lenF rfl rfl rfl) rfl rfl (by kernel_rfl) rfl rfl ?_
 iterate 4 refine X.dop rfl rfl rfl rfl (by kernel_rfl) rfl rfl ?_
 refine X.dop rfl (X.lenF rfl rfl rfl) rfl rfl (by kernel_rfl) rfl rfl ?_
 refine X.dop rfl (X.addE rfl rfl) rfl rfl (by kernel_rfl) rfl rfl ?_
 refine X.dop rfl (X.zDc (f := V.i) h_1 rfl rfl rfl rfl rfl rfl rfl rfl) rfl rfl (by kernel_rfl) rfl rfl ?_
 refine X.dop rfl rfl rfl rfl (by kernel_rfl) rfl rfl ?_
 refine X.dnil ?_
 refine X.norm [(0, (V.fptr [(zS b)] 0 0)), (1, (V.i ship)), (5, (V.osl 0 0 (List.length l)))] ?_ rfl (sr rfl)
 refine GS.seq (X.sq (X.q rfl ?_))
 refine X.opR rfl (X.lenO (l := l) rfl rfl rfl) rfl (X.q rfl (GS.zA ?_))
 refine X.join (τ := (List Int)) (fun v => Zj b ship v = some r) (fun v => ⟨[(0, (V.fptr [(zS b)] 0 0)), (1, (V.i ship)), (5, (V.osl 0 0 (List.length v)))], [.rows 1 (List.map V.i v)], 0, none, 81⟩) ?_ ?_
 ·intro l1 hM
  replace hM : Zj b ship l1 = some r := hM
  unfold Zj at hM
  refine GS.seq (X.sq ?_)
  iterate 4 refine X.q rfl ?_
  refine X.opR rfl (X.lenF rfl rfl rfl) rfl (X.q rfl (GS.zA ?_))
  refine X.join (τ := (List Int)) (fun v => Za b ship v = some r) (fun v => ⟨[(0, (V.fptr [(zS b)] 0 0)), (1, (V.i ship)), (5, (V.osl 0 0 (List.length v)))], [.rows 1 (List.map V.i v)], 0, none, 81⟩) ?_ ?_
  ·intro l2 hM
   replace hM : Za b ship l2 = some r := hM
   unfold Za at hM
   refine GS.seq ?_
   obtain ⟨x, h_2, hM⟩ := zH hM
   refine GS.region ?_
   iterate 5 refine X.q rfl ?_
   refine X.opR rfl (X.lenF rfl rfl rfl) rfl (X.q rfl ?_)
   refine X.opR rfl (X.addE rfl rfl) rfl ?_
   refine X.opR rfl (X.Zw h_2 rfl rfl rfl rfl rfl) rfl ?_
   refine X.op0W rfl (X.yK (b := 0) h_2 rfl rfl rfl rfl rfl rfl rfl) rfl (X.nq (X.q rfl (X.q rfl ?_)))
   refine GS.zA ?_
   have hE := Option.some.inj hM
   subst hE
   exact GS.ret ⟨_, rfl, FR.eq X.jf (FR.osl (f := V.i) (l := (put l2 (w64 ((b.slots.length : Int) + ship)) 0)) 9 rfl rfl (fun _ => rfl))⟩
  intro hj_2
  refine GS.block ?_
  refine X.gc [some 0] (X.loop (σ := (Int × (List Int))) (fun v => ⟨[(0, (V.fptr [(zS b)] 0 0)), (1, (V.i ship)), (5, (V.osl 0 0 (List.length v.2))), (35, (V.sl (List.map zC b.slots))), (36, (V.i (b.slots.length : Int))), (37, (V.i v.1))], [.rows 1 (List.map V.i v.2)], 0, none, 81⟩) hM ?_ rfl) rfl rfl rfl (ga rfl rfl) (zP 9 rfl rfl (fun _ => rfl) zL)
  rintro ⟨x6, l4⟩ b_1 hM hc_3 hr_1
  rw [jP] at hM
  refine X.sq (X.q rfl (GS.zA (GS.seq ?_)))
  refine X.cond rfl (fun h_3 => ?_) (fun h_3 => ?_)
  ·replace hM := zZ h_3 hM
   refine GS.skip (GS.seq ?_)
   refine X.join (τ := (List Int)) (fun v => ZT x6 v = some b_1) (fun v => ⟨[(0, (V.fptr [(zS b)] 0 0)), (1, (V.i ship)), (5, (V.osl 0 0 (List.length v))), (35, (V.sl (List.map zC b.slots))), (36, (V.i (b.slots.length : Int))), (37, (V.i x6))], [.rows 1 (List.map V.i v)], 0, none, 81⟩) ?_ ?_
   ·intro l3 hM
    replace hM : ZT x6 l3 = some b_1 := hM
    unfold ZT at hM
    refine GS.region ?_
    refine X.opR rfl (X.addE rfl rfl) rfl (X.q rfl (GS.zA ?_))
    have hE := Option.some.inj hM
    exact X.gc [some 0] (hc_3 (w64 (x6 + 1), l3) hE.symm) rfl rfl rfl (ga rfl rfl) (zP 9 rfl rfl (fun _ => rfl) zL)
   intro hj_4
   refine GS.block (GS.seq ?_)
   obtain ⟨x1, h_4, hM⟩ := zH hM
   refine GS.region (X.q rfl ?_)
   refine X.opR rfl (X.ZC (f := zC) h_4 (fun _ => rfl) rfl rfl rfl rfl) rfl ?_
   refine X.opR rfl (X.ZS h_4 rfl rfl rfl) rfl ?_
   refine X.opW rfl rfl rfl rfl (X.q rfl ?_)
   refine X.op0W rfl rfl rfl (GS.zA (GS.seq ?_))
   obtain ⟨x2, h_5, hM⟩ := zH hM
   refine X.draw (by kernel_rfl) ?_
   iterate 5 refine X.dop rfl rfl rfl rfl (by kernel_rfl) rfl rfl ?_
   refine X.dop rfl (X.ZC (f := (fun l => V.fmap (List.map (fun p => zC p.1) l) (List.map (fun p => zI p.2) l))) h_5 (fun _ => rfl) rfl rfl rfl rfl) rfl rfl (by kernel_rfl) rfl rfl ?_
   refine X.dop rfl (X.ZS h_5 rfl rfl rfl) rfl rfl (by kernel_rfl) rfl rfl ?_
   refine X.dop rfl rfl rfl rfl (by kernel_rfl) rfl rfl ?_
   refine X.dop rfl (X.zF0 (f := zC) (g := zI) (k := x1) (l := x2) (z := (⟨0, 0⟩ : zD)) (ok := true) Ji rfl rfl rfl rfl rfl) rfl rfl (by kernel_rfl) rfl rfl ?_
   iterate 4 refine X.dop rfl rfl rfl rfl (by kernel_rfl) rfl rfl ?_
   refine X.dop0 rfl rfl rfl rfl (by kernel_rfl) rfl ?_
   refine X.dop rfl rfl rfl rfl (by kernel_rfl) rfl rfl ?_
   refine X.dnil ?_
   refine X.norm [(0, (V.fptr [(zS b)] 0 0)), (1, (V.i ship)), (5, (V.osl 0 0 (List.length l4))), (7, (V.i x6)), (10, (V.b ((ZA x1 x2).isSome))), (35, (V.sl (List.map zC b.slots))), (36, (V.i (b.slots.length : Int))), (37, (V.i x6))] ?_ rfl (sr rfl)
   refine X.sq (X.q rfl (GS.zA ?_))
   refine X.cond rfl (fun h_6 => ?_) (fun h_6 => ?_)
   ·replace hM := zZ h_6 hM
    refine GS.seq ?_
    obtain ⟨x3, h_7, hM⟩ := zH hM
    refine GS.region (X.q rfl (X.q rfl ?_))
    refine X.opR rfl (X.Zw h_7 rfl rfl rfl rfl rfl) rfl ?_
    refine X.op0W rfl (X.yK (b := (-1000)) h_7 rfl rfl rfl rfl rfl rfl rfl) rfl (GS.zA (GS.seq ?_))
    obtain ⟨x4, h_8, hM⟩ := zH hM
    refine GS.region ?_
    iterate 5 refine X.q rfl ?_
    refine X.opR rfl (X.ZC (f := V.i) h_8 (fun _ => rfl) rfl rfl rfl rfl) rfl ?_
    refine X.opR rfl (X.ZS h_8 rfl rfl rfl) rfl (X.q rfl (X.q rfl ?_))
    refine GS.zA ?_
    refine X.cond rfl (fun h_9 => ?_) (fun h_9 => ?_)
    ·replace hM := zZ h_9 hM
     obtain ⟨x5, h_10, hM⟩ := zH hM
     refine GS.region (X.q rfl (X.q rfl ?_))
     refine X.opR rfl (X.Zw h_10 rfl rfl (X.zLt rfl X.jf) rfl rfl) rfl ?_
     refine X.op0W rfl (X.yK (b := (-1001)) h_10 rfl rfl rfl rfl rfl rfl rfl) rfl (GS.zA ?_)
     refine GS.endB ?_
     exact X.gc [some 0] (hj_4 (put (put l4 x6 (-1000)) x6 (-1001)) hM) rfl rfl rfl (zN rfl ⟨9, rfl⟩ (zN rfl ⟨9, rfl⟩ (zN rfl (Yq (Eq.trans X.jf X.jf) ⟨9, rfl⟩) (ga rfl rfl)))) (zP 9 rfl rfl (fun _ => rfl) zL)
    replace hM := za h_9 hM
    refine GS.skip ?_
    refine GS.endB ?_
    exact X.gc [some 0] (hj_4 (put l4 x6 (-1000)) hM) rfl rfl rfl (zN rfl ⟨9, rfl⟩ (zN rfl ⟨9, rfl⟩ (zN rfl (Yq X.jf ⟨9, rfl⟩) (ga rfl rfl)))) (zP 9 rfl rfl (fun _ => rfl) zL)
   replace hM := za h_6 hM
   refine GS.skip ?_
   refine GS.endB ?_
   exact X.gc [some 0] (hj_4 l4 hM) rfl rfl rfl (ga rfl rfl) (zP 9 rfl rfl (fun _ => rfl) zL)
  replace hM := za h_3 hM
  refine GS.exit rfl ?_
  obtain ⟨y_1, hM, hy⟩ := ZN hM
  rw [hr_1 _ hy.symm] at hM
  exact X.gc [some 0] (hj_2 l4 hM) rfl rfl rfl (ga rfl rfl) (zP 9 rfl rfl (fun _ => rfl) zL)
 intro hj_1
 refine GS.block ?_
 refine X.gc [some 0] (X.loop (σ := (Int × (List Int))) (fun v => ⟨[(0, (V.fptr [(zS b)] 0 0)), (1, (V.i ship)), (5, (V.osl 0 0 (List.length v.2))), (24, (V.i (l.length : Int))), (25, (V.i v.1))], [.rows 1 (List.map V.i v.2)], 0, none, 81⟩) hM ?_ rfl) rfl rfl rfl (ga rfl rfl) (zP 9 rfl rfl (fun _ => rfl) zL)
 rintro ⟨x8, l5⟩ b_1 hM hc_5 hr_1
 rw [jO] at hM
 refine X.sq (X.q rfl (GS.zA (GS.seq ?_)))
 refine X.cond rfl (fun h_11 => ?_) (fun h_11 => ?_)
 ·replace hM := zZ h_11 hM
  refine GS.skip (GS.seq (GS.block (X.sq (X.q rfl (X.q rfl ?_)))))
  refine GS.zA ?_
  obtain ⟨x7, h_12, hM⟩ := zH hM
  refine GS.region (X.q rfl (X.q rfl ?_))
  refine X.opR rfl (X.Zw h_12 rfl rfl rfl rfl rfl) rfl ?_
  refine X.op0W rfl (X.yK (b := 1073741824) h_12 rfl rfl rfl rfl rfl rfl rfl) rfl (GS.zA ?_)
  refine GS.endB (GS.region ?_)
  refine X.opR rfl (X.addE rfl rfl) rfl (X.q rfl (GS.zA ?_))
  have hE := Option.some.inj hM
  exact X.gc [some 0] (hc_5 (w64 (x8 + 1), (put l5 x8 1073741824)) hE.symm) rfl rfl rfl (zN rfl ⟨9, rfl⟩ (zN rfl ⟨9, rfl⟩ (zN rfl (Yq X.jf ⟨9, rfl⟩) (ga rfl rfl)))) (zP 9 rfl rfl (fun _ => rfl) zL)
 replace hM := za h_11 hM
 refine GS.exit rfl ?_
 obtain ⟨y_1, hM, hy⟩ := ZN hM
 rw [hr_1 _ hy.symm] at hM
 exact X.gc [some 0] (hj_1 l5 hM) rfl rfl rfl (ga rfl rfl) (zP 9 rfl rfl (fun _ => rfl) zL)
set_option maxHeartbeats 4000000 in
theorem zBf {b : zJ} {ship : Int} {r : (List Int)} (hM : jX b ship = some r) : zD6 Tryz.prog 100 [(V.fptr [(zS b)] 0 0), (V.i ship)] (fun z => (ovlz z 0 r)) (fun z => (oblz z 1 V.i r)) := by
 refine zGx ZK rfl ?_
 unfold jX at hM
 refine X.sq (X.q rfl (GS.zA (GS.seq ?_)))
 obtain ⟨l, h_1, hM⟩ := zH hM
 refine X.draw (by kernel_rfl) ?_
 iterate 4 refine X.dop rfl rfl rfl rfl (by kernel_rfl) rfl rfl ?_
 refine X.dop rfl (X.lenF rfl rfl rfl) rfl rfl (by kernel_rfl) rfl rfl ?_
 iterate 4 refine X.dop rfl rfl rfl rfl (by kernel_rfl) rfl rfl ?_
 refine X.dop rfl (X.lenF rfl rfl rfl) rfl rfl (by kernel_rfl) rfl rfl ?_
 refine X.dop rfl (X.addE rfl rfl) rfl rfl (by kernel_rfl) rfl rfl ?_
 refine X.dop rfl (X.zDc (f := V.i) h_1 rfl rfl rfl rfl rfl rfl rfl rfl) rfl rfl (by kernel_rfl) rfl rfl ?_
 refine X.dop rfl rfl rfl rfl (by kernel_rfl) rfl rfl ?_
 refine X.dnil ?_
 refine X.norm [(0, (V.fptr [(zS b)] 0 0)), (1, (V.i ship)), (5, (V.osl 0 0 (List.length l)))] ?_ rfl (sr rfl)
 refine GS.seq (X.sq (X.q rfl ?_))
 refine X.opR rfl (X.lenO (l := l) rfl rfl rfl) rfl (X.q rfl (GS.zA ?_))
 refine X.join (τ := (List Int)) (fun v => Zj b ship v = some r) (fun v => ⟨[(0, (V.fptr [(zS b)] 0 0)), (1, (V.i ship)), (5, (V.osl 0 0 (List.length v)))], [.rows 1 (List.map V.i v)], 0, none, 81⟩) ?_ ?_
 ·intro l1 hM
  replace hM : Zj b ship l1 = some r := hM
  unfold Zj at hM
  refine GS.seq (X.sq ?_)
  iterate 4 refine X.q rfl ?_
  refine X.opR rfl (X.lenF rfl rfl rfl) rfl (X.q rfl (GS.zA ?_))
  refine X.join (τ := (List Int)) (fun v => Za b ship v = some r) (fun v => ⟨[(0, (V.fptr [(zS b)] 0 0)), (1, (V.i ship)), (5, (V.osl 0 0 (List.length v)))], [.rows 1 (List.map V.i v)], 0, none, 81⟩) ?_ ?_
  ·intro l2 hM
   replace hM : Za b ship l2 = some r := hM
   unfold Za at hM
   refine GS.seq ?_
   obtain ⟨x, h_2, hM⟩ := zH hM
   refine GS.region ?_
   iterate 5 refine X.q rfl ?_
   refine X.opR rfl (X.lenF rfl rfl rfl) rfl (X.q rfl ?_)
   refine X.opR rfl (X.addE rfl rfl) rfl ?_
   refine X.opR rfl (X.Zw h_2 rfl rfl rfl rfl rfl) rfl ?_
   refine X.op0W rfl (X.yK (b := 0) h_2 rfl rfl rfl rfl rfl rfl rfl) rfl (X.nq (X.q rfl (X.q rfl ?_)))
   refine GS.zA ?_
   have hE := Option.some.inj hM
   subst hE
   refine X.gc [some 0] (H' := [.rows 1 (List.map V.i (put l2 (w64 ((b.slots.length : Int) + ship)) 0))]) (K' := [(4, (V.osl 0 0 (List.length (put l2 (w64 ((b.slots.length : Int) + ship)) 0))))]) ?_ rfl rfl rfl (zN rfl (Yq X.jf ⟨9, rfl⟩) Jq) (zP 9 rfl rfl (fun _ => rfl) zL)
   exact GS.ret ⟨false, rfl, rfl⟩
  intro hj_2
  refine GS.block ?_
  refine X.gc [some 0] (X.loop (σ := (Int × (List Int))) (fun v => ⟨[(0, (V.fptr [(zS b)] 0 0)), (1, (V.i ship)), (5, (V.osl 0 0 (List.length v.2))), (35, (V.sl (List.map zC b.slots))), (36, (V.i (b.slots.length : Int))), (37, (V.i v.1))], [.rows 1 (List.map V.i v.2)], 0, none, 81⟩) hM ?_ rfl) rfl rfl rfl (ga rfl rfl) (zP 9 rfl rfl (fun _ => rfl) zL)
  rintro ⟨x6, l4⟩ b_1 hM hc_3 hr_1
  rw [jP] at hM
  refine X.sq (X.q rfl (GS.zA (GS.seq ?_)))
  refine X.cond rfl (fun h_3 => ?_) (fun h_3 => ?_)
  ·replace hM := zZ h_3 hM
   refine GS.skip (GS.seq ?_)
   refine X.join (τ := (List Int)) (fun v => ZT x6 v = some b_1) (fun v => ⟨[(0, (V.fptr [(zS b)] 0 0)), (1, (V.i ship)), (5, (V.osl 0 0 (List.length v))), (35, (V.sl (List.map zC b.slots))), (36, (V.i (b.slots.length : Int))), (37, (V.i x6))], [.rows 1 (List.map V.i v)], 0, none, 81⟩) ?_ ?_
   ·intro l3 hM
    replace hM : ZT x6 l3 = some b_1 := hM
    unfold ZT at hM
    refine GS.region ?_
    refine X.opR rfl (X.addE rfl rfl) rfl (X.q rfl (GS.zA ?_))
    have hE := Option.some.inj hM
    exact X.gc [some 0] (hc_3 (w64 (x6 + 1), l3) hE.symm) rfl rfl rfl (ga rfl rfl) (zP 9 rfl rfl (fun _ => rfl) zL)
   intro hj_4
   refine GS.block (GS.seq ?_)
   obtain ⟨x1, h_4, hM⟩ := zH hM
   refine GS.region (X.q rfl ?_)
   refine X.opR rfl (X.ZC (f := zC) h_4 (fun _ => rfl) rfl rfl rfl rfl) rfl ?_
   refine X.opR rfl (X.ZS h_4 rfl rfl rfl) rfl ?_
   refine X.opW rfl rfl rfl rfl (X.q rfl ?_)
   refine X.op0W rfl rfl rfl (GS.zA (GS.seq ?_))
   obtain ⟨x2, h_5, hM⟩ := zH hM
   refine X.draw (by kernel_rfl) ?_
   iterate 5 refine X.dop rfl rfl rfl rfl (by kernel_rfl) rfl rfl ?_
   refine X.dop rfl (X.ZC (f := (fun l => V.fmap (List.map (fun p => zC p.1) l) (List.map (fun p => zI p.2) l))) h_5 (fun _ => rfl) rfl rfl rfl rfl) rfl rfl (by kernel_rfl) rfl rfl ?_
   refine X.dop rfl (X.ZS h_5 rfl rfl rfl) rfl rfl (by kernel_rfl) rfl rfl ?_
   refine X.dop rfl rfl rfl rfl (by kernel_rfl) rfl rfl ?_
   refine X.dop rfl (X.zF0 (f := zC) (g := zI) (k := x1) (l := x2) (z := (⟨0, 0⟩ : zD)) (ok := true) Ji rfl rfl rfl rfl rfl) rfl rfl (by kernel_rfl) rfl rfl ?_
   iterate 4 refine X.dop rfl rfl rfl rfl (by kernel_rfl) rfl rfl ?_
   refine X.dop0 rfl rfl rfl rfl (by kernel_rfl) rfl ?_
   refine X.dop rfl rfl rfl rfl (by kernel_rfl) rfl rfl ?_
   refine X.dnil ?_
   refine X.norm [(0, (V.fptr [(zS b)] 0 0)), (1, (V.i ship)), (5, (V.osl 0 0 (List.length l4))), (7, (V.i x6)), (10, (V.b ((ZA x1 x2).isSome))), (35, (V.sl (List.map zC b.slots))), (36, (V.i (b.slots.length : Int))), (37, (V.i x6))] ?_ rfl (sr rfl)
   refine X.sq (X.q rfl (GS.zA ?_))
   refine X.cond rfl (fun h_6 => ?_) (fun h_6 => ?_)
   ·replace hM := zZ h_6 hM
    refine GS.seq ?_
    obtain ⟨x3, h_7, hM⟩ := zH hM
    refine GS.region (X.q rfl (X.q rfl ?_))
    refine X.opR rfl (X.Zw h_7 rfl rfl rfl rfl rfl) rfl ?_
    refine X.op0W rfl (X.yK (b := (-1000)) h_7 rfl rfl rfl rfl rfl rfl rfl) rfl (GS.zA (GS.seq ?_))
    obtain ⟨x4, h_8, hM⟩ := zH hM
    refine GS.region ?_
    iterate 5 refine X.q rfl ?_
    refine X.opR rfl (X.ZC (f := V.i) h_8 (fun _ => rfl) rfl rfl rfl rfl) rfl ?_
    refine X.opR rfl (X.ZS h_8 rfl rfl rfl) rfl (X.q rfl (X.q rfl ?_))
    refine GS.zA ?_
    refine X.cond rfl (fun h_9 => ?_) (fun h_9 => ?_)
    ·replace hM := zZ h_9 hM
     obtain ⟨x5, h_10, hM⟩ := zH hM
     refine GS.region (X.q rfl (X.q rfl ?_))
     refine X.opR rfl (X.Zw h_10 rfl rfl (X.zLt rfl X.jf) rfl rfl) rfl ?_
     refine X.op0W rfl (X.yK (b := (-1001)) h_10 rfl rfl rfl rfl rfl rfl rfl) rfl (GS.zA ?_)
     refine GS.endB ?_
     exact X.gc [some 0] (hj_4 (put (put l4 x6 (-1000)) x6 (-1001)) hM) rfl rfl rfl (zN rfl ⟨9, rfl⟩ (zN rfl ⟨9, rfl⟩ (zN rfl (Yq (Eq.trans X.jf X.jf) ⟨9, rfl⟩) (ga rfl rfl)))) (zP 9 rfl rfl (fun _ => rfl) zL)
    replace hM := za h_9 hM
    refine GS.skip ?_
    refine GS.endB ?_
    exact X.gc [some 0] (hj_4 (put l4 x6 (-1000)) hM) rfl rfl rfl (zN rfl ⟨9, rfl⟩ (zN rfl ⟨9, rfl⟩ (zN rfl (Yq X.jf ⟨9, rfl⟩) (ga rfl rfl)))) (zP 9 rfl rfl (fun _ => rfl) zL)
   replace hM := za h_6 hM
   refine GS.skip ?_
   refine GS.endB ?_
   exact X.gc [some 0] (hj_4 l4 hM) rfl rfl rfl (ga rfl rfl) (zP 9 rfl rfl (fun _ => rfl) zL)
  replace hM := za h_3 hM
  refine GS.exit rfl ?_
  obtain ⟨y_1, hM, hy⟩ := ZN hM
  rw [hr_1 _ hy.symm] at hM
  exact X.gc [some 0] (hj_2 l4 hM) rfl rfl rfl (ga rfl rfl) (zP 9 rfl rfl (fun _ => rfl) zL)
 intro hj_1
 refine GS.block ?_
 refine X.gc [some 0] (X.loop (σ := (Int × (List Int))) (fun v => ⟨[(0, (V.fptr [(zS b)] 0 0)), (1, (V.i ship)), (5, (V.osl 0 0 (List.length v.2))), (24, (V.i (l.length : Int))), (25, (V.i v.1))], [.rows 1 (List.map V.i v.2)], 0, none, 81⟩) hM ?_ rfl) rfl rfl rfl (ga rfl rfl) (zP 9 rfl rfl (fun _ => rfl) zL)
 rintro ⟨x8, l5⟩ b_1 hM hc_5 hr_1
 rw [jO] at hM
 refine X.sq (X.q rfl (GS.zA (GS.seq ?_)))
 refine X.cond rfl (fun h_11 => ?_) (fun h_11 => ?_)
 ·replace hM := zZ h_11 hM
  refine GS.skip (GS.seq (GS.block (X.sq (X.q rfl (X.q rfl ?_)))))
  refine GS.zA ?_
  obtain ⟨x7, h_12, hM⟩ := zH hM
  refine GS.region (X.q rfl (X.q rfl ?_))
  refine X.opR rfl (X.Zw h_12 rfl rfl rfl rfl rfl) rfl ?_
  refine X.op0W rfl (X.yK (b := 1073741824) h_12 rfl rfl rfl rfl rfl rfl rfl) rfl (GS.zA ?_)
  refine GS.endB (GS.region ?_)
  refine X.opR rfl (X.addE rfl rfl) rfl (X.q rfl (GS.zA ?_))
  have hE := Option.some.inj hM
  exact X.gc [some 0] (hc_5 (w64 (x8 + 1), (put l5 x8 1073741824)) hE.symm) rfl rfl rfl (zN rfl ⟨9, rfl⟩ (zN rfl ⟨9, rfl⟩ (zN rfl (Yq X.jf ⟨9, rfl⟩) (ga rfl rfl)))) (zP 9 rfl rfl (fun _ => rfl) zL)
 replace hM := za h_11 hM
 refine GS.exit rfl ?_
 obtain ⟨y_1, hM, hy⟩ := ZN hM
 rw [hr_1 _ hy.symm] at hM
 exact X.gc [some 0] (hj_1 l5 hM) rfl rfl rfl (ga rfl rfl) (zP 9 rfl rfl (fun _ => rfl) zL)
end Go.Proofs.YtnkngglimidldaaGreat
