/- The program's functions compute the plain ones. Conditions: none. Printed by a program (wip/tools/xg.py). -/
import Derived.Test.YtnkngglimidldaaGreatTok
import Derived.Test.YtnkngglimidldaaGreatSrt
import Derived.Test.YtnkngglimidldaaGreatM
set_option linter.unusedVariables false
set_option linter.unusedSimpArgs false
namespace Go.Proofs.YtnkngglimidldaaGreat
open Go Go.Am Go.Proofs Go.Mx
noncomputable def CC : Cfg := cfg (Ct Tryz.prog)
theorem ZR : CC.OK := cfg_ok fun f args v h => h
abbrev ZC (x : zw) : V := .agg [(V.i x.ID), (V.i x.Begin), (V.i x.Every), (V.sl (List.map V.i x.Heights))]
abbrev JH (x : yf) : V := .agg [(V.i x.From), (V.i x.To), (V.i x.Add)]
abbrev ZI (x : zY) : V := .agg [(V.i x.Level), (V.sl (List.map ZC x.Cycles)), (V.sl (List.map JH x.Shifts))]
abbrev zU (x : zm) : V := .agg [(V.i x.ID), (V.i x.Depth)]
abbrev zJ (x : zD) : V := .agg [(V.i x.Lo), (V.i x.Hi)]
abbrev zH (x : zL) : V := .agg [(V.i x.Water.Level), (V.sl (List.map ZC x.Water.Cycles)), (V.sl (List.map JH x.Water.Shifts)), (V.sl (List.map zU x.Berths)), (V.sl (List.map zJ x.Tides)), (V.i x.Keel)]
abbrev zG (x : zN) : V := .agg [(V.i x.ID), (V.i x.Draught), (V.i x.From), (V.i x.To), (V.i x.Long)]
abbrev zC (x : zF) : V := .agg [(V.i x.Tide), (V.i x.Berth)]
abbrev zS (x : zP) : V := .agg [(V.i x.Call), (V.i x.Slot.Tide), (V.i x.Slot.Berth), (V.i x.Span.Lo), (V.i x.Span.Hi)]
set_option maxHeartbeats 4000000 in
theorem zAw {h : zL} {r : Bool} (hM : zAK h = some r) : Ct Tryz.prog 7 [(zH h)] (V.b r) := by
 refine zg ZR rfl ?_
 unfold zAK at hM
 refine X.sq ?_
 refine X.opW rfl rfl rfl rfl (X.q rfl (GS.zA (GS.seq (X.sq (X.q rfl (GS.zA ?_))))))
 refine X.join (τ := Unit) (fun v => qF h = some r) (fun v => ⟨[(1, (V.ptr 0 0 0))], [.rows 6 [(zH h)]], 0, none, 67⟩) ?_ ?_
 ·intro _ hM
  replace hM : qF h = some r := hM
  unfold qF at hM
  refine X.sq ?_
  refine X.mid [(2, (V.b ((((decide ((h.Water.Cycles.length : Int) ≤ 8)) && (decide ((h.Water.Shifts.length : Int) ≤ 25))) && (decide ((h.Berths.length : Int) ≤ 10))) && ((decide ((h.Tides.length : Int) ≤ 3)) || ((decide (12 < (h.Tides.length : Int))) && (decide ((h.Tides.length : Int) ≤ 20)))))))] ?_ ?_
  ·intro hg
   refine X.split (decide ((h.Water.Cycles.length : Int) ≤ 8)) (fun h_1 => ?_) (fun h_1 => ?_)
   ·refine X.split (((decide ((h.Water.Cycles.length : Int) ≤ 8)) && (decide ((h.Water.Shifts.length : Int) ≤ 25)))) (fun h_2 => ?_) (fun h_2 => ?_)
    ·refine X.split ((((decide ((h.Water.Cycles.length : Int) ≤ 8)) && (decide ((h.Water.Shifts.length : Int) ≤ 25))) && (decide ((h.Berths.length : Int) ≤ 10)))) (fun h_3 => ?_) (fun h_3 => ?_)
     ·refine X.split (decide ((h.Tides.length : Int) ≤ 3)) (fun h_4 => ?_) (fun h_4 => ?_)
      ·iterate 3 refine X.q rfl ?_
       refine X.opR rfl (X.lenF rfl rfl rfl) rfl (X.q rfl (X.q rfl ?_))
       iterate 3 refine X.opR (X.on_t rfl rfl rfl h_1) rfl rfl ?_
       refine X.opR (X.on_t rfl rfl rfl h_1) (X.lenF rfl rfl rfl) rfl ?_
       refine X.opR (X.on_t rfl rfl rfl h_1) rfl rfl ?_
       refine X.opR rfl (X.zX (y := decide ((h.Water.Shifts.length : Int) ≤ 25)) rfl h_1 rfl) rfl (X.q rfl ?_)
       iterate 2 refine X.opR (X.on_t rfl rfl rfl h_2) rfl rfl ?_
       refine X.opR (X.on_t rfl rfl rfl h_2) (X.lenF rfl rfl rfl) rfl ?_
       refine X.opR (X.on_t rfl rfl rfl h_2) rfl rfl ?_
       refine X.opR rfl (X.zX (y := decide ((h.Berths.length : Int) ≤ 10)) rfl h_2 rfl) rfl (X.q rfl ?_)
       iterate 2 refine X.opR (X.on_t rfl rfl rfl h_3) rfl rfl ?_
       refine X.opR (X.on_t rfl rfl rfl h_3) (X.lenF rfl rfl rfl) rfl ?_
       iterate 2 refine X.opR (X.on_t rfl rfl rfl h_3) rfl rfl ?_
       iterate 5 refine X.off (X.ZT rfl rfl rfl h_4) rfl ?_
       iterate 4 refine X.off rfl rfl ?_
       refine X.off (X.ZT rfl rfl rfl h_4) rfl ?_
       refine X.opR (X.on_t rfl rfl rfl h_3) (X.zf (y := ((decide (12 < (h.Tides.length : Int))) && (decide ((h.Tides.length : Int) ≤ 20)))) rfl h_4 rfl) rfl ?_
       refine X.opR rfl (X.zX (y := ((decide ((h.Tides.length : Int) ≤ 3)) || ((decide (12 < (h.Tides.length : Int))) && (decide ((h.Tides.length : Int) ≤ 20))))) rfl h_3 rfl) rfl (X.q rfl (GS.zA ?_))
       exact X.norm _ hg rfl (sr rfl)
      refine X.split (decide (12 < (h.Tides.length : Int))) (fun h_5 => ?_) (fun h_5 => ?_)
      ·iterate 3 refine X.q rfl ?_
       refine X.opR rfl (X.lenF rfl rfl rfl) rfl (X.q rfl (X.q rfl ?_))
       iterate 3 refine X.opR (X.on_t rfl rfl rfl h_1) rfl rfl ?_
       refine X.opR (X.on_t rfl rfl rfl h_1) (X.lenF rfl rfl rfl) rfl ?_
       refine X.opR (X.on_t rfl rfl rfl h_1) rfl rfl ?_
       refine X.opR rfl (X.zX (y := decide ((h.Water.Shifts.length : Int) ≤ 25)) rfl h_1 rfl) rfl (X.q rfl ?_)
       iterate 2 refine X.opR (X.on_t rfl rfl rfl h_2) rfl rfl ?_
       refine X.opR (X.on_t rfl rfl rfl h_2) (X.lenF rfl rfl rfl) rfl ?_
       refine X.opR (X.on_t rfl rfl rfl h_2) rfl rfl ?_
       refine X.opR rfl (X.zX (y := decide ((h.Berths.length : Int) ≤ 10)) rfl h_2 rfl) rfl (X.q rfl ?_)
       iterate 2 refine X.opR (X.on_t rfl rfl rfl h_3) rfl rfl ?_
       refine X.opR (X.on_t rfl rfl rfl h_3) (X.lenF rfl rfl rfl) rfl ?_
       iterate 2 refine X.opR (X.on_t rfl rfl rfl h_3) rfl rfl ?_
       iterate 2 refine X.opR (X.on_f rfl rfl rfl h_4) rfl rfl ?_
       refine X.opR (X.on_f rfl rfl rfl h_4) (X.lenF rfl rfl rfl) rfl ?_
       iterate 2 refine X.opR (X.on_f rfl rfl rfl h_4) rfl rfl ?_
       iterate 2 refine X.opR (X.on_t rfl rfl rfl h_5) rfl rfl ?_
       refine X.opR (X.on_t rfl rfl rfl h_5) (X.lenF rfl rfl rfl) rfl ?_
       refine X.opR (X.on_t rfl rfl rfl h_5) rfl rfl ?_
       refine X.opR (X.on_f rfl rfl rfl h_4) (X.zX (y := decide ((h.Tides.length : Int) ≤ 20)) rfl h_5 rfl) rfl ?_
       refine X.opR (X.on_t rfl rfl rfl h_3) (X.ze (y := ((decide (12 < (h.Tides.length : Int))) && (decide ((h.Tides.length : Int) ≤ 20)))) rfl h_4 rfl) rfl ?_
       refine X.opR rfl (X.zX (y := ((decide ((h.Tides.length : Int) ≤ 3)) || ((decide (12 < (h.Tides.length : Int))) && (decide ((h.Tides.length : Int) ≤ 20))))) rfl h_3 rfl) rfl (X.q rfl (GS.zA ?_))
       exact X.norm _ hg rfl (sr rfl)
      iterate 3 refine X.q rfl ?_
      refine X.opR rfl (X.lenF rfl rfl rfl) rfl (X.q rfl (X.q rfl ?_))
      iterate 3 refine X.opR (X.on_t rfl rfl rfl h_1) rfl rfl ?_
      refine X.opR (X.on_t rfl rfl rfl h_1) (X.lenF rfl rfl rfl) rfl ?_
      refine X.opR (X.on_t rfl rfl rfl h_1) rfl rfl ?_
      refine X.opR rfl (X.zX (y := decide ((h.Water.Shifts.length : Int) ≤ 25)) rfl h_1 rfl) rfl (X.q rfl ?_)
      iterate 2 refine X.opR (X.on_t rfl rfl rfl h_2) rfl rfl ?_
      refine X.opR (X.on_t rfl rfl rfl h_2) (X.lenF rfl rfl rfl) rfl ?_
      refine X.opR (X.on_t rfl rfl rfl h_2) rfl rfl ?_
      refine X.opR rfl (X.zX (y := decide ((h.Berths.length : Int) ≤ 10)) rfl h_2 rfl) rfl (X.q rfl ?_)
      iterate 2 refine X.opR (X.on_t rfl rfl rfl h_3) rfl rfl ?_
      refine X.opR (X.on_t rfl rfl rfl h_3) (X.lenF rfl rfl rfl) rfl ?_
      iterate 2 refine X.opR (X.on_t rfl rfl rfl h_3) rfl rfl ?_
      iterate 2 refine X.opR (X.on_f rfl rfl rfl h_4) rfl rfl ?_
      refine X.opR (X.on_f rfl rfl rfl h_4) (X.lenF rfl rfl rfl) rfl ?_
      iterate 2 refine X.opR (X.on_f rfl rfl rfl h_4) rfl rfl ?_
      iterate 4 refine X.off (X.zt rfl rfl rfl h_5) rfl ?_
      refine X.opR (X.on_f rfl rfl rfl h_4) (X.zR (y := decide ((h.Tides.length : Int) ≤ 20)) rfl h_5 rfl) rfl ?_
      refine X.opR (X.on_t rfl rfl rfl h_3) (X.ze (y := ((decide (12 < (h.Tides.length : Int))) && (decide ((h.Tides.length : Int) ≤ 20)))) rfl h_4 rfl) rfl ?_
      refine X.opR rfl (X.zX (y := ((decide ((h.Tides.length : Int) ≤ 3)) || ((decide (12 < (h.Tides.length : Int))) && (decide ((h.Tides.length : Int) ≤ 20))))) rfl h_3 rfl) rfl (X.q rfl (GS.zA ?_))
      exact X.norm _ hg rfl (sr rfl)
     iterate 3 refine X.q rfl ?_
     refine X.opR rfl (X.lenF rfl rfl rfl) rfl (X.q rfl (X.q rfl ?_))
     iterate 3 refine X.opR (X.on_t rfl rfl rfl h_1) rfl rfl ?_
     refine X.opR (X.on_t rfl rfl rfl h_1) (X.lenF rfl rfl rfl) rfl ?_
     refine X.opR (X.on_t rfl rfl rfl h_1) rfl rfl ?_
     refine X.opR rfl (X.zX (y := decide ((h.Water.Shifts.length : Int) ≤ 25)) rfl h_1 rfl) rfl (X.q rfl ?_)
     iterate 2 refine X.opR (X.on_t rfl rfl rfl h_2) rfl rfl ?_
     refine X.opR (X.on_t rfl rfl rfl h_2) (X.lenF rfl rfl rfl) rfl ?_
     refine X.opR (X.on_t rfl rfl rfl h_2) rfl rfl ?_
     refine X.opR rfl (X.zX (y := decide ((h.Berths.length : Int) ≤ 10)) rfl h_2 rfl) rfl (X.q rfl ?_)
     iterate 5 refine X.off (X.zt rfl rfl rfl h_3) rfl ?_
     iterate 10 refine X.off rfl rfl ?_
     refine X.off (X.zt rfl rfl rfl h_3) rfl ?_
     refine X.opR rfl (X.zR (y := ((decide ((h.Tides.length : Int) ≤ 3)) || ((decide (12 < (h.Tides.length : Int))) && (decide ((h.Tides.length : Int) ≤ 20))))) rfl h_3 rfl) rfl (X.q rfl (GS.zA ?_))
     exact X.norm _ hg rfl (sr rfl)
    iterate 3 refine X.q rfl ?_
    refine X.opR rfl (X.lenF rfl rfl rfl) rfl (X.q rfl (X.q rfl ?_))
    iterate 3 refine X.opR (X.on_t rfl rfl rfl h_1) rfl rfl ?_
    refine X.opR (X.on_t rfl rfl rfl h_1) (X.lenF rfl rfl rfl) rfl ?_
    refine X.opR (X.on_t rfl rfl rfl h_1) rfl rfl ?_
    refine X.opR rfl (X.zX (y := decide ((h.Water.Shifts.length : Int) ≤ 25)) rfl h_1 rfl) rfl (X.q rfl ?_)
    iterate 4 refine X.off (X.zt rfl rfl rfl h_2) rfl ?_
    refine X.opR rfl (X.zR (y := decide ((h.Berths.length : Int) ≤ 10)) rfl h_2 rfl) rfl (X.q rfl ?_)
    iterate 5 refine X.off (X.zt rfl rfl rfl (X.zB h_2)) rfl ?_
    iterate 10 refine X.off rfl rfl ?_
    refine X.off (X.zt rfl rfl rfl (X.zB h_2)) rfl ?_
    refine X.opR rfl (X.zR (y := ((decide ((h.Tides.length : Int) ≤ 3)) || ((decide (12 < (h.Tides.length : Int))) && (decide ((h.Tides.length : Int) ≤ 20))))) rfl (X.zB h_2) rfl) rfl (X.q rfl (GS.zA ?_))
    exact X.norm _ hg rfl (sr rfl)
   iterate 3 refine X.q rfl ?_
   refine X.opR rfl (X.lenF rfl rfl rfl) rfl (X.q rfl (X.q rfl ?_))
   iterate 5 refine X.off (X.zt rfl rfl rfl h_1) rfl ?_
   refine X.opR rfl (X.zR (y := decide ((h.Water.Shifts.length : Int) ≤ 25)) rfl h_1 rfl) rfl (X.q rfl ?_)
   iterate 4 refine X.off (X.zt rfl rfl rfl (X.zB h_1)) rfl ?_
   refine X.opR rfl (X.zR (y := decide ((h.Berths.length : Int) ≤ 10)) rfl (X.zB h_1) rfl) rfl (X.q rfl ?_)
   iterate 5 refine X.off (X.zt rfl rfl rfl (X.zB (X.zB h_1))) rfl ?_
   iterate 10 refine X.off rfl rfl ?_
   refine X.off (X.zt rfl rfl rfl (X.zB (X.zB h_1))) rfl ?_
   refine X.opR rfl (X.zR (y := ((decide ((h.Tides.length : Int) ≤ 3)) || ((decide (12 < (h.Tides.length : Int))) && (decide ((h.Tides.length : Int) ≤ 20))))) rfl (X.zB (X.zB h_1)) rfl) rfl (X.q rfl (GS.zA ?_))
   exact X.norm _ hg rfl (sr rfl)
  cases hM
  exact GS.ret ⟨_, rfl, ⟨30, rfl⟩⟩
 intro hj_1
 refine GS.block ?_
 refine X.gc [some 0] (X.loop (σ := Int) (fun v => ⟨[(1, (V.ptr 0 0 0)), (3, (V.i v))], [.rows 6 [(zH h)]], 0, none, 67⟩) hM ?_ rfl) rfl rfl rfl (ga rfl rfl) (gb9 rfl rfl rfl zM)
 intro i b_1 hM hc_2 hr_1
 rw [qG] at hM
 refine GS.seq (X.sq (X.q rfl (X.q rfl (X.q rfl ?_))))
 refine X.opR rfl (X.lenF rfl rfl rfl) rfl (X.q rfl (GS.zA ?_))
 refine X.cond rfl (fun h_6 => ?_) (fun h_6 => ?_)
 ·replace hM := za h_6 hM
  refine GS.skip (GS.seq (GS.block (GS.seq ?_)))
  obtain ⟨x, h_7, hM⟩ := zI hM
  obtain ⟨x1, h_8, hM⟩ := zI hM
  refine X.drawc (by kernel_rfl) rfl ?_
  iterate 3 refine X.cop rfl rfl rfl rfl ?_
  refine X.cop rfl (X.ZJ (f := zJ) h_7 (fun _ => rfl) rfl rfl rfl rfl) rfl rfl ?_
  refine X.cop rfl rfl rfl rfl ?_
  refine X.cop rfl (X.Za h_7 rfl rfl rfl) rfl rfl ?_
  iterate 3 refine X.cop rfl rfl rfl rfl ?_
  refine X.cop rfl (X.ZJ (f := zJ) h_8 (fun _ => rfl) rfl rfl rfl rfl) rfl rfl ?_
  refine X.cop rfl rfl rfl rfl ?_
  refine X.cop rfl (X.Za h_8 rfl rfl rfl) rfl rfl ?_
  refine X.cop rfl (X.subE rfl rfl) rfl rfl ?_
  refine X.cop rfl rfl rfl rfl ?_
  refine X.cnil ?_
  refine X.norm [(1, (V.ptr 0 0 0)), (3, (V.i i)), (4, (V.i (w64 (x.Hi - x1.Lo))))] ?_ rfl (sr rfl)
  refine X.sq ?_
  refine X.mid [(1, (V.ptr 0 0 0)), (3, (V.i i)), (30, (V.b ((decide (240 ≤ (w64 (x.Hi - x1.Lo)))) && (decide ((w64 (x.Hi - x1.Lo)) < 1440)))))] ?_ ?_
  ·intro hg
   refine X.split (decide (240 ≤ (w64 (x.Hi - x1.Lo)))) (fun h_9 => ?_) (fun h_9 => ?_)
   ·iterate 3 refine X.q rfl ?_
    iterate 2 refine X.opR (X.on_t rfl rfl rfl h_9) rfl rfl ?_
    refine X.opR rfl (X.zX (y := decide ((w64 (x.Hi - x1.Lo)) < 1440)) rfl h_9 rfl) rfl (GS.zA ?_)
    exact X.norm _ hg rfl (sr rfl)
   iterate 3 refine X.q rfl ?_
   iterate 2 refine X.off (X.zt rfl rfl rfl h_9) rfl ?_
   refine X.opR rfl (X.zR (y := decide ((w64 (x.Hi - x1.Lo)) < 1440)) rfl h_9 rfl) rfl (GS.zA ?_)
   exact X.norm _ hg rfl (sr rfl)
  refine X.cond rfl (fun h_10 => ?_) (fun h_10 => ?_)
  ·replace hM := za h_10 hM
   refine X.sq (X.q rfl (GS.zA ?_))
   have hE := Option.some.inj hM
   replace hE := hr_1 _ hE.symm
   subst hE
   exact GS.ret ⟨_, rfl, ⟨30, rfl⟩⟩
  replace hM := zb h_10 hM
  refine GS.skip ?_
  refine GS.endB (GS.region (X.q rfl ?_))
  refine X.opR rfl (X.addE rfl rfl) rfl (X.q rfl (GS.zA ?_))
  have hE := Option.some.inj hM
  exact X.gc [some 0] (hc_2 (w64 (i + 1)) hE.symm) rfl rfl rfl (ga rfl rfl) (gb9 rfl rfl rfl zM)
 replace hM := zb h_6 hM
 refine GS.exit rfl ?_
 obtain ⟨y_1, hM, hy⟩ := ZV hM
 rw [hr_1 _ hy.symm] at hM
 exact X.gc [some 0] (hj_1 () hM) rfl rfl rfl (ga rfl rfl) (gb9 rfl rfl rfl zM)
theorem zEr : Ct Tryz.prog 38 [] (zH (ZZ)) := by
 refine zg ZR rfl ?_
 generalize hM : ZZ = r
 unfold ZZ at hM
 refine X.sq ?_
 refine X.opW rfl rfl rfl rfl (X.nq ?_)
 refine X.opW rfl rfl rfl rfl (X.q rfl ?_)
 refine X.opW rfl rfl rfl rfl (X.q rfl ?_)
 refine X.opW (H' := [.rows 6 [(V.agg [(V.i 0), V.nil, V.nil, V.nil, V.nil, (V.i 0)])], .rows 1 (List.map V.i ([0, 100, 200, 100])), .rows 4 [(V.agg [(V.i 1), (V.i 0), (V.i 60), (V.osl 1 0 (List.length ([0, 100, 200, 100])))])], .rows 3 [(V.agg [(V.i 0), V.nil, V.nil])]]) rfl rfl rfl rfl ?_
 refine X.op0W (H' := [.rows 6 [(V.agg [(V.i 0), V.nil, V.nil, V.nil, V.nil, (V.i 0)])], .rows 1 (List.map V.i ([0, 100, 200, 100])), .rows 4 [(V.agg [(V.i 1), (V.i 0), (V.i 60), (V.osl 1 0 (List.length ([0, 100, 200, 100])))])], .rows 3 [(V.agg [(V.i 500), (V.osl 2 0 1), V.nil])]]) rfl rfl rfl (X.nq (X.q rfl (X.q rfl (X.q rfl ?_))))
 refine X.opW (H' := [.rows 6 [(V.agg [(V.i 0), V.nil, V.nil, V.nil, V.nil, (V.i 0)])], .rows 1 (List.map V.i ([0, 100, 200, 100])), .rows 4 [(V.agg [(V.i 1), (V.i 0), (V.i 60), (V.osl 1 0 (List.length ([0, 100, 200, 100])))])], .rows 3 [(V.agg [(V.i 500), (V.osl 2 0 1), V.nil])], .rows 2 (List.map zU ([(⟨1, 300⟩ : zm), (⟨2, 100⟩ : zm)]))]) rfl rfl rfl rfl (X.q rfl (X.q rfl ?_))
 refine X.opW (H' := [.rows 6 [(V.agg [(V.i 0), V.nil, V.nil, V.nil, V.nil, (V.i 0)])], .rows 1 (List.map V.i ([0, 100, 200, 100])), .rows 4 [(V.agg [(V.i 1), (V.i 0), (V.i 60), (V.osl 1 0 (List.length ([0, 100, 200, 100])))])], .rows 3 [(V.agg [(V.i 500), (V.osl 2 0 1), V.nil])], .rows 2 (List.map zU ([(⟨1, 300⟩ : zm), (⟨2, 100⟩ : zm)])), .rows 2 (List.map zJ ([(⟨0, 239⟩ : zD), (⟨240, 479⟩ : zD)]))]) rfl rfl rfl rfl ?_
 refine X.q rfl ?_
 refine X.op0W (H' := [.rows 6 [(V.agg [(V.i 500), (V.osl 2 0 1), V.nil, (V.osl 4 0 (List.length ([(⟨1, 300⟩ : zm), (⟨2, 100⟩ : zm)]))), (V.osl 5 0 (List.length ([(⟨0, 239⟩ : zD), (⟨240, 479⟩ : zD)]))), (V.i 50)])], .rows 1 (List.map V.i ([0, 100, 200, 100])), .rows 4 [(V.agg [(V.i 1), (V.i 0), (V.i 60), (V.osl 1 0 (List.length ([0, 100, 200, 100])))])], .rows 3 [(V.agg [(V.i 500), (V.osl 2 0 1), V.nil])], .rows 2 (List.map zU ([(⟨1, 300⟩ : zm), (⟨2, 100⟩ : zm)])), .rows 2 (List.map zJ ([(⟨0, 239⟩ : zD), (⟨240, 479⟩ : zD)]))]) rfl rfl rfl (GS.zA ?_)
 subst hM
 exact GS.ret ⟨_, rfl, ⟨30, rfl⟩⟩
theorem Zf (n : Int) (lo : Int) (hi : Int) : Ct Tryz.prog 92 [(V.i n), (V.i lo), (V.i hi)] (V.b (zh n lo hi)) := by
 refine zg ZR rfl ?_
 generalize hM : zh n lo hi = r
 unfold zh at hM
 refine X.sq (X.q rfl (X.nq ?_))
 refine X.mid [(6, (V.b ((decide (lo ≤ n)) && (decide (n ≤ hi)))))] ?_ ?_
 ·intro hg
  refine X.split (decide (lo ≤ n)) (fun h_1 => ?_) (fun h_1 => ?_)
  ·iterate 4 refine X.q rfl ?_
   iterate 3 refine X.opR (X.on_t rfl rfl rfl h_1) rfl rfl ?_
   refine X.opR rfl (X.zX (y := decide (n ≤ hi)) rfl h_1 rfl) rfl (X.q rfl (GS.zA ?_))
   exact X.norm _ hg rfl (sr rfl)
  iterate 4 refine X.q rfl ?_
  iterate 3 refine X.off (X.zt rfl rfl rfl h_1) rfl ?_
  refine X.opR rfl (X.zR (y := decide (n ≤ hi)) rfl h_1 rfl) rfl (X.q rfl (GS.zA ?_))
  exact X.norm _ hg rfl (sr rfl)
 subst hM
 exact GS.ret ⟨_, rfl, ⟨30, rfl⟩⟩
theorem zBI (n : Int) : Ct Tryz.prog 88 [(V.i n)] (V.b (Zr n)) := by
 refine zg ZR rfl ?_
 generalize hM : Zr n = r
 unfold Zr at hM
 refine X.sq (X.q rfl (X.nq (X.q rfl ?_)))
 refine X.call (Zf n (-4000) 4000) rfl rfl rfl (.cons (.shut (n := 9) rfl) (.cons (.shut (n := 9) rfl) (.cons (.shut (n := 9) rfl) .nil))) (X.q rfl (GS.zA ?_))
 subst hM
 exact GS.ret ⟨_, rfl, ⟨30, rfl⟩⟩
theorem Yq (tick : Int) : Ct Tryz.prog 83 [(V.i tick)] (V.b (Zw tick)) := by
 refine zg ZR rfl ?_
 generalize hM : Zw tick = r
 unfold Zw at hM
 refine X.sq (X.q rfl (X.nq (X.q rfl ?_)))
 refine X.call (Zf tick 0 1048576) rfl rfl rfl (.cons (.shut (n := 9) rfl) (.cons (.shut (n := 9) rfl) (.cons (.shut (n := 9) rfl) .nil))) (X.q rfl (GS.zA ?_))
 subst hM
 exact GS.ret ⟨_, rfl, ⟨30, rfl⟩⟩
theorem zFZ (h : Int) : Ct Tryz.prog 118 [(V.i h)] (V.b (jd h)) := by
 refine zg ZR rfl ?_
 generalize hM : jd h = r
 unfold jd at hM
 refine X.sq (X.q rfl (X.nq (X.q rfl ?_)))
 refine X.call (zBI h) rfl rfl rfl (.cons (.shut (n := 9) rfl) .nil) (X.q rfl (X.q rfl ?_))
 refine GS.zA ?_
 subst hM
 exact GS.ret ⟨_, rfl, ⟨30, rfl⟩⟩
theorem Y5 {s : (List Int)} {r : Int} (hM : Zi s = some r) : Ct Tryz.prog 141 [(V.sl (List.map V.i s)), (V.fn 118 [])] (V.i r) := by
 refine zg ZR rfl ?_
 unfold Zi at hM
 refine X.sq (X.q rfl (GS.zA (GS.seq (X.sq (X.q rfl ?_)))))
 refine X.opR rfl (X.lenF rfl rfl rfl) rfl (X.q rfl (GS.zA ?_))
 refine X.join (τ := Unit) (fun v => Zu = some r) (fun v => ⟨[], [], 0, none, 19⟩) ?_ ?_
 ·intro _ hM
  replace hM : Zu = some r := hM
  unfold Zu at hM
  refine X.sq (X.q rfl (GS.zA ?_))
  cases hM
  exact GS.ret ⟨_, rfl, ⟨30, rfl⟩⟩
 intro hj_1
 refine GS.block ?_
 refine X.gc [] (X.loop (σ := Int) (fun v => ⟨[(0, (V.sl (List.map V.i s))), (1, (V.fn 118 [])), (7, (V.i (s.length : Int))), (8, (V.i v))], [], 0, none, 19⟩) hM ?_ rfl) rfl rfl rfl (ga rfl rfl) (zM)
 intro x1 b_1 hM hc_2 hr_1
 rw [jF] at hM
 refine X.sq (X.q rfl (GS.zA (GS.seq ?_)))
 refine X.cond rfl (fun h_1 => ?_) (fun h_1 => ?_)
 ·replace hM := za h_1 hM
  refine GS.skip (GS.seq (GS.block (X.sq (X.q rfl (X.q rfl ?_)))))
  refine GS.zA (GS.seq ?_)
  obtain ⟨x, h_2, hM⟩ := zI hM
  refine GS.region (X.q rfl (X.q rfl (X.q rfl ?_)))
  refine X.opR rfl (X.ZJ (f := V.i) h_2 (fun _ => rfl) rfl rfl rfl rfl) rfl ?_
  refine X.opR rfl (X.Za h_2 rfl rfl rfl) rfl ?_
  refine X.call (zFZ x) rfl rfl rfl (.cons (.shut (n := 9) rfl) .nil) (GS.zA ?_)
  refine X.cond rfl (fun h_3 => ?_) (fun h_3 => ?_)
  ·replace hM := za h_3 hM
   refine X.sq (X.q rfl (X.q rfl ?_))
   refine GS.zA ?_
   have hE := Option.some.inj hM
   replace hE := hr_1 _ hE.symm
   subst hE
   exact GS.ret ⟨_, rfl, ⟨30, rfl⟩⟩
  replace hM := zb h_3 hM
  refine GS.skip ?_
  refine GS.endB (GS.region ?_)
  refine X.opR rfl (X.addE rfl rfl) rfl (X.q rfl (GS.zA ?_))
  have hE := Option.some.inj hM
  exact X.gc [] (hc_2 (w64 (x1 + 1)) hE.symm) rfl rfl rfl (ga rfl rfl) (zM)
 replace hM := zb h_1 hM
 refine GS.exit rfl ?_
 obtain ⟨y_1, hM, hy⟩ := ZV hM
 rw [hr_1 _ hy.symm] at hM
 exact X.gc [] (hj_1 () hM) rfl rfl rfl (yD) (zM)
theorem Ye {s : (List Int)} {r : Bool} (hM : ZM s = some r) : Ct Tryz.prog 117 [(V.sl (List.map V.i s)), (V.fn 118 [])] (V.b r) := by
 refine zg ZR rfl ?_
 unfold ZM at hM
 refine X.sq (X.q rfl (GS.zA (GS.seq ?_)))
 obtain ⟨y, h_1, hM⟩ := zI hM
 refine GS.region (X.q rfl (X.q rfl ?_))
 refine X.call (Y5 h_1) rfl rfl rfl (.cons (.shut (n := 9) rfl) (.cons (.shut (n := 9) rfl) .nil)) (X.q rfl (X.q rfl ?_))
 refine GS.zA ?_
 cases hM
 exact GS.ret ⟨_, rfl, ⟨30, rfl⟩⟩
theorem zG4 {c : zw} {r : Bool} (hM : Qo c = some r) : Ct Tryz.prog 89 [(ZC c)] (V.b r) := by
 refine zg ZR rfl ?_
 unfold Qo at hM
 refine X.sq ?_
 refine X.opW rfl rfl rfl rfl (X.q rfl (GS.zA (GS.seq ?_)))
 obtain ⟨y, h_1, hM⟩ := zCk hM
 refine GS.region ?_
 refine X.mid [(2, (V.b (((((zh c.ID 1 1099511627776) && (Zw c.Begin)) && (zh c.Every 1 120)) && (zh (c.Heights.length : Int) 1 60)) && (!y))))] ?_ ?_
 ·intro hg
  refine X.split ((zh c.ID 1 1099511627776)) (fun h_2 => ?_) (fun h_2 => ?_)
  ·refine X.split (((zh c.ID 1 1099511627776) && (Zw c.Begin))) (fun h_3 => ?_) (fun h_3 => ?_)
   ·refine X.split ((((zh c.ID 1 1099511627776) && (Zw c.Begin)) && (zh c.Every 1 120))) (fun h_4 => ?_) (fun h_4 => ?_)
    ·refine X.split (((((zh c.ID 1 1099511627776) && (Zw c.Begin)) && (zh c.Every 1 120)) && (zh (c.Heights.length : Int) 1 60))) (fun h_5 => ?_) (fun h_5 => ?_)
     ·iterate 2 refine X.q rfl ?_
      refine X.call (Zf c.ID 1 1099511627776) rfl rfl rfl (.cons (.shut (n := 9) rfl) (.cons (.shut (n := 9) rfl) (.cons (.shut (n := 9) rfl) .nil))) (X.q rfl ?_)
      iterate 2 refine X.opR (X.on_t rfl rfl rfl h_2) rfl rfl ?_
      refine X.call (Yq c.Begin) (X.on_t rfl rfl rfl h_2) rfl rfl (.cons (.shut (n := 9) rfl) .nil) ?_
      refine X.opR rfl (X.zX (y := (Zw c.Begin)) rfl h_2 rfl) rfl (X.q rfl ?_)
      iterate 2 refine X.opR (X.on_t rfl rfl rfl h_3) rfl rfl ?_
      refine X.call (Zf c.Every 1 120) (X.on_t rfl rfl rfl h_3) rfl rfl (.cons (.shut (n := 9) rfl) (.cons (.shut (n := 9) rfl) (.cons (.shut (n := 9) rfl) .nil))) ?_
      refine X.opR rfl (X.zX (y := (zh c.Every 1 120)) rfl h_3 rfl) rfl (X.q rfl ?_)
      iterate 2 refine X.opR (X.on_t rfl rfl rfl h_4) rfl rfl ?_
      refine X.opR (X.on_t rfl rfl rfl h_4) (X.lenF rfl rfl rfl) rfl ?_
      refine X.call (Zf (c.Heights.length : Int) 1 60) (X.on_t rfl rfl rfl h_4) rfl rfl (.cons (.shut (n := 9) rfl) (.cons (.shut (n := 9) rfl) (.cons (.shut (n := 9) rfl) .nil))) ?_
      refine X.opR rfl (X.zX (y := (zh (c.Heights.length : Int) 1 60)) rfl h_4 rfl) rfl (X.q rfl ?_)
      iterate 2 refine X.opR (X.on_t rfl rfl rfl h_5) rfl rfl ?_
      refine X.call (Ye (h_1 h_5)) (X.on_t rfl rfl rfl h_5) rfl rfl (.cons (.shut (n := 9) rfl) (.cons (.shut (n := 9) rfl) .nil)) ?_
      refine X.opR (X.on_t rfl rfl rfl h_5) rfl rfl ?_
      refine X.opR rfl (X.zX (y := !y) rfl h_5 rfl) rfl (X.q rfl (GS.zA ?_))
      exact X.norm _ hg rfl (sr rfl)
     refine X.q rfl (X.q rfl ?_)
     refine X.call (Zf c.ID 1 1099511627776) rfl rfl rfl (.cons (.shut (n := 9) rfl) (.cons (.shut (n := 9) rfl) (.cons (.shut (n := 9) rfl) .nil))) (X.q rfl ?_)
     iterate 2 refine X.opR (X.on_t rfl rfl rfl h_2) rfl rfl ?_
     refine X.call (Yq c.Begin) (X.on_t rfl rfl rfl h_2) rfl rfl (.cons (.shut (n := 9) rfl) .nil) ?_
     refine X.opR rfl (X.zX (y := (Zw c.Begin)) rfl h_2 rfl) rfl (X.q rfl ?_)
     iterate 2 refine X.opR (X.on_t rfl rfl rfl h_3) rfl rfl ?_
     refine X.call (Zf c.Every 1 120) (X.on_t rfl rfl rfl h_3) rfl rfl (.cons (.shut (n := 9) rfl) (.cons (.shut (n := 9) rfl) (.cons (.shut (n := 9) rfl) .nil))) ?_
     refine X.opR rfl (X.zX (y := (zh c.Every 1 120)) rfl h_3 rfl) rfl (X.q rfl ?_)
     iterate 2 refine X.opR (X.on_t rfl rfl rfl h_4) rfl rfl ?_
     refine X.opR (X.on_t rfl rfl rfl h_4) (X.lenF rfl rfl rfl) rfl ?_
     refine X.call (Zf (c.Heights.length : Int) 1 60) (X.on_t rfl rfl rfl h_4) rfl rfl (.cons (.shut (n := 9) rfl) (.cons (.shut (n := 9) rfl) (.cons (.shut (n := 9) rfl) .nil))) ?_
     refine X.opR rfl (X.zX (y := (zh (c.Heights.length : Int) 1 60)) rfl h_4 rfl) rfl (X.q rfl ?_)
     iterate 4 refine X.off (X.zt rfl rfl rfl h_5) rfl ?_
     refine X.opR rfl (X.zR (y := !y) rfl h_5 rfl) rfl (X.q rfl (GS.zA ?_))
     exact X.norm _ hg rfl (sr rfl)
    refine X.q rfl (X.q rfl ?_)
    refine X.call (Zf c.ID 1 1099511627776) rfl rfl rfl (.cons (.shut (n := 9) rfl) (.cons (.shut (n := 9) rfl) (.cons (.shut (n := 9) rfl) .nil))) (X.q rfl ?_)
    iterate 2 refine X.opR (X.on_t rfl rfl rfl h_2) rfl rfl ?_
    refine X.call (Yq c.Begin) (X.on_t rfl rfl rfl h_2) rfl rfl (.cons (.shut (n := 9) rfl) .nil) ?_
    refine X.opR rfl (X.zX (y := (Zw c.Begin)) rfl h_2 rfl) rfl (X.q rfl ?_)
    iterate 2 refine X.opR (X.on_t rfl rfl rfl h_3) rfl rfl ?_
    refine X.call (Zf c.Every 1 120) (X.on_t rfl rfl rfl h_3) rfl rfl (.cons (.shut (n := 9) rfl) (.cons (.shut (n := 9) rfl) (.cons (.shut (n := 9) rfl) .nil))) ?_
    refine X.opR rfl (X.zX (y := (zh c.Every 1 120)) rfl h_3 rfl) rfl (X.q rfl ?_)
    iterate 4 refine X.off (X.zt rfl rfl rfl h_4) rfl ?_
    refine X.opR rfl (X.zR (y := (zh (c.Heights.length : Int) 1 60)) rfl h_4 rfl) rfl (X.q rfl ?_)
    iterate 4 refine X.off (X.zt rfl rfl rfl (X.zB h_4)) rfl ?_
    refine X.opR rfl (X.zR (y := !y) rfl (X.zB h_4) rfl) rfl (X.q rfl (GS.zA ?_))
    exact X.norm _ hg rfl (sr rfl)
   refine X.q rfl (X.q rfl ?_)
   refine X.call (Zf c.ID 1 1099511627776) rfl rfl rfl (.cons (.shut (n := 9) rfl) (.cons (.shut (n := 9) rfl) (.cons (.shut (n := 9) rfl) .nil))) (X.q rfl ?_)
   iterate 2 refine X.opR (X.on_t rfl rfl rfl h_2) rfl rfl ?_
   refine X.call (Yq c.Begin) (X.on_t rfl rfl rfl h_2) rfl rfl (.cons (.shut (n := 9) rfl) .nil) ?_
   refine X.opR rfl (X.zX (y := (Zw c.Begin)) rfl h_2 rfl) rfl (X.q rfl ?_)
   iterate 3 refine X.off (X.zt rfl rfl rfl h_3) rfl ?_
   refine X.opR rfl (X.zR (y := (zh c.Every 1 120)) rfl h_3 rfl) rfl (X.q rfl ?_)
   iterate 4 refine X.off (X.zt rfl rfl rfl (X.zB h_3)) rfl ?_
   refine X.opR rfl (X.zR (y := (zh (c.Heights.length : Int) 1 60)) rfl (X.zB h_3) rfl) rfl (X.q rfl ?_)
   iterate 4 refine X.off (X.zt rfl rfl rfl (X.zB (X.zB h_3))) rfl ?_
   refine X.opR rfl (X.zR (y := !y) rfl (X.zB (X.zB h_3)) rfl) rfl (X.q rfl (GS.zA ?_))
   exact X.norm _ hg rfl (sr rfl)
  refine X.q rfl (X.q rfl ?_)
  refine X.call (Zf c.ID 1 1099511627776) rfl rfl rfl (.cons (.shut (n := 9) rfl) (.cons (.shut (n := 9) rfl) (.cons (.shut (n := 9) rfl) .nil))) (X.q rfl ?_)
  iterate 3 refine X.off (X.zt rfl rfl rfl h_2) rfl ?_
  refine X.opR rfl (X.zR (y := (Zw c.Begin)) rfl h_2 rfl) rfl (X.q rfl ?_)
  iterate 3 refine X.off (X.zt rfl rfl rfl (X.zB h_2)) rfl ?_
  refine X.opR rfl (X.zR (y := (zh c.Every 1 120)) rfl (X.zB h_2) rfl) rfl (X.q rfl ?_)
  iterate 4 refine X.off (X.zt rfl rfl rfl (X.zB (X.zB h_2))) rfl ?_
  refine X.opR rfl (X.zR (y := (zh (c.Heights.length : Int) 1 60)) rfl (X.zB (X.zB h_2)) rfl) rfl (X.q rfl ?_)
  iterate 4 refine X.off (X.zt rfl rfl rfl (X.zB (X.zB (X.zB h_2)))) rfl ?_
  refine X.opR rfl (X.zR (y := !y) rfl (X.zB (X.zB (X.zB h_2))) rfl) rfl (X.q rfl (GS.zA ?_))
  exact X.norm _ hg rfl (sr rfl)
 cases hM
 exact GS.ret ⟨_, rfl, ⟨30, rfl⟩⟩
theorem zFd (x : zw) (c : zw) : Ct Tryz.prog 91 [(ZC x), (V.fptr [(ZC c)] 0 0)] (V.b (ym x c)) := by
 refine zg ZR rfl ?_
 generalize hM : ym x c = r
 unfold ym at hM
 refine X.sq ?_
 refine X.opW rfl rfl rfl rfl (X.q rfl (X.nq ?_))
 iterate 6 refine X.q rfl ?_
 refine GS.zA ?_
 subst hM
 exact GS.ret ⟨_, rfl, ⟨30, rfl⟩⟩
theorem yg {s : (List zw)} {c : zw} {r : Int} (hM : ZG s c = some r) : Ct Tryz.prog 119 [(V.sl (List.map ZC s)), (V.fn 91 [(V.fptr [(ZC c)] 0 0)])] (V.i r) := by
 refine zg ZR rfl ?_
 unfold ZG at hM
 refine X.sq (X.q rfl (GS.zA (GS.seq (X.sq (X.q rfl ?_)))))
 refine X.opR rfl (X.lenF rfl rfl rfl) rfl (X.q rfl (GS.zA ?_))
 refine X.join (τ := Unit) (fun v => Zd = some r) (fun v => ⟨[], [], 0, none, 19⟩) ?_ ?_
 ·intro _ hM
  replace hM : Zd = some r := hM
  unfold Zd at hM
  refine X.sq (X.q rfl (GS.zA ?_))
  cases hM
  exact GS.ret ⟨_, rfl, ⟨30, rfl⟩⟩
 intro hj_1
 refine GS.block ?_
 refine X.gc [] (X.loop (σ := Int) (fun v => ⟨[(0, (V.sl (List.map ZC s))), (1, (V.fn 91 [(V.fptr [(ZC c)] 0 0)])), (7, (V.i (s.length : Int))), (8, (V.i v))], [], 0, none, 19⟩) hM ?_ rfl) rfl rfl rfl (ga rfl rfl) (zM)
 intro x1 b_1 hM hc_2 hr_1
 rw [ZU] at hM
 refine X.sq (X.q rfl (GS.zA (GS.seq ?_)))
 refine X.cond rfl (fun h_1 => ?_) (fun h_1 => ?_)
 ·replace hM := za h_1 hM
  refine GS.skip (GS.seq (GS.block (X.sq (X.q rfl (X.q rfl ?_)))))
  refine GS.zA (GS.seq ?_)
  obtain ⟨x, h_2, hM⟩ := zI hM
  refine GS.region (X.q rfl (X.q rfl (X.q rfl ?_)))
  refine X.opR rfl (X.ZJ (f := ZC) h_2 (fun _ => rfl) rfl rfl rfl rfl) rfl ?_
  refine X.opR rfl (X.Za h_2 rfl rfl rfl) rfl ?_
  refine X.call (zFd x c) rfl rfl rfl (.cons (.shut (n := 9) rfl) (.cons (.shut (n := 9) rfl) .nil)) (GS.zA ?_)
  refine X.cond rfl (fun h_3 => ?_) (fun h_3 => ?_)
  ·replace hM := za h_3 hM
   refine X.sq (X.q rfl (X.q rfl ?_))
   refine GS.zA ?_
   have hE := Option.some.inj hM
   replace hE := hr_1 _ hE.symm
   subst hE
   exact GS.ret ⟨_, rfl, ⟨30, rfl⟩⟩
  replace hM := zb h_3 hM
  refine GS.skip ?_
  refine GS.endB (GS.region ?_)
  refine X.opR rfl (X.addE rfl rfl) rfl (X.q rfl (GS.zA ?_))
  have hE := Option.some.inj hM
  exact X.gc [] (hc_2 (w64 (x1 + 1)) hE.symm) rfl rfl rfl (ga rfl rfl) (zM)
 replace hM := zb h_1 hM
 refine GS.exit rfl ?_
 obtain ⟨y_1, hM, hy⟩ := ZV hM
 rw [hr_1 _ hy.symm] at hM
 exact X.gc [] (hj_1 () hM) rfl rfl rfl (yD) (zM)
theorem yB {s : (List zw)} {c : zw} {r : Bool} (hM : ZK s c = some r) : Ct Tryz.prog 90 [(V.sl (List.map ZC s)), (V.fn 91 [(V.fptr [(ZC c)] 0 0)])] (V.b r) := by
 refine zg ZR rfl ?_
 unfold ZK at hM
 refine X.sq (X.q rfl (GS.zA (GS.seq ?_)))
 obtain ⟨y, h_1, hM⟩ := zI hM
 refine GS.region (X.q rfl (X.q rfl ?_))
 refine X.call (yg h_1) rfl rfl rfl (.cons (.shut (n := 9) rfl) (.cons (.shut (n := 9) rfl) .nil)) (X.q rfl (X.q rfl ?_))
 refine GS.zA ?_
 cases hM
 exact GS.ret ⟨_, rfl, ⟨30, rfl⟩⟩
set_option maxHeartbeats 4000000 in
theorem zBJ {w : zY} {r : Int} (hM : yn w = some r) : Ct Tryz.prog 51 [(ZI w)] (V.i r) := by
 refine zg ZR rfl ?_
 unfold yn at hM
 refine X.sq ?_
 refine X.opW rfl rfl rfl rfl (X.q rfl (GS.zA (GS.seq (GS.block (X.sq (X.q rfl (X.q rfl ?_)))))))
 refine X.call (zBI w.Level) rfl rfl rfl (.cons (.shut (n := 9) rfl) .nil) (X.q rfl (X.q rfl ?_))
 refine GS.zA ?_
 refine X.cond rfl (fun h_1 => ?_) (fun h_1 => ?_)
 ·replace hM := za h_1 hM
  refine X.sq (X.q rfl (GS.zA ?_))
  cases hM
  exact GS.ret ⟨_, rfl, ⟨30, rfl⟩⟩
 replace hM := zb h_1 hM
 refine X.sq ?_
 refine X.mid [(1, (V.ptr 0 0 0)), (13, (V.b ((decide (6 < (w.Cycles.length : Int))) || (decide (20 < (w.Shifts.length : Int))))))] ?_ ?_
 ·intro hg
  refine X.split (decide (6 < (w.Cycles.length : Int))) (fun h_2 => ?_) (fun h_2 => ?_)
  ·iterate 2 refine X.q rfl ?_
   refine X.opR rfl (X.lenF rfl rfl rfl) rfl (X.q rfl (X.q rfl ?_))
   iterate 4 refine X.off (X.ZT rfl rfl rfl h_2) rfl ?_
   refine X.opR rfl (X.zf (y := decide (20 < (w.Shifts.length : Int))) rfl h_2 rfl) rfl (X.q rfl (GS.zA ?_))
   exact X.norm _ hg rfl (sr rfl)
  refine X.q rfl (X.q rfl ?_)
  refine X.opR rfl (X.lenF rfl rfl rfl) rfl (X.q rfl (X.q rfl ?_))
  iterate 2 refine X.opR (X.on_f rfl rfl rfl h_2) rfl rfl ?_
  refine X.opR (X.on_f rfl rfl rfl h_2) (X.lenF rfl rfl rfl) rfl ?_
  refine X.opR (X.on_f rfl rfl rfl h_2) rfl rfl ?_
  refine X.opR rfl (X.ze (y := decide (20 < (w.Shifts.length : Int))) rfl h_2 rfl) rfl (X.q rfl (GS.zA ?_))
  exact X.norm _ hg rfl (sr rfl)
 refine X.cond rfl (fun h_3 => ?_) (fun h_3 => ?_)
 ·replace hM := za h_3 hM
  refine X.sq (X.q rfl (GS.zA ?_))
  cases hM
  exact GS.ret ⟨_, rfl, ⟨30, rfl⟩⟩
 replace hM := zb h_3 hM
 refine GS.skip ?_
 refine GS.endB (GS.seq (X.sq (X.q rfl (X.q rfl ?_))))
 refine X.opR rfl (X.lenF rfl rfl rfl) rfl (X.q rfl (GS.zA ?_))
 refine X.join (τ := Unit) (fun v => Jd w = some r) (fun v => ⟨[(1, (V.ptr 0 0 0))], [.rows 3 [(ZI w)]], 0, none, 71⟩) ?_ ?_
 ·intro _ hM
  replace hM : Jd w = some r := hM
  unfold Jd at hM
  refine X.sq (X.q rfl (GS.zA (GS.seq (X.sq (X.q rfl (X.q rfl ?_))))))
  refine X.opR rfl (X.lenF rfl rfl rfl) rfl (X.q rfl (GS.zA ?_))
  refine X.join (τ := Unit) (fun v => qj = some r) (fun v => ⟨[], [], 0, none, 71⟩) ?_ ?_
  ·intro _ hM
   replace hM : qj = some r := hM
   unfold qj at hM
   refine X.sq (X.q rfl (GS.zA ?_))
   cases hM
   exact GS.ret ⟨_, rfl, ⟨30, rfl⟩⟩
  intro hj_2
  refine GS.block ?_
  refine X.gc [] (X.loop (σ := (Int × Int)) (fun v => ⟨[(5, (V.i v.1)), (43, (V.sl (List.map JH w.Shifts))), (44, (V.i (w.Shifts.length : Int))), (45, (V.i v.2))], [], 0, none, 71⟩) hM ?_ rfl) rfl rfl rfl (ga rfl rfl) (zM)
  rintro ⟨last, x1⟩ b_1 hM hc_3 hr_1
  rw [QU] at hM
  refine X.sq (X.q rfl (GS.zA (GS.seq ?_)))
  refine X.cond rfl (fun h_4 => ?_) (fun h_4 => ?_)
  ·replace hM := za h_4 hM
   refine GS.skip (GS.seq (GS.block (GS.seq ?_)))
   obtain ⟨x, h_5, hM⟩ := zI hM
   refine GS.region ?_
   refine X.opR rfl (X.ZJ (f := JH) h_5 (fun _ => rfl) rfl rfl rfl rfl) rfl ?_
   refine X.opR rfl (X.Za h_5 rfl rfl rfl) rfl ?_
   refine X.opW rfl rfl rfl rfl ?_
   refine X.op0W rfl rfl rfl (GS.zA (GS.seq (X.sq ?_)))
   refine X.mid [(7, (V.ptr 0 0 0)), (43, (V.sl (List.map JH w.Shifts))), (44, (V.i (w.Shifts.length : Int))), (45, (V.i x1)), (67, (V.b (((!(zh x.From (w64 (last + 1)) x.To)) || (decide (728 < x.To))) || (!(Zr x.Add)))))] ?_ ?_
   ·intro hg
    refine X.split (!(zh x.From (w64 (last + 1)) x.To)) (fun h_6 => ?_) (fun h_6 => ?_)
    ·iterate 3 refine X.q rfl ?_
     refine X.opR rfl (X.addE rfl rfl) rfl (X.q rfl (X.q rfl ?_))
     refine X.call (Zf x.From (w64 (last + 1)) x.To) rfl rfl rfl (.cons (.shut (n := 9) rfl) (.cons (.shut (n := 9) rfl) (.cons (.shut (n := 9) rfl) .nil))) (X.q rfl (X.q rfl ?_))
     iterate 3 refine X.off (X.ZT rfl rfl rfl h_6) rfl ?_
     refine X.opR rfl (X.zf (y := decide (728 < x.To)) rfl h_6 rfl) rfl (X.q rfl ?_)
     iterate 4 refine X.off (X.ZT rfl rfl rfl (X.zV h_6)) rfl ?_
     refine X.opR rfl (X.zf (y := !(Zr x.Add)) rfl (X.zV h_6) rfl) rfl (GS.zA ?_)
     exact X.norm _ hg rfl (sr rfl)
    refine X.split (((!(zh x.From (w64 (last + 1)) x.To)) || (decide (728 < x.To)))) (fun h_7 => ?_) (fun h_7 => ?_)
    ·iterate 3 refine X.q rfl ?_
     refine X.opR rfl (X.addE rfl rfl) rfl (X.q rfl (X.q rfl ?_))
     refine X.call (Zf x.From (w64 (last + 1)) x.To) rfl rfl rfl (.cons (.shut (n := 9) rfl) (.cons (.shut (n := 9) rfl) (.cons (.shut (n := 9) rfl) .nil))) (X.q rfl (X.q rfl ?_))
     iterate 3 refine X.opR (X.on_f rfl rfl rfl h_6) rfl rfl ?_
     refine X.opR rfl (X.ze (y := decide (728 < x.To)) rfl h_6 rfl) rfl (X.q rfl ?_)
     iterate 4 refine X.off (X.ZT rfl rfl rfl h_7) rfl ?_
     refine X.opR rfl (X.zf (y := !(Zr x.Add)) rfl h_7 rfl) rfl (GS.zA ?_)
     exact X.norm _ hg rfl (sr rfl)
    iterate 3 refine X.q rfl ?_
    refine X.opR rfl (X.addE rfl rfl) rfl (X.q rfl (X.q rfl ?_))
    refine X.call (Zf x.From (w64 (last + 1)) x.To) rfl rfl rfl (.cons (.shut (n := 9) rfl) (.cons (.shut (n := 9) rfl) (.cons (.shut (n := 9) rfl) .nil))) (X.q rfl (X.q rfl ?_))
    iterate 3 refine X.opR (X.on_f rfl rfl rfl h_6) rfl rfl ?_
    refine X.opR rfl (X.ze (y := decide (728 < x.To)) rfl h_6 rfl) rfl (X.q rfl ?_)
    iterate 2 refine X.opR (X.on_f rfl rfl rfl h_7) rfl rfl ?_
    refine X.call (zBI x.Add) (X.on_f rfl rfl rfl h_7) rfl rfl (.cons (.shut (n := 9) rfl) .nil) ?_
    refine X.opR (X.on_f rfl rfl rfl h_7) rfl rfl ?_
    refine X.opR rfl (X.ze (y := !(Zr x.Add)) rfl h_7 rfl) rfl (GS.zA ?_)
    exact X.norm _ hg rfl (sr rfl)
   refine X.cond rfl (fun h_8 => ?_) (fun h_8 => ?_)
   ·replace hM := za h_8 hM
    refine X.sq (X.q rfl (GS.zA ?_))
    have hE := Option.some.inj hM
    replace hE := hr_1 _ hE.symm
    subst hE
    exact GS.ret ⟨_, rfl, ⟨30, rfl⟩⟩
   replace hM := zb h_8 hM
   refine GS.skip (GS.region (X.q rfl (X.q rfl (X.q rfl ?_))))
   refine GS.zA ?_
   refine GS.endB (GS.region ?_)
   refine X.opR rfl (X.addE rfl rfl) rfl (X.q rfl (GS.zA ?_))
   have hE := Option.some.inj hM
   exact X.gc [] (hc_3 (x.To, w64 (x1 + 1)) hE.symm) rfl rfl rfl (ga rfl rfl) (zM)
  replace hM := zb h_4 hM
  refine GS.exit rfl ?_
  obtain ⟨y_1, hM, hy⟩ := ZV hM
  rw [hr_1 _ hy.symm] at hM
  exact X.gc [] (hj_2 () hM) rfl rfl rfl (yD) (zM)
 intro hj_1
 refine GS.block ?_
 refine X.gc [some 0] (X.loop (σ := Int) (fun v => ⟨[(1, (V.ptr 0 0 0)), (25, (V.sl (List.map ZC w.Cycles))), (26, (V.i (w.Cycles.length : Int))), (27, (V.i v))], [.rows 3 [(ZI w)]], 0, none, 71⟩) hM ?_ rfl) rfl rfl rfl (ga rfl rfl) (gb9 rfl rfl rfl zM)
 intro x3 b_1 hM hc_4 hr_1
 rw [QT] at hM
 refine X.sq (X.q rfl (GS.zA (GS.seq ?_)))
 refine X.cond rfl (fun h_9 => ?_) (fun h_9 => ?_)
 ·replace hM := za h_9 hM
  refine GS.skip (GS.seq (GS.block (GS.seq ?_)))
  obtain ⟨x2, h_10, hM⟩ := zI hM
  refine GS.region (X.q rfl ?_)
  refine X.opR rfl (X.ZJ (f := ZC) h_10 (fun _ => rfl) rfl rfl rfl rfl) rfl ?_
  refine X.opR rfl (X.Za h_10 rfl rfl rfl) rfl ?_
  refine X.opW rfl rfl rfl rfl (X.q rfl ?_)
  refine X.op0W rfl rfl rfl (GS.zA ?_)
  iterate 2 refine GS.seq ?_
  obtain ⟨y, h_11, hM⟩ := zI hM
  refine GS.region (X.q rfl ?_)
  refine X.call (zG4 h_11) rfl rfl rfl (.cons (.shut (n := 9) rfl) .nil) (X.q rfl (GS.zA ?_))
  refine X.cond rfl (fun h_12 => ?_) (fun h_12 => ?_)
  ·replace hM := za h_12 hM
   refine X.sq (X.q rfl (GS.zA ?_))
   have hE := Option.some.inj hM
   replace hE := hr_1 _ hE.symm
   subst hE
   exact GS.ret ⟨_, rfl, ⟨30, rfl⟩⟩
  replace hM := zb h_12 hM
  refine GS.skip (GS.seq ?_)
  obtain ⟨l, h_13, hM⟩ := zI hM
  obtain ⟨y1, h_14, hM⟩ := zI hM
  refine GS.region (X.q rfl (X.q rfl (X.q rfl ?_)))
  refine X.opR rfl (X.sliceF (f := ZC) h_13 (fun _ => rfl) rfl rfl rfl rfl rfl rfl (X.zB4 rfl)) rfl (X.q rfl ?_)
  refine X.zCF (yB h_14) rfl rfl rfl (m := 9) rfl (.cons (.shut (n := 9) rfl) (.cons (FR.arg ⟨30, rfl⟩) .nil)) (GS.zA ?_)
  refine X.cond rfl (fun h_15 => ?_) (fun h_15 => ?_)
  ·replace hM := za h_15 hM
   refine X.sq (X.q rfl (GS.zA ?_))
   have hE := Option.some.inj hM
   replace hE := hr_1 _ hE.symm
   subst hE
   exact GS.ret ⟨_, rfl, ⟨30, rfl⟩⟩
  replace hM := zb h_15 hM
  refine GS.skip ?_
  refine GS.endB (GS.region ?_)
  refine X.opR rfl (X.addE rfl rfl) rfl (X.q rfl (GS.zA ?_))
  have hE := Option.some.inj hM
  exact X.gc [some 0] (hc_4 (w64 (x3 + 1)) hE.symm) rfl rfl rfl (ga rfl rfl) (gb9 rfl rfl rfl zM)
 replace hM := zb h_9 hM
 refine GS.exit rfl ?_
 obtain ⟨y_1, hM, hy⟩ := ZV hM
 rw [hr_1 _ hy.symm] at hM
 exact X.gc [some 0] (hj_1 () hM) rfl rfl rfl (ga rfl rfl) (gb9 rfl rfl rfl zM)
theorem ZN (n : Int) (lo : Int) (hi : Int) : Ct Tryz.prog 46 [(V.i n), (V.i lo), (V.i hi)] (V.b (zZ n lo hi)) := by
 refine zg ZR rfl ?_
 generalize hM : zZ n lo hi = r
 unfold zZ at hM
 refine X.sq (X.q rfl (X.nq ?_))
 refine X.mid [(6, (V.b ((decide (lo ≤ n)) && (decide (n ≤ hi)))))] ?_ ?_
 ·intro hg
  refine X.split (decide (lo ≤ n)) (fun h_1 => ?_) (fun h_1 => ?_)
  ·iterate 4 refine X.q rfl ?_
   iterate 3 refine X.opR (X.on_t rfl rfl rfl h_1) rfl rfl ?_
   refine X.opR rfl (X.zX (y := decide (n ≤ hi)) rfl h_1 rfl) rfl (X.q rfl (GS.zA ?_))
   exact X.norm _ hg rfl (sr rfl)
  iterate 4 refine X.q rfl ?_
  iterate 3 refine X.off (X.zt rfl rfl rfl h_1) rfl ?_
  refine X.opR rfl (X.zR (y := decide (n ≤ hi)) rfl h_1 rfl) rfl (X.q rfl (GS.zA ?_))
  exact X.norm _ hg rfl (sr rfl)
 subst hM
 exact GS.ret ⟨_, rfl, ⟨30, rfl⟩⟩
theorem zEs (b : zm) : Ct Tryz.prog 41 [(zU b)] (V.i (Qe b)) := by
 refine zg ZR rfl ?_
 generalize hM : Qe b = r
 unfold Qe at hM
 refine X.sq ?_
 refine X.opW rfl rfl rfl rfl (X.q rfl (X.nq (X.q rfl (X.q rfl (X.q rfl ?_)))))
 refine GS.zA ?_
 subst hM
 exact GS.ret ⟨_, rfl, ⟨30, rfl⟩⟩
theorem YI (x : zm) (c : Int) : Ct Tryz.prog 82 [(zU x), (V.fptr [(V.fn 41 [])] 0 0), (V.fptr [(V.i c)] 0 0)] (V.b (Zp x c)) := by
 refine zg ZR rfl ?_
 generalize hM : Zp x c = r
 unfold Zp at hM
 refine X.sq ?_
 refine X.opW rfl rfl rfl rfl (X.q rfl (GS.zA (GS.seq ?_)))
 refine X.drawc (by kernel_rfl) rfl ?_
 iterate 2 refine X.cop rfl rfl rfl rfl ?_
 refine X.ccall (zEs x) rfl rfl rfl rfl (.cons (.shut (n := 9) rfl) .nil) ?_
 iterate 3 refine X.cop rfl rfl rfl rfl ?_
 refine X.cnil ?_
 refine X.norm [(4, (V.b (decide ((Qe x) = c))))] ?_ rfl (sr rfl)
 subst hM
 exact GS.ret ⟨_, rfl, ⟨30, rfl⟩⟩
theorem jP {s : (List zm)} {c : Int} {r : Int} (hM : ZA s c = some r) : Ct Tryz.prog 81 [(V.sl (List.map zU s)), (V.fn 82 [(V.fptr [(V.fn 41 [])] 0 0), (V.fptr [(V.i c)] 0 0)])] (V.i r) := by
 refine zg ZR rfl ?_
 unfold ZA at hM
 refine X.sq (X.q rfl (GS.zA (GS.seq (X.sq (X.q rfl ?_)))))
 refine X.opR rfl (X.lenF rfl rfl rfl) rfl (X.q rfl (GS.zA ?_))
 refine X.join (τ := Unit) (fun v => zx = some r) (fun v => ⟨[], [], 0, none, 19⟩) ?_ ?_
 ·intro _ hM
  replace hM : zx = some r := hM
  unfold zx at hM
  refine X.sq (X.q rfl (GS.zA ?_))
  cases hM
  exact GS.ret ⟨_, rfl, ⟨30, rfl⟩⟩
 intro hj_1
 refine GS.block ?_
 refine X.gc [] (X.loop (σ := Int) (fun v => ⟨[(0, (V.sl (List.map zU s))), (1, (V.fn 82 [(V.fptr [(V.fn 41 [])] 0 0), (V.fptr [(V.i c)] 0 0)])), (7, (V.i (s.length : Int))), (8, (V.i v))], [], 0, none, 19⟩) hM ?_ rfl) rfl rfl rfl (ga rfl rfl) (zM)
 intro x1 b_1 hM hc_2 hr_1
 rw [zk] at hM
 refine X.sq (X.q rfl (GS.zA (GS.seq ?_)))
 refine X.cond rfl (fun h_1 => ?_) (fun h_1 => ?_)
 ·replace hM := za h_1 hM
  refine GS.skip (GS.seq (GS.block (X.sq (X.q rfl (X.q rfl ?_)))))
  refine GS.zA (GS.seq ?_)
  obtain ⟨x, h_2, hM⟩ := zI hM
  refine GS.region (X.q rfl (X.q rfl (X.q rfl ?_)))
  refine X.opR rfl (X.ZJ (f := zU) h_2 (fun _ => rfl) rfl rfl rfl rfl) rfl ?_
  refine X.opR rfl (X.Za h_2 rfl rfl rfl) rfl ?_
  refine X.call (YI x c) rfl rfl rfl (.cons (.shut (n := 9) rfl) (.cons (.shut (n := 9) rfl) (.cons (.shut (n := 9) rfl) .nil))) (GS.zA ?_)
  refine X.cond rfl (fun h_3 => ?_) (fun h_3 => ?_)
  ·replace hM := za h_3 hM
   refine X.sq (X.q rfl (X.q rfl ?_))
   refine GS.zA ?_
   have hE := Option.some.inj hM
   replace hE := hr_1 _ hE.symm
   subst hE
   exact GS.ret ⟨_, rfl, ⟨30, rfl⟩⟩
  replace hM := zb h_3 hM
  refine GS.skip ?_
  refine GS.endB (GS.region ?_)
  refine X.opR rfl (X.addE rfl rfl) rfl (X.q rfl (GS.zA ?_))
  have hE := Option.some.inj hM
  exact X.gc [] (hc_2 (w64 (x1 + 1)) hE.symm) rfl rfl rfl (ga rfl rfl) (zM)
 replace hM := zb h_1 hM
 refine GS.exit rfl ?_
 obtain ⟨y_1, hM, hy⟩ := ZV hM
 rw [hr_1 _ hy.symm] at hM
 exact X.gc [] (hj_1 () hM) rfl rfl rfl (yD) (zM)
theorem Zm {l : (List zm)} {id : Int} {r : Int} (hM : zu l id = some r) : Ct Tryz.prog 40 [(V.sl (List.map zU l)), (V.i id), (V.fn 41 [])] (V.i r) := by
 refine zg ZR rfl ?_
 unfold zu at hM
 refine X.sq ?_
 iterate 2 refine X.opW rfl rfl rfl rfl ?_
 refine X.q rfl (GS.zA (GS.seq ?_))
 obtain ⟨y, h_1, hM⟩ := zI hM
 refine GS.region (X.q rfl (X.q rfl ?_))
 refine X.zCF (jP h_1) rfl rfl rfl (m := 9) rfl (.cons (.shut (n := 9) rfl) (.cons (FR.arg ⟨30, rfl⟩) .nil)) (X.q rfl (GS.zA ?_))
 cases hM
 exact GS.ret ⟨_, rfl, ⟨30, rfl⟩⟩
theorem zAx (s : zD) : Ct Tryz.prog 47 [(zJ s)] (V.b (jr s)) := by
 refine zg ZR rfl ?_
 generalize hM : jr s = r
 unfold jr at hM
 refine X.sq ?_
 refine X.opW rfl rfl rfl rfl (X.q rfl (X.nq ?_))
 refine X.mid [(2, (V.b ((((decide (0 ≤ s.Lo)) && (decide (s.Lo ≤ s.Hi))) && (decide (s.Hi ≤ 1048576))) && (decide ((w64 (s.Hi - s.Lo)) < 1440)))))] ?_ ?_
 ·intro hg
  refine X.split (decide (0 ≤ s.Lo)) (fun h_1 => ?_) (fun h_1 => ?_)
  ·refine X.split (((decide (0 ≤ s.Lo)) && (decide (s.Lo ≤ s.Hi)))) (fun h_2 => ?_) (fun h_2 => ?_)
   ·refine X.split ((((decide (0 ≤ s.Lo)) && (decide (s.Lo ≤ s.Hi))) && (decide (s.Hi ≤ 1048576)))) (fun h_3 => ?_) (fun h_3 => ?_)
    ·iterate 4 refine X.q rfl ?_
     iterate 5 refine X.opR (X.on_t rfl rfl rfl h_1) rfl rfl ?_
     refine X.opR rfl (X.zX (y := decide (s.Lo ≤ s.Hi)) rfl h_1 rfl) rfl (X.q rfl ?_)
     iterate 3 refine X.opR (X.on_t rfl rfl rfl h_2) rfl rfl ?_
     refine X.opR rfl (X.zX (y := decide (s.Hi ≤ 1048576)) rfl h_2 rfl) rfl (X.q rfl ?_)
     iterate 4 refine X.opR (X.on_t rfl rfl rfl h_3) rfl rfl ?_
     refine X.opR (X.on_t rfl rfl rfl h_3) (X.subE rfl rfl) rfl ?_
     refine X.opR (X.on_t rfl rfl rfl h_3) rfl rfl ?_
     refine X.opR rfl (X.zX (y := decide ((w64 (s.Hi - s.Lo)) < 1440)) rfl h_3 rfl) rfl (X.q rfl (GS.zA ?_))
     exact X.norm _ hg rfl (sr rfl)
    iterate 4 refine X.q rfl ?_
    iterate 5 refine X.opR (X.on_t rfl rfl rfl h_1) rfl rfl ?_
    refine X.opR rfl (X.zX (y := decide (s.Lo ≤ s.Hi)) rfl h_1 rfl) rfl (X.q rfl ?_)
    iterate 3 refine X.opR (X.on_t rfl rfl rfl h_2) rfl rfl ?_
    refine X.opR rfl (X.zX (y := decide (s.Hi ≤ 1048576)) rfl h_2 rfl) rfl (X.q rfl ?_)
    iterate 6 refine X.off (X.zt rfl rfl rfl h_3) rfl ?_
    refine X.opR rfl (X.zR (y := decide ((w64 (s.Hi - s.Lo)) < 1440)) rfl h_3 rfl) rfl (X.q rfl (GS.zA ?_))
    exact X.norm _ hg rfl (sr rfl)
   iterate 4 refine X.q rfl ?_
   iterate 5 refine X.opR (X.on_t rfl rfl rfl h_1) rfl rfl ?_
   refine X.opR rfl (X.zX (y := decide (s.Lo ≤ s.Hi)) rfl h_1 rfl) rfl (X.q rfl ?_)
   iterate 3 refine X.off (X.zt rfl rfl rfl h_2) rfl ?_
   refine X.opR rfl (X.zR (y := decide (s.Hi ≤ 1048576)) rfl h_2 rfl) rfl (X.q rfl ?_)
   iterate 6 refine X.off (X.zt rfl rfl rfl (X.zB h_2)) rfl ?_
   refine X.opR rfl (X.zR (y := decide ((w64 (s.Hi - s.Lo)) < 1440)) rfl (X.zB h_2) rfl) rfl (X.q rfl (GS.zA ?_))
   exact X.norm _ hg rfl (sr rfl)
  iterate 4 refine X.q rfl ?_
  iterate 5 refine X.off (X.zt rfl rfl rfl h_1) rfl ?_
  refine X.opR rfl (X.zR (y := decide (s.Lo ≤ s.Hi)) rfl h_1 rfl) rfl (X.q rfl ?_)
  iterate 3 refine X.off (X.zt rfl rfl rfl (X.zB h_1)) rfl ?_
  refine X.opR rfl (X.zR (y := decide (s.Hi ≤ 1048576)) rfl (X.zB h_1) rfl) rfl (X.q rfl ?_)
  iterate 6 refine X.off (X.zt rfl rfl rfl (X.zB (X.zB h_1))) rfl ?_
  refine X.opR rfl (X.zR (y := decide ((w64 (s.Hi - s.Lo)) < 1440)) rfl (X.zB (X.zB h_1)) rfl) rfl (X.q rfl (GS.zA ?_))
  exact X.norm _ hg rfl (sr rfl)
 subst hM
 exact GS.ret ⟨_, rfl, ⟨30, rfl⟩⟩
set_option maxHeartbeats 4000000 in
theorem Yr {h : zL} {r : Int} (hM : J9 h = some r) : Ct Tryz.prog 13 [(zH h)] (V.i r) := by
 refine zg ZR rfl ?_
 unfold J9 at hM
 refine X.sq ?_
 refine X.opW rfl rfl rfl rfl (X.q rfl (GS.zA ?_))
 iterate 2 refine GS.seq ?_
 obtain ⟨y, h_1, hM⟩ := zI hM
 refine GS.region (X.q rfl (X.q rfl ?_))
 refine X.call (zBJ h_1) rfl rfl rfl (.cons (.shut (n := 9) rfl) .nil) (X.q rfl (X.nq (X.q rfl (X.q rfl ?_))))
 refine GS.zA ?_
 refine X.cond rfl (fun h_2 => ?_) (fun h_2 => ?_)
 ·replace hM := za h_2 hM
  refine X.sq (X.q rfl (X.q rfl ?_))
  refine GS.zA ?_
  cases hM
  exact GS.ret ⟨_, rfl, ⟨30, rfl⟩⟩
 replace hM := zb h_2 hM
 refine GS.skip (GS.seq (X.sq ?_))
 refine X.mid [(1, (V.ptr 0 0 0)), (24, (V.b ((decide (6 < (h.Berths.length : Int))) || (decide (12 < (h.Tides.length : Int))))))] ?_ ?_
 ·intro hg
  refine X.split (decide (6 < (h.Berths.length : Int))) (fun h_3 => ?_) (fun h_3 => ?_)
  ·iterate 2 refine X.q rfl ?_
   refine X.opR rfl (X.lenF rfl rfl rfl) rfl (X.q rfl (X.q rfl ?_))
   iterate 4 refine X.off (X.ZT rfl rfl rfl h_3) rfl ?_
   refine X.opR rfl (X.zf (y := decide (12 < (h.Tides.length : Int))) rfl h_3 rfl) rfl (GS.zA ?_)
   exact X.norm _ hg rfl (sr rfl)
  refine X.q rfl (X.q rfl ?_)
  refine X.opR rfl (X.lenF rfl rfl rfl) rfl (X.q rfl (X.q rfl ?_))
  iterate 2 refine X.opR (X.on_f rfl rfl rfl h_3) rfl rfl ?_
  refine X.opR (X.on_f rfl rfl rfl h_3) (X.lenF rfl rfl rfl) rfl ?_
  refine X.opR (X.on_f rfl rfl rfl h_3) rfl rfl ?_
  refine X.opR rfl (X.ze (y := decide (12 < (h.Tides.length : Int))) rfl h_3 rfl) rfl (GS.zA ?_)
  exact X.norm _ hg rfl (sr rfl)
 refine X.cond rfl (fun h_4 => ?_) (fun h_4 => ?_)
 ·replace hM := za h_4 hM
  refine X.sq (X.q rfl (GS.zA ?_))
  cases hM
  exact GS.ret ⟨_, rfl, ⟨30, rfl⟩⟩
 replace hM := zb h_4 hM
 refine GS.skip (GS.seq (X.sq (X.q rfl (X.q rfl ?_))))
 refine X.opR rfl (X.lenF rfl rfl rfl) rfl (X.q rfl (GS.zA ?_))
 refine X.join (τ := Unit) (fun v => Yz h = some r) (fun v => ⟨[(1, (V.ptr 0 0 0))], [.rows 6 [(zH h)]], 0, none, 74⟩) ?_ ?_
 ·intro _ hM
  replace hM : Yz h = some r := hM
  unfold Yz at hM
  refine X.sq (X.q rfl (GS.zA (GS.seq (X.sq (X.q rfl (X.q rfl ?_))))))
  refine X.opR rfl (X.lenF rfl rfl rfl) rfl (X.q rfl (GS.zA ?_))
  refine X.join (τ := Unit) (fun v => Yy h = some r) (fun v => ⟨[(1, (V.ptr 0 0 0))], [.rows 6 [(zH h)]], 0, none, 74⟩) ?_ ?_
  ·intro _ hM
   replace hM : Yy h = some r := hM
   unfold Yy at hM
   refine GS.seq (X.sq (X.q rfl (X.q rfl ?_)))
   refine X.call (ZN h.Keel 0 8000) rfl rfl rfl (.cons (.shut (n := 9) rfl) (.cons (.shut (n := 9) rfl) (.cons (.shut (n := 9) rfl) .nil))) (X.q rfl (GS.zA ?_))
   refine X.cond rfl (fun h_5 => ?_) (fun h_5 => ?_)
   ·replace hM := za h_5 hM
    refine X.sq (X.q rfl (GS.zA ?_))
    cases hM
    exact GS.ret ⟨_, rfl, ⟨30, rfl⟩⟩
   replace hM := zb h_5 hM
   refine GS.skip (X.sq (X.q rfl (GS.zA ?_)))
   cases hM
   exact GS.ret ⟨_, rfl, ⟨30, rfl⟩⟩
  intro hj_2
  refine GS.block ?_
  refine X.gc [some 0] (X.loop (σ := (Int × Int)) (fun v => ⟨[(1, (V.ptr 0 0 0)), (6, (V.i v.1)), (52, (V.sl (List.map zJ h.Tides))), (53, (V.i (h.Tides.length : Int))), (54, (V.i v.2))], [.rows 6 [(zH h)]], 0, none, 74⟩) hM ?_ rfl) rfl rfl rfl (ga rfl rfl) (gb9 rfl rfl rfl zM)
  rintro ⟨last, x1⟩ b_1 hM hc_3 hr_1
  rw [qP] at hM
  refine X.sq (X.q rfl (GS.zA (GS.seq ?_)))
  refine X.cond rfl (fun h_6 => ?_) (fun h_6 => ?_)
  ·replace hM := za h_6 hM
   refine GS.skip (GS.seq (GS.block (GS.seq ?_)))
   obtain ⟨x, h_7, hM⟩ := zI hM
   refine GS.region ?_
   refine X.opR rfl (X.ZJ (f := zJ) h_7 (fun _ => rfl) rfl rfl rfl rfl) rfl ?_
   refine X.opR rfl (X.Za h_7 rfl rfl rfl) rfl ?_
   refine X.opW rfl rfl rfl rfl ?_
   refine X.op0W rfl rfl rfl (GS.zA (GS.seq (X.sq ?_)))
   refine X.mid [(1, (V.ptr 0 0 0)), (8, (V.ptr 1 0 0)), (52, (V.sl (List.map zJ h.Tides))), (53, (V.i (h.Tides.length : Int))), (54, (V.i x1)), (66, (V.b ((!(jr x)) || (decide (x.Lo ≤ last)))))] ?_ ?_
   ·intro hg
    refine X.split (!(jr x)) (fun h_8 => ?_) (fun h_8 => ?_)
    ·refine X.q rfl ?_
     refine X.call (zAx x) rfl rfl rfl (.cons (.shut (n := 9) rfl) .nil) (X.q rfl (X.q rfl ?_))
     iterate 4 refine X.off (X.ZT rfl rfl rfl h_8) rfl ?_
     refine X.opR rfl (X.zf (y := decide (x.Lo ≤ last)) rfl h_8 rfl) rfl (GS.zA ?_)
     exact X.norm _ hg rfl (sr rfl)
    refine X.q rfl ?_
    refine X.call (zAx x) rfl rfl rfl (.cons (.shut (n := 9) rfl) .nil) (X.q rfl (X.q rfl ?_))
    iterate 4 refine X.opR (X.on_f rfl rfl rfl h_8) rfl rfl ?_
    refine X.opR rfl (X.ze (y := decide (x.Lo ≤ last)) rfl h_8 rfl) rfl (GS.zA ?_)
    exact X.norm _ hg rfl (sr rfl)
   refine X.cond rfl (fun h_9 => ?_) (fun h_9 => ?_)
   ·replace hM := za h_9 hM
    refine X.sq (X.q rfl (GS.zA ?_))
    have hE := Option.some.inj hM
    replace hE := hr_1 _ hE.symm
    subst hE
    exact GS.ret ⟨_, rfl, ⟨30, rfl⟩⟩
   replace hM := zb h_9 hM
   refine GS.skip (GS.region (X.q rfl (X.q rfl (X.q rfl ?_))))
   refine GS.zA ?_
   refine GS.endB (GS.region ?_)
   refine X.opR rfl (X.addE rfl rfl) rfl (X.q rfl (GS.zA ?_))
   have hE := Option.some.inj hM
   exact X.gc [some 0] (hc_3 (x.Hi, w64 (x1 + 1)) hE.symm) rfl rfl rfl (ga rfl rfl) (gb9 rfl rfl rfl zM)
  replace hM := zb h_6 hM
  refine GS.exit rfl ?_
  obtain ⟨y_1, hM, hy⟩ := ZV hM
  rw [hr_1 _ hy.symm] at hM
  exact X.gc [some 0] (hj_2 () hM) rfl rfl rfl (ga rfl rfl) (gb9 rfl rfl rfl zM)
 intro hj_1
 refine GS.block ?_
 refine X.gc [some 0] (X.loop (σ := Int) (fun v => ⟨[(1, (V.ptr 0 0 0)), (26, (V.sl (List.map zU h.Berths))), (27, (V.i (h.Berths.length : Int))), (28, (V.i v))], [.rows 6 [(zH h)]], 0, none, 74⟩) hM ?_ rfl) rfl rfl rfl (ga rfl rfl) (gb9 rfl rfl rfl zM)
 intro x3 b_1 hM hc_4 hr_1
 rw [qO] at hM
 refine X.sq (X.q rfl (GS.zA (GS.seq ?_)))
 refine X.cond rfl (fun h_10 => ?_) (fun h_10 => ?_)
 ·replace hM := za h_10 hM
  refine GS.skip (GS.seq (GS.block (GS.seq ?_)))
  obtain ⟨x2, h_11, hM⟩ := zI hM
  refine GS.region (X.q rfl ?_)
  refine X.opR rfl (X.ZJ (f := zU) h_11 (fun _ => rfl) rfl rfl rfl rfl) rfl ?_
  refine X.opR rfl (X.Za h_11 rfl rfl rfl) rfl ?_
  refine X.opW rfl rfl rfl rfl (X.q rfl ?_)
  refine X.op0W rfl rfl rfl (GS.zA (GS.seq (X.sq ?_)))
  refine X.mid [(1, (V.ptr 0 0 0)), (4, (V.i x3)), (5, (V.ptr 1 0 0)), (26, (V.sl (List.map zU h.Berths))), (27, (V.i (h.Berths.length : Int))), (28, (V.i x3)), (42, (V.b ((!(zZ x2.ID 1 1099511627776)) || (!(zZ x2.Depth 0 8000)))))] ?_ ?_
  ·intro hg
   refine X.split (!(zZ x2.ID 1 1099511627776)) (fun h_12 => ?_) (fun h_12 => ?_)
   ·iterate 2 refine X.q rfl ?_
    refine X.call (ZN x2.ID 1 1099511627776) rfl rfl rfl (.cons (.shut (n := 9) rfl) (.cons (.shut (n := 9) rfl) (.cons (.shut (n := 9) rfl) .nil))) (X.q rfl (X.q rfl ?_))
    iterate 4 refine X.off (X.ZT rfl rfl rfl h_12) rfl ?_
    refine X.opR rfl (X.zf (y := !(zZ x2.Depth 0 8000)) rfl h_12 rfl) rfl (GS.zA ?_)
    exact X.norm _ hg rfl (sr rfl)
   refine X.q rfl (X.q rfl ?_)
   refine X.call (ZN x2.ID 1 1099511627776) rfl rfl rfl (.cons (.shut (n := 9) rfl) (.cons (.shut (n := 9) rfl) (.cons (.shut (n := 9) rfl) .nil))) (X.q rfl (X.q rfl ?_))
   iterate 2 refine X.opR (X.on_f rfl rfl rfl h_12) rfl rfl ?_
   refine X.call (ZN x2.Depth 0 8000) (X.on_f rfl rfl rfl h_12) rfl rfl (.cons (.shut (n := 9) rfl) (.cons (.shut (n := 9) rfl) (.cons (.shut (n := 9) rfl) .nil))) ?_
   refine X.opR (X.on_f rfl rfl rfl h_12) rfl rfl ?_
   refine X.opR rfl (X.ze (y := !(zZ x2.Depth 0 8000)) rfl h_12 rfl) rfl (GS.zA ?_)
   exact X.norm _ hg rfl (sr rfl)
  refine X.cond rfl (fun h_13 => ?_) (fun h_13 => ?_)
  ·replace hM := za h_13 hM
   refine X.sq (X.q rfl (GS.zA ?_))
   have hE := Option.some.inj hM
   replace hE := hr_1 _ hE.symm
   subst hE
   exact GS.ret ⟨_, rfl, ⟨30, rfl⟩⟩
  replace hM := zb h_13 hM
  refine GS.skip (GS.seq ?_)
  obtain ⟨y1, h_14, hM⟩ := zI hM
  refine GS.region ?_
  iterate 4 refine X.q rfl ?_
  refine X.call (Zm h_14) rfl rfl rfl (.cons (.shut (n := 9) rfl) (.cons (.shut (n := 9) rfl) (.cons (.shut (n := 9) rfl) .nil))) (X.q rfl (X.q rfl ?_))
  refine GS.zA ?_
  refine X.cond rfl (fun h_15 => ?_) (fun h_15 => ?_)
  ·replace hM := za h_15 hM
   refine X.sq (X.q rfl (GS.zA ?_))
   have hE := Option.some.inj hM
   replace hE := hr_1 _ hE.symm
   subst hE
   exact GS.ret ⟨_, rfl, ⟨30, rfl⟩⟩
  replace hM := zb h_15 hM
  refine GS.skip ?_
  refine GS.endB (GS.region ?_)
  refine X.opR rfl (X.addE rfl rfl) rfl (X.q rfl (GS.zA ?_))
  have hE := Option.some.inj hM
  exact X.gc [some 0] (hc_4 (w64 (x3 + 1)) hE.symm) rfl rfl rfl (ga rfl rfl) (gb9 rfl rfl rfl zM)
 replace hM := zb h_10 hM
 refine GS.exit rfl ?_
 obtain ⟨y_1, hM, hy⟩ := ZV hM
 rw [hr_1 _ hy.symm] at hM
 exact X.gc [some 0] (hj_1 () hM) rfl rfl rfl (ga rfl rfl) (gb9 rfl rfl rfl zM)
def JU (n : Nat) : List V := V.i (-1) :: (List.range n).map fun i => V.i (i : Nat)
def Yi (w : zY) : V := .fmap (JU w.Cycles.length) (.fn 135 [.fptr [ZI w] 0 0] :: w.Cycles.map fun c => .fn 137 [.fptr [ZC c] 0 0])
theorem zFR : ∀ (n a : Nat) (i : Int) (k : Nat), a ≤ i → i < a + n → zAL (.i i) ((List.range' a n).map fun i => V.i (i : Nat)) k = some (some (k + (i.toNat - a)))
 | 0, a, i, k, h1, h2 => by omega
 | n + 1, a, i, k, h1, h2 => by
  simp only [List.range'_succ, List.map_cons, zAL, zAY, Jo, if_true]
  by_cases h : i = a
  ·subst h; simp
  ·have ih := zFR n (a + 1) i (k + 1) (by omega) (by omega)
   simp only [h, decide_false, ih]
   congr 2
   omega
theorem zJ8 : ∀ (n a : Nat) (i : Int) (k : Nat), (i < a ∨ a + n ≤ i) → zAL (.i i) ((List.range' a n).map fun i => V.i (i : Nat)) k = some none
 | 0, a, i, k, h => by simp [zAL]
 | n + 1, a, i, k, h => by
  simp only [List.range'_succ, List.map_cons, zAL, zAY, Jo, if_true]
  have h1 : ¬ i = a := by omega
  simp only [h1, decide_false]
  exact zJ8 n (a + 1) i (k + 1) (by omega)
theorem zII {K : List (Nat × V)} {H : List Blk} {lo nid : Nat} {xo ko : Operand} {w : zY} {i : Int} (h : decide (i = -1) = true) (hx : kev K xo = some (Yi w)) (hk : kev K ko = some (.i i)) : zi CC K H lo nid (.lookup 183 xo ko false) = some ⟨.fn 135 [.fptr [ZI w] 0 0], [], []⟩ := by
 have h1 : i = -1 := by simpa using h
 subst h1
 simp only [zi, yX, hx, hk]
 rfl
theorem zIJ {K : List (Nat × V)} {H : List Blk} {lo nid : Nat} {xo ko : Operand} {w : zY} {i : Int} {c : zw} (h : ix w.Cycles i = some c) (hx : kev K xo = some (Yi w)) (hk : kev K ko = some (.i i)) : zi CC K H lo nid (.lookup 183 xo ko false) = some ⟨.fn 137 [.fptr [ZC c] 0 0], [], []⟩ := by
 obtain ⟨h0, h1, h2⟩ := zDI h
 have hf := zFR w.Cycles.length 0 i 1 (by omega) (by omega)
 have hne : ¬ i = -1 := by omega
 simp only [zi, yX, hx, hk]
 unfold zCc Yi
 have hm : zD9 CC 183 = some (.int .i64, t147) := rfl
 simp only [hm, zBg, Jo, cond_true, zA1, JU, zAL, zAY, if_true, hne, decide_false]
 rw [List.range_eq_range', hf]
 simp only [Nat.sub_zero]
 rw [show 1 + i.toNat = i.toNat + 1 by omega]
 simp only [Am.get]
 rw [Zc, List.getElem?_map, h2]
 rfl
theorem zCU (n : Nat) : JU n = (((-1 : Int) :: (List.range n).map fun (i : Nat) => (i : Int))).map V.i := by simp [JU]
theorem zG1 (n : Nat) : JU (n + 1) = JU n ++ [V.i (n : Nat)] := by simp [JU, List.range_succ]
def qm (n : Nat) : List V := .fn 135 [.ptr 0 0 0] :: (List.range n).map fun i => .fn 137 [.ptr (i + 2) 0 0]
theorem zIB (n : Nat) : qm (n + 1) = qm n ++ [.fn 137 [.ptr (n + 2) 0 0]] := by simp [qm, List.range_succ]
def zD0 (w : zY) (i : Nat) : List Blk := (w.Cycles.take i).map fun c => .rows 4 [ZC c]
def zAH (w : zY) (i : Nat) : List Blk := .rows 3 [ZI w] :: .map (JU i) (qm i) :: zD0 w i
theorem zK4 (w : zY) (i : Nat) (h : i ≤ w.Cycles.length) : (zAH w i).length = i + 2 := by simp [zAH, zD0]; omega
theorem zJv (w : zY) (i : Nat) (c : zw) (h : w.Cycles[i]? = some c) : hput (zAH w i ++ [.rows 4 [ZC c]]) 1 (.map (JU (i + 1)) (qm (i + 1))) = zAH w (i + 1) := by
 simp only [zAH, List.cons_append, hput, zD0, List.take_add_one, h, List.map_append]
 rfl
theorem zIu (w : zY) (j : Nat) (c : zw) (h : w.Cycles[j]? = some c) : hget (zAH w w.Cycles.length) (j + 2) = .rows 4 [ZC c] := by
 simp only [hget, zAH, Am.get, zD0, List.take_length]
 rw [Zc, List.getElem?_map, h]
 rfl
theorem zLm (w : zY) : ∃ n, frz (zAH w w.Cycles.length) 0 n (.map 1) = some (Yi w) := by
 refine ⟨9, ?_⟩
 have h1 : mapO (frz (zAH w w.Cycles.length) 0 8) (JU w.Cycles.length) = some (JU w.Cycles.length) := by
  rw [zCU]; exact Y8 (g := frz (zAH w w.Cycles.length) 0 8) (f := V.i) (fun _ => rfl) _
 have h2 : ∀ l : List Nat, (∀ j ∈ l, j < w.Cycles.length) → mapO (frz (zAH w w.Cycles.length) 0 8) (l.map fun i => .fn 137 [.ptr (i + 2) 0 0]) = some (l.map fun i => .fn 137 [.fptr [ZC (w.Cycles.getD i default)] 0 0]) := by
  intro l
  induction l with
  | nil => intro _; rfl
  | cons j r ih =>
   intro h
   have hj := h j List.mem_cons_self
   have hg := zIu w j (w.Cycles.getD j default) (by rw [List.getD_eq_getElem?_getD, List.getElem?_eq_getElem hj]; rfl)
   have h3 : frz (zAH w w.Cycles.length) 0 8 (.fn 137 [.ptr (j + 2) 0 0]) = some (.fn 137 [.fptr [ZC (w.Cycles.getD j default)] 0 0]) := by
    exact X.frzFn (X.mapO1 (X.frzPtr hg rfl))
   simp only [List.map_cons, mapO, h3, ih (fun x hx => h x (List.mem_cons_of_mem _ hx))]
 have h4 := h2 (List.range w.Cycles.length) (fun j hj => List.mem_range.1 hj)
 have h5 : mapO (frz (zAH w w.Cycles.length) 0 8) (qm w.Cycles.length) = some (.fn 135 [.fptr [ZI w] 0 0] :: w.Cycles.map fun c => .fn 137 [.fptr [ZC c] 0 0]) := by
  have h6 : frz (zAH w w.Cycles.length) 0 8 (.fn 135 [.ptr 0 0 0]) = some (.fn 135 [.fptr [ZI w] 0 0]) := rfl
  simp only [qm, mapO, h6, h4]
  congr 2
  refine List.ext_getElem (by simp) fun i h1 h2 => ?_
  simp only [List.length_map] at h2
  simp [List.getD_eq_getElem?_getD, h2]
 exact X.frzMap rfl h1 h5
theorem zG5 {w r : zY} (hM : zBp w = some r) : Ct Tryz.prog 112 [ZI w] (Yi r) := by
 have hlen : w.Cycles.length ≤ 9223372036854775807 ∧ r = w := by
  unfold zBp at hM
  split at hM
  ·exact ⟨by assumption, (Option.some.inj hM).symm⟩
  ·cases hM
 obtain ⟨hlen, rfl⟩ := hlen
 refine zg ZR rfl ?_
 refine GS.seq ?_
 refine GS.region ?_
 refine X.opW rfl rfl rfl rfl ?_
 refine X.opR rfl rfl rfl ?_
 refine GS.zA ?_
 refine GS.seq ?_
 refine GS.region ?_
 refine X.opW rfl rfl rfl rfl ?_
 refine X.opR rfl rfl rfl ?_
 refine X.op0W rfl rfl rfl ?_
 iterate 2 refine X.opR rfl rfl rfl ?_
 refine GS.zA ?_
 iterate 2 refine GS.seq ?_
 refine GS.region ?_
 iterate 2 refine X.opR rfl rfl rfl ?_
 refine X.opR rfl (X.lenF rfl rfl rfl) rfl ?_
 refine X.opR rfl rfl rfl ?_
 refine GS.zA ?_
 refine GS.block ?_
 refine X.norm (H' := zAH r 0) [(12, V.i (0 : Nat)), (11, V.i (r.Cycles.length : Nat)), (10, V.sl (r.Cycles.map ZC)), (3, V.map 1)] ?_ rfl (sr rfl)
 refine X.loopI (fun i => ⟨[(12, V.i (i : Nat)), (11, V.i (r.Cycles.length : Nat)), (10, V.sl (r.Cycles.map ZC)), (3, V.map 1)], zAH r i, 0, none, 22⟩) r.Cycles.length (fun i hi IH => ?_) ?_
 ·obtain ⟨c, hc⟩ : ∃ c, r.Cycles[i]? = some c := ⟨_, List.getElem?_eq_getElem hi⟩
  have hix : ix r.Cycles (i : Int) = some c := by unfold ix; rw [if_pos (by omega)]; simpa using hc
  refine GS.seq ?_
  refine GS.region ?_
  refine X.opR rfl rfl rfl ?_
  refine GS.zA ?_
  refine GS.seq ?_
  refine X.cond rfl (fun h => ?_) (fun h => ?_)
  ·refine GS.skip ?_
   refine GS.seq ?_
   refine GS.block ?_
   refine GS.seq ?_
   refine GS.region ?_
   refine X.opR rfl rfl rfl ?_
   refine X.opR rfl (X.ZJ (f := ZC) hix (fun _ => rfl) rfl rfl rfl rfl) rfl ?_
   refine X.opR rfl (X.Za hix rfl rfl rfl) rfl ?_
   refine X.opW rfl rfl X.zIs rfl ?_
   refine X.opR rfl rfl rfl ?_
   refine X.op0W rfl (X.zLY (v := ZC c) (r := ZC c) rfl rfl rfl rfl rfl) X.puts_end' ?_
   refine GS.zA ?_
   refine GS.region ?_
   iterate 3 refine X.opR rfl rfl rfl ?_
   refine X.op0W rfl (X.zLC (kd := .int .i64) (kv := V.i (i : Nat)) (vv := .fn 137 [.ptr (zAH r i).length 0 0]) (ks := JU i) (vs := qm i) rfl rfl rfl rfl rfl rfl (by rw [zCU]; exact X.zGg _ _ _ (by simp; omega))) rfl ?_
   refine GS.zA ?_
   refine GS.endB ?_
   refine GS.region ?_
   refine X.opR rfl (X.addE rfl rfl) rfl ?_
   refine X.opR rfl rfl rfl ?_
   refine GS.zA ?_
   refine X.normH _ IH rfl ?_ (X.sub_eq rfl ?_ (sr rfl))
   ·rw [← zJv r i c hc]
    simp only [puts]
    have e1 : Qz (V.i (i : Nat)) (JU i) = (JU i).length := by
     rw [zCU, X.zHe _ _ (by simp; omega), List.length_map]
    have e2 : (JU i).length = (qm i).length := by simp [JU, qm]
    rw [e1, X.zIN, e2, X.zIN, ← zG1, zK4 r i (by omega), ← zIB]
    rfl
   ·rw [ZO (by omega) (by omega)]; rfl
  ·simp only [decide_eq_false_iff_not] at h
   exact absurd (by omega) h
 ·refine GS.seq ?_
  refine GS.region ?_
  refine X.opR rfl rfl rfl ?_
  refine GS.zA ?_
  refine GS.seq ?_
  refine X.cond rfl (fun h => ?_) (fun h => ?_)
  ·simp at h
  ·refine GS.exit rfl ?_
   refine GS.seq ?_
   refine GS.region ?_
   iterate 2 refine X.opR rfl rfl rfl ?_
   refine GS.zA ?_
   exact GS.ret ⟨_, rfl, zLm r⟩
theorem zCB {w : zY} {r : zY × zY} (hM : Y3 w = some r) : Ct Tryz.prog 84 [(ZI w)] (V.fn 113 [(V.fptr [(ZI r.1)] 0 0), (V.fptr [(Yi r.2)] 0 0)]) := by
 refine zg ZR rfl ?_
 unfold Y3 at hM
 refine X.sq ?_
 refine X.opW rfl rfl rfl rfl (X.q rfl (GS.zA (GS.seq ?_)))
 obtain ⟨y, h_1, hM⟩ := zI hM
 refine GS.region (X.q rfl ?_)
 refine X.call (zG5 h_1) rfl rfl rfl (.cons (.shut (n := 9) rfl) .nil) ?_
 refine X.opW rfl rfl rfl rfl ?_
 refine X.op0W rfl rfl rfl (X.nq (X.q rfl (X.q rfl ?_)))
 refine GS.zA ?_
 cases hM
 exact GS.ret ⟨_, rfl, ⟨30, rfl⟩⟩
theorem zDZ {w : zY} {tick : Int} {r : Int} (hM : YG w tick = some r) : Ct Tryz.prog 136 [(ZI w), (V.i tick)] (V.i r) := by
 refine zg ZR rfl ?_
 unfold YG at hM
 refine X.sq ?_
 refine X.opW rfl rfl rfl rfl (X.q rfl (GS.zA (GS.seq (X.sq (X.q rfl (X.q rfl ?_))))))
 refine X.opR rfl (X.lenF rfl rfl rfl) rfl (X.q rfl (GS.zA ?_))
 refine X.join (τ := Unit) (fun v => yj = some r) (fun v => ⟨[], [], 0, none, 24⟩) ?_ ?_
 ·intro _ hM
  replace hM : yj = some r := hM
  unfold yj at hM
  refine X.sq (X.q rfl (GS.zA ?_))
  cases hM
  exact GS.ret ⟨_, rfl, ⟨30, rfl⟩⟩
 intro hj_1
 refine GS.block ?_
 refine X.gc [] (X.loop (σ := Int) (fun v => ⟨[(1, (V.i tick)), (8, (V.sl (List.map JH w.Shifts))), (9, (V.i (w.Shifts.length : Int))), (10, (V.i v))], [], 0, none, 24⟩) hM ?_ rfl) rfl rfl rfl (ga rfl rfl) (zM)
 intro x1 b_1 hM hc_2 hr_1
 rw [yl] at hM
 refine X.sq (X.q rfl (GS.zA (GS.seq ?_)))
 refine X.cond rfl (fun h_1 => ?_) (fun h_1 => ?_)
 ·replace hM := za h_1 hM
  refine GS.skip (GS.seq (GS.block (GS.seq ?_)))
  obtain ⟨x, h_2, hM⟩ := zI hM
  refine GS.region ?_
  refine X.opR rfl (X.ZJ (f := JH) h_2 (fun _ => rfl) rfl rfl rfl rfl) rfl ?_
  refine X.opR rfl (X.Za h_2 rfl rfl rfl) rfl ?_
  refine X.opW rfl rfl rfl rfl ?_
  refine X.op0W rfl rfl rfl (GS.zA (GS.seq ?_))
  obtain ⟨q, h_3, hM⟩ := zI hM
  refine GS.region (X.q rfl ?_)
  refine X.opR rfl (X.quoE h_3 rfl rfl) rfl ?_
  iterate 4 refine X.q rfl ?_
  refine X.call (Zf q x.From x.To) rfl rfl rfl (.cons (.shut (n := 9) rfl) (.cons (.shut (n := 9) rfl) (.cons (.shut (n := 9) rfl) .nil))) (GS.zA ?_)
  refine X.cond rfl (fun h_4 => ?_) (fun h_4 => ?_)
  ·replace hM := za h_4 hM
   refine X.sq (X.q rfl (X.q rfl (X.q rfl ?_)))
   refine GS.zA ?_
   have hE := Option.some.inj hM
   replace hE := hr_1 _ hE.symm
   subst hE
   exact GS.ret ⟨_, rfl, ⟨30, rfl⟩⟩
  replace hM := zb h_4 hM
  refine GS.skip ?_
  refine GS.endB (GS.region ?_)
  refine X.opR rfl (X.addE rfl rfl) rfl (X.q rfl (GS.zA ?_))
  have hE := Option.some.inj hM
  exact X.gc [] (hc_2 (w64 (x1 + 1)) hE.symm) rfl rfl rfl (ga rfl rfl) (zM)
 replace hM := zb h_1 hM
 refine GS.exit rfl ?_
 obtain ⟨y_1, hM, hy⟩ := ZV hM
 rw [hr_1 _ hy.symm] at hM
 exact X.gc [] (hj_1 () hM) rfl rfl rfl (yD) (zM)
theorem zFb {tick : Int} {c : zY} {r : Int} (hM : zAd tick c = some r) : Ct Tryz.prog 135 [(V.i tick), (V.fptr [(ZI c)] 0 0)] (V.i r) := by
 refine zg ZR rfl ?_
 unfold zAd at hM
 refine X.sq (X.q rfl (GS.zA (GS.seq ?_)))
 obtain ⟨y, h_1, hM⟩ := zI hM
 refine GS.region (X.q rfl (X.q rfl ?_))
 refine X.call (zDZ h_1) rfl rfl rfl (.cons (.shut (n := 9) rfl) (.cons (.shut (n := 9) rfl) .nil)) (X.q rfl (GS.zA ?_))
 cases hM
 exact GS.ret ⟨_, rfl, ⟨30, rfl⟩⟩
theorem zDF {a : Int} {b : Int} {r : Int × Int} (hM : qa a b = some r) : Ct Tryz.prog 148 [(V.i a), (V.i b)] (V.tup [(V.i r.1), (V.i r.2)]) := by
 refine zg ZR rfl ?_
 unfold qa at hM
 refine X.sq (X.q rfl (X.q rfl ?_))
 refine GS.zA (GS.seq ?_)
 obtain ⟨q, h_1, hM⟩ := zI hM
 obtain ⟨q1, h_2, hM⟩ := zI hM
 refine GS.region (X.q rfl (X.q rfl ?_))
 refine X.opR rfl (X.remE h_1 rfl rfl) rfl (X.q rfl ?_)
 refine X.opR rfl (X.addE rfl rfl) rfl (X.q rfl ?_)
 refine X.opR rfl (X.remE h_2 rfl rfl) rfl (X.q rfl (GS.zA (GS.seq ?_)))
 obtain ⟨q2, h_3, hM⟩ := zI hM
 refine GS.region (X.q rfl (X.q rfl ?_))
 refine X.opR rfl (X.subE rfl rfl) rfl (X.q rfl ?_)
 refine X.opR rfl (X.quoE h_3 rfl rfl) rfl (X.q rfl (X.q rfl (X.q rfl ?_)))
 refine GS.zA ?_
 cases hM
 exact GS.ret ⟨_, rfl, ⟨30, rfl⟩⟩
theorem zG3 {c : zw} {tick : Int} {r : Int} (hM : zAq c tick = some r) : Ct Tryz.prog 138 [(ZC c), (V.i tick)] (V.i r) := by
 refine zg ZR rfl ?_
 unfold zAq at hM
 refine X.sq ?_
 refine X.opW rfl rfl rfl rfl (X.q rfl (GS.zA (GS.seq ?_)))
 obtain ⟨y, h_1, hM⟩ := zI hM
 refine GS.region (X.q rfl (X.q rfl (X.q rfl ?_)))
 refine X.opR rfl (X.subE rfl rfl) rfl (X.q rfl (X.q rfl ?_))
 refine X.call (zDF h_1) rfl rfl rfl (.cons (.shut (n := 9) rfl) (.cons (.shut (n := 9) rfl) .nil)) ?_
 iterate 5 refine X.q rfl ?_
 refine GS.zA (GS.seq ?_)
 obtain ⟨y1, h_2, hM⟩ := zI hM
 refine GS.region (X.q rfl (X.q rfl (X.q rfl ?_)))
 refine X.opR rfl (X.lenF rfl rfl rfl) rfl ?_
 refine X.call (zDF h_2) rfl rfl rfl (.cons (.shut (n := 9) rfl) (.cons (.shut (n := 9) rfl) .nil)) ?_
 iterate 5 refine X.q rfl ?_
 refine GS.zA (GS.seq ?_)
 obtain ⟨x, h_3, hM⟩ := zI hM
 refine GS.region (X.q rfl (X.q rfl (X.q rfl ?_)))
 refine X.opR rfl (X.ZJ (f := V.i) h_3 (fun _ => rfl) rfl rfl rfl rfl) rfl ?_
 refine X.opR rfl (X.Za h_3 rfl rfl rfl) rfl (X.q rfl (GS.zA ?_))
 cases hM
 exact GS.ret ⟨_, rfl, ⟨30, rfl⟩⟩
theorem zFa {tick : Int} {c : zw} {r : Int} (hM : zAc tick c = some r) : Ct Tryz.prog 137 [(V.i tick), (V.fptr [(ZC c)] 0 0)] (V.i r) := by
 refine zg ZR rfl ?_
 unfold zAc at hM
 refine X.sq (X.q rfl (GS.zA (GS.seq ?_)))
 obtain ⟨y, h_1, hM⟩ := zI hM
 refine GS.region (X.q rfl (X.q rfl ?_))
 refine X.call (zG3 h_1) rfl rfl rfl (.cons (.shut (n := 9) rfl) (.cons (.shut (n := 9) rfl) .nil)) (X.q rfl (GS.zA ?_))
 cases hM
 exact GS.ret ⟨_, rfl, ⟨30, rfl⟩⟩
theorem qD {tick : Int} {c : zY} {c1 : zY} {r : Int} (hM : Jm tick c c1 = some r) : Ct Tryz.prog 113 [(V.i tick), (V.fptr [(ZI c)] 0 0), (V.fptr [(Yi c1)] 0 0)] (V.i r) := by
 refine zg ZR rfl ?_
 unfold Jm at hM
 refine X.sq (X.q rfl (X.nq (X.q rfl (X.q rfl (X.q rfl ?_)))))
 refine GS.zA (GS.seq (X.sq (X.q rfl (GS.zA ?_))))
 refine X.join (τ := Int) (fun v => Yg v = some r) (fun v => ⟨[(5, (V.i v))], [], 0, none, 24⟩) ?_ ?_
 ·intro h hM
  replace hM : Yg h = some r := hM
  unfold Yg at hM
  refine X.sq (X.q rfl (X.q rfl ?_))
  refine GS.zA ?_
  cases hM
  exact GS.ret ⟨_, rfl, ⟨30, rfl⟩⟩
 intro hj_1
 refine GS.block ?_
 refine X.gc [] (X.loop (σ := (Int × Int)) (fun v => ⟨[(0, (V.i tick)), (1, (V.fptr [(ZI c)] 0 0)), (2, (V.fptr [(Yi c1)] 0 0)), (5, (V.i v.1)), (6, (V.i v.2))], [], 0, none, 24⟩) hM ?_ rfl) rfl rfl rfl (ga rfl rfl) (zM)
 rintro ⟨h1, i⟩ b_1 hM hc_2 hr_1
 rw [Yh] at hM
 refine GS.seq (X.sq (X.q rfl (X.q rfl (X.q rfl ?_))))
 refine X.opR rfl (X.lenF rfl rfl rfl) rfl (X.q rfl (GS.zA ?_))
 refine X.cond rfl (fun h_1 => ?_) (fun h_1 => ?_)
 ·replace hM := za h_1 hM
  refine GS.skip (GS.seq (GS.block (GS.region (X.q rfl (X.q rfl (X.q rfl ?_))))))
  refine X.split (decide (i = -1)) (fun h_2 => ?_) (fun h_2 => ?_)
  ·replace hM := za h_2 hM
   refine X.opR rfl (zII h_2 rfl rfl) rfl ?_
   obtain ⟨y, h_4, hM⟩ := zI hM
   refine X.q rfl ?_
   refine X.call (zFb h_4) rfl rfl rfl (.cons (.shut (n := 9) rfl) (.cons (.shut (n := 9) rfl) .nil)) ?_
   refine X.opR rfl (X.addE rfl rfl) rfl (X.q rfl (GS.zA ?_))
   refine GS.endB (GS.region (X.q rfl ?_))
   refine X.opR rfl (X.addE rfl rfl) rfl (X.q rfl (GS.zA ?_))
   have hE := Option.some.inj hM
   exact X.gc [] (hc_2 (w64 (h1 + y), w64 (i + 1)) hE.symm) rfl rfl rfl (ga rfl rfl) (zM)
  replace hM := zb h_2 hM
  obtain ⟨c2, h_3, hM⟩ := zI hM
  refine X.opR rfl (zIJ h_3 rfl rfl) rfl ?_
  obtain ⟨y1, h_5, hM⟩ := zI hM
  refine X.q rfl ?_
  refine X.call (zFa h_5) rfl rfl rfl (.cons (.shut (n := 9) rfl) (.cons (.shut (n := 9) rfl) .nil)) ?_
  refine X.opR rfl (X.addE rfl rfl) rfl (X.q rfl (GS.zA ?_))
  refine GS.endB (GS.region (X.q rfl ?_))
  refine X.opR rfl (X.addE rfl rfl) rfl (X.q rfl (GS.zA ?_))
  have hE := Option.some.inj hM
  exact X.gc [] (hc_2 (w64 (h1 + y1), w64 (i + 1)) hE.symm) rfl rfl rfl (ga rfl rfl) (zM)
 replace hM := zb h_1 hM
 refine GS.exit rfl ?_
 obtain ⟨y_1, hM, hy⟩ := ZV hM
 rw [hr_1 _ hy.symm] at hM
 exact X.gc [] (hj_1 h1 hM) rfl rfl rfl (ga rfl rfl) (zM)
theorem zGC {w : zY} {tick : Int} {r : Int × Int} (hM : zCJ w tick = some r) : Ct Tryz.prog 42 [(ZI w), (V.i tick)] (V.tup [(V.i r.1), (V.i r.2)]) := by
 refine zg ZR rfl ?_
 unfold zCJ at hM
 refine X.sq ?_
 refine X.opW rfl rfl rfl rfl (X.q rfl (X.q rfl ?_))
 refine GS.zA ?_
 iterate 2 refine GS.seq ?_
 obtain ⟨y, h_1, hM⟩ := zI hM
 refine GS.region (X.q rfl ?_)
 refine X.call (zBJ h_1) rfl rfl rfl (.cons (.shut (n := 9) rfl) .nil) (X.q rfl (X.nq (X.q rfl (X.q rfl ?_))))
 refine GS.zA ?_
 refine X.cond rfl (fun h_2 => ?_) (fun h_2 => ?_)
 ·replace hM := za h_2 hM
  refine X.sq (X.q rfl (X.q rfl (X.q rfl ?_)))
  refine GS.zA ?_
  cases hM
  exact GS.ret ⟨_, rfl, ⟨30, rfl⟩⟩
 replace hM := zb h_2 hM
 refine GS.skip (GS.seq (X.sq (X.q rfl ?_)))
 refine X.call (Yq tick) rfl rfl rfl (.cons (.shut (n := 9) rfl) .nil) (X.q rfl (GS.zA ?_))
 refine X.cond rfl (fun h_3 => ?_) (fun h_3 => ?_)
 ·replace hM := za h_3 hM
  refine X.sq (X.q rfl (X.q rfl ?_))
  refine GS.zA ?_
  cases hM
  exact GS.ret ⟨_, rfl, ⟨30, rfl⟩⟩
 replace hM := zb h_3 hM
 refine GS.skip (GS.seq ?_)
 obtain ⟨y1, h_4, hM⟩ := zI hM
 obtain ⟨y2, h_5, hM⟩ := zI hM
 refine GS.region (X.q rfl ?_)
 refine X.call (zCB h_4) rfl rfl rfl (.cons (.shut (n := 9) rfl) .nil) (X.q rfl ?_)
 refine X.call (qD h_5) rfl rfl rfl (.cons (.shut (n := 9) rfl) (.cons (.shut (n := 9) rfl) (.cons (.shut (n := 9) rfl) .nil))) (X.q rfl (X.q rfl ?_))
 refine GS.zA ?_
 cases hM
 exact GS.ret ⟨_, rfl, ⟨30, rfl⟩⟩
theorem zGD {h : zL} {id : Int} {tick : Int} {r : Int × Int} (hM : zBE h id tick = some r) : Ct Tryz.prog 9 [(zH h), (V.i id), (V.i tick)] (V.tup [(V.i r.1), (V.i r.2)]) := by
 refine zg ZR rfl ?_
 unfold zBE at hM
 refine X.sq ?_
 refine X.opW rfl rfl rfl rfl (X.q rfl (X.q rfl ?_))
 refine GS.zA ?_
 iterate 2 refine GS.seq ?_
 obtain ⟨y, h_1, hM⟩ := zI hM
 refine GS.region (X.q rfl ?_)
 refine X.call (Yr h_1) rfl rfl rfl (.cons (.shut (n := 9) rfl) .nil) (X.q rfl (X.nq (X.q rfl (X.q rfl ?_))))
 refine GS.zA ?_
 refine X.cond rfl (fun h_2 => ?_) (fun h_2 => ?_)
 ·replace hM := za h_2 hM
  refine X.sq (X.q rfl (X.q rfl (X.q rfl ?_)))
  refine GS.zA ?_
  cases hM
  exact GS.ret ⟨_, rfl, ⟨30, rfl⟩⟩
 replace hM := zb h_2 hM
 refine GS.skip (GS.seq ?_)
 obtain ⟨y1, h_3, hM⟩ := zI hM
 refine GS.region (X.q rfl (X.q rfl (X.q rfl ?_)))
 refine X.call (Zm h_3) rfl rfl rfl (.cons (.shut (n := 9) rfl) (.cons (.shut (n := 9) rfl) (.cons (.shut (n := 9) rfl) .nil))) (X.q rfl (GS.zA (GS.seq (X.sq (X.q rfl (X.q rfl ?_))))))
 refine GS.zA ?_
 refine X.cond rfl (fun h_4 => ?_) (fun h_4 => ?_)
 ·replace hM := za h_4 hM
  refine X.sq (X.q rfl (X.q rfl ?_))
  refine GS.zA ?_
  cases hM
  exact GS.ret ⟨_, rfl, ⟨30, rfl⟩⟩
 replace hM := zb h_4 hM
 refine GS.skip (GS.seq ?_)
 obtain ⟨y2, h_5, hM⟩ := zI hM
 refine GS.region (X.q rfl (X.q rfl (X.q rfl ?_)))
 refine X.call (zGC h_5) rfl rfl rfl (.cons (.shut (n := 9) rfl) (.cons (.shut (n := 9) rfl) .nil)) ?_
 iterate 5 refine X.q rfl ?_
 refine GS.zA (GS.seq (X.sq (X.q rfl (X.q rfl ?_))))
 refine GS.zA ?_
 refine X.cond rfl (fun h_6 => ?_) (fun h_6 => ?_)
 ·replace hM := za h_6 hM
  refine X.sq (X.q rfl (X.q rfl ?_))
  refine GS.zA ?_
  cases hM
  exact GS.ret ⟨_, rfl, ⟨30, rfl⟩⟩
 replace hM := zb h_6 hM
 refine GS.skip (GS.seq ?_)
 obtain ⟨x, h_7, hM⟩ := zI hM
 refine GS.region (X.q rfl (X.q rfl (X.q rfl ?_)))
 refine X.opR rfl (X.ZJ (f := zU) h_7 (fun _ => rfl) rfl rfl rfl rfl) rfl (X.q rfl ?_)
 refine X.opR rfl (X.Za h_7 rfl rfl rfl) rfl (X.q rfl ?_)
 refine X.opR rfl (X.addE rfl rfl) rfl (X.q rfl (X.q rfl ?_))
 refine GS.zA ?_
 cases hM
 exact GS.ret ⟨_, rfl, ⟨30, rfl⟩⟩
theorem zCD (h : zL) (b : zm) (draught : Int) : Ct Tryz.prog 49 [(zH h), (zU b), (V.i draught)] (V.i (YB h b draught)) := by
 refine zg ZR rfl ?_
 generalize hM : YB h b draught = r
 unfold YB at hM
 refine X.sq ?_
 iterate 2 refine X.opW rfl rfl rfl rfl ?_
 refine X.q rfl (X.nq (X.q rfl (X.q rfl (X.q rfl ?_))))
 refine X.opR rfl (X.addE rfl rfl) rfl (X.q rfl (X.q rfl ?_))
 refine X.opR rfl (X.subE rfl rfl) rfl (X.q rfl (GS.zA ?_))
 subst hM
 exact GS.ret ⟨_, rfl, ⟨30, rfl⟩⟩
theorem zFc (s : zD) : Ct Tryz.prog 115 [(zJ s)] (V.i (Q7 s)) := by
 refine zg ZR rfl ?_
 generalize hM : Q7 s = r
 unfold Q7 at hM
 refine X.sq ?_
 refine X.opW rfl rfl rfl rfl (X.q rfl (GS.zA (GS.seq (GS.block (X.sq ?_)))))
 refine X.mid [(1, (V.ptr 0 0 0)), (3, (V.b (((decide (s.Lo < 0)) || (decide (s.Hi < s.Lo))) || (decide (1048576 < s.Hi)))))] ?_ ?_
 ·intro hg
  refine X.split (decide (s.Lo < 0)) (fun h_1 => ?_) (fun h_1 => ?_)
  ·iterate 4 refine X.q rfl ?_
   iterate 5 refine X.off (X.ZT rfl rfl rfl h_1) rfl ?_
   refine X.opR rfl (X.zf (y := decide (s.Hi < s.Lo)) rfl h_1 rfl) rfl (X.q rfl ?_)
   iterate 3 refine X.off (X.ZT rfl rfl rfl (X.zV h_1)) rfl ?_
   refine X.opR rfl (X.zf (y := decide (1048576 < s.Hi)) rfl (X.zV h_1) rfl) rfl (X.q rfl (GS.zA ?_))
   exact X.norm _ hg rfl (sr rfl)
  refine X.split (((decide (s.Lo < 0)) || (decide (s.Hi < s.Lo)))) (fun h_2 => ?_) (fun h_2 => ?_)
  ·iterate 4 refine X.q rfl ?_
   iterate 5 refine X.opR (X.on_f rfl rfl rfl h_1) rfl rfl ?_
   refine X.opR rfl (X.ze (y := decide (s.Hi < s.Lo)) rfl h_1 rfl) rfl (X.q rfl ?_)
   iterate 3 refine X.off (X.ZT rfl rfl rfl h_2) rfl ?_
   refine X.opR rfl (X.zf (y := decide (1048576 < s.Hi)) rfl h_2 rfl) rfl (X.q rfl (GS.zA ?_))
   exact X.norm _ hg rfl (sr rfl)
  iterate 4 refine X.q rfl ?_
  iterate 5 refine X.opR (X.on_f rfl rfl rfl h_1) rfl rfl ?_
  refine X.opR rfl (X.ze (y := decide (s.Hi < s.Lo)) rfl h_1 rfl) rfl (X.q rfl ?_)
  iterate 3 refine X.opR (X.on_f rfl rfl rfl h_2) rfl rfl ?_
  refine X.opR rfl (X.ze (y := decide (1048576 < s.Hi)) rfl h_2 rfl) rfl (X.q rfl (GS.zA ?_))
  exact X.norm _ hg rfl (sr rfl)
 refine X.cond rfl (fun h_3 => ?_) (fun h_3 => ?_)
 ·replace hM := za h_3 hM
  refine X.sq (X.q rfl (GS.zA ?_))
  subst hM
  exact GS.ret ⟨_, rfl, ⟨30, rfl⟩⟩
 replace hM := zb h_3 hM
 refine X.sq ?_
 iterate 4 refine X.q rfl ?_
 refine X.opR rfl (X.subE rfl rfl) rfl (X.q rfl (X.q rfl ?_))
 refine GS.zA ?_
 refine X.cond rfl (fun h_4 => ?_) (fun h_4 => ?_)
 ·replace hM := za h_4 hM
  refine X.sq (X.q rfl (GS.zA ?_))
  subst hM
  exact GS.ret ⟨_, rfl, ⟨30, rfl⟩⟩
 replace hM := zb h_4 hM
 refine GS.skip ?_
 refine GS.endB (X.sq (X.q rfl (GS.zA ?_)))
 subst hM
 exact GS.ret ⟨_, rfl, ⟨30, rfl⟩⟩
theorem zG6 {w : zY} {s : zD} {r : Int} (hM : zAr w s = some r) : Ct Tryz.prog 86 [(ZI w), (zJ s)] (V.i r) := by
 refine zg ZR rfl ?_
 unfold zAr at hM
 refine X.sq ?_
 iterate 2 refine X.opW rfl rfl rfl rfl ?_
 refine X.q rfl (GS.zA ?_)
 iterate 2 refine GS.seq ?_
 obtain ⟨y, h_1, hM⟩ := zI hM
 refine GS.region (X.q rfl ?_)
 refine X.call (zBJ h_1) rfl rfl rfl (.cons (.shut (n := 9) rfl) .nil) (X.q rfl (X.nq (X.q rfl (X.q rfl ?_))))
 refine GS.zA ?_
 refine X.cond rfl (fun h_2 => ?_) (fun h_2 => ?_)
 ·replace hM := za h_2 hM
  refine X.sq (X.q rfl (X.q rfl ?_))
  refine GS.zA ?_
  cases hM
  exact GS.ret ⟨_, rfl, ⟨30, rfl⟩⟩
 replace hM := zb h_2 hM
 refine GS.skip (X.sq (X.q rfl ?_))
 refine X.call (zFc s) rfl rfl rfl (.cons (.shut (n := 9) rfl) .nil) (X.q rfl (GS.zA ?_))
 cases hM
 exact GS.ret ⟨_, rfl, ⟨30, rfl⟩⟩
theorem zGB (w : zY) (s : zD) : Ct Tryz.prog 87 [(ZI w), (zJ s)] (V.fn 116 [(V.fptr [(ZI ((ZQ w s).1))] 0 0), (V.fptr [(zJ ((ZQ w s).2))] 0 0)]) := by
 refine zg ZR rfl ?_
 generalize hM : ZQ w s = r
 unfold ZQ at hM
 refine X.sq ?_
 iterate 2 refine X.opW rfl rfl rfl rfl ?_
 refine X.q rfl (X.nq (X.q rfl (X.q rfl ?_)))
 refine GS.zA ?_
 subst hM
 exact GS.ret ⟨_, rfl, ⟨30, rfl⟩⟩
set_option maxHeartbeats 4000000 in
theorem zCC {w : zY} {s : zD} {height : Int} {r : (List zD) × Int} (hM : Y4 w s height = some r) : Ct Tryz.prog 48 [(ZI w), (zJ s), (V.i height)] (V.tup [(V.sl (List.map zJ r.1)), (V.i r.2)]) := by
 refine zg ZR rfl ?_
 unfold Y4 at hM
 refine X.sq ?_
 iterate 3 refine X.opW rfl rfl rfl rfl ?_
 refine X.q rfl (X.q rfl ?_)
 refine GS.zA ?_
 iterate 2 refine GS.seq ?_
 obtain ⟨y, h_1, hM⟩ := zI hM
 refine GS.region (X.q rfl (X.q rfl ?_))
 refine X.call (zG6 h_1) rfl rfl rfl (.cons (.shut (n := 9) rfl) (.cons (.shut (n := 9) rfl) .nil)) (X.q rfl (X.nq (X.q rfl (X.q rfl ?_))))
 refine GS.zA ?_
 refine X.cond rfl (fun h_2 => ?_) (fun h_2 => ?_)
 ·replace hM := za h_2 hM
  refine X.sq (X.q rfl (X.q rfl (X.q rfl ?_)))
  refine GS.zA ?_
  cases hM
  exact GS.ret ⟨_, rfl, ⟨30, rfl⟩⟩
 replace hM := zb h_2 hM
 refine GS.skip (X.sq ?_)
 refine X.opW (H' := [.rows 3 [(ZI w)], .rows 2 [(zJ s)], .rows 1 [(V.i height)], .rows 1 [V.nil]]) rfl rfl rfl rfl (GS.zA (GS.seq (X.sq (X.q rfl (X.q rfl ?_)))))
 refine X.call (zGB w s) rfl rfl rfl (.cons (.shut (n := 9) rfl) (.cons (.shut (n := 9) rfl) .nil)) (GS.zA (GS.block ?_))
 refine X.gc [some 2, some 3] (H' := [.rows 1 [(V.i height)], .rows 1 [V.nil]]) (K' := [(5, (V.ptr 0 0 0)), (9, (V.ptr 1 0 0)), (20, (V.fn 116 [(V.fptr [(ZI ((ZQ w s).1))] 0 0), (V.fptr [(zJ ((ZQ w s).2))] 0 0)]))]) ?_ rfl rfl rfl (ga rfl rfl) (gb9 rfl rfl rfl (gb9 rfl rfl rfl zM))
 refine X.range rfl rfl (jm ⟨9, rfl⟩ (jm ⟨9, rfl⟩ (jm ⟨9, rfl⟩ zEB))) rfl ?_
 intro R_3 hrn_3 hrK_3 hrp_3 hra_3 hrb_3 hlow_3
 refine GS.seq ?_
 obtain ⟨y1, h_4, hM⟩ := zI hM
 refine GS.region (X.q rfl ?_)
 refine X.call (zCB h_4) rfl rfl rfl (.cons (.shut (n := 9) rfl) .nil) (X.q rfl (GS.zA (GS.seq ?_)))
 obtain ⟨y2, h_5, hM⟩ := zI hM
 refine X.draw (by kernel_rfl) ?_
 iterate 8 refine X.dop rfl rfl rfl rfl (by kernel_rfl) rfl rfl ?_
 refine X.dcall (qD h_5) rfl rfl rfl (by kernel_rfl) rfl (.cons (.shut (n := 9) rfl) (.cons (.shut (n := 9) rfl) (.cons (.shut (n := 9) rfl) .nil))) ?_
 iterate 2 refine X.dop rfl rfl rfl rfl (by kernel_rfl) rfl rfl ?_
 refine X.dop0 rfl rfl rfl rfl (by kernel_rfl) rfl ?_
 refine X.dnil ?_
 refine X.norm [(0, (V.yld 2)), (2, (V.fptr [(zJ ((ZQ w s).2))] 0 0)), (4, (V.fn 113 [(V.fptr [(ZI y1.1)] 0 0), (V.fptr [(Yi y1.2)] 0 0)])), (5, (V.ptr 3 0 0))] ?_ rfl (sr rfl)
 refine GS.seq (X.sq (X.q rfl (X.q rfl ?_)))
 refine X.opR rfl (X.addE rfl rfl) rfl (X.q rfl (GS.zA ?_))
 refine X.join (τ := Int × Int × Int × (List zD)) (fun v => YH height v.1 v.2.1 v.2.2.1 v.2.2.2 = some r) (fun v => ⟨[(0, (V.yld 2)), (5, (V.ptr 3 0 0))], [.rows 1 [(V.i height)], .rows 1 [(ovl 4 v.2.2.2)], lr R_3 .ready none, .rows 3 [(V.agg [(V.i v.1), (V.i v.2.1), (V.i v.2.2.1)])], obl 2 zJ v.2.2.2], 0, none, 51⟩) ?_ ?_
 ·rintro ⟨Lo, Hi, Height, l⟩ hM
  replace hM : YH height Lo Hi Height l = some r := hM
  unfold YH at hM
  refine GS.region (X.q rfl (X.q rfl ?_))
  refine X.yld hrn_3 hrK_3 hrp_3 hra_3 hrb_3 rfl rfl rfl rfl rfl rfl (GS.region ?_)
  refine X.opW (H' := [.rows 1 [(V.i height)], .rows 1 [(ovl 4 l)], lr R_3 .ready none, .rows 3 [(V.agg [(V.i Lo), (V.i Hi), (V.i Height)])], obl 2 zJ l, .rows 3 [(V.agg [(V.i 0), (V.i 0), (V.i 0)])]]) rfl rfl rfl rfl ?_
  refine X.op0W (H' := [.rows 1 [(V.i height)], .rows 1 [(ovl 4 l)], lr R_3 .ready none, .rows 3 [(V.agg [(V.i Lo), (V.i Hi), (V.i Height)])], obl 2 zJ l, .rows 3 [(V.agg [(V.i Lo), (V.i Hi), (V.i Height)])]]) rfl rfl rfl (GS.zA ?_)
  refine GS.nil (X.begin' rfl rfl ?_ rfl)
  refine GS.block (GS.seq (X.sq ?_))
  iterate 4 refine X.q rfl ?_
  refine GS.zA ?_
  refine X.cond rfl (fun h_6 => ?_) (fun h_6 => ?_)
  ·replace hM := za h_6 hM
   refine GS.exit rfl ?_
   refine GS.nil ⟨_, rfl, ?_⟩
   refine X.norm (H' := [.rows 1 [(V.i height)], .rows 1 [(ovl 4 l)], lr R_3 .ready none, .rows 3 [(V.agg [(V.i Lo), (V.i Hi), (V.i Height)])], obl 2 zJ l, .rows 3 [(V.agg [(V.i Lo), (V.i Hi), (V.i Height)])]]) [(50, (V.b true))] ?_ rfl (sr rfl)
   refine GS.zA ?_
   refine GS.nil ⟨_, _, rfl, rfl, ?_⟩
   refine X.norm (H' := [.rows 1 [(V.i height)], .rows 1 [(ovl 4 l)], .dead, .rows 3 [(V.agg [(V.i Lo), (V.i Hi), (V.i Height)])], obl 2 zJ l, .rows 3 [(V.agg [(V.i Lo), (V.i Hi), (V.i Height)])]]) [(5, (V.ptr 0 0 0)), (9, (V.ptr 1 0 0)), (20, (V.fn 116 [(V.fptr [(ZI ((ZQ w s).1))] 0 0), (V.fptr [(zJ ((ZQ w s).2))] 0 0)]))] ?_ rfl (sr rfl)
   refine GS.endB (X.sq ?_)
   refine X.opR rfl (v := (ovl 4 l)) (by rcases X.Yo (z := true) 4 l with h0 | ⟨n0, h0⟩ <;> simp only [h0] <;> rfl) rfl (X.q rfl (X.q rfl ?_))
   refine GS.zA ?_
   have hE := Option.some.inj hM
   subst hE
   exact GS.ret ⟨_, rfl, FR.tup (.cons (FR.ovl (f := zJ) (l := l) 9 rfl rfl (fun _ => rfl)) (.cons ⟨30, rfl⟩ .nil))⟩
  replace hM := zb h_6 hM
  refine GS.skip (X.sq ?_)
  refine X.opR rfl (v := (ovl 4 l)) (by rcases X.Yo (z := true) 4 l with h0 | ⟨n0, h0⟩ <;> simp only [h0] <;> rfl) rfl ?_
  refine X.opR rfl (X.lenN (l := l) rfl rfl rfl) rfl (X.q rfl (GS.zA (GS.seq ?_)))
  obtain ⟨x, h_7, hM⟩ := zCk hM
  refine X.mid [(9, (V.ptr 1 0 0)), (10, (V.ptr 5 0 0)), (11, (V.i (l.length : Int))), (42, (V.b ((decide (0 < (l.length : Int))) && (decide ((w64 (x.Hi + 1)) = Lo)))))] ?_ ?_
  ·intro hg
   refine X.split (decide (0 < (l.length : Int))) (fun h_8 => ?_) (fun h_8 => ?_)
   ·refine X.drawc (by kernel_rfl) rfl ?_
    iterate 3 refine X.cop rfl rfl rfl rfl ?_
    refine X.cop (X.on_t rfl rfl rfl h_8) (v := (ovl 4 l)) (by rcases X.Yo (z := true) 4 l with h0 | ⟨n0, h0⟩ <;> simp only [h0] <;> rfl) rfl rfl ?_
    refine X.cop (X.on_t rfl rfl rfl h_8) rfl rfl rfl ?_
    refine X.cop (X.on_t rfl rfl rfl h_8) (X.subE rfl rfl) rfl rfl ?_
    refine X.cop (X.on_t rfl rfl rfl h_8) (X.zBx (h_7 h_8) rfl rfl rfl rfl rfl) rfl rfl ?_
    refine X.cop (X.on_t rfl rfl rfl h_8) rfl rfl rfl ?_
    refine X.cop (X.on_t rfl rfl rfl h_8) (X.zGV (h_7 h_8) rfl rfl rfl rfl) rfl rfl ?_
    refine X.cop (X.on_t rfl rfl rfl h_8) (X.addE rfl rfl) rfl rfl ?_
    iterate 4 refine X.cop (X.on_t rfl rfl rfl h_8) rfl rfl rfl ?_
    refine X.cop rfl (X.zX (y := decide ((w64 (x.Hi + 1)) = Lo)) rfl h_8 rfl) rfl rfl ?_
    refine X.cnil ?_
    exact X.norm _ hg rfl (sr rfl)
   refine X.drawc (by kernel_rfl) rfl ?_
   iterate 3 refine X.cop rfl rfl rfl rfl ?_
   iterate 11 refine X.coff (X.zt rfl rfl rfl h_8) rfl rfl ?_
   refine X.cop rfl (X.zR (y := decide ((w64 (x.Hi + 1)) = Lo)) rfl h_8 rfl) rfl rfl ?_
   refine X.cnil ?_
   exact X.norm _ hg rfl (sr rfl)
  refine X.cond rfl (fun h_9 => ?_) (fun h_9 => ?_)
  ·replace hM := za h_9 hM
   obtain ⟨x1, h_10, hM⟩ := zI hM
   refine GS.region ?_
   refine X.opR rfl (v := (ovl 4 l)) (by rcases X.Yo (z := true) 4 l with h0 | ⟨n0, h0⟩ <;> simp only [h0] <;> rfl) rfl (X.q rfl ?_)
   refine X.opR rfl (X.subE rfl rfl) rfl (X.q rfl (X.q rfl (X.q rfl ?_)))
   refine X.opR rfl (X.zBx h_10 rfl rfl rfl rfl rfl) rfl (X.q rfl ?_)
   refine X.op0W (H' := [.rows 1 [(V.i height)], .rows 1 [(ovl 4 l)], lr R_3 .busy none, .rows 3 [(V.agg [(V.i Lo), (V.i Hi), (V.i Height)])], obl 2 zJ (put l (w64 ((l.length : Int) - 1)) (⟨x1.Lo, Hi⟩ : zD)), .rows 3 [(V.agg [(V.i Lo), (V.i Hi), (V.i Height)])]]) rfl (X.zBH (b := (⟨x1.Lo, Hi⟩ : zD)) h_10 rfl rfl rfl rfl rfl rfl rfl) rfl (GS.zA ?_)
   refine GS.endB ?_
   refine GS.nil ⟨_, rfl, ?_⟩
   refine X.norm (H' := [.rows 1 [(V.i height)], .rows 1 [(ovl 4 l)], lr R_3 .ready none, .rows 3 [(V.agg [(V.i Lo), (V.i Hi), (V.i Height)])], obl 2 zJ (put l (w64 ((l.length : Int) - 1)) (⟨x1.Lo, Hi⟩ : zD)), .rows 3 [(V.agg [(V.i Lo), (V.i Hi), (V.i Height)])]]) [(50, (V.b true))] ?_ rfl (sr rfl)
   refine GS.zA ?_
   refine GS.nil ⟨_, _, rfl, rfl, ?_⟩
   refine X.norm (H' := [.rows 1 [(V.i height)], .rows 1 [(ovl 4 l)], .dead, .rows 3 [(V.agg [(V.i Lo), (V.i Hi), (V.i Height)])], obl 2 zJ (put l (w64 ((l.length : Int) - 1)) (⟨x1.Lo, Hi⟩ : zD)), .rows 3 [(V.agg [(V.i Lo), (V.i Hi), (V.i Height)])]]) [(5, (V.ptr 0 0 0)), (9, (V.ptr 1 0 0)), (20, (V.fn 116 [(V.fptr [(ZI ((ZQ w s).1))] 0 0), (V.fptr [(zJ ((ZQ w s).2))] 0 0)]))] ?_ rfl (sr rfl)
   refine GS.endB (X.sq ?_)
   refine X.opR rfl (v := (ovl 4 l)) (by rcases X.Yo (z := true) 4 l with h0 | ⟨n0, h0⟩ <;> simp only [h0] <;> rfl) rfl (X.q rfl (X.q rfl ?_))
   refine GS.zA ?_
   have hE := Option.some.inj hM
   subst hE
   exact GS.ret ⟨_, rfl, FR.tup (.cons (FR.eq X.zD2 (FR.ovl (f := zJ) (l := (put l (w64 ((l.length : Int) - 1)) (⟨x1.Lo, Hi⟩ : zD))) 9 rfl rfl (fun _ => rfl))) (.cons ⟨30, rfl⟩ .nil))⟩
  replace hM := zb h_9 hM
  obtain ⟨l1, h_11, hM⟩ := zI hM
  refine GS.region ?_
  refine X.opR rfl (v := (ovl 4 l)) (by rcases X.Yo (z := true) 4 l with h0 | ⟨n0, h0⟩ <;> simp only [h0] <;> rfl) rfl (X.q rfl (X.q rfl ?_))
  refine X.opW (H' := [.rows 1 [(V.i height)], .rows 1 [(ovl 4 l)], lr R_3 .busy none, .rows 3 [(V.agg [(V.i Lo), (V.i Hi), (V.i Height)])], obl 2 zJ l, .rows 3 [(V.agg [(V.i Lo), (V.i Hi), (V.i Height)])], .rows 2 (List.map zJ ([(⟨Lo, Hi⟩ : zD)]))]) rfl rfl rfl rfl ?_
  refine X.appN (f := zJ) h_11 (fun _ => rfl) (by rfl) (by rfl) (by rfl) (by rfl) (by rfl) (by rfl) (by rfl) (by rfl) (by rfl) (by rfl) (by rfl) (by exact rfl) (by rfl) (by rfl) ?_
  refine X.op0W (H' := [.rows 1 [(V.i height)], .rows 1 [(V.osl 7 0 (List.length l1))], lr R_3 .busy none, .rows 3 [(V.agg [(V.i Lo), (V.i Hi), (V.i Height)])], .dead, .rows 3 [(V.agg [(V.i Lo), (V.i Hi), (V.i Height)])], .rows 2 (List.map zJ ([(⟨Lo, Hi⟩ : zD)])), .rows 2 (List.map zJ l1)]) rfl (v := jS) (wr := [(1, .rows 1 [(V.osl 7 0 (List.length l1))])]) (by rcases X.Yo (z := true) 4 l with h0 | ⟨n0, h0⟩ <;> simp only [h0] <;> rfl) rfl (GS.zA ?_)
  refine GS.endB ?_
  refine GS.nil ⟨_, rfl, ?_⟩
  refine X.norm (H' := [.rows 1 [(V.i height)], .rows 1 [(V.osl 7 0 (List.length l1))], lr R_3 .ready none, .rows 3 [(V.agg [(V.i Lo), (V.i Hi), (V.i Height)])], .dead, .rows 3 [(V.agg [(V.i Lo), (V.i Hi), (V.i Height)])], .rows 2 (List.map zJ ([(⟨Lo, Hi⟩ : zD)])), .rows 2 (List.map zJ l1)]) [(50, (V.b true))] ?_ rfl (sr rfl)
  refine GS.zA ?_
  refine GS.nil ⟨_, _, rfl, rfl, ?_⟩
  refine X.norm (H' := [.rows 1 [(V.i height)], .rows 1 [(V.osl 7 0 (List.length l1))], .dead, .rows 3 [(V.agg [(V.i Lo), (V.i Hi), (V.i Height)])], .dead, .rows 3 [(V.agg [(V.i Lo), (V.i Hi), (V.i Height)])], .rows 2 (List.map zJ ([(⟨Lo, Hi⟩ : zD)])), .rows 2 (List.map zJ l1)]) [(5, (V.ptr 0 0 0)), (9, (V.ptr 1 0 0)), (20, (V.fn 116 [(V.fptr [(ZI ((ZQ w s).1))] 0 0), (V.fptr [(zJ ((ZQ w s).2))] 0 0)]))] ?_ rfl (sr rfl)
  refine GS.endB (X.sq (X.q rfl (X.q rfl (X.q rfl ?_))))
  refine GS.zA ?_
  have hE := Option.some.inj hM
  subst hE
  exact GS.ret ⟨_, rfl, FR.tup (.cons (FR.osl (f := zJ) (l := l1) 9 rfl rfl (fun _ => rfl)) (.cons ⟨30, rfl⟩ .nil))⟩
 intro hj_1
 refine GS.block ?_
 refine X.gc [some 3, none] (X.loop (σ := (Int × Int × Int × Int × (List zD))) (fun v => ⟨[(0, (V.yld 2)), (2, (V.fptr [(zJ ((ZQ w s).2))] 0 0)), (4, (V.fn 113 [(V.fptr [(ZI y1.1)] 0 0), (V.fptr [(Yi y1.2)] 0 0)])), (5, (V.ptr 3 0 0)), (6, (V.i v.1))], [.rows 1 [(V.i height)], .rows 1 [(ovl 4 v.2.2.2.2)], lr R_3 .ready none, .rows 3 [(V.agg [(V.i v.2.1), (V.i v.2.2.1), (V.i v.2.2.2.1)])], obl 2 zJ v.2.2.2.2], 0, none, 51⟩) hM ?_ rfl) rfl rfl rfl (ga rfl rfl) (gb9 rfl rfl rfl (gb9 rfl rfl rfl (jf hlow_3 rfl rfl rfl (gb9 rfl rfl rfl (gb_pad' rfl zM)))))
 rintro ⟨t, Lo2, Hi1, Height2, l5⟩ b_1 hM hc_2 hr_1
 rw [Qi] at hM
 refine GS.seq (X.sq ?_)
 iterate 4 refine X.q rfl ?_
 refine GS.zA ?_
 refine X.cond rfl (fun h_12 => ?_) (fun h_12 => ?_)
 ·replace hM := za h_12 hM
  refine GS.skip (GS.seq ?_)
  refine X.join (τ := Int × Int × (List zD)) (fun v => jD t v.1 v.2.1 v.2.2 = some b_1) (fun v => ⟨[(0, (V.yld 2)), (2, (V.fptr [(zJ ((ZQ w s).2))] 0 0)), (4, (V.fn 113 [(V.fptr [(ZI y1.1)] 0 0), (V.fptr [(Yi y1.2)] 0 0)])), (5, (V.ptr 3 0 0)), (6, (V.i t))], [.rows 1 [(V.i height)], .rows 1 [(ovl 4 v.2.2)], lr R_3 .ready none, .rows 3 [(V.agg [(V.i v.1), (V.i t), (V.i v.2.1)])], obl 2 zJ v.2.2], 0, none, 51⟩) ?_ ?_
  ·rintro ⟨Lo1, Height1, l2⟩ hM
   replace hM : jD t Lo1 Height1 l2 = some b_1 := hM
   unfold jD at hM
   refine GS.region (X.q rfl ?_)
   refine X.opR rfl (X.addE rfl rfl) rfl (X.q rfl (GS.zA ?_))
   have hE := Option.some.inj hM
   exact X.gc [some 3, some 4] (hc_2 (w64 (t + 1), Lo1, t, Height1, l2) hE.symm) rfl rfl rfl (ga rfl rfl) (gb9 rfl rfl rfl (Z0 rfl rfl (zl rfl) (jf hlow_3 rfl rfl rfl (gb9 rfl rfl rfl (zn 9 rfl rfl (fun _ => rfl) zM)))))
  intro hj_3
  refine GS.block (GS.seq ?_)
  obtain ⟨y3, h_13, hM⟩ := zI hM
  refine GS.region (X.q rfl (X.q rfl ?_))
  refine X.call (qD h_13) rfl rfl rfl (.cons (.shut (n := 9) rfl) (.cons (.shut (n := 9) rfl) (.cons (.shut (n := 9) rfl) .nil))) (X.q rfl (GS.zA (GS.seq (X.sq ?_))))
  iterate 4 refine X.q rfl ?_
  refine GS.zA ?_
  refine X.cond rfl (fun h_14 => ?_) (fun h_14 => ?_)
  ·replace hM := za h_14 hM
   refine X.sq (X.q rfl (X.q rfl (X.q rfl ?_)))
   refine X.op0W (H' := [.rows 1 [(V.i height)], .rows 1 [(ovl 4 l5)], lr R_3 .ready none, .rows 3 [(V.agg [(V.i Lo2), (V.i t), (V.i Height2)])], obl 2 zJ l5]) rfl rfl rfl (GS.zA ?_)
   refine GS.exit rfl ?_
   exact X.gc [some 3, some 4] (hj_3 (Lo2, Height2, l5) hM) rfl rfl rfl (ga rfl rfl) (gb9 rfl rfl rfl (Z0 rfl rfl (zl rfl) (jf hlow_3 rfl rfl rfl (gb9 rfl rfl rfl (zn 9 rfl rfl (fun _ => rfl) zM)))))
  replace hM := zb h_14 hM
  refine GS.skip (GS.seq (X.sq (X.q rfl (X.q rfl ?_))))
  refine X.yld hrn_3 hrK_3 hrp_3 hra_3 hrb_3 rfl rfl rfl rfl rfl rfl (GS.region ?_)
  refine X.opW (H' := [.rows 1 [(V.i height)], .rows 1 [(ovl 4 l5)], lr R_3 .ready none, .rows 3 [(V.agg [(V.i Lo2), (V.i Hi1), (V.i Height2)])], obl 2 zJ l5, .rows 3 [(V.agg [(V.i 0), (V.i 0), (V.i 0)])]]) rfl rfl rfl rfl ?_
  refine X.op0W (H' := [.rows 1 [(V.i height)], .rows 1 [(ovl 4 l5)], lr R_3 .ready none, .rows 3 [(V.agg [(V.i Lo2), (V.i Hi1), (V.i Height2)])], obl 2 zJ l5, .rows 3 [(V.agg [(V.i Lo2), (V.i Hi1), (V.i Height2)])]]) rfl rfl rfl (GS.zA ?_)
  refine GS.nil (X.begin' rfl rfl ?_ rfl)
  refine GS.block (GS.seq (X.sq ?_))
  iterate 4 refine X.q rfl ?_
  refine GS.zA ?_
  refine X.cond rfl (fun h_15 => ?_) (fun h_15 => ?_)
  ·replace hM := za h_15 hM
   refine GS.exit rfl ?_
   refine GS.nil ⟨_, rfl, ?_⟩
   refine X.norm (H' := [.rows 1 [(V.i height)], .rows 1 [(ovl 4 l5)], lr R_3 .ready none, .rows 3 [(V.agg [(V.i Lo2), (V.i Hi1), (V.i Height2)])], obl 2 zJ l5, .rows 3 [(V.agg [(V.i Lo2), (V.i Hi1), (V.i Height2)])]]) [(0, (V.yld 2)), (2, (V.fptr [(zJ ((ZQ w s).2))] 0 0)), (4, (V.fn 113 [(V.fptr [(ZI y1.1)] 0 0), (V.fptr [(Yi y1.2)] 0 0)])), (5, (V.ptr 3 0 0)), (6, (V.i t)), (7, (V.i y3)), (41, (V.b true))] ?_ rfl (sr rfl)
   refine X.q rfl (GS.zA ?_)
   refine GS.zAa rfl (GS.skip (GS.region ?_))
   iterate 5 refine X.q rfl ?_
   refine X.op0W (H' := [.rows 1 [(V.i height)], .rows 1 [(ovl 4 l5)], lr R_3 .ready none, .rows 3 [(V.agg [(V.i t), (V.i t), (V.i y3)])], obl 2 zJ l5, .rows 3 [(V.agg [(V.i Lo2), (V.i Hi1), (V.i Height2)])]]) rfl rfl rfl (GS.zA ?_)
   refine GS.endB ?_
   exact X.gc [some 3, some 4] (hj_3 (t, y3, l5) hM) rfl rfl rfl (ga rfl rfl) (gb9 rfl rfl rfl (Z0 rfl rfl (zl rfl) (jf hlow_3 rfl rfl rfl (gb9 rfl rfl rfl (zn 9 rfl rfl (fun _ => rfl) zM)))))
  replace hM := zb h_15 hM
  refine GS.skip (X.sq ?_)
  refine X.opR rfl (v := (ovl 4 l5)) (by rcases X.Yo (z := true) 4 l5 with h0 | ⟨n0, h0⟩ <;> simp only [h0] <;> rfl) rfl ?_
  refine X.opR rfl (X.lenN (l := l5) rfl rfl rfl) rfl (X.q rfl (GS.zA (GS.seq ?_)))
  obtain ⟨x2, h_16, hM⟩ := zCk hM
  refine X.mid [(9, (V.ptr 1 0 0)), (10, (V.ptr 5 0 0)), (11, (V.i (l5.length : Int))), (42, (V.b ((decide (0 < (l5.length : Int))) && (decide ((w64 (x2.Hi + 1)) = Lo2)))))] ?_ ?_
  ·intro hg
   refine X.split (decide (0 < (l5.length : Int))) (fun h_17 => ?_) (fun h_17 => ?_)
   ·refine X.drawc (by kernel_rfl) rfl ?_
    iterate 3 refine X.cop rfl rfl rfl rfl ?_
    refine X.cop (X.on_t rfl rfl rfl h_17) (v := (ovl 4 l5)) (by rcases X.Yo (z := true) 4 l5 with h0 | ⟨n0, h0⟩ <;> simp only [h0] <;> rfl) rfl rfl ?_
    refine X.cop (X.on_t rfl rfl rfl h_17) rfl rfl rfl ?_
    refine X.cop (X.on_t rfl rfl rfl h_17) (X.subE rfl rfl) rfl rfl ?_
    refine X.cop (X.on_t rfl rfl rfl h_17) (X.zBx (h_16 h_17) rfl rfl rfl rfl rfl) rfl rfl ?_
    refine X.cop (X.on_t rfl rfl rfl h_17) rfl rfl rfl ?_
    refine X.cop (X.on_t rfl rfl rfl h_17) (X.zGV (h_16 h_17) rfl rfl rfl rfl) rfl rfl ?_
    refine X.cop (X.on_t rfl rfl rfl h_17) (X.addE rfl rfl) rfl rfl ?_
    iterate 4 refine X.cop (X.on_t rfl rfl rfl h_17) rfl rfl rfl ?_
    refine X.cop rfl (X.zX (y := decide ((w64 (x2.Hi + 1)) = Lo2)) rfl h_17 rfl) rfl rfl ?_
    refine X.cnil ?_
    exact X.norm _ hg rfl (sr rfl)
   refine X.drawc (by kernel_rfl) rfl ?_
   iterate 3 refine X.cop rfl rfl rfl rfl ?_
   iterate 11 refine X.coff (X.zt rfl rfl rfl h_17) rfl rfl ?_
   refine X.cop rfl (X.zR (y := decide ((w64 (x2.Hi + 1)) = Lo2)) rfl h_17 rfl) rfl rfl ?_
   refine X.cnil ?_
   exact X.norm _ hg rfl (sr rfl)
  refine X.cond rfl (fun h_18 => ?_) (fun h_18 => ?_)
  ·replace hM := za h_18 hM
   obtain ⟨x3, h_19, hM⟩ := zI hM
   refine GS.region ?_
   refine X.opR rfl (v := (ovl 4 l5)) (by rcases X.Yo (z := true) 4 l5 with h0 | ⟨n0, h0⟩ <;> simp only [h0] <;> rfl) rfl (X.q rfl ?_)
   refine X.opR rfl (X.subE rfl rfl) rfl (X.q rfl (X.q rfl (X.q rfl ?_)))
   refine X.opR rfl (X.zBx h_19 rfl rfl rfl rfl rfl) rfl (X.q rfl ?_)
   refine X.op0W (H' := [.rows 1 [(V.i height)], .rows 1 [(ovl 4 l5)], lr R_3 .busy none, .rows 3 [(V.agg [(V.i Lo2), (V.i Hi1), (V.i Height2)])], obl 2 zJ (put l5 (w64 ((l5.length : Int) - 1)) (⟨x3.Lo, Hi1⟩ : zD)), .rows 3 [(V.agg [(V.i Lo2), (V.i Hi1), (V.i Height2)])]]) rfl (X.zBH (b := (⟨x3.Lo, Hi1⟩ : zD)) h_19 rfl rfl rfl rfl rfl rfl rfl) rfl (GS.zA ?_)
   refine GS.endB ?_
   refine GS.nil ⟨_, rfl, ?_⟩
   refine X.norm (H' := [.rows 1 [(V.i height)], .rows 1 [(ovl 4 l5)], lr R_3 .ready none, .rows 3 [(V.agg [(V.i Lo2), (V.i Hi1), (V.i Height2)])], obl 2 zJ (put l5 (w64 ((l5.length : Int) - 1)) (⟨x3.Lo, Hi1⟩ : zD)), .rows 3 [(V.agg [(V.i Lo2), (V.i Hi1), (V.i Height2)])]]) [(0, (V.yld 2)), (2, (V.fptr [(zJ ((ZQ w s).2))] 0 0)), (4, (V.fn 113 [(V.fptr [(ZI y1.1)] 0 0), (V.fptr [(Yi y1.2)] 0 0)])), (5, (V.ptr 3 0 0)), (6, (V.i t)), (7, (V.i y3)), (41, (V.b true))] ?_ rfl (sr rfl)
   refine X.q rfl (GS.zA ?_)
   refine GS.zAa rfl (GS.skip (GS.region ?_))
   iterate 5 refine X.q rfl ?_
   refine X.op0W (H' := [.rows 1 [(V.i height)], .rows 1 [(ovl 4 l5)], lr R_3 .ready none, .rows 3 [(V.agg [(V.i t), (V.i t), (V.i y3)])], obl 2 zJ (put l5 (w64 ((l5.length : Int) - 1)) (⟨x3.Lo, Hi1⟩ : zD)), .rows 3 [(V.agg [(V.i Lo2), (V.i Hi1), (V.i Height2)])]]) rfl rfl rfl (GS.zA ?_)
   refine GS.endB ?_
   exact X.gc [some 3, some 4] (hj_3 (t, y3, (put l5 (w64 ((l5.length : Int) - 1)) (⟨x3.Lo, Hi1⟩ : zD))) hM) rfl rfl rfl (ga rfl rfl) (gb9 rfl rfl rfl (Z0 rfl rfl (QO X.zD2 (zl rfl)) (jf hlow_3 rfl rfl rfl (gb9 rfl rfl rfl (zn 9 rfl rfl (fun _ => rfl) zM)))))
  replace hM := zb h_18 hM
  obtain ⟨l3, h_20, hM⟩ := zI hM
  refine GS.region ?_
  refine X.opR rfl (v := (ovl 4 l5)) (by rcases X.Yo (z := true) 4 l5 with h0 | ⟨n0, h0⟩ <;> simp only [h0] <;> rfl) rfl (X.q rfl (X.q rfl ?_))
  refine X.opW (H' := [.rows 1 [(V.i height)], .rows 1 [(ovl 4 l5)], lr R_3 .busy none, .rows 3 [(V.agg [(V.i Lo2), (V.i Hi1), (V.i Height2)])], obl 2 zJ l5, .rows 3 [(V.agg [(V.i Lo2), (V.i Hi1), (V.i Height2)])], .rows 2 (List.map zJ ([(⟨Lo2, Hi1⟩ : zD)]))]) rfl rfl rfl rfl ?_
  refine X.appN (f := zJ) h_20 (fun _ => rfl) (by rfl) (by rfl) (by rfl) (by rfl) (by rfl) (by rfl) (by rfl) (by rfl) (by rfl) (by rfl) (by rfl) (by exact rfl) (by rfl) (by rfl) ?_
  refine X.op0W (H' := [.rows 1 [(V.i height)], .rows 1 [(V.osl 7 0 (List.length l3))], lr R_3 .busy none, .rows 3 [(V.agg [(V.i Lo2), (V.i Hi1), (V.i Height2)])], .dead, .rows 3 [(V.agg [(V.i Lo2), (V.i Hi1), (V.i Height2)])], .rows 2 (List.map zJ ([(⟨Lo2, Hi1⟩ : zD)])), .rows 2 (List.map zJ l3)]) rfl (v := jS) (wr := [(1, .rows 1 [(V.osl 7 0 (List.length l3))])]) (by rcases X.Yo (z := true) 4 l5 with h0 | ⟨n0, h0⟩ <;> simp only [h0] <;> rfl) rfl (GS.zA ?_)
  refine GS.endB ?_
  refine GS.nil ⟨_, rfl, ?_⟩
  refine X.norm (H' := [.rows 1 [(V.i height)], .rows 1 [(V.osl 7 0 (List.length l3))], lr R_3 .ready none, .rows 3 [(V.agg [(V.i Lo2), (V.i Hi1), (V.i Height2)])], .dead, .rows 3 [(V.agg [(V.i Lo2), (V.i Hi1), (V.i Height2)])], .rows 2 (List.map zJ ([(⟨Lo2, Hi1⟩ : zD)])), .rows 2 (List.map zJ l3)]) [(0, (V.yld 2)), (2, (V.fptr [(zJ ((ZQ w s).2))] 0 0)), (4, (V.fn 113 [(V.fptr [(ZI y1.1)] 0 0), (V.fptr [(Yi y1.2)] 0 0)])), (5, (V.ptr 3 0 0)), (6, (V.i t)), (7, (V.i y3)), (41, (V.b true))] ?_ rfl (sr rfl)
  refine X.q rfl (GS.zA ?_)
  refine GS.zAa rfl (GS.skip (GS.region ?_))
  iterate 5 refine X.q rfl ?_
  refine X.op0W (H' := [.rows 1 [(V.i height)], .rows 1 [(V.osl 7 0 (List.length l3))], lr R_3 .ready none, .rows 3 [(V.agg [(V.i t), (V.i t), (V.i y3)])], .dead, .rows 3 [(V.agg [(V.i Lo2), (V.i Hi1), (V.i Height2)])], .rows 2 (List.map zJ ([(⟨Lo2, Hi1⟩ : zD)])), .rows 2 (List.map zJ l3)]) rfl rfl rfl (GS.zA ?_)
  refine GS.endB ?_
  exact X.gc [some 3, some 7] (hj_3 (t, y3, l3) hM) rfl rfl rfl (ga rfl rfl) (gb9 rfl rfl rfl (Z0 rfl rfl (zAW (jR h_20) rfl) (jf hlow_3 rfl rfl rfl (gb9 rfl rfl rfl (gb_obl' 9 (jR h_20) rfl rfl (fun _ => rfl) zM)))))
 replace hM := zb h_12 hM
 refine GS.exit rfl ?_
 obtain ⟨y_1, hM, hy⟩ := ZV hM
 rw [hr_1 _ hy.symm] at hM
 exact X.gc [some 3, some 4] (hj_1 (Lo2, Hi1, Height2, l5) hM) rfl rfl rfl (ga rfl rfl) (gb9 rfl rfl rfl (Z0 rfl rfl (zl rfl) (jf hlow_3 rfl rfl rfl (gb9 rfl rfl rfl (zn 9 rfl rfl (fun _ => rfl) zM)))))
theorem zCY {h : zL} {id : Int} {draught : Int} {s : zD} {r : Int × Bool × Int} (hM : Q6 h id draught s = some r) : Ct Tryz.prog 11 [(zH h), (V.i id), (V.i draught), (zJ s)] (V.tup [(V.i r.1), (V.b r.2.1), (V.i r.2.2)]) := by
 refine zg ZR rfl ?_
 unfold Q6 at hM
 refine X.sq ?_
 iterate 2 refine X.opW rfl rfl rfl rfl ?_
 iterate 3 refine X.q rfl ?_
 refine GS.zA ?_
 iterate 2 refine GS.seq ?_
 obtain ⟨y, h_1, hM⟩ := zI hM
 refine GS.region (X.q rfl ?_)
 refine X.call (Yr h_1) rfl rfl rfl (.cons (.shut (n := 9) rfl) .nil) (X.q rfl (X.nq (X.q rfl (X.q rfl ?_))))
 refine GS.zA ?_
 refine X.cond rfl (fun h_2 => ?_) (fun h_2 => ?_)
 ·replace hM := za h_2 hM
  refine X.sq ?_
  iterate 4 refine X.q rfl ?_
  refine GS.zA ?_
  cases hM
  exact GS.ret ⟨_, rfl, ⟨30, rfl⟩⟩
 replace hM := zb h_2 hM
 refine GS.skip (GS.seq ?_)
 obtain ⟨y1, h_3, hM⟩ := zI hM
 refine GS.region (X.q rfl (X.q rfl (X.q rfl ?_)))
 refine X.call (Zm h_3) rfl rfl rfl (.cons (.shut (n := 9) rfl) (.cons (.shut (n := 9) rfl) (.cons (.shut (n := 9) rfl) .nil))) (X.q rfl (GS.zA (GS.seq (X.sq (X.q rfl (X.q rfl ?_))))))
 refine GS.zA ?_
 refine X.cond rfl (fun h_4 => ?_) (fun h_4 => ?_)
 ·replace hM := za h_4 hM
  refine X.sq (X.q rfl (X.q rfl (X.q rfl ?_)))
  refine GS.zA ?_
  cases hM
  exact GS.ret ⟨_, rfl, ⟨30, rfl⟩⟩
 replace hM := zb h_4 hM
 refine GS.skip (GS.seq (X.sq ?_))
 refine X.mid [(2, (V.i draught)), (4, (V.ptr 0 0 0)), (7, (V.ptr 1 0 0)), (12, (V.i y1)), (33, (V.b ((!(zZ draught 0 8000)) || (!(jr s)))))] ?_ ?_
 ·intro hg
  refine X.split (!(zZ draught 0 8000)) (fun h_5 => ?_) (fun h_5 => ?_)
  ·refine X.q rfl ?_
   refine X.call (ZN draught 0 8000) rfl rfl rfl (.cons (.shut (n := 9) rfl) (.cons (.shut (n := 9) rfl) (.cons (.shut (n := 9) rfl) .nil))) (X.q rfl (X.q rfl ?_))
   iterate 3 refine X.off (X.ZT rfl rfl rfl h_5) rfl ?_
   refine X.opR rfl (X.zf (y := !(jr s)) rfl h_5 rfl) rfl (GS.zA ?_)
   exact X.norm _ hg rfl (sr rfl)
  refine X.q rfl ?_
  refine X.call (ZN draught 0 8000) rfl rfl rfl (.cons (.shut (n := 9) rfl) (.cons (.shut (n := 9) rfl) (.cons (.shut (n := 9) rfl) .nil))) (X.q rfl (X.q rfl ?_))
  refine X.opR (X.on_f rfl rfl rfl h_5) rfl rfl ?_
  refine X.call (zAx s) (X.on_f rfl rfl rfl h_5) rfl rfl (.cons (.shut (n := 9) rfl) .nil) ?_
  refine X.opR (X.on_f rfl rfl rfl h_5) rfl rfl ?_
  refine X.opR rfl (X.ze (y := !(jr s)) rfl h_5 rfl) rfl (GS.zA ?_)
  exact X.norm _ hg rfl (sr rfl)
 refine X.cond rfl (fun h_6 => ?_) (fun h_6 => ?_)
 ·replace hM := za h_6 hM
  refine X.sq (X.q rfl (X.q rfl (X.q rfl ?_)))
  refine GS.zA ?_
  cases hM
  exact GS.ret ⟨_, rfl, ⟨30, rfl⟩⟩
 replace hM := zb h_6 hM
 refine GS.skip (GS.seq ?_)
 obtain ⟨x, h_7, hM⟩ := zI hM
 obtain ⟨y2, h_8, hM⟩ := zI hM
 refine X.drawc (by kernel_rfl) rfl ?_
 iterate 7 refine X.cop rfl rfl rfl rfl ?_
 refine X.cop rfl (X.ZJ (f := zU) h_7 (fun _ => rfl) rfl rfl rfl rfl) rfl rfl ?_
 refine X.cop rfl (X.Za h_7 rfl rfl rfl) rfl rfl ?_
 refine X.cop rfl rfl rfl rfl ?_
 refine X.ccall (zCD h x draught) rfl rfl rfl rfl (.cons (.shut (n := 9) rfl) (.cons (.shut (n := 9) rfl) (.cons (.shut (n := 9) rfl) .nil))) ?_
 refine X.ccall (zCC h_8) rfl rfl rfl rfl (.cons (.shut (n := 9) rfl) (.cons (.shut (n := 9) rfl) (.cons (.shut (n := 9) rfl) .nil))) ?_
 iterate 5 refine X.cop rfl rfl rfl rfl ?_
 refine X.cnil ?_
 refine X.norm [(7, (V.ptr 1 0 0)), (13, (V.sl (List.map zJ y2.1))), (14, (V.i y2.2))] ?_ rfl (sr rfl)
 refine GS.seq (GS.block (X.sq (X.q rfl (X.q rfl (X.q rfl ?_)))))
 refine GS.zA ?_
 refine X.cond rfl (fun h_9 => ?_) (fun h_9 => ?_)
 ·replace hM := za h_9 hM
  refine X.sq ?_
  iterate 4 refine X.q rfl ?_
  refine GS.zA ?_
  cases hM
  exact GS.ret ⟨_, rfl, ⟨30, rfl⟩⟩
 replace hM := zb h_9 hM
 refine GS.seq ?_
 obtain ⟨x1, h_10, hM⟩ := zCk hM
 refine X.mid [(7, (V.ptr 1 0 0)), (13, (V.sl (List.map zJ y2.1))), (53, (V.b ((decide ((y2.1.length : Int) = 0)) || (decide (s.Lo < x1.Lo)))))] ?_ ?_
 ·intro hg
  refine X.split (decide ((y2.1.length : Int) = 0)) (fun h_11 => ?_) (fun h_11 => ?_)
  ·refine X.drawc (by kernel_rfl) rfl ?_
   refine X.cop rfl rfl rfl rfl ?_
   refine X.cop rfl (X.lenF rfl rfl rfl) rfl rfl ?_
   iterate 2 refine X.cop rfl rfl rfl rfl ?_
   iterate 7 refine X.coff (X.ZT rfl rfl rfl h_11) rfl rfl ?_
   refine X.cop rfl (X.zf (y := decide (s.Lo < x1.Lo)) rfl h_11 rfl) rfl rfl ?_
   refine X.cop rfl rfl rfl rfl ?_
   refine X.cnil ?_
   exact X.norm _ hg rfl (sr rfl)
  refine X.drawc (by kernel_rfl) rfl ?_
  refine X.cop rfl rfl rfl rfl ?_
  refine X.cop rfl (X.lenF rfl rfl rfl) rfl rfl ?_
  iterate 2 refine X.cop rfl rfl rfl rfl ?_
  refine X.cop (X.on_f rfl rfl rfl h_11) rfl rfl rfl ?_
  refine X.cop (X.on_f rfl rfl rfl h_11) (X.ZJ (f := zJ) (h_10 (X.nt h_11)) (fun _ => rfl) rfl rfl rfl rfl) rfl rfl ?_
  refine X.cop (X.on_f rfl rfl rfl h_11) rfl rfl rfl ?_
  refine X.cop (X.on_f rfl rfl rfl h_11) (X.Za (h_10 (X.nt h_11)) rfl rfl rfl) rfl rfl ?_
  iterate 3 refine X.cop (X.on_f rfl rfl rfl h_11) rfl rfl rfl ?_
  refine X.cop rfl (X.ze (y := decide (s.Lo < x1.Lo)) rfl h_11 rfl) rfl rfl ?_
  refine X.cop rfl rfl rfl rfl ?_
  refine X.cnil ?_
  exact X.norm _ hg rfl (sr rfl)
 refine X.cond rfl (fun h_12 => ?_) (fun h_12 => ?_)
 ·replace hM := za h_12 hM
  refine X.sq ?_
  iterate 5 refine X.q rfl ?_
  refine GS.zA ?_
  cases hM
  exact GS.ret ⟨_, rfl, ⟨30, rfl⟩⟩
 replace hM := zb h_12 hM
 refine GS.seq ?_
 obtain ⟨x2, h_13, hM⟩ := zI hM
 refine X.drawc (by kernel_rfl) rfl ?_
 refine X.cop rfl rfl rfl rfl ?_
 refine X.cop rfl (X.ZJ (f := zJ) h_13 (fun _ => rfl) rfl rfl rfl rfl) rfl rfl ?_
 refine X.cop rfl rfl rfl rfl ?_
 refine X.cop rfl (X.Za h_13 rfl rfl rfl) rfl rfl ?_
 iterate 4 refine X.cop rfl rfl rfl rfl ?_
 refine X.cnil ?_
 refine X.norm [(13, (V.sl (List.map zJ y2.1))), (68, (V.b (decide (x2.Hi < s.Hi))))] ?_ rfl (sr rfl)
 refine X.cond rfl (fun h_14 => ?_) (fun h_14 => ?_)
 ·replace hM := za h_14 hM
  refine GS.seq ?_
  obtain ⟨x3, h_15, hM⟩ := zI hM
  refine GS.region (X.q rfl ?_)
  refine X.opR rfl (X.ZJ (f := zJ) h_15 (fun _ => rfl) rfl rfl rfl rfl) rfl (X.q rfl ?_)
  refine X.opR rfl (X.Za h_15 rfl rfl rfl) rfl ?_
  refine X.opR rfl (X.addE rfl rfl) rfl (X.q rfl (X.q rfl (X.q rfl ?_)))
  refine GS.zA ?_
  cases hM
  exact GS.ret ⟨_, rfl, ⟨30, rfl⟩⟩
 replace hM := zb h_14 hM
 refine GS.skip ?_
 refine GS.endB (X.sq (X.q rfl (X.q rfl (X.q rfl ?_))))
 refine GS.zA ?_
 cases hM
 exact GS.ret ⟨_, rfl, ⟨30, rfl⟩⟩
theorem Y6 {n : Int} {r : (List zN)} (hM : jc n = some r) : Ct Tryz.prog 39 [(V.i n)] (V.sl (List.map zG r)) := by
 refine zg ZR rfl ?_
 unfold jc at hM
 refine X.sq (X.q rfl (X.nq (X.q rfl (GS.zA (GS.seq (X.sq (X.q rfl (GS.zA ?_))))))))
 refine X.join (τ := (List zN)) (fun v => QB v = some r) (fun v => ⟨[(3, (ovl 0 v))], [obl 5 zG v], 0, none, 17⟩) ?_ ?_
 ·intro l hM
  replace hM : QB l = some r := hM
  unfold QB at hM
  refine X.sq (X.q rfl (X.q rfl ?_))
  refine GS.zA ?_
  have hE := Option.some.inj hM
  subst hE
  exact GS.ret ⟨_, rfl, FR.ovl (f := zG) (l := l) 9 rfl rfl (fun _ => rfl)⟩
 intro hj_1
 refine GS.block ?_
 refine X.gc [none] (X.loop (σ := (Int × (List zN))) (fun v => ⟨[(0, (V.i n)), (3, (ovl 0 v.2)), (4, (V.i v.1))], [obl 5 zG v.2], 0, none, 17⟩) hM ?_ rfl) rfl rfl rfl (ga rfl rfl) (gb_pad' rfl zM)
 rintro ⟨i, l2⟩ b_1 hM hc_2 hr_1
 rw [zBf] at hM
 refine GS.seq (X.sq (X.q rfl (X.q rfl (X.q rfl ?_))))
 refine GS.zA ?_
 refine X.cond rfl (fun h_1 => ?_) (fun h_1 => ?_)
 ·replace hM := za h_1 hM
  refine GS.skip (GS.seq (GS.block ?_))
  obtain ⟨l1, h_2, hM⟩ := zI hM
  refine GS.region (X.q rfl (X.q rfl ?_))
  refine X.opR rfl (X.addE rfl rfl) rfl (X.q rfl ?_)
  refine X.opW rfl rfl rfl rfl ?_
  refine X.appN (f := zG) h_2 (fun _ => rfl) (by rfl) (by rfl) (by rfl) (by rfl) (by rfl) (by rfl) (by rfl) (by rfl) (by rfl) (by rfl) (by rfl) (by exact rfl) (by rfl) (by rfl) (X.q rfl (GS.zA ?_))
  refine GS.endB (GS.region (X.q rfl ?_))
  refine X.opR rfl (X.addE rfl rfl) rfl (X.q rfl (GS.zA ?_))
  have hE := Option.some.inj hM
  exact X.gc [some 2] (hc_2 (w64 (i + 1), l1) hE.symm) rfl rfl rfl (zO rfl ⟨9, rfl⟩ (zO rfl (zAW (jR h_2) rfl) (ga rfl rfl))) (gb_obl' 9 (jR h_2) rfl rfl (fun _ => rfl) zM)
 replace hM := zb h_1 hM
 refine GS.exit rfl ?_
 obtain ⟨y_1, hM, hy⟩ := ZV hM
 rw [hr_1 _ hy.symm] at hM
 exact X.gc [some 0] (hj_1 l2 hM) rfl rfl rfl (zO rfl (zl rfl) yD) (zn 9 rfl rfl (fun _ => rfl) zM)
theorem zCX (c : zN) : Ct Tryz.prog 53 [(zG c)] (V.b (Yw c)) := by
 refine zg ZR rfl ?_
 generalize hM : Yw c = r
 unfold Yw at hM
 refine X.sq ?_
 refine X.opW rfl rfl rfl rfl (X.q rfl (X.nq ?_))
 refine X.mid [(2, (V.b ((((((zZ c.ID 1 1099511627776) && (zZ c.Draught 0 8000)) && (decide (0 ≤ c.From))) && (decide (c.From ≤ c.To))) && (decide (c.To ≤ 1048576))) && (zZ c.Long 1 1440))))] ?_ ?_
 ·intro hg
  refine X.split ((zZ c.ID 1 1099511627776)) (fun h_1 => ?_) (fun h_1 => ?_)
  ·refine X.split (((zZ c.ID 1 1099511627776) && (zZ c.Draught 0 8000))) (fun h_2 => ?_) (fun h_2 => ?_)
   ·refine X.split ((((zZ c.ID 1 1099511627776) && (zZ c.Draught 0 8000)) && (decide (0 ≤ c.From)))) (fun h_3 => ?_) (fun h_3 => ?_)
    ·refine X.split (((((zZ c.ID 1 1099511627776) && (zZ c.Draught 0 8000)) && (decide (0 ≤ c.From))) && (decide (c.From ≤ c.To)))) (fun h_4 => ?_) (fun h_4 => ?_)
     ·refine X.split ((((((zZ c.ID 1 1099511627776) && (zZ c.Draught 0 8000)) && (decide (0 ≤ c.From))) && (decide (c.From ≤ c.To))) && (decide (c.To ≤ 1048576)))) (fun h_5 => ?_) (fun h_5 => ?_)
      ·iterate 2 refine X.q rfl ?_
       refine X.call (ZN c.ID 1 1099511627776) rfl rfl rfl (.cons (.shut (n := 9) rfl) (.cons (.shut (n := 9) rfl) (.cons (.shut (n := 9) rfl) .nil))) (X.q rfl ?_)
       iterate 2 refine X.opR (X.on_t rfl rfl rfl h_1) rfl rfl ?_
       refine X.call (ZN c.Draught 0 8000) (X.on_t rfl rfl rfl h_1) rfl rfl (.cons (.shut (n := 9) rfl) (.cons (.shut (n := 9) rfl) (.cons (.shut (n := 9) rfl) .nil))) ?_
       refine X.opR rfl (X.zX (y := (zZ c.Draught 0 8000)) rfl h_1 rfl) rfl (X.q rfl ?_)
       iterate 3 refine X.opR (X.on_t rfl rfl rfl h_2) rfl rfl ?_
       refine X.opR rfl (X.zX (y := decide (0 ≤ c.From)) rfl h_2 rfl) rfl (X.q rfl ?_)
       iterate 5 refine X.opR (X.on_t rfl rfl rfl h_3) rfl rfl ?_
       refine X.opR rfl (X.zX (y := decide (c.From ≤ c.To)) rfl h_3 rfl) rfl (X.q rfl ?_)
       iterate 3 refine X.opR (X.on_t rfl rfl rfl h_4) rfl rfl ?_
       refine X.opR rfl (X.zX (y := decide (c.To ≤ 1048576)) rfl h_4 rfl) rfl (X.q rfl ?_)
       iterate 2 refine X.opR (X.on_t rfl rfl rfl h_5) rfl rfl ?_
       refine X.call (ZN c.Long 1 1440) (X.on_t rfl rfl rfl h_5) rfl rfl (.cons (.shut (n := 9) rfl) (.cons (.shut (n := 9) rfl) (.cons (.shut (n := 9) rfl) .nil))) ?_
       refine X.opR rfl (X.zX (y := (zZ c.Long 1 1440)) rfl h_5 rfl) rfl (X.q rfl (GS.zA ?_))
       exact X.norm _ hg rfl (sr rfl)
      refine X.q rfl (X.q rfl ?_)
      refine X.call (ZN c.ID 1 1099511627776) rfl rfl rfl (.cons (.shut (n := 9) rfl) (.cons (.shut (n := 9) rfl) (.cons (.shut (n := 9) rfl) .nil))) (X.q rfl ?_)
      iterate 2 refine X.opR (X.on_t rfl rfl rfl h_1) rfl rfl ?_
      refine X.call (ZN c.Draught 0 8000) (X.on_t rfl rfl rfl h_1) rfl rfl (.cons (.shut (n := 9) rfl) (.cons (.shut (n := 9) rfl) (.cons (.shut (n := 9) rfl) .nil))) ?_
      refine X.opR rfl (X.zX (y := (zZ c.Draught 0 8000)) rfl h_1 rfl) rfl (X.q rfl ?_)
      iterate 3 refine X.opR (X.on_t rfl rfl rfl h_2) rfl rfl ?_
      refine X.opR rfl (X.zX (y := decide (0 ≤ c.From)) rfl h_2 rfl) rfl (X.q rfl ?_)
      iterate 5 refine X.opR (X.on_t rfl rfl rfl h_3) rfl rfl ?_
      refine X.opR rfl (X.zX (y := decide (c.From ≤ c.To)) rfl h_3 rfl) rfl (X.q rfl ?_)
      iterate 3 refine X.opR (X.on_t rfl rfl rfl h_4) rfl rfl ?_
      refine X.opR rfl (X.zX (y := decide (c.To ≤ 1048576)) rfl h_4 rfl) rfl (X.q rfl ?_)
      iterate 3 refine X.off (X.zt rfl rfl rfl h_5) rfl ?_
      refine X.opR rfl (X.zR (y := (zZ c.Long 1 1440)) rfl h_5 rfl) rfl (X.q rfl (GS.zA ?_))
      exact X.norm _ hg rfl (sr rfl)
     refine X.q rfl (X.q rfl ?_)
     refine X.call (ZN c.ID 1 1099511627776) rfl rfl rfl (.cons (.shut (n := 9) rfl) (.cons (.shut (n := 9) rfl) (.cons (.shut (n := 9) rfl) .nil))) (X.q rfl ?_)
     iterate 2 refine X.opR (X.on_t rfl rfl rfl h_1) rfl rfl ?_
     refine X.call (ZN c.Draught 0 8000) (X.on_t rfl rfl rfl h_1) rfl rfl (.cons (.shut (n := 9) rfl) (.cons (.shut (n := 9) rfl) (.cons (.shut (n := 9) rfl) .nil))) ?_
     refine X.opR rfl (X.zX (y := (zZ c.Draught 0 8000)) rfl h_1 rfl) rfl (X.q rfl ?_)
     iterate 3 refine X.opR (X.on_t rfl rfl rfl h_2) rfl rfl ?_
     refine X.opR rfl (X.zX (y := decide (0 ≤ c.From)) rfl h_2 rfl) rfl (X.q rfl ?_)
     iterate 5 refine X.opR (X.on_t rfl rfl rfl h_3) rfl rfl ?_
     refine X.opR rfl (X.zX (y := decide (c.From ≤ c.To)) rfl h_3 rfl) rfl (X.q rfl ?_)
     iterate 3 refine X.off (X.zt rfl rfl rfl h_4) rfl ?_
     refine X.opR rfl (X.zR (y := decide (c.To ≤ 1048576)) rfl h_4 rfl) rfl (X.q rfl ?_)
     iterate 3 refine X.off (X.zt rfl rfl rfl (X.zB h_4)) rfl ?_
     refine X.opR rfl (X.zR (y := (zZ c.Long 1 1440)) rfl (X.zB h_4) rfl) rfl (X.q rfl (GS.zA ?_))
     exact X.norm _ hg rfl (sr rfl)
    refine X.q rfl (X.q rfl ?_)
    refine X.call (ZN c.ID 1 1099511627776) rfl rfl rfl (.cons (.shut (n := 9) rfl) (.cons (.shut (n := 9) rfl) (.cons (.shut (n := 9) rfl) .nil))) (X.q rfl ?_)
    iterate 2 refine X.opR (X.on_t rfl rfl rfl h_1) rfl rfl ?_
    refine X.call (ZN c.Draught 0 8000) (X.on_t rfl rfl rfl h_1) rfl rfl (.cons (.shut (n := 9) rfl) (.cons (.shut (n := 9) rfl) (.cons (.shut (n := 9) rfl) .nil))) ?_
    refine X.opR rfl (X.zX (y := (zZ c.Draught 0 8000)) rfl h_1 rfl) rfl (X.q rfl ?_)
    iterate 3 refine X.opR (X.on_t rfl rfl rfl h_2) rfl rfl ?_
    refine X.opR rfl (X.zX (y := decide (0 ≤ c.From)) rfl h_2 rfl) rfl (X.q rfl ?_)
    iterate 5 refine X.off (X.zt rfl rfl rfl h_3) rfl ?_
    refine X.opR rfl (X.zR (y := decide (c.From ≤ c.To)) rfl h_3 rfl) rfl (X.q rfl ?_)
    iterate 3 refine X.off (X.zt rfl rfl rfl (X.zB h_3)) rfl ?_
    refine X.opR rfl (X.zR (y := decide (c.To ≤ 1048576)) rfl (X.zB h_3) rfl) rfl (X.q rfl ?_)
    iterate 3 refine X.off (X.zt rfl rfl rfl (X.zB (X.zB h_3))) rfl ?_
    refine X.opR rfl (X.zR (y := (zZ c.Long 1 1440)) rfl (X.zB (X.zB h_3)) rfl) rfl (X.q rfl (GS.zA ?_))
    exact X.norm _ hg rfl (sr rfl)
   refine X.q rfl (X.q rfl ?_)
   refine X.call (ZN c.ID 1 1099511627776) rfl rfl rfl (.cons (.shut (n := 9) rfl) (.cons (.shut (n := 9) rfl) (.cons (.shut (n := 9) rfl) .nil))) (X.q rfl ?_)
   iterate 2 refine X.opR (X.on_t rfl rfl rfl h_1) rfl rfl ?_
   refine X.call (ZN c.Draught 0 8000) (X.on_t rfl rfl rfl h_1) rfl rfl (.cons (.shut (n := 9) rfl) (.cons (.shut (n := 9) rfl) (.cons (.shut (n := 9) rfl) .nil))) ?_
   refine X.opR rfl (X.zX (y := (zZ c.Draught 0 8000)) rfl h_1 rfl) rfl (X.q rfl ?_)
   iterate 3 refine X.off (X.zt rfl rfl rfl h_2) rfl ?_
   refine X.opR rfl (X.zR (y := decide (0 ≤ c.From)) rfl h_2 rfl) rfl (X.q rfl ?_)
   iterate 5 refine X.off (X.zt rfl rfl rfl (X.zB h_2)) rfl ?_
   refine X.opR rfl (X.zR (y := decide (c.From ≤ c.To)) rfl (X.zB h_2) rfl) rfl (X.q rfl ?_)
   iterate 3 refine X.off (X.zt rfl rfl rfl (X.zB (X.zB h_2))) rfl ?_
   refine X.opR rfl (X.zR (y := decide (c.To ≤ 1048576)) rfl (X.zB (X.zB h_2)) rfl) rfl (X.q rfl ?_)
   iterate 3 refine X.off (X.zt rfl rfl rfl (X.zB (X.zB (X.zB h_2)))) rfl ?_
   refine X.opR rfl (X.zR (y := (zZ c.Long 1 1440)) rfl (X.zB (X.zB (X.zB h_2))) rfl) rfl (X.q rfl (GS.zA ?_))
   exact X.norm _ hg rfl (sr rfl)
  refine X.q rfl (X.q rfl ?_)
  refine X.call (ZN c.ID 1 1099511627776) rfl rfl rfl (.cons (.shut (n := 9) rfl) (.cons (.shut (n := 9) rfl) (.cons (.shut (n := 9) rfl) .nil))) (X.q rfl ?_)
  iterate 3 refine X.off (X.zt rfl rfl rfl h_1) rfl ?_
  refine X.opR rfl (X.zR (y := (zZ c.Draught 0 8000)) rfl h_1 rfl) rfl (X.q rfl ?_)
  iterate 3 refine X.off (X.zt rfl rfl rfl (X.zB h_1)) rfl ?_
  refine X.opR rfl (X.zR (y := decide (0 ≤ c.From)) rfl (X.zB h_1) rfl) rfl (X.q rfl ?_)
  iterate 5 refine X.off (X.zt rfl rfl rfl (X.zB (X.zB h_1))) rfl ?_
  refine X.opR rfl (X.zR (y := decide (c.From ≤ c.To)) rfl (X.zB (X.zB h_1)) rfl) rfl (X.q rfl ?_)
  iterate 3 refine X.off (X.zt rfl rfl rfl (X.zB (X.zB (X.zB h_1)))) rfl ?_
  refine X.opR rfl (X.zR (y := decide (c.To ≤ 1048576)) rfl (X.zB (X.zB (X.zB h_1))) rfl) rfl (X.q rfl ?_)
  iterate 3 refine X.off (X.zt rfl rfl rfl (X.zB (X.zB (X.zB (X.zB h_1))))) rfl ?_
  refine X.opR rfl (X.zR (y := (zZ c.Long 1 1440)) rfl (X.zB (X.zB (X.zB (X.zB h_1)))) rfl) rfl (X.q rfl (GS.zA ?_))
  exact X.norm _ hg rfl (sr rfl)
 subst hM
 exact GS.ret ⟨_, rfl, ⟨30, rfl⟩⟩
theorem zBM {h : zL} {x : zF} {r : zm × Bool} (hM : Qt h x = some r) : Ct Tryz.prog 57 [(zH h), (zC x)] (V.tup [(zU r.1), (V.b r.2)]) := by
 refine zg ZR rfl ?_
 unfold Qt at hM
 refine X.sq ?_
 iterate 3 refine X.opW rfl rfl rfl rfl ?_
 refine X.q rfl (GS.zA (GS.seq ?_))
 obtain ⟨y, h_1, hM⟩ := zI hM
 refine GS.region ?_
 iterate 4 refine X.q rfl ?_
 refine X.call (Zm h_1) rfl rfl rfl (.cons (.shut (n := 9) rfl) (.cons (.shut (n := 9) rfl) (.cons (.shut (n := 9) rfl) .nil))) (X.q rfl (GS.zA (GS.seq (X.sq ?_))))
 refine X.mid [(2, (V.ptr 0 0 0)), (4, (V.ptr 2 0 0)), (6, (V.i y)), (23, (V.b ((decide (y < 0)) || (!(zZ x.Tide 0 (w64 ((h.Tides.length : Int) - 1)))))))] ?_ ?_
 ·intro hg
  refine X.split (decide (y < 0)) (fun h_2 => ?_) (fun h_2 => ?_)
  ·iterate 3 refine X.q rfl ?_
   iterate 8 refine X.off (X.ZT rfl rfl rfl h_2) rfl ?_
   refine X.opR rfl (X.zf (y := !(zZ x.Tide 0 (w64 ((h.Tides.length : Int) - 1)))) rfl h_2 rfl) rfl (GS.zA ?_)
   exact X.norm _ hg rfl (sr rfl)
  iterate 3 refine X.q rfl ?_
  iterate 4 refine X.opR (X.on_f rfl rfl rfl h_2) rfl rfl ?_
  refine X.opR (X.on_f rfl rfl rfl h_2) (X.lenF rfl rfl rfl) rfl ?_
  refine X.opR (X.on_f rfl rfl rfl h_2) (X.subE rfl rfl) rfl ?_
  refine X.call (ZN x.Tide 0 (w64 ((h.Tides.length : Int) - 1))) (X.on_f rfl rfl rfl h_2) rfl rfl (.cons (.shut (n := 9) rfl) (.cons (.shut (n := 9) rfl) (.cons (.shut (n := 9) rfl) .nil))) ?_
  refine X.opR (X.on_f rfl rfl rfl h_2) rfl rfl ?_
  refine X.opR rfl (X.ze (y := !(zZ x.Tide 0 (w64 ((h.Tides.length : Int) - 1)))) rfl h_2 rfl) rfl (GS.zA ?_)
  exact X.norm _ hg rfl (sr rfl)
 refine X.cond rfl (fun h_3 => ?_) (fun h_3 => ?_)
 ·replace hM := za h_3 hM
  refine X.sq (X.q rfl ?_)
  refine X.op0W rfl rfl rfl (X.q rfl (GS.zA ?_))
  cases hM
  exact GS.ret ⟨_, rfl, ⟨30, rfl⟩⟩
 replace hM := zb h_3 hM
 refine GS.skip (GS.seq ?_)
 obtain ⟨x1, h_4, hM⟩ := zI hM
 refine GS.region (X.q rfl (X.q rfl (X.q rfl ?_)))
 refine X.opR rfl (X.ZJ (f := zU) h_4 (fun _ => rfl) rfl rfl rfl rfl) rfl ?_
 refine X.opR rfl (X.Za h_4 rfl rfl rfl) rfl ?_
 refine X.op0W rfl rfl rfl (X.q rfl (GS.zA ?_))
 cases hM
 exact GS.ret ⟨_, rfl, ⟨30, rfl⟩⟩
theorem zIF {w : zY} {s : zD} {height : Int} {long : Int} {r : zD × Int} (hM : zBZ w s height long = some r) : Ct Tryz.prog 98 [(ZI w), (zJ s), (V.i height), (V.i long)] (V.tup [(zJ r.1), (V.i r.2)]) := by
 refine zg ZR rfl ?_
 unfold zBZ at hM
 refine X.sq ?_
 iterate 3 refine X.opW rfl rfl rfl rfl ?_
 refine X.q rfl (GS.zA (GS.seq ?_))
 obtain ⟨y, h_1, hM⟩ := zI hM
 refine GS.region (X.q rfl (X.q rfl (X.q rfl ?_)))
 refine X.call (zCC h_1) rfl rfl rfl (.cons (.shut (n := 9) rfl) (.cons (.shut (n := 9) rfl) (.cons (.shut (n := 9) rfl) .nil))) ?_
 iterate 5 refine X.q rfl ?_
 refine GS.zA (GS.seq (X.sq (X.q rfl (X.q rfl ?_))))
 refine GS.zA ?_
 refine X.cond rfl (fun h_2 => ?_) (fun h_2 => ?_)
 ·replace hM := za h_2 hM
  refine X.sq (X.q rfl (X.q rfl ?_))
  refine X.op0W rfl rfl rfl (X.q rfl (GS.zA ?_))
  cases hM
  exact GS.ret ⟨_, rfl, ⟨30, rfl⟩⟩
 replace hM := zb h_2 hM
 refine GS.skip (GS.seq (X.sq (X.q rfl (X.q rfl ?_))))
 refine GS.zA ?_
 refine X.cond rfl (fun h_3 => ?_) (fun h_3 => ?_)
 ·replace hM := za h_3 hM
  refine X.sq (X.q rfl ?_)
  refine X.op0W rfl rfl rfl (X.q rfl (GS.zA ?_))
  cases hM
  exact GS.ret ⟨_, rfl, ⟨30, rfl⟩⟩
 replace hM := zb h_3 hM
 refine GS.skip (GS.seq (X.sq (X.q rfl ?_)))
 refine X.opR rfl (X.lenF rfl rfl rfl) rfl (X.q rfl (GS.zA ?_))
 refine X.join (τ := Unit) (fun v => zAe = some r) (fun v => ⟨[(8, (V.ptr 0 0 0))], [.rows 2 [(V.agg [(V.i 0), (V.i 0)])]], 0, none, 45⟩) ?_ ?_
 ·intro _ hM
  replace hM : zAe = some r := hM
  unfold zAe at hM
  refine X.sq (X.q rfl ?_)
  refine X.op0W rfl rfl rfl (X.q rfl (GS.zA ?_))
  cases hM
  exact GS.ret ⟨_, rfl, ⟨30, rfl⟩⟩
 intro hj_1
 refine GS.block ?_
 refine X.gc [some 2] (X.loop (σ := Int) (fun v => ⟨[(3, (V.i long)), (8, (V.ptr 0 0 0)), (28, (V.sl (List.map zJ y.1))), (29, (V.i (y.1.length : Int))), (30, (V.i v))], [.rows 2 [(V.agg [(V.i 0), (V.i 0)])]], 0, none, 45⟩) hM ?_ rfl) rfl rfl rfl (ga rfl rfl) (gb9 rfl rfl rfl zM)
 intro x1 b_1 hM hc_2 hr_1
 rw [zAf] at hM
 refine X.sq (X.q rfl (GS.zA (GS.seq ?_)))
 refine X.cond rfl (fun h_4 => ?_) (fun h_4 => ?_)
 ·replace hM := za h_4 hM
  refine GS.skip (GS.seq (GS.block (GS.seq ?_)))
  obtain ⟨x, h_5, hM⟩ := zI hM
  refine GS.region ?_
  refine X.opR rfl (X.ZJ (f := zJ) h_5 (fun _ => rfl) rfl rfl rfl rfl) rfl ?_
  refine X.opR rfl (X.Za h_5 rfl rfl rfl) rfl ?_
  refine X.opW rfl rfl rfl rfl ?_
  refine X.op0W rfl rfl rfl (X.nq ?_)
  iterate 4 refine X.q rfl ?_
  refine X.opR rfl (X.subE rfl rfl) rfl (X.q rfl ?_)
  refine X.opR rfl (X.subE rfl rfl) rfl (X.q rfl (GS.zA ?_))
  refine X.cond rfl (fun h_6 => ?_) (fun h_6 => ?_)
  ·replace hM := za h_6 hM
   refine X.sq (X.q rfl ?_)
   refine X.op0W rfl rfl rfl (X.q rfl (GS.zA ?_))
   have hE := Option.some.inj hM
   replace hE := hr_1 _ hE.symm
   subst hE
   exact GS.ret ⟨_, rfl, ⟨30, rfl⟩⟩
  replace hM := zb h_6 hM
  refine GS.skip ?_
  refine GS.endB (GS.region ?_)
  refine X.opR rfl (X.addE rfl rfl) rfl (X.q rfl (GS.zA ?_))
  have hE := Option.some.inj hM
  exact X.gc [some 0] (hc_2 (w64 (x1 + 1)) hE.symm) rfl rfl rfl (ga rfl rfl) (gb9 rfl rfl rfl zM)
 replace hM := zb h_4 hM
 refine GS.exit rfl ?_
 obtain ⟨y_1, hM, hy⟩ := ZV hM
 rw [hr_1 _ hy.symm] at hM
 exact X.gc [some 0] (hj_1 () hM) rfl rfl rfl (ga rfl rfl) (gb9 rfl rfl rfl zM)
theorem qo {h : zL} {c : zN} {x : zF} {b : zm} {r : zD × Bool} (hM : Yt h c x b = some r) : Ct Tryz.prog 58 [(zH h), (zG c), (zC x), (zU b)] (V.tup [(zJ r.1), (V.b r.2)]) := by
 refine zg ZR rfl ?_
 unfold Yt at hM
 refine X.sq ?_
 iterate 3 refine X.opW rfl rfl rfl rfl ?_
 refine X.opW (H' := [.rows 6 [(zH h)], .rows 5 [(zG c)], .rows 2 [(zC x)], .rows 2 [(zU b)]]) rfl rfl rfl rfl ?_
 refine X.opW (H' := [.rows 6 [(zH h)], .rows 5 [(zG c)], .rows 2 [(zC x)], .rows 2 [(zU b)], .rows 2 [(V.agg [(V.i 0), (V.i 0)])]]) rfl rfl rfl rfl (X.q rfl (GS.zA (GS.seq ?_)))
 obtain ⟨x1, h_1, hM⟩ := zI hM
 refine GS.region ?_
 iterate 4 refine X.q rfl ?_
 refine X.opR rfl (X.ZJ (f := zJ) h_1 (fun _ => rfl) rfl rfl rfl rfl) rfl ?_
 refine X.opR rfl (X.Za h_1 rfl rfl rfl) rfl ?_
 refine X.opW (H' := [.rows 6 [(zH h)], .rows 5 [(zG c)], .rows 2 [(zC x)], .rows 2 [(zU b)], .rows 2 [(V.agg [(V.i 0), (V.i 0)])], .rows 2 [(V.agg [(V.i 0), (V.i 0)])]]) rfl rfl rfl rfl ?_
 refine X.op0W (H' := [.rows 6 [(zH h)], .rows 5 [(zG c)], .rows 2 [(zC x)], .rows 2 [(zU b)], .rows 2 [(V.agg [(V.i 0), (V.i 0)])], .rows 2 [(zJ x1)]]) rfl rfl rfl (X.nq ?_)
 iterate 4 refine X.q rfl ?_
 refine X.opR rfl (X.maxE rfl rfl) rfl ?_
 iterate 4 refine X.q rfl ?_
 refine X.opR rfl (X.minE rfl rfl) rfl (X.q rfl ?_)
 refine X.opW (H' := [.rows 6 [(zH h)], .rows 5 [(zG c)], .rows 2 [(zC x)], .rows 2 [(zU b)], .rows 2 [(V.agg [(V.i 0), (V.i 0)])], .rows 2 [(zJ x1)], .rows 2 [(V.agg [(V.i 0), (V.i 0)])]]) rfl rfl rfl rfl ?_
 refine X.op0W (H' := [.rows 6 [(zH h)], .rows 5 [(zG c)], .rows 2 [(zC x)], .rows 2 [(zU b)], .rows 2 [(V.agg [(V.i 0), (V.i 0)])], .rows 2 [(zJ x1)], .rows 2 [(V.agg [(V.i (max x1.Lo c.From)), (V.i (min x1.Hi c.To))])]]) rfl rfl rfl (GS.zA (GS.seq (X.sq ?_)))
 iterate 5 refine X.q rfl ?_
 refine GS.zA ?_
 refine X.cond rfl (fun h_2 => ?_) (fun h_2 => ?_)
 ·replace hM := za h_2 hM
  refine X.sq (X.q rfl ?_)
  refine X.op0W (H' := [.rows 6 [(zH h)], .rows 5 [(zG c)], .rows 2 [(zC x)], .rows 2 [(zU b)], .rows 2 [(V.agg [(V.i 0), (V.i 0)])], .rows 2 [(zJ x1)], .rows 2 [(V.agg [(V.i (max x1.Lo c.From)), (V.i (min x1.Hi c.To))])]]) rfl rfl rfl (X.q rfl (GS.zA ?_))
  cases hM
  exact GS.ret ⟨_, rfl, ⟨30, rfl⟩⟩
 replace hM := zb h_2 hM
 refine GS.skip (GS.seq ?_)
 obtain ⟨y, h_3, hM⟩ := zI hM
 refine X.draw (by kernel_rfl) ?_
 iterate 7 refine X.dop rfl rfl rfl rfl (by kernel_rfl) rfl rfl ?_
 refine X.dcall (zCD h b c.Draught) rfl rfl rfl (by kernel_rfl) rfl (.cons (.shut (n := 9) rfl) (.cons (.shut (n := 9) rfl) (.cons (.shut (n := 9) rfl) .nil))) ?_
 iterate 2 refine X.dop rfl rfl rfl rfl (by kernel_rfl) rfl rfl ?_
 refine X.dcall (zIF h_3) rfl rfl rfl (by kernel_rfl) rfl (.cons (.shut (n := 9) rfl) (.cons (.shut (n := 9) rfl) (.cons (.shut (n := 9) rfl) (.cons (.shut (n := 9) rfl) .nil)))) ?_
 iterate 4 refine X.dop rfl rfl rfl rfl (by kernel_rfl) rfl rfl ?_
 refine X.dop0 rfl rfl rfl rfl (by kernel_rfl) rfl ?_
 refine X.dop rfl rfl rfl rfl (by kernel_rfl) rfl rfl ?_
 refine X.dnil ?_
 refine X.norm [(5, (V.ptr 1 0 0)), (8, (V.ptr 4 0 0)), (12, (V.ptr 7 0 0)), (13, (V.i y.2))] ?_ rfl (sr rfl)
 refine GS.seq (X.sq (X.q rfl (X.q rfl ?_)))
 refine GS.zA ?_
 refine X.cond rfl (fun h_4 => ?_) (fun h_4 => ?_)
 ·replace hM := za h_4 hM
  refine X.sq (X.q rfl ?_)
  refine X.op0W (H' := [.rows 6 [(zH h)], .rows 5 [(zG c)], .rows 2 [(zC x)], .rows 2 [(zU b)], .rows 2 [(V.agg [(V.i 0), (V.i 0)])], .rows 2 [(zJ x1)], .rows 2 [(V.agg [(V.i (max x1.Lo c.From)), (V.i (min x1.Hi c.To))])], .rows 2 [(zJ y.1)]]) rfl rfl rfl (X.q rfl (GS.zA ?_))
  cases hM
  exact GS.ret ⟨_, rfl, ⟨30, rfl⟩⟩
 replace hM := zb h_4 hM
 refine GS.skip (X.sq ?_)
 iterate 6 refine X.q rfl ?_
 refine X.opR rfl (X.addE rfl rfl) rfl ?_
 refine X.opR rfl (X.subE rfl rfl) rfl (X.q rfl ?_)
 refine X.op0W (H' := [.rows 6 [(zH h)], .rows 5 [(zG c)], .rows 2 [(zC x)], .rows 2 [(zU b)], .rows 2 [(V.agg [(V.i y.1.Lo), (V.i (w64 ((w64 (y.1.Lo + c.Long)) - 1)))])], .rows 2 [(zJ x1)], .rows 2 [(V.agg [(V.i (max x1.Lo c.From)), (V.i (min x1.Hi c.To))])], .rows 2 [(zJ y.1)]]) rfl rfl rfl (X.q rfl (GS.zA ?_))
 cases hM
 exact GS.ret ⟨_, rfl, ⟨30, rfl⟩⟩
theorem zG7 {h : zL} {c : zN} {x : zF} {r : zD × Bool × Int} (hM : zB5 h c x = some r) : Ct Tryz.prog 17 [(zH h), (zG c), (zC x)] (V.tup [(zJ r.1), (V.b r.2.1), (V.i r.2.2)]) := by
 refine zg ZR rfl ?_
 unfold zB5 at hM
 refine X.sq ?_
 iterate 3 refine X.opW rfl rfl rfl rfl ?_
 refine X.opW (H' := [.rows 6 [(zH h)], .rows 5 [(zG c)], .rows 2 [(zC x)], .rows 2 [(V.agg [(V.i 0), (V.i 0)])]]) rfl rfl rfl rfl (X.q rfl (X.q rfl ?_))
 refine GS.zA ?_
 iterate 2 refine GS.seq ?_
 obtain ⟨y, h_1, hM⟩ := zI hM
 refine GS.region (X.q rfl ?_)
 refine X.call (Yr h_1) rfl rfl rfl (.cons (.shut (n := 9) rfl) .nil) (X.q rfl (X.nq (X.q rfl (X.q rfl ?_))))
 refine GS.zA ?_
 refine X.cond rfl (fun h_2 => ?_) (fun h_2 => ?_)
 ·replace hM := za h_2 hM
  refine X.sq (X.q rfl (X.q rfl ?_))
  refine X.op0W (H' := [.rows 6 [(zH h)], .rows 5 [(zG c)], .rows 2 [(zC x)], .rows 2 [(V.agg [(V.i 0), (V.i 0)])]]) rfl rfl rfl (X.q rfl (X.q rfl ?_))
  refine GS.zA ?_
  cases hM
  exact GS.ret ⟨_, rfl, ⟨30, rfl⟩⟩
 replace hM := zb h_2 hM
 refine GS.skip (GS.seq (X.sq (X.q rfl ?_)))
 refine X.call (zCX c) rfl rfl rfl (.cons (.shut (n := 9) rfl) .nil) (X.q rfl (GS.zA ?_))
 refine X.cond rfl (fun h_3 => ?_) (fun h_3 => ?_)
 ·replace hM := za h_3 hM
  refine X.sq (X.q rfl ?_)
  refine X.op0W (H' := [.rows 6 [(zH h)], .rows 5 [(zG c)], .rows 2 [(zC x)], .rows 2 [(V.agg [(V.i 0), (V.i 0)])]]) rfl rfl rfl (X.q rfl (X.q rfl ?_))
  refine GS.zA ?_
  cases hM
  exact GS.ret ⟨_, rfl, ⟨30, rfl⟩⟩
 replace hM := zb h_3 hM
 refine GS.skip (GS.seq ?_)
 obtain ⟨y1, h_4, hM⟩ := zI hM
 refine GS.region (X.q rfl (X.q rfl ?_))
 refine X.call (zBM h_4) rfl rfl rfl (.cons (.shut (n := 9) rfl) (.cons (.shut (n := 9) rfl) .nil)) (X.q rfl (X.q rfl (X.q rfl ?_)))
 refine X.opW (H' := [.rows 6 [(zH h)], .rows 5 [(zG c)], .rows 2 [(zC x)], .rows 2 [(V.agg [(V.i 0), (V.i 0)])], .rows 2 [(V.agg [(V.i 0), (V.i 0)])]]) rfl rfl rfl rfl ?_
 refine X.op0W (H' := [.rows 6 [(zH h)], .rows 5 [(zG c)], .rows 2 [(zC x)], .rows 2 [(V.agg [(V.i 0), (V.i 0)])], .rows 2 [(zU y1.1)]]) rfl rfl rfl (X.q rfl (GS.zA (GS.seq (X.sq (X.q rfl (X.q rfl ?_))))))
 refine GS.zA ?_
 refine X.cond rfl (fun h_5 => ?_) (fun h_5 => ?_)
 ·replace hM := za h_5 hM
  refine X.sq (X.q rfl ?_)
  refine X.op0W (H' := [.rows 6 [(zH h)], .rows 5 [(zG c)], .rows 2 [(zC x)], .rows 2 [(V.agg [(V.i 0), (V.i 0)])], .rows 2 [(zU y1.1)]]) rfl rfl rfl (X.q rfl (X.q rfl ?_))
  refine GS.zA ?_
  cases hM
  exact GS.ret ⟨_, rfl, ⟨30, rfl⟩⟩
 replace hM := zb h_5 hM
 refine GS.skip (GS.seq ?_)
 obtain ⟨y2, h_6, hM⟩ := zI hM
 refine GS.region ?_
 iterate 4 refine X.q rfl ?_
 refine X.call (qo h_6) rfl rfl rfl (.cons (.shut (n := 9) rfl) (.cons (.shut (n := 9) rfl) (.cons (.shut (n := 9) rfl) (.cons (.shut (n := 9) rfl) .nil)))) (X.q rfl (X.q rfl (X.q rfl ?_)))
 refine X.opW (H' := [.rows 6 [(zH h)], .rows 5 [(zG c)], .rows 2 [(zC x)], .rows 2 [(V.agg [(V.i 0), (V.i 0)])], .rows 2 [(zU y1.1)], .rows 2 [(V.agg [(V.i 0), (V.i 0)])]]) rfl rfl rfl rfl ?_
 refine X.op0W (H' := [.rows 6 [(zH h)], .rows 5 [(zG c)], .rows 2 [(zC x)], .rows 2 [(V.agg [(V.i 0), (V.i 0)])], .rows 2 [(zU y1.1)], .rows 2 [(zJ y2.1)]]) rfl rfl rfl (X.q rfl (X.nq (X.q rfl (X.q rfl ?_))))
 refine X.op0W (H' := [.rows 6 [(zH h)], .rows 5 [(zG c)], .rows 2 [(zC x)], .rows 2 [(zJ y2.1)], .rows 2 [(zU y1.1)], .rows 2 [(zJ y2.1)]]) rfl rfl rfl (X.q rfl (X.q rfl ?_))
 refine GS.zA ?_
 cases hM
 exact GS.ret ⟨_, rfl, ⟨30, rfl⟩⟩
theorem zBe {draught : Int} {c : zL} {c1 : Int} {c2 : zF} {c3 : zm} {r : Bool} (hM : zAB draught c c1 c2 c3 = some r) : Ct Tryz.prog 61 [(V.i draught), (V.fptr [(zH c)] 0 0), (V.fptr [(V.i c1)] 0 0), (V.fptr [(zC c2)] 0 0), (V.fptr [(zU c3)] 0 0)] (V.b r) := by
 refine zg ZR rfl ?_
 unfold zAB at hM
 refine X.sq (X.q rfl (GS.zA (GS.seq ?_)))
 obtain ⟨y, h_1, hM⟩ := zI hM
 refine GS.region ?_
 iterate 6 refine X.q rfl ?_
 refine X.call (qo h_1) rfl rfl rfl (.cons (.shut (n := 9) rfl) (.cons (.shut (n := 9) rfl) (.cons (.shut (n := 9) rfl) (.cons (.shut (n := 9) rfl) .nil)))) (X.q rfl (X.q rfl (X.q rfl ?_)))
 refine X.opW rfl rfl rfl rfl ?_
 refine X.op0W rfl rfl rfl (X.q rfl (X.nq (X.q rfl (X.q rfl ?_))))
 refine GS.zA ?_
 cases hM
 exact GS.ret ⟨_, rfl, ⟨30, rfl⟩⟩
theorem zGE {h : zL} {x : zF} {long : Int} {r : Int × Int} (hM : zBF h x long = some r) : Ct Tryz.prog 19 [(zH h), (zC x), (V.i long)] (V.tup [(V.i r.1), (V.i r.2)]) := by
 refine zg ZR rfl ?_
 unfold zBF at hM
 refine X.sq ?_
 iterate 3 refine X.opW rfl rfl rfl rfl ?_
 refine X.q rfl (X.q rfl ?_)
 refine GS.zA ?_
 iterate 2 refine GS.seq ?_
 obtain ⟨y, h_1, hM⟩ := zI hM
 refine GS.region (X.q rfl ?_)
 refine X.call (Yr h_1) rfl rfl rfl (.cons (.shut (n := 9) rfl) .nil) (X.q rfl (X.nq (X.q rfl (X.q rfl ?_))))
 refine GS.zA ?_
 refine X.cond rfl (fun h_2 => ?_) (fun h_2 => ?_)
 ·replace hM := za h_2 hM
  refine X.sq (X.q rfl (X.q rfl (X.q rfl ?_)))
  refine GS.zA ?_
  cases hM
  exact GS.ret ⟨_, rfl, ⟨30, rfl⟩⟩
 replace hM := zb h_2 hM
 refine GS.skip (GS.seq ?_)
 obtain ⟨y1, h_3, hM⟩ := zI hM
 refine GS.region (X.q rfl (X.q rfl ?_))
 refine X.call (zBM h_3) rfl rfl rfl (.cons (.shut (n := 9) rfl) (.cons (.shut (n := 9) rfl) .nil)) (X.q rfl (X.q rfl (X.q rfl ?_)))
 refine X.opW (H' := [.rows 6 [(zH h)], .rows 2 [(zC x)], .rows 1 [(V.i long)], .rows 2 [(V.agg [(V.i 0), (V.i 0)])]]) rfl rfl rfl rfl ?_
 refine X.op0W (H' := [.rows 6 [(zH h)], .rows 2 [(zC x)], .rows 1 [(V.i long)], .rows 2 [(zU y1.1)]]) rfl rfl rfl (X.q rfl (GS.zA (GS.seq (GS.block (X.sq (X.q rfl (X.q rfl (X.q rfl ?_))))))))
 refine GS.zA ?_
 refine X.cond rfl (fun h_4 => ?_) (fun h_4 => ?_)
 ·replace hM := za h_4 hM
  refine X.sq (X.q rfl (X.q rfl ?_))
  refine GS.zA ?_
  cases hM
  exact GS.ret ⟨_, rfl, ⟨30, rfl⟩⟩
 replace hM := zb h_4 hM
 refine X.sq (X.q rfl ?_)
 refine X.call (ZN long 1 1440) rfl rfl rfl (.cons (.shut (n := 9) rfl) (.cons (.shut (n := 9) rfl) (.cons (.shut (n := 9) rfl) .nil))) (X.q rfl (X.q rfl ?_))
 refine GS.zA ?_
 refine X.cond rfl (fun h_5 => ?_) (fun h_5 => ?_)
 ·replace hM := za h_5 hM
  refine X.sq (X.q rfl (X.q rfl ?_))
  refine GS.zA ?_
  cases hM
  exact GS.ret ⟨_, rfl, ⟨30, rfl⟩⟩
 replace hM := zb h_5 hM
 refine GS.skip ?_
 refine GS.endB (X.sq (X.q rfl (X.q rfl ?_)))
 refine GS.zA ?_
 iterate 2 refine GS.seq ?_
 obtain ⟨y2, h_6, hM⟩ := zI hM
 refine GS.region (X.q rfl ?_)
 refine X.zCF (zBe h_6) rfl rfl rfl (m := 9) rfl (.cons (.shut (n := 9) rfl) (.cons (FR.arg ⟨30, rfl⟩) (.cons (FR.arg ⟨30, rfl⟩) (.cons (FR.arg ⟨30, rfl⟩) (.cons (FR.arg ⟨30, rfl⟩) .nil))))) (X.q rfl (GS.zA ?_))
 refine X.cond rfl (fun h_7 => ?_) (fun h_7 => ?_)
 ·replace hM := za h_7 hM
  refine X.sq (X.q rfl (X.q rfl ?_))
  refine GS.zA ?_
  cases hM
  exact GS.ret ⟨_, rfl, ⟨30, rfl⟩⟩
 replace hM := zb h_7 hM
 refine GS.skip (X.sq (X.q rfl (X.q rfl ?_)))
 refine GS.zA (GS.seq ?_)
 refine X.join (τ := Int) (fun v => qR v = some r) (fun v => ⟨[(12, (V.i v))], [], 0, none, 52⟩) ?_ ?_
 ·intro lo hM
  replace hM : qR lo = some r := hM
  unfold qR at hM
  refine X.sq (X.q rfl (X.q rfl (X.q rfl ?_)))
  refine GS.zA ?_
  cases hM
  exact GS.ret ⟨_, rfl, ⟨30, rfl⟩⟩
 intro hj_1
 refine GS.block ?_
 refine X.gc [some 0, some 2, some 1, some 3] (X.loop (σ := (Int × Int)) (fun v => ⟨[(11, (V.fn 61 [(V.ptr 0 0 0), (V.ptr 1 0 0), (V.ptr 2 0 0), (V.ptr 3 0 0)])), (12, (V.i v.1)), (13, (V.i v.2))], [.rows 6 [(zH h)], .rows 1 [(V.i long)], .rows 2 [(zC x)], .rows 2 [(zU y1.1)]], 0, none, 52⟩) hM ?_ rfl) rfl rfl rfl (ga rfl rfl) (gb9 rfl rfl rfl (gb9 rfl rfl rfl (gb9 rfl rfl rfl (gb9 rfl rfl rfl zM))))
 rintro ⟨lo2, hi1⟩ b_1 hM hc_2 hr_1
 rw [zCu] at hM
 refine GS.seq (X.sq (X.q rfl (X.q rfl (X.q rfl ?_))))
 refine GS.zA ?_
 refine X.cond rfl (fun h_8 => ?_) (fun h_8 => ?_)
 ·replace hM := za h_8 hM
  refine GS.skip ?_
  refine X.join (τ := Int × Int) (fun v => Y2 v.1 v.2 = some b_1) (fun v => ⟨[(11, (V.fn 61 [(V.ptr 0 0 0), (V.ptr 1 0 0), (V.ptr 2 0 0), (V.ptr 3 0 0)])), (12, (V.i v.1)), (13, (V.i v.2))], [.rows 6 [(zH h)], .rows 1 [(V.i long)], .rows 2 [(zC x)], .rows 2 [(zU y1.1)]], 0, none, 52⟩) ?_ ?_
  ·rintro ⟨lo1, hi⟩ hM
   replace hM : Y2 lo1 hi = some b_1 := hM
   unfold Y2 at hM
   have hE := Option.some.inj hM
   exact X.gc [some 0, some 1, some 2, some 3] (hc_2 (lo1, hi) hE.symm) rfl rfl rfl (ga rfl rfl) (gb9 rfl rfl rfl (gb9 rfl rfl rfl (gb9 rfl rfl rfl (gb9 rfl rfl rfl zM))))
  intro hj_3
  refine GS.block (GS.seq ?_)
  obtain ⟨q, h_9, hM⟩ := zI hM
  refine GS.region (X.q rfl (X.q rfl ?_))
  iterate 2 refine X.opR rfl (X.addE rfl rfl) rfl ?_
  refine X.opR rfl (X.quoE h_9 rfl rfl) rfl (X.q rfl (GS.zA (GS.seq ?_)))
  obtain ⟨y3, h_10, hM⟩ := zI hM
  refine GS.region (X.q rfl (X.q rfl ?_))
  refine X.zCF (zBe h_10) rfl rfl rfl (m := 9) rfl (.cons (.shut (n := 9) rfl) (.cons (FR.arg ⟨30, rfl⟩) (.cons (FR.arg ⟨30, rfl⟩) (.cons (FR.arg ⟨30, rfl⟩) (.cons (FR.arg ⟨30, rfl⟩) .nil))))) (GS.zA ?_)
  refine X.cond rfl (fun h_11 => ?_) (fun h_11 => ?_)
  ·replace hM := za h_11 hM
   refine GS.region (X.q rfl (X.q rfl ?_))
   refine GS.zA ?_
   refine GS.endB ?_
   exact X.gc [some 0, some 1, some 2, some 3] (hj_3 (q, hi1) hM) rfl rfl rfl (ga rfl rfl) (gb9 rfl rfl rfl (gb9 rfl rfl rfl (gb9 rfl rfl rfl (gb9 rfl rfl rfl zM))))
  replace hM := zb h_11 hM
  refine GS.region (X.q rfl ?_)
  refine X.opR rfl (X.subE rfl rfl) rfl (X.q rfl (GS.zA ?_))
  refine GS.endB ?_
  exact X.gc [some 0, some 1, some 2, some 3] (hj_3 (lo2, w64 (q - 1)) hM) rfl rfl rfl (ga rfl rfl) (gb9 rfl rfl rfl (gb9 rfl rfl rfl (gb9 rfl rfl rfl (gb9 rfl rfl rfl zM))))
 replace hM := zb h_8 hM
 refine GS.exit rfl ?_
 obtain ⟨y_1, hM, hy⟩ := ZV hM
 rw [hr_1 _ hy.symm] at hM
 exact X.gc [] (hj_1 lo2 hM) rfl rfl rfl (ga rfl rfl) (zM)
theorem zFf (c : zN) : Ct Tryz.prog 55 [(zG c)] (V.i (qN c)) := by
 refine zg ZR rfl ?_
 generalize hM : qN c = r
 unfold qN at hM
 refine X.sq ?_
 refine X.opW rfl rfl rfl rfl (X.q rfl (X.nq (X.q rfl (X.q rfl (X.q rfl ?_)))))
 refine GS.zA ?_
 subst hM
 exact GS.ret ⟨_, rfl, ⟨30, rfl⟩⟩
theorem Yl (x : zN) (c : Int) : Ct Tryz.prog 97 [(zG x), (V.fptr [(V.fn 55 [])] 0 0), (V.fptr [(V.i c)] 0 0)] (V.b (Zy x c)) := by
 refine zg ZR rfl ?_
 generalize hM : Zy x c = r
 unfold Zy at hM
 refine X.sq ?_
 refine X.opW rfl rfl rfl rfl (X.q rfl (GS.zA (GS.seq ?_)))
 refine X.drawc (by kernel_rfl) rfl ?_
 iterate 2 refine X.cop rfl rfl rfl rfl ?_
 refine X.ccall (zFf x) rfl rfl rfl rfl (.cons (.shut (n := 9) rfl) .nil) ?_
 iterate 3 refine X.cop rfl rfl rfl rfl ?_
 refine X.cnil ?_
 refine X.norm [(4, (V.b (decide ((qN x) = c))))] ?_ rfl (sr rfl)
 subst hM
 exact GS.ret ⟨_, rfl, ⟨30, rfl⟩⟩
theorem jU {s : (List zN)} {c : Int} {r : Int} (hM : ZF s c = some r) : Ct Tryz.prog 96 [(V.sl (List.map zG s)), (V.fn 97 [(V.fptr [(V.fn 55 [])] 0 0), (V.fptr [(V.i c)] 0 0)])] (V.i r) := by
 refine zg ZR rfl ?_
 unfold ZF at hM
 refine X.sq (X.q rfl (GS.zA (GS.seq (X.sq (X.q rfl ?_)))))
 refine X.opR rfl (X.lenF rfl rfl rfl) rfl (X.q rfl (GS.zA ?_))
 refine X.join (τ := Unit) (fun v => zz = some r) (fun v => ⟨[], [], 0, none, 19⟩) ?_ ?_
 ·intro _ hM
  replace hM : zz = some r := hM
  unfold zz at hM
  refine X.sq (X.q rfl (GS.zA ?_))
  cases hM
  exact GS.ret ⟨_, rfl, ⟨30, rfl⟩⟩
 intro hj_1
 refine GS.block ?_
 refine X.gc [] (X.loop (σ := Int) (fun v => ⟨[(0, (V.sl (List.map zG s))), (1, (V.fn 97 [(V.fptr [(V.fn 55 [])] 0 0), (V.fptr [(V.i c)] 0 0)])), (7, (V.i (s.length : Int))), (8, (V.i v))], [], 0, none, 19⟩) hM ?_ rfl) rfl rfl rfl (ga rfl rfl) (zM)
 intro x1 b_1 hM hc_2 hr_1
 rw [zq] at hM
 refine X.sq (X.q rfl (GS.zA (GS.seq ?_)))
 refine X.cond rfl (fun h_1 => ?_) (fun h_1 => ?_)
 ·replace hM := za h_1 hM
  refine GS.skip (GS.seq (GS.block (X.sq (X.q rfl (X.q rfl ?_)))))
  refine GS.zA (GS.seq ?_)
  obtain ⟨x, h_2, hM⟩ := zI hM
  refine GS.region (X.q rfl (X.q rfl (X.q rfl ?_)))
  refine X.opR rfl (X.ZJ (f := zG) h_2 (fun _ => rfl) rfl rfl rfl rfl) rfl ?_
  refine X.opR rfl (X.Za h_2 rfl rfl rfl) rfl ?_
  refine X.call (Yl x c) rfl rfl rfl (.cons (.shut (n := 9) rfl) (.cons (.shut (n := 9) rfl) (.cons (.shut (n := 9) rfl) .nil))) (GS.zA ?_)
  refine X.cond rfl (fun h_3 => ?_) (fun h_3 => ?_)
  ·replace hM := za h_3 hM
   refine X.sq (X.q rfl (X.q rfl ?_))
   refine GS.zA ?_
   have hE := Option.some.inj hM
   replace hE := hr_1 _ hE.symm
   subst hE
   exact GS.ret ⟨_, rfl, ⟨30, rfl⟩⟩
  replace hM := zb h_3 hM
  refine GS.skip ?_
  refine GS.endB (GS.region ?_)
  refine X.opR rfl (X.addE rfl rfl) rfl (X.q rfl (GS.zA ?_))
  have hE := Option.some.inj hM
  exact X.gc [] (hc_2 (w64 (x1 + 1)) hE.symm) rfl rfl rfl (ga rfl rfl) (zM)
 replace hM := zb h_1 hM
 refine GS.exit rfl ?_
 obtain ⟨y_1, hM, hy⟩ := ZV hM
 rw [hr_1 _ hy.symm] at hM
 exact X.gc [] (hj_1 () hM) rfl rfl rfl (yD) (zM)
theorem Zv {l : (List zN)} {id : Int} {r : Int} (hM : ZB l id = some r) : Ct Tryz.prog 54 [(V.sl (List.map zG l)), (V.i id), (V.fn 55 [])] (V.i r) := by
 refine zg ZR rfl ?_
 unfold ZB at hM
 refine X.sq ?_
 iterate 2 refine X.opW rfl rfl rfl rfl ?_
 refine X.q rfl (GS.zA (GS.seq ?_))
 obtain ⟨y, h_1, hM⟩ := zI hM
 refine GS.region (X.q rfl (X.q rfl ?_))
 refine X.zCF (jU h_1) rfl rfl rfl (m := 9) rfl (.cons (.shut (n := 9) rfl) (.cons (FR.arg ⟨30, rfl⟩) .nil)) (X.q rfl (GS.zA ?_))
 cases hM
 exact GS.ret ⟨_, rfl, ⟨30, rfl⟩⟩
theorem jk {h : zL} {l : (List zN)} {r : Int} (hM : Zo h l = some r) : Ct Tryz.prog 15 [(zH h), (V.sl (List.map zG l))] (V.i r) := by
 refine zg ZR rfl ?_
 unfold Zo at hM
 refine X.sq ?_
 refine X.opW rfl rfl rfl rfl (X.q rfl (GS.zA ?_))
 iterate 2 refine GS.seq ?_
 obtain ⟨y, h_1, hM⟩ := zI hM
 refine GS.region (X.q rfl ?_)
 refine X.call (Yr h_1) rfl rfl rfl (.cons (.shut (n := 9) rfl) .nil) (X.q rfl (X.nq (X.q rfl (X.q rfl ?_))))
 refine GS.zA ?_
 refine X.cond rfl (fun h_2 => ?_) (fun h_2 => ?_)
 ·replace hM := za h_2 hM
  refine X.sq (X.q rfl (X.q rfl ?_))
  refine GS.zA ?_
  cases hM
  exact GS.ret ⟨_, rfl, ⟨30, rfl⟩⟩
 replace hM := zb h_2 hM
 refine GS.skip (GS.seq (X.sq (X.q rfl ?_)))
 refine X.opR rfl (X.lenF rfl rfl rfl) rfl (X.q rfl (GS.zA ?_))
 refine X.cond rfl (fun h_3 => ?_) (fun h_3 => ?_)
 ·replace hM := za h_3 hM
  refine X.sq (X.q rfl (GS.zA ?_))
  cases hM
  exact GS.ret ⟨_, rfl, ⟨30, rfl⟩⟩
 replace hM := zb h_3 hM
 refine GS.skip (GS.seq (X.sq (X.q rfl ?_)))
 refine X.opR rfl (X.lenF rfl rfl rfl) rfl (X.q rfl (GS.zA ?_))
 refine X.join (τ := Unit) (fun v => yO = some r) (fun v => ⟨[], [], 0, none, 33⟩) ?_ ?_
 ·intro _ hM
  replace hM : yO = some r := hM
  unfold yO at hM
  refine X.sq (X.q rfl (GS.zA ?_))
  cases hM
  exact GS.ret ⟨_, rfl, ⟨30, rfl⟩⟩
 intro hj_1
 refine GS.block ?_
 refine X.gc [] (X.loop (σ := Int) (fun v => ⟨[(1, (V.sl (List.map zG l))), (16, (V.sl (List.map zG l))), (17, (V.i (l.length : Int))), (18, (V.i v))], [], 0, none, 33⟩) hM ?_ rfl) rfl rfl rfl (ga rfl rfl) (zM)
 intro x1 b_1 hM hc_2 hr_1
 rw [yP] at hM
 refine X.sq (X.q rfl (GS.zA (GS.seq ?_)))
 refine X.cond rfl (fun h_4 => ?_) (fun h_4 => ?_)
 ·replace hM := za h_4 hM
  refine GS.skip (GS.seq (GS.block (GS.seq ?_)))
  obtain ⟨x, h_5, hM⟩ := zI hM
  refine GS.region (X.q rfl ?_)
  refine X.opR rfl (X.ZJ (f := zG) h_5 (fun _ => rfl) rfl rfl rfl rfl) rfl ?_
  refine X.opR rfl (X.Za h_5 rfl rfl rfl) rfl ?_
  refine X.opW rfl rfl rfl rfl (X.q rfl ?_)
  refine X.op0W rfl rfl rfl (GS.zA (GS.seq (X.sq (X.q rfl ?_))))
  refine X.call (zCX x) rfl rfl rfl (.cons (.shut (n := 9) rfl) .nil) (X.q rfl (GS.zA ?_))
  refine X.cond rfl (fun h_6 => ?_) (fun h_6 => ?_)
  ·replace hM := za h_6 hM
   refine X.sq (X.q rfl (GS.zA ?_))
   have hE := Option.some.inj hM
   replace hE := hr_1 _ hE.symm
   subst hE
   exact GS.ret ⟨_, rfl, ⟨30, rfl⟩⟩
  replace hM := zb h_6 hM
  refine GS.skip (GS.seq ?_)
  obtain ⟨y1, h_7, hM⟩ := zI hM
  refine GS.region (X.q rfl (X.q rfl (X.q rfl ?_)))
  refine X.call (Zv h_7) rfl rfl rfl (.cons (.shut (n := 9) rfl) (.cons (.shut (n := 9) rfl) (.cons (.shut (n := 9) rfl) .nil))) (X.q rfl (X.q rfl ?_))
  refine GS.zA ?_
  refine X.cond rfl (fun h_8 => ?_) (fun h_8 => ?_)
  ·replace hM := za h_8 hM
   refine X.sq (X.q rfl (GS.zA ?_))
   have hE := Option.some.inj hM
   replace hE := hr_1 _ hE.symm
   subst hE
   exact GS.ret ⟨_, rfl, ⟨30, rfl⟩⟩
  replace hM := zb h_8 hM
  refine GS.skip ?_
  refine GS.endB (GS.region ?_)
  refine X.opR rfl (X.addE rfl rfl) rfl (X.q rfl (GS.zA ?_))
  have hE := Option.some.inj hM
  exact X.gc [] (hc_2 (w64 (x1 + 1)) hE.symm) rfl rfl rfl (ga rfl rfl) (zM)
 replace hM := zb h_4 hM
 refine GS.exit rfl ?_
 obtain ⟨y_1, hM, hy⟩ := ZV hM
 rw [hr_1 _ hy.symm] at hM
 exact X.gc [] (hj_1 () hM) rfl rfl rfl (yD) (zM)
theorem zAy (h : zL) : Ct Tryz.prog 99 [(zH h)] (V.fn 120 [(V.fptr [(zH (zW h))] 0 0)]) := by
 refine zg ZR rfl ?_
 generalize hM : zW h = r
 unfold zW at hM
 refine X.sq ?_
 refine X.opW rfl rfl rfl rfl (X.q rfl (X.nq (X.q rfl (X.q rfl ?_))))
 refine GS.zA ?_
 subst hM
 exact GS.ret ⟨_, rfl, ⟨30, rfl⟩⟩
theorem J5 (a b : zF) : zAY (zC a) (zC b) = some (decide (a = b)) := by
 have h : zAY (zC a) (zC b) = some (decide ([(IntKind.i64, a.Tide), (IntKind.i64, a.Berth)] = [(IntKind.i64, b.Tide), (IntKind.i64, b.Berth)])) := rfl
 rw [h]
 congr 1
 cases a
 cases b
 simp
set_option maxHeartbeats 4000000 in
theorem zCW {h : zL} {c : zN} {r : (List zF) × (List (zF × zD))} (hM : Q5 h c = some r) : Ct Tryz.prog 62 [(zH h), (zG c)] (V.tup [(V.sl (List.map zC r.1)), (V.fmap (List.map (fun p : zF × zD => zC p.1) r.2) (List.map (fun p : zF × zD => zJ p.2) r.2))]) := by
 refine zg ZR rfl ?_
 unfold Q5 at hM
 refine X.sq ?_
 iterate 2 refine X.opW rfl rfl rfl rfl ?_
 refine X.q rfl (X.q rfl ?_)
 refine X.nq ?_
 refine X.opW rfl rfl rfl rfl (X.nq ?_)
 refine X.opW (H' := [.rows 6 [(zH h)], .rows 5 [(zG c)], .rows 1 [V.nil], .map (List.map (fun p : zF × zD => zC p.1) []) (List.map (fun p : zF × zD => zJ p.2) [])]) rfl rfl rfl rfl ?_
 refine X.opW (H' := [.rows 6 [(zH h)], .rows 5 [(zG c)], .rows 1 [V.nil], .map (List.map (fun p : zF × zD => zC p.1) []) (List.map (fun p : zF × zD => zJ p.2) []), .rows 1 [(V.lit (.map none))]]) rfl rfl rfl rfl ?_
 refine X.op0W (H' := [.rows 6 [(zH h)], .rows 5 [(zG c)], .rows 1 [V.nil], .map (List.map (fun p : zF × zD => zC p.1) []) (List.map (fun p : zF × zD => zJ p.2) []), .rows 1 [(V.map 3)]]) rfl rfl rfl (GS.zA (GS.seq (X.sq (X.q rfl ?_))))
 refine X.call (zAy h) rfl rfl rfl (.cons (.shut (n := 9) rfl) .nil) (GS.zA (GS.block ?_))
 refine X.gc [some 0, some 1, some 2, some 4, some 3] (H' := [.rows 6 [(zH h)], .rows 5 [(zG c)], .rows 1 [V.nil], .rows 1 [(V.map 4)], .map (List.map (fun p : zF × zD => zC p.1) []) (List.map (fun p : zF × zD => zJ p.2) [])]) (K' := [(2, (V.ptr 0 0 0)), (3, (V.ptr 1 0 0)), (6, (V.ptr 2 0 0)), (7, (V.ptr 3 0 0)), (14, (V.fn 120 [(V.fptr [(zH (zW h))] 0 0)]))]) ?_ rfl rfl rfl (ga rfl rfl) (gb9 rfl rfl rfl (gb9 rfl rfl rfl (gb9 rfl rfl rfl (gb9 rfl rfl rfl (X.ZY 9 rfl rfl (fun _ => rfl) (fun _ => rfl) zM)))))
 refine X.range rfl rfl (jm ⟨9, rfl⟩ (jm ⟨9, rfl⟩ (jm ⟨9, rfl⟩ (jm ⟨9, rfl⟩ (jm ⟨9, rfl⟩ zEB))))) rfl ?_
 intro R_1 hrn_1 hrK_1 hrp_1 hra_1 hrb_1 hlow_1
 refine X.sq (X.q rfl (X.q rfl ?_))
 refine X.opR rfl (X.lenF rfl rfl rfl) rfl (X.q rfl (GS.zA (GS.block ?_)))
 refine X.gc [none] (X.loop (σ := (Int × (List zF) × (List (zF × zD)))) (fun v => ⟨[(0, (V.yld 5)), (1, (V.fptr [(zH (zW h))] 0 0)), (8, (V.i (((zW h).Tides).length : Int))), (9, (V.i v.1))], [.rows 6 [(zH h)], .rows 5 [(zG c)], .rows 1 [(ovl 6 v.2.1)], .rows 1 [(V.map 4)], .map (List.map (fun p : zF × zD => zC p.1) v.2.2) (List.map (fun p : zF × zD => zJ p.2) v.2.2), lr R_1 .ready none, obl 2 zC v.2.1], 0, none, 29⟩) hM ?_ rfl) rfl rfl rfl (ga rfl rfl) (gb9 rfl rfl rfl (gb9 rfl rfl rfl (gb9 rfl rfl rfl (gb9 rfl rfl rfl (X.ZY 9 rfl rfl (fun _ => rfl) (fun _ => rfl) (jf hlow_1 rfl rfl rfl (gb_pad' rfl zM)))))))
 rintro ⟨x2, l2, m1⟩ b_1 hM hc_1 hr_1
 rw [qL] at hM
 refine X.sq (X.q rfl (GS.zA (GS.seq ?_)))
 refine X.cond rfl (fun h_2 => ?_) (fun h_2 => ?_)
 ·replace hM := za h_2 hM
  refine GS.skip (GS.seq (GS.block (X.sq (X.q rfl (X.q rfl ?_)))))
  refine X.nq (X.q rfl (X.q rfl ?_))
  refine X.opR rfl (X.lenF rfl rfl rfl) rfl (X.q rfl (GS.zA ?_))
  refine X.join (τ := (List zF) × (List (zF × zD))) (fun v => Yu x2 v.1 v.2 = some b_1) (fun v => ⟨[(0, (V.yld 5)), (1, (V.fptr [(zH (zW h))] 0 0)), (8, (V.i (((zW h).Tides).length : Int))), (9, (V.i x2))], [.rows 6 [(zH h)], .rows 5 [(zG c)], .rows 1 [(ovl 6 v.1)], .rows 1 [(V.map 4)], .map (List.map (fun p : zF × zD => zC p.1) v.2) (List.map (fun p : zF × zD => zJ p.2) v.2), lr R_1 .ready none, obl 2 zC v.1], 0, none, 29⟩) ?_ ?_
  ·rintro ⟨l, m⟩ hM
   replace hM : Yu x2 l m = some b_1 := hM
   unfold Yu at hM
   refine GS.endB (GS.region ?_)
   refine X.opR rfl (X.addE rfl rfl) rfl (X.q rfl (GS.zA ?_))
   have hE := Option.some.inj hM
   exact X.gc [some 6] (hc_1 (w64 (x2 + 1), l, m) hE.symm) rfl rfl rfl (ga rfl rfl) (gb9 rfl rfl rfl (gb9 rfl rfl rfl (Z0 rfl rfl (zl rfl) (gb9 rfl rfl rfl (X.ZY 9 rfl rfl (fun _ => rfl) (fun _ => rfl) (jf hlow_1 rfl rfl rfl (zn 9 rfl rfl (fun _ => rfl) zM)))))))
  intro hj_2
  refine GS.block ?_
  refine X.gc [some 6] (X.loop (σ := (Int × (List zF) × (List (zF × zD)))) (fun v => ⟨[(0, (V.yld 5)), (1, (V.fptr [(zH (zW h))] 0 0)), (3, (V.i x2)), (8, (V.i (((zW h).Tides).length : Int))), (9, (V.i x2)), (13, (V.sl (List.map zU ((zW h).Berths)))), (14, (V.i (((zW h).Berths).length : Int))), (15, (V.i v.1))], [.rows 6 [(zH h)], .rows 5 [(zG c)], .rows 1 [(ovl 6 v.2.1)], .rows 1 [(V.map 4)], .map (List.map (fun p : zF × zD => zC p.1) v.2.2) (List.map (fun p : zF × zD => zJ p.2) v.2.2), lr R_1 .ready none, obl 2 zC v.2.1], 0, none, 29⟩) hM ?_ rfl) rfl rfl rfl (ga rfl rfl) (gb9 rfl rfl rfl (gb9 rfl rfl rfl (Z0 rfl rfl (zl rfl) (gb9 rfl rfl rfl (X.ZY 9 rfl rfl (fun _ => rfl) (fun _ => rfl) (jf hlow_1 rfl rfl rfl (zn 9 rfl rfl (fun _ => rfl) zM)))))))
  rintro ⟨x1, l3, m2⟩ b_2 hM hc_3 hr_2
  rw [Yv] at hM
  refine X.sq (X.q rfl (GS.zA (GS.seq ?_)))
  refine X.cond rfl (fun h_3 => ?_) (fun h_3 => ?_)
  ·replace hM := za h_3 hM
   refine GS.skip (GS.seq (GS.block (GS.seq ?_)))
   obtain ⟨x, h_4, hM⟩ := zI hM
   refine GS.region ?_
   refine X.opR rfl (X.ZJ (f := zU) h_4 (fun _ => rfl) rfl rfl rfl rfl) rfl ?_
   refine X.opR rfl (X.Za h_4 rfl rfl rfl) rfl ?_
   refine X.opW (H' := [.rows 6 [(zH h)], .rows 5 [(zG c)], .rows 1 [(ovl 6 l3)], .rows 1 [(V.map 4)], .map (List.map (fun p : zF × zD => zC p.1) m2) (List.map (fun p : zF × zD => zJ p.2) m2), lr R_1 .ready none, obl 2 zC l3, .rows 2 [(V.agg [(V.i 0), (V.i 0)])]]) rfl rfl rfl rfl ?_
   refine X.op0W (H' := [.rows 6 [(zH h)], .rows 5 [(zG c)], .rows 1 [(ovl 6 l3)], .rows 1 [(V.map 4)], .map (List.map (fun p : zF × zD => zC p.1) m2) (List.map (fun p : zF × zD => zJ p.2) m2), lr R_1 .ready none, obl 2 zC l3, .rows 2 [(zU x)]]) rfl rfl rfl (X.nq ?_)
   iterate 6 refine X.q rfl ?_
   refine X.yld hrn_1 hrK_1 hrp_1 hra_1 hrb_1 rfl rfl rfl rfl rfl rfl (X.sq ?_)
   refine X.opW (H' := [.rows 6 [(zH h)], .rows 5 [(zG c)], .rows 1 [(ovl 6 l3)], .rows 1 [(V.map 4)], .map (List.map (fun p : zF × zD => zC p.1) m2) (List.map (fun p : zF × zD => zJ p.2) m2), lr R_1 .ready none, obl 2 zC l3, .rows 2 [(zU x)], .rows 2 [(V.agg [(V.i 0), (V.i 0)])]]) rfl rfl rfl rfl ?_
   refine X.op0W (H' := [.rows 6 [(zH h)], .rows 5 [(zG c)], .rows 1 [(ovl 6 l3)], .rows 1 [(V.map 4)], .map (List.map (fun p : zF × zD => zC p.1) m2) (List.map (fun p : zF × zD => zJ p.2) m2), lr R_1 .ready none, obl 2 zC l3, .rows 2 [(zU x)], .rows 2 [(V.agg [(V.i x2), (V.i x.ID)])]]) rfl rfl rfl (X.mq ?_)
   refine X.opW (H' := [.rows 6 [(zH h)], .rows 5 [(zG c)], .rows 1 [(ovl 6 l3)], .rows 1 [(V.map 4)], .map (List.map (fun p : zF × zD => zC p.1) m2) (List.map (fun p : zF × zD => zJ p.2) m2), lr R_1 .ready none, obl 2 zC l3, .rows 2 [(zU x)], .rows 2 [(V.agg [(V.i x2), (V.i x.ID)])], .rows 2 [(V.agg [(V.i 0), (V.i 0)])]]) rfl rfl rfl rfl ?_
   refine X.op0W (H' := [.rows 6 [(zH h)], .rows 5 [(zG c)], .rows 1 [(ovl 6 l3)], .rows 1 [(V.map 4)], .map (List.map (fun p : zF × zD => zC p.1) m2) (List.map (fun p : zF × zD => zJ p.2) m2), lr R_1 .ready none, obl 2 zC l3, .rows 2 [(zU x)], .rows 2 [(V.agg [(V.i x2), (V.i x.ID)])], .rows 2 [(zU x)]]) rfl rfl rfl (GS.zA ?_)
   refine GS.nil (X.begin' rfl rfl ?_ rfl)
   refine GS.block (GS.seq ?_)
   obtain ⟨y, h_5, hM⟩ := zI hM
   refine GS.region ?_
   iterate 4 refine X.q rfl ?_
   refine X.call (qo h_5) rfl rfl rfl (.cons (.shut (n := 9) rfl) (.cons (.shut (n := 9) rfl) (.cons (.shut (n := 9) rfl) (.cons (.shut (n := 9) rfl) .nil)))) (X.q rfl (X.q rfl (X.q rfl ?_)))
   refine X.opW (H' := [.rows 6 [(zH h)], .rows 5 [(zG c)], .rows 1 [(ovl 6 l3)], .rows 1 [(V.map 4)], .map (List.map (fun p : zF × zD => zC p.1) m2) (List.map (fun p : zF × zD => zJ p.2) m2), lr R_1 .busy none, obl 2 zC l3, .rows 2 [(zU x)], .rows 2 [(V.agg [(V.i x2), (V.i x.ID)])], .rows 2 [(zU x)], .rows 2 [(V.agg [(V.i 0), (V.i 0)])]]) rfl rfl rfl rfl ?_
   refine X.op0W (H' := [.rows 6 [(zH h)], .rows 5 [(zG c)], .rows 1 [(ovl 6 l3)], .rows 1 [(V.map 4)], .map (List.map (fun p : zF × zD => zC p.1) m2) (List.map (fun p : zF × zD => zJ p.2) m2), lr R_1 .busy none, obl 2 zC l3, .rows 2 [(zU x)], .rows 2 [(V.agg [(V.i x2), (V.i x.ID)])], .rows 2 [(zU x)], .rows 2 [(zJ y.1)]]) rfl rfl rfl ?_
   refine X.q rfl (X.nq (X.q rfl (GS.zA ?_)))
   refine X.cond rfl (fun h_6 => ?_) (fun h_6 => ?_)
   ·replace hM := za h_6 hM
    refine GS.seq ?_
    obtain ⟨l1, h_7, hM⟩ := zI hM
    refine GS.region ?_
    refine X.opR rfl (v := (ovl 6 l3)) (by rcases X.Yo (z := true) 6 l3 with h0 | ⟨n0, h0⟩ <;> simp only [h0] <;> rfl) rfl (X.q rfl ?_)
    refine X.opW (H' := [.rows 6 [(zH h)], .rows 5 [(zG c)], .rows 1 [(ovl 6 l3)], .rows 1 [(V.map 4)], .map (List.map (fun p : zF × zD => zC p.1) m2) (List.map (fun p : zF × zD => zJ p.2) m2), lr R_1 .busy none, obl 2 zC l3, .rows 2 [(zU x)], .rows 2 [(V.agg [(V.i x2), (V.i x.ID)])], .rows 2 [(zU x)], .rows 2 [(zJ y.1)], .rows 2 (List.map zC ([(⟨x2, x.ID⟩ : zF)]))]) rfl rfl rfl rfl ?_
    refine X.appN (f := zC) h_7 (fun _ => rfl) (by rfl) (by rfl) (by rfl) (by rfl) (by rfl) (by rfl) (by rfl) (by rfl) (by rfl) (by rfl) (by rfl) (by exact rfl) (by rfl) (by rfl) ?_
    refine X.op0W (H' := [.rows 6 [(zH h)], .rows 5 [(zG c)], .rows 1 [(V.osl 12 0 (List.length l1))], .rows 1 [(V.map 4)], .map (List.map (fun p : zF × zD => zC p.1) m2) (List.map (fun p : zF × zD => zJ p.2) m2), lr R_1 .busy none, .dead, .rows 2 [(zU x)], .rows 2 [(V.agg [(V.i x2), (V.i x.ID)])], .rows 2 [(zU x)], .rows 2 [(zJ y.1)], .rows 2 (List.map zC ([(⟨x2, x.ID⟩ : zF)])), .rows 2 (List.map zC l1)]) rfl (v := jS) (wr := [(2, .rows 1 [(V.osl 12 0 (List.length l1))])]) (by rcases X.Yo (z := true) 6 l3 with h0 | ⟨n0, h0⟩ <;> simp only [h0] <;> rfl) rfl (X.mq ?_)
    iterate 3 refine X.q rfl ?_
    refine X.op0W (H' := [.rows 6 [(zH h)], .rows 5 [(zG c)], .rows 1 [(V.osl 12 0 (List.length l1))], .rows 1 [(V.map 4)], .map (List.map (fun p : zF × zD => zC p.1) (putM posE m2 (⟨x2, x.ID⟩ : zF) y.1)) (List.map (fun p : zF × zD => zJ p.2) (putM posE m2 (⟨x2, x.ID⟩ : zF) y.1)), lr R_1 .busy none, .dead, .rows 2 [(zU x)], .rows 2 [(V.agg [(V.i x2), (V.i x.ID)])], .rows 2 [(zU x)], .rows 2 [(zJ y.1)], .rows 2 (List.map zC ([(⟨x2, x.ID⟩ : zF)])), .rows 2 (List.map zC l1)]) rfl (X.putW (f := zC) (g := zJ) (pos := posE) (k := (⟨x2, x.ID⟩ : zF)) (v := y.1) (l := m2) J5 (fun l => (X.zHf _ _).trans (List.length_map ..)) rfl rfl rfl rfl rfl rfl rfl) rfl (GS.zA ?_)
    refine GS.endB ?_
    refine GS.nil ⟨_, rfl, ?_⟩
    refine X.norm (H' := [.rows 6 [(zH h)], .rows 5 [(zG c)], .rows 1 [(V.osl 12 0 (List.length l1))], .rows 1 [(V.map 4)], .map (List.map (fun p : zF × zD => zC p.1) (putM posE m2 (⟨x2, x.ID⟩ : zF) y.1)) (List.map (fun p : zF × zD => zJ p.2) (putM posE m2 (⟨x2, x.ID⟩ : zF) y.1)), lr R_1 .ready none, .dead, .rows 2 [(zU x)], .rows 2 [(V.agg [(V.i x2), (V.i x.ID)])], .rows 2 [(zU x)], .rows 2 [(zJ y.1)], .rows 2 (List.map zC ([(⟨x2, x.ID⟩ : zF)])), .rows 2 (List.map zC l1)]) [(0, (V.yld 5)), (1, (V.fptr [(zH (zW h))] 0 0)), (3, (V.i x2)), (8, (V.i (((zW h).Tides).length : Int))), (9, (V.i x2)), (13, (V.sl (List.map zU ((zW h).Berths)))), (14, (V.i (((zW h).Berths).length : Int))), (15, (V.i x1)), (25, (V.b true))] ?_ rfl (sr rfl)
    refine X.q rfl (GS.zA ?_)
    refine GS.zAa rfl (GS.skip ?_)
    refine GS.endB (GS.region ?_)
    refine X.opR rfl (X.addE rfl rfl) rfl (X.q rfl (GS.zA ?_))
    have hE := Option.some.inj hM
    exact X.gc [some 12] (hc_3 (w64 (x1 + 1), l1, (putM posE m2 (⟨x2, x.ID⟩ : zF) y.1)) hE.symm) rfl rfl rfl (ga rfl rfl) (gb9 rfl rfl rfl (gb9 rfl rfl rfl (Z0 rfl rfl (zAW (jR h_7) rfl) (gb9 rfl rfl rfl (X.ZY 9 rfl rfl (fun _ => rfl) (fun _ => rfl) (jf hlow_1 rfl rfl rfl (gb_obl' 9 (jR h_7) rfl rfl (fun _ => rfl) zM)))))))
   replace hM := zb h_6 hM
   refine GS.skip ?_
   refine GS.endB ?_
   refine GS.nil ⟨_, rfl, ?_⟩
   refine X.norm (H' := [.rows 6 [(zH h)], .rows 5 [(zG c)], .rows 1 [(ovl 6 l3)], .rows 1 [(V.map 4)], .map (List.map (fun p : zF × zD => zC p.1) m2) (List.map (fun p : zF × zD => zJ p.2) m2), lr R_1 .ready none, obl 2 zC l3, .rows 2 [(zU x)], .rows 2 [(V.agg [(V.i x2), (V.i x.ID)])], .rows 2 [(zU x)], .rows 2 [(zJ y.1)]]) [(0, (V.yld 5)), (1, (V.fptr [(zH (zW h))] 0 0)), (3, (V.i x2)), (8, (V.i (((zW h).Tides).length : Int))), (9, (V.i x2)), (13, (V.sl (List.map zU ((zW h).Berths)))), (14, (V.i (((zW h).Berths).length : Int))), (15, (V.i x1)), (25, (V.b true))] ?_ rfl (sr rfl)
   refine X.q rfl (GS.zA ?_)
   refine GS.zAa rfl (GS.skip ?_)
   refine GS.endB (GS.region ?_)
   refine X.opR rfl (X.addE rfl rfl) rfl (X.q rfl (GS.zA ?_))
   have hE := Option.some.inj hM
   exact X.gc [some 6] (hc_3 (w64 (x1 + 1), l3, m2) hE.symm) rfl rfl rfl (ga rfl rfl) (gb9 rfl rfl rfl (gb9 rfl rfl rfl (Z0 rfl rfl (zl rfl) (gb9 rfl rfl rfl (X.ZY 9 rfl rfl (fun _ => rfl) (fun _ => rfl) (jf hlow_1 rfl rfl rfl (zn 9 rfl rfl (fun _ => rfl) zM)))))))
  replace hM := zb h_3 hM
  refine GS.exit rfl ?_
  obtain ⟨y_2, hM, hy⟩ := ZV hM
  rw [hr_2 _ hy.symm] at hM
  exact X.gc [some 6] (hj_2 (l3, m2) hM) rfl rfl rfl (ga rfl rfl) (gb9 rfl rfl rfl (gb9 rfl rfl rfl (Z0 rfl rfl (zl rfl) (gb9 rfl rfl rfl (X.ZY 9 rfl rfl (fun _ => rfl) (fun _ => rfl) (jf hlow_1 rfl rfl rfl (zn 9 rfl rfl (fun _ => rfl) zM)))))))
 replace hM := zb h_2 hM
 refine GS.exit rfl ?_
 refine GS.nil ⟨_, _, rfl, rfl, ?_⟩
 refine X.norm (H' := [.rows 6 [(zH h)], .rows 5 [(zG c)], .rows 1 [(ovl 6 l2)], .rows 1 [(V.map 4)], .map (List.map (fun p : zF × zD => zC p.1) m1) (List.map (fun p : zF × zD => zJ p.2) m1), .dead, obl 2 zC l2]) [(2, (V.ptr 0 0 0)), (3, (V.ptr 1 0 0)), (6, (V.ptr 2 0 0)), (7, (V.ptr 3 0 0)), (14, (V.fn 120 [(V.fptr [(zH (zW h))] 0 0)]))] ?_ rfl (sr rfl)
 refine GS.endB (GS.seq ?_)
 refine X.drawc (by kernel_rfl) rfl ?_
 refine X.cop rfl (v := (ovl 6 l2)) (by rcases X.Yo (z := true) 6 l2 with h0 | ⟨n0, h0⟩ <;> simp only [h0] <;> rfl) rfl rfl ?_
 iterate 3 refine X.cop rfl rfl rfl rfl ?_
 refine X.cnil ?_
 refine X.norm [(4, (ovl 6 l2)), (5, (V.map 4))] ?_ rfl (sr rfl)
 have hE := Option.some.inj hM
 replace hE := hr_1 _ hE.symm
 subst hE
 exact GS.ret ⟨_, rfl, FR.tup (.cons (FR.ovl (f := zC) (l := l2) 9 rfl rfl (fun _ => rfl)) (.cons (X.frMap (f := zC) (g := zJ) (pa := fun p => p.1) (pb := fun p => p.2) (l := m1) 9 rfl rfl (fun _ => rfl) (fun _ => rfl)) .nil))⟩
abbrev zT (x : zK) : V := .agg [(V.sl (List.map zG x.calls)), (V.sl (List.map zC x.slots)), (V.sl (List.map (fun l => V.fmap (List.map (fun p => zC p.1) l) (List.map (fun p => zJ p.2) l)) x.can)), (V.sl (List.map V.i x.old))]
set_option maxHeartbeats 4000000 in
theorem qp {h : zL} {l : (List zN)} {r : zK} (hM : yF h l = some r) : Ct Tryz.prog 64 [(zH h), (V.sl (List.map zG l))] (V.fptr [(zT r)] 0 0) := by
 refine zg ZR rfl ?_
 unfold yF at hM
 refine X.sq ?_
 refine X.opW rfl rfl rfl rfl (X.q rfl (X.nq (X.q rfl (X.q rfl ?_))))
 iterate 2 refine X.opW rfl rfl rfl rfl ?_
 refine X.op0W rfl rfl rfl (GS.zA (GS.seq (X.sq (X.q rfl ?_))))
 refine X.call (zAy h) rfl rfl rfl (.cons (.shut (n := 9) rfl) .nil) (GS.zA (GS.block ?_))
 refine X.gc [some 0, some 2, some 1] (H' := [.rows 6 [(zH h)], .rows 1 [(V.ptr 2 0 0)], .rows 4 [(V.agg [(V.sl (List.map zG l)), V.nil, V.nil, V.nil])]]) (K' := [(1, (V.sl (List.map zG l))), (2, (V.ptr 0 0 0)), (5, (V.ptr 1 0 0)), (15, (V.fn 120 [(V.fptr [(zH (zW h))] 0 0)]))]) ?_ rfl rfl rfl (ga rfl rfl) (gb9 rfl rfl rfl (gb9 rfl rfl rfl (gb9 rfl rfl rfl zM)))
 refine X.range rfl rfl (jm ⟨9, rfl⟩ (jm ⟨9, rfl⟩ (jm ⟨9, rfl⟩ (jm ⟨9, rfl⟩ zEB)))) rfl ?_
 intro R_1 hrn_1 hrK_1 hrp_1 hra_1 hrb_1 hlow_1
 refine X.sq (X.q rfl (X.q rfl ?_))
 refine X.opR rfl (X.lenF rfl rfl rfl) rfl (X.q rfl (GS.zA (GS.block ?_)))
 refine X.gc [none] (X.loop (σ := (Int × (List zF))) (fun v => ⟨[(0, (V.yld 3)), (1, (V.fptr [(zH (zW h))] 0 0)), (8, (V.i (((zW h).Tides).length : Int))), (9, (V.i v.1))], [.rows 6 [(zH h)], .rows 1 [(V.ptr 2 0 0)], .rows 4 [(V.agg [(V.sl (List.map zG l)), (ovl 4 v.2), V.nil, V.nil])], lr R_1 .ready none, obl 2 zC v.2], 0, none, 29⟩) hM ?_ rfl) rfl rfl rfl (ga rfl rfl) (gb9 rfl rfl rfl (gb9 rfl rfl rfl (gb9 rfl rfl rfl (jf hlow_1 rfl rfl rfl (gb_pad' rfl zM)))))
 rintro ⟨x4, l10⟩ b_1 hM hc_1 hr_1
 rw [qy] at hM
 refine X.sq (X.q rfl (GS.zA (GS.seq ?_)))
 refine X.cond rfl (fun h_2 => ?_) (fun h_2 => ?_)
 ·replace hM := za h_2 hM
  refine GS.skip (GS.seq (GS.block (X.sq (X.q rfl (X.q rfl ?_)))))
  refine X.nq (X.q rfl (X.q rfl ?_))
  refine X.opR rfl (X.lenF rfl rfl rfl) rfl (X.q rfl (GS.zA ?_))
  refine X.join (τ := (List zF)) (fun v => Qc x4 v = some b_1) (fun v => ⟨[(0, (V.yld 3)), (1, (V.fptr [(zH (zW h))] 0 0)), (8, (V.i (((zW h).Tides).length : Int))), (9, (V.i x4))], [.rows 6 [(zH h)], .rows 1 [(V.ptr 2 0 0)], .rows 4 [(V.agg [(V.sl (List.map zG l)), (ovl 4 v), V.nil, V.nil])], lr R_1 .ready none, obl 2 zC v], 0, none, 29⟩) ?_ ?_
  ·intro l1 hM
   replace hM : Qc x4 l1 = some b_1 := hM
   unfold Qc at hM
   refine GS.endB (GS.region ?_)
   refine X.opR rfl (X.addE rfl rfl) rfl (X.q rfl (GS.zA ?_))
   have hE := Option.some.inj hM
   exact X.gc [some 4] (hc_1 (w64 (x4 + 1), l1) hE.symm) rfl rfl rfl (ga rfl rfl) (gb9 rfl rfl rfl (gb9 rfl rfl rfl (Z0 rfl rfl (je (.cons ⟨9, rfl⟩ (.cons (zl rfl) (.cons ⟨9, rfl⟩ (.cons ⟨9, rfl⟩ .nil))))) (jf hlow_1 rfl rfl rfl (zn 9 rfl rfl (fun _ => rfl) zM)))))
  intro hj_2
  refine GS.block ?_
  refine X.gc [some 4] (X.loop (σ := (Int × (List zF))) (fun v => ⟨[(0, (V.yld 3)), (1, (V.fptr [(zH (zW h))] 0 0)), (3, (V.i x4)), (8, (V.i (((zW h).Tides).length : Int))), (9, (V.i x4)), (13, (V.sl (List.map zU ((zW h).Berths)))), (14, (V.i (((zW h).Berths).length : Int))), (15, (V.i v.1))], [.rows 6 [(zH h)], .rows 1 [(V.ptr 2 0 0)], .rows 4 [(V.agg [(V.sl (List.map zG l)), (ovl 4 v.2), V.nil, V.nil])], lr R_1 .ready none, obl 2 zC v.2], 0, none, 29⟩) hM ?_ rfl) rfl rfl rfl (ga rfl rfl) (gb9 rfl rfl rfl (gb9 rfl rfl rfl (Z0 rfl rfl (je (.cons ⟨9, rfl⟩ (.cons (zl rfl) (.cons ⟨9, rfl⟩ (.cons ⟨9, rfl⟩ .nil))))) (jf hlow_1 rfl rfl rfl (zn 9 rfl rfl (fun _ => rfl) zM)))))
  rintro ⟨x1, l3⟩ b_2 hM hc_3 hr_2
  rw [Qd] at hM
  refine X.sq (X.q rfl (GS.zA (GS.seq ?_)))
  refine X.cond rfl (fun h_3 => ?_) (fun h_3 => ?_)
  ·replace hM := za h_3 hM
   refine GS.skip (GS.seq (GS.block (GS.seq ?_)))
   obtain ⟨x, h_4, hM⟩ := zI hM
   refine GS.region ?_
   refine X.opR rfl (X.ZJ (f := zU) h_4 (fun _ => rfl) rfl rfl rfl rfl) rfl ?_
   refine X.opR rfl (X.Za h_4 rfl rfl rfl) rfl ?_
   refine X.opW (H' := [.rows 6 [(zH h)], .rows 1 [(V.ptr 2 0 0)], .rows 4 [(V.agg [(V.sl (List.map zG l)), (ovl 4 l3), V.nil, V.nil])], lr R_1 .ready none, obl 2 zC l3, .rows 2 [(V.agg [(V.i 0), (V.i 0)])]]) rfl rfl rfl rfl ?_
   refine X.op0W (H' := [.rows 6 [(zH h)], .rows 1 [(V.ptr 2 0 0)], .rows 4 [(V.agg [(V.sl (List.map zG l)), (ovl 4 l3), V.nil, V.nil])], lr R_1 .ready none, obl 2 zC l3, .rows 2 [(zU x)]]) rfl rfl rfl (X.nq ?_)
   iterate 6 refine X.q rfl ?_
   refine X.yld hrn_1 hrK_1 hrp_1 hra_1 hrb_1 rfl rfl rfl rfl rfl rfl (GS.region ?_)
   refine X.opW (H' := [.rows 6 [(zH h)], .rows 1 [(V.ptr 2 0 0)], .rows 4 [(V.agg [(V.sl (List.map zG l)), (ovl 4 l3), V.nil, V.nil])], lr R_1 .ready none, obl 2 zC l3, .rows 2 [(zU x)], .rows 2 [(V.agg [(V.i 0), (V.i 0)])]]) rfl rfl rfl rfl ?_
   refine X.op0W (H' := [.rows 6 [(zH h)], .rows 1 [(V.ptr 2 0 0)], .rows 4 [(V.agg [(V.sl (List.map zG l)), (ovl 4 l3), V.nil, V.nil])], lr R_1 .ready none, obl 2 zC l3, .rows 2 [(zU x)], .rows 2 [(V.agg [(V.i x4), (V.i x.ID)])]]) rfl rfl rfl (GS.zA ?_)
   refine GS.nil (X.begin' rfl rfl ?_ rfl)
   refine GS.block ?_
   obtain ⟨l2, h_5, hM⟩ := zI hM
   refine X.draw (by kernel_rfl) ?_
   iterate 7 refine X.dop rfl rfl rfl rfl (by kernel_rfl) rfl rfl ?_
   refine X.zHq (f := zC) h_5 (fun _ => rfl) (by rfl) (by rfl) (by rfl) (by rfl) (by rfl) (by rfl) (by rfl) (by rfl) (by rfl) (by rfl) (by rfl) (by exact rfl) (by rfl) (by rfl) (by kernel_rfl) (by rfl) (by rfl) ?_
   iterate 2 refine X.dop rfl rfl rfl rfl (by kernel_rfl) rfl rfl ?_
   refine X.dop0 rfl rfl rfl rfl (by kernel_rfl) rfl ?_
   refine X.dnil ?_
   refine X.norm [] ?_ rfl W.zH3
   refine GS.endB ?_
   refine GS.nil ⟨_, rfl, ?_⟩
   refine X.norm (H' := [.rows 6 [(zH h)], .rows 1 [(V.ptr 2 0 0)], .rows 4 [(V.agg [(V.sl (List.map zG l)), (V.osl 8 0 (List.length l2)), V.nil, V.nil])], lr R_1 .ready none, .dead, .rows 2 [(zU x)], .rows 2 [(V.agg [(V.i x4), (V.i x.ID)])], .rows 2 (List.map zC ([(⟨x4, x.ID⟩ : zF)])), .rows 2 (List.map zC l2)]) [(0, (V.yld 3)), (1, (V.fptr [(zH (zW h))] 0 0)), (3, (V.i x4)), (8, (V.i (((zW h).Tides).length : Int))), (9, (V.i x4)), (13, (V.sl (List.map zU ((zW h).Berths)))), (14, (V.i (((zW h).Berths).length : Int))), (15, (V.i x1)), (25, (V.b true))] ?_ rfl (sr rfl)
   refine X.q rfl (GS.zA ?_)
   refine GS.zAa rfl (GS.skip ?_)
   refine GS.endB (GS.region ?_)
   refine X.opR rfl (X.addE rfl rfl) rfl (X.q rfl (GS.zA ?_))
   have hE := Option.some.inj hM
   exact X.gc [some 8] (hc_3 (w64 (x1 + 1), l2) hE.symm) rfl rfl rfl (ga rfl rfl) (gb9 rfl rfl rfl (gb9 rfl rfl rfl (Z0 rfl rfl (je (.cons ⟨9, rfl⟩ (.cons (zAW (jR h_5) rfl) (.cons ⟨9, rfl⟩ (.cons ⟨9, rfl⟩ .nil))))) (jf hlow_1 rfl rfl rfl (gb_obl' 9 (jR h_5) rfl rfl (fun _ => rfl) zM)))))
  replace hM := zb h_3 hM
  refine GS.exit rfl ?_
  obtain ⟨y_2, hM, hy⟩ := ZV hM
  rw [hr_2 _ hy.symm] at hM
  exact X.gc [some 4] (hj_2 l3 hM) rfl rfl rfl (ga rfl rfl) (gb9 rfl rfl rfl (gb9 rfl rfl rfl (Z0 rfl rfl (je (.cons ⟨9, rfl⟩ (.cons (zl rfl) (.cons ⟨9, rfl⟩ (.cons ⟨9, rfl⟩ .nil))))) (jf hlow_1 rfl rfl rfl (zn 9 rfl rfl (fun _ => rfl) zM)))))
 replace hM := zb h_2 hM
 refine GS.exit rfl ?_
 refine GS.nil ⟨_, _, rfl, rfl, ?_⟩
 refine X.norm (H' := [.rows 6 [(zH h)], .rows 1 [(V.ptr 2 0 0)], .rows 4 [(V.agg [(V.sl (List.map zG l)), (ovl 4 l10), V.nil, V.nil])], .dead, obl 2 zC l10]) [(1, (V.sl (List.map zG l))), (2, (V.ptr 0 0 0)), (5, (V.ptr 1 0 0)), (15, (V.fn 120 [(V.fptr [(zH (zW h))] 0 0)]))] ?_ rfl (sr rfl)
 refine GS.endB (GS.seq (X.sq (X.q rfl ?_)))
 refine X.opR rfl (X.lenF rfl rfl rfl) rfl (X.q rfl (GS.zA ?_))
 refine X.join (τ := (List (List (zF × zD))) × (List Int)) (fun v => Qb l l10 v.1 v.2 = some b_1) (fun v => ⟨[(5, (V.ptr 0 0 0))], [.rows 1 [(V.ptr 1 0 0)], .rows 4 [(V.agg [(V.sl (List.map zG l)), (ovl 2 l10), (ovl 3 v.1), (ovl 4 v.2)])], obl 2 zC l10, obl 1 (fun l => V.fmap (List.map (fun p => zC p.1) l) (List.map (fun p => zJ p.2) l)) v.1, obl 1 V.i v.2], 0, none, 61⟩) ?_ ?_
 ·rintro ⟨l4, l5⟩ hM
  replace hM : Qb l l10 l4 l5 = some b_1 := hM
  unfold Qb at hM
  refine X.sq (X.q rfl (X.q rfl ?_))
  refine GS.zA ?_
  have hE := Option.some.inj hM
  replace hE := hr_1 _ hE.symm
  subst hE
  exact GS.ret ⟨_, rfl, FR.ptr rfl rfl (FR.agg (.cons ⟨30, rfl⟩ (.cons (FR.ovl (f := zC) (l := l10) 9 rfl rfl (fun _ => rfl)) (.cons (FR.ovl (f := (fun l => V.fmap (List.map (fun p => zC p.1) l) (List.map (fun p => zJ p.2) l))) (l := l4) 9 rfl rfl (fun _ => rfl)) (.cons (FR.ovl (f := V.i) (l := l5) 9 rfl rfl (fun _ => rfl)) .nil)))))⟩
 intro hj_4
 refine GS.block ?_
 refine X.gc [some 0, some 1, some 2, some 4, none, none] (X.loop (σ := (Int × (List (List (zF × zD))) × (List Int))) (fun v => ⟨[(2, (V.ptr 0 0 0)), (5, (V.ptr 1 0 0)), (28, (V.sl (List.map zG l))), (29, (V.i (l.length : Int))), (30, (V.i v.1))], [.rows 6 [(zH h)], .rows 1 [(V.ptr 2 0 0)], .rows 4 [(V.agg [(V.sl (List.map zG l)), (ovl 3 l10), (ovl 4 v.2.1), (ovl 5 v.2.2)])], obl 2 zC l10, obl 1 (fun l => V.fmap (List.map (fun p => zC p.1) l) (List.map (fun p => zJ p.2) l)) v.2.1, obl 1 V.i v.2.2], 0, none, 61⟩) hM ?_ rfl) rfl rfl rfl (ga rfl rfl) (gb9 rfl rfl rfl (gb9 rfl rfl rfl (Z0 rfl rfl (je (.cons ⟨9, rfl⟩ (.cons (zl rfl) (.cons ⟨9, rfl⟩ (.cons ⟨9, rfl⟩ .nil))))) (zn 9 rfl rfl (fun _ => rfl) (gb_pad' rfl (gb_pad' rfl zM))))))
 rintro ⟨x3, l8, l9⟩ b_2 hM hc_5 hr_2
 rw [qx] at hM
 refine X.sq (X.q rfl (GS.zA (GS.seq ?_)))
 refine X.cond rfl (fun h_6 => ?_) (fun h_6 => ?_)
 ·replace hM := za h_6 hM
  refine GS.skip (GS.seq (GS.block (GS.seq ?_)))
  obtain ⟨x2, h_7, hM⟩ := zI hM
  refine GS.region ?_
  refine X.opR rfl (X.ZJ (f := zG) h_7 (fun _ => rfl) rfl rfl rfl rfl) rfl ?_
  refine X.opR rfl (X.Za h_7 rfl rfl rfl) rfl ?_
  refine X.opW (H' := [.rows 6 [(zH h)], .rows 1 [(V.ptr 2 0 0)], .rows 4 [(V.agg [(V.sl (List.map zG l)), (ovl 3 l10), (ovl 4 l8), (ovl 5 l9)])], obl 2 zC l10, obl 1 (fun l => V.fmap (List.map (fun p => zC p.1) l) (List.map (fun p => zJ p.2) l)) l8, obl 1 V.i l9, .rows 5 [(V.agg [(V.i 0), (V.i 0), (V.i 0), (V.i 0), (V.i 0)])]]) rfl rfl rfl rfl ?_
  refine X.op0W (H' := [.rows 6 [(zH h)], .rows 1 [(V.ptr 2 0 0)], .rows 4 [(V.agg [(V.sl (List.map zG l)), (ovl 3 l10), (ovl 4 l8), (ovl 5 l9)])], obl 2 zC l10, obl 1 (fun l => V.fmap (List.map (fun p => zC p.1) l) (List.map (fun p => zJ p.2) l)) l8, obl 1 V.i l9, .rows 5 [(zG x2)]]) rfl rfl rfl (GS.zA (GS.seq ?_))
  obtain ⟨y, h_8, hM⟩ := zI hM
  refine GS.region (X.q rfl (X.q rfl ?_))
  refine X.call (zCW h_8) rfl rfl rfl (.cons (.shut (n := 9) rfl) (.cons (.shut (n := 9) rfl) .nil)) ?_
  iterate 5 refine X.q rfl ?_
  refine GS.zA ?_
  obtain ⟨l6, h_9, hM⟩ := zI hM
  obtain ⟨l7, h_10, hM⟩ := zI hM
  refine X.draw (by kernel_rfl) ?_
  iterate 8 refine X.dop rfl rfl rfl rfl (by kernel_rfl) rfl rfl ?_
  refine X.zHq (f := (fun l => V.fmap (List.map (fun p => zC p.1) l) (List.map (fun p => zJ p.2) l))) h_9 (fun _ => rfl) (by rfl) (by rfl) (by rfl) (by rfl) (by rfl) (by rfl) (by rfl) (by rfl) (by rfl) (by rfl) (by rfl) (by exact rfl) (by rfl) (by rfl) (by kernel_rfl) (by rfl) (by rfl) ?_
  iterate 5 refine X.dop rfl rfl rfl rfl (by kernel_rfl) rfl rfl ?_
  refine X.zHq (f := V.i) h_10 (fun _ => rfl) (by rfl) (by rfl) (by rfl) (by rfl) (by rfl) (by rfl) (by rfl) (by rfl) (by rfl) (by rfl) (by rfl) (by exact rfl) (by rfl) (by rfl) (by kernel_rfl) (by rfl) (by rfl) ?_
  iterate 2 refine X.dop rfl rfl rfl rfl (by kernel_rfl) rfl rfl ?_
  refine X.dop0 rfl rfl rfl rfl (by kernel_rfl) rfl ?_
  iterate 2 refine X.dop rfl rfl rfl rfl (by kernel_rfl) rfl rfl ?_
  refine X.dop0 rfl rfl rfl rfl (by kernel_rfl) rfl ?_
  refine X.dnil ?_
  refine X.norm [(2, (V.ptr 0 0 0)), (5, (V.ptr 1 0 0)), (28, (V.sl (List.map zG l))), (29, (V.i (l.length : Int))), (30, (V.i x3))] ?_ rfl (sr rfl)
  refine GS.endB (GS.region ?_)
  refine X.opR rfl (X.addE rfl rfl) rfl (X.q rfl (GS.zA ?_))
  have hE := Option.some.inj hM
  exact X.gc [some 0, some 1, some 2, some 3, some 8, some 10] (hc_5 (w64 (x3 + 1), l6, l7) hE.symm) rfl rfl rfl (ga rfl rfl) (gb9 rfl rfl rfl (gb9 rfl rfl rfl (Z0 rfl rfl (je (.cons ⟨9, rfl⟩ (.cons (zl rfl) (.cons (zAW (jR h_9) rfl) (.cons (zAW (jR h_10) rfl) .nil))))) (zn 9 rfl rfl (fun _ => rfl) (gb_obl' 9 (jR h_9) rfl rfl (fun _ => rfl) (gb_obl' 9 (jR h_10) rfl rfl (fun _ => rfl) zM))))))
 replace hM := zb h_6 hM
 refine GS.exit rfl ?_
 obtain ⟨y_2, hM, hy⟩ := ZV hM
 rw [hr_2 _ hy.symm] at hM
 exact X.gc [some 1, some 2, some 3, some 4, some 5] (hj_4 (l8, l9) hM) rfl rfl rfl (ga rfl rfl) (gb9 rfl rfl rfl (Z0 rfl rfl (je (.cons ⟨9, rfl⟩ (.cons (zl rfl) (.cons (zl rfl) (.cons (zl rfl) .nil))))) (zn 9 rfl rfl (fun _ => rfl) (zn 9 rfl rfl (fun _ => rfl) (zn 9 rfl rfl (fun _ => rfl) zM)))))
set_option maxHeartbeats 4000000 in
theorem zI0 {b : zK} {ship : Int} {r : (List Int)} (hM : jg b ship = some r) : Ct Tryz.prog 100 [(V.fptr [(zT b)] 0 0), (V.i ship)] (V.sl (List.map V.i r)) := by
 refine zg ZR rfl ?_
 unfold jg at hM
 refine X.sq (X.q rfl (GS.zA (GS.seq ?_)))
 obtain ⟨l, h_1, hM⟩ := zI hM
 refine X.draw (by kernel_rfl) ?_
 iterate 4 refine X.dop rfl rfl rfl rfl (by kernel_rfl) rfl rfl ?_
 refine X.dop rfl (X.lenF rfl rfl rfl) rfl rfl (by kernel_rfl) rfl rfl ?_
 iterate 4 refine X.dop rfl rfl rfl rfl (by kernel_rfl) rfl rfl ?_
 refine X.dop rfl (X.lenF rfl rfl rfl) rfl rfl (by kernel_rfl) rfl rfl ?_
 refine X.dop rfl (X.addE rfl rfl) rfl rfl (by kernel_rfl) rfl rfl ?_
 refine X.dop rfl (X.zEA (f := V.i) h_1 rfl rfl rfl rfl rfl rfl rfl rfl) rfl rfl (by kernel_rfl) rfl rfl ?_
 refine X.dop rfl rfl rfl rfl (by kernel_rfl) rfl rfl ?_
 refine X.dnil ?_
 refine X.norm [(0, (V.fptr [(zT b)] 0 0)), (1, (V.i ship)), (5, (V.osl 0 0 (List.length l)))] ?_ rfl (sr rfl)
 refine GS.seq (X.sq (X.q rfl ?_))
 refine X.opR rfl (X.lenO (l := l) rfl rfl rfl) rfl (X.q rfl (GS.zA ?_))
 refine X.join (τ := (List Int)) (fun v => Zq b ship v = some r) (fun v => ⟨[(0, (V.fptr [(zT b)] 0 0)), (1, (V.i ship)), (5, (V.osl 0 0 (List.length v)))], [.rows 1 (List.map V.i v)], 0, none, 81⟩) ?_ ?_
 ·intro l1 hM
  replace hM : Zq b ship l1 = some r := hM
  unfold Zq at hM
  refine GS.seq (X.sq ?_)
  iterate 4 refine X.q rfl ?_
  refine X.opR rfl (X.lenF rfl rfl rfl) rfl (X.q rfl (GS.zA ?_))
  refine X.join (τ := (List Int)) (fun v => Zh b ship v = some r) (fun v => ⟨[(0, (V.fptr [(zT b)] 0 0)), (1, (V.i ship)), (5, (V.osl 0 0 (List.length v)))], [.rows 1 (List.map V.i v)], 0, none, 81⟩) ?_ ?_
  ·intro l2 hM
   replace hM : Zh b ship l2 = some r := hM
   unfold Zh at hM
   refine GS.seq ?_
   obtain ⟨x, h_2, hM⟩ := zI hM
   refine GS.region ?_
   iterate 5 refine X.q rfl ?_
   refine X.opR rfl (X.lenF rfl rfl rfl) rfl (X.q rfl ?_)
   refine X.opR rfl (X.addE rfl rfl) rfl ?_
   refine X.opR rfl (X.Z7 h_2 rfl rfl rfl rfl rfl) rfl ?_
   refine X.op0W rfl (X.yt (b := 0) h_2 rfl rfl rfl rfl rfl rfl rfl) rfl (X.nq (X.q rfl (X.q rfl ?_)))
   refine GS.zA ?_
   have hE := Option.some.inj hM
   subst hE
   exact GS.ret ⟨_, rfl, FR.eq X.jv (FR.osl (f := V.i) (l := (put l2 (w64 ((b.slots.length : Int) + ship)) 0)) 9 rfl rfl (fun _ => rfl))⟩
  intro hj_2
  refine GS.block ?_
  refine X.gc [some 0] (X.loop (σ := (Int × (List Int))) (fun v => ⟨[(0, (V.fptr [(zT b)] 0 0)), (1, (V.i ship)), (5, (V.osl 0 0 (List.length v.2))), (35, (V.sl (List.map zC b.slots))), (36, (V.i (b.slots.length : Int))), (37, (V.i v.1))], [.rows 1 (List.map V.i v.2)], 0, none, 81⟩) hM ?_ rfl) rfl rfl rfl (ga rfl rfl) (zQ 9 rfl rfl (fun _ => rfl) zM)
  rintro ⟨x6, l4⟩ b_1 hM hc_3 hr_1
  rw [jZ] at hM
  refine X.sq (X.q rfl (GS.zA (GS.seq ?_)))
  refine X.cond rfl (fun h_3 => ?_) (fun h_3 => ?_)
  ·replace hM := za h_3 hM
   refine GS.skip (GS.seq ?_)
   refine X.join (τ := (List Int)) (fun v => Zb x6 v = some b_1) (fun v => ⟨[(0, (V.fptr [(zT b)] 0 0)), (1, (V.i ship)), (5, (V.osl 0 0 (List.length v))), (35, (V.sl (List.map zC b.slots))), (36, (V.i (b.slots.length : Int))), (37, (V.i x6))], [.rows 1 (List.map V.i v)], 0, none, 81⟩) ?_ ?_
   ·intro l3 hM
    replace hM : Zb x6 l3 = some b_1 := hM
    unfold Zb at hM
    refine GS.region ?_
    refine X.opR rfl (X.addE rfl rfl) rfl (X.q rfl (GS.zA ?_))
    have hE := Option.some.inj hM
    exact X.gc [some 0] (hc_3 (w64 (x6 + 1), l3) hE.symm) rfl rfl rfl (ga rfl rfl) (zQ 9 rfl rfl (fun _ => rfl) zM)
   intro hj_4
   refine GS.block (GS.seq ?_)
   obtain ⟨x1, h_4, hM⟩ := zI hM
   refine GS.region (X.q rfl ?_)
   refine X.opR rfl (X.ZJ (f := zC) h_4 (fun _ => rfl) rfl rfl rfl rfl) rfl ?_
   refine X.opR rfl (X.Za h_4 rfl rfl rfl) rfl ?_
   refine X.opW rfl rfl rfl rfl (X.q rfl ?_)
   refine X.op0W rfl rfl rfl (GS.zA (GS.seq ?_))
   obtain ⟨x2, h_5, hM⟩ := zI hM
   refine X.draw (by kernel_rfl) ?_
   iterate 5 refine X.dop rfl rfl rfl rfl (by kernel_rfl) rfl rfl ?_
   refine X.dop rfl (X.ZJ (f := (fun l => V.fmap (List.map (fun p => zC p.1) l) (List.map (fun p => zJ p.2) l))) h_5 (fun _ => rfl) rfl rfl rfl rfl) rfl rfl (by kernel_rfl) rfl rfl ?_
   refine X.dop rfl (X.Za h_5 rfl rfl rfl) rfl rfl (by kernel_rfl) rfl rfl ?_
   refine X.dop rfl rfl rfl rfl (by kernel_rfl) rfl rfl ?_
   refine X.dop rfl (X.zGT (f := zC) (g := zJ) (k := x1) (l := x2) (z := (⟨0, 0⟩ : zD)) (ok := true) J5 rfl rfl rfl rfl rfl) rfl rfl (by kernel_rfl) rfl rfl ?_
   iterate 4 refine X.dop rfl rfl rfl rfl (by kernel_rfl) rfl rfl ?_
   refine X.dop0 rfl rfl rfl rfl (by kernel_rfl) rfl ?_
   refine X.dop rfl rfl rfl rfl (by kernel_rfl) rfl rfl ?_
   refine X.dnil ?_
   refine X.norm [(0, (V.fptr [(zT b)] 0 0)), (1, (V.i ship)), (5, (V.osl 0 0 (List.length l4))), (7, (V.i x6)), (10, (V.b ((ZH x1 x2).isSome))), (35, (V.sl (List.map zC b.slots))), (36, (V.i (b.slots.length : Int))), (37, (V.i x6))] ?_ rfl (sr rfl)
   refine X.sq (X.q rfl (GS.zA ?_))
   refine X.cond rfl (fun h_6 => ?_) (fun h_6 => ?_)
   ·replace hM := za h_6 hM
    refine GS.seq ?_
    obtain ⟨x3, h_7, hM⟩ := zI hM
    refine GS.region (X.q rfl (X.q rfl ?_))
    refine X.opR rfl (X.Z7 h_7 rfl rfl rfl rfl rfl) rfl ?_
    refine X.op0W rfl (X.yt (b := (-1000)) h_7 rfl rfl rfl rfl rfl rfl rfl) rfl (GS.zA (GS.seq ?_))
    obtain ⟨x4, h_8, hM⟩ := zI hM
    refine GS.region ?_
    iterate 5 refine X.q rfl ?_
    refine X.opR rfl (X.ZJ (f := V.i) h_8 (fun _ => rfl) rfl rfl rfl rfl) rfl ?_
    refine X.opR rfl (X.Za h_8 rfl rfl rfl) rfl (X.q rfl (X.q rfl ?_))
    refine GS.zA ?_
    refine X.cond rfl (fun h_9 => ?_) (fun h_9 => ?_)
    ·replace hM := za h_9 hM
     obtain ⟨x5, h_10, hM⟩ := zI hM
     refine GS.region (X.q rfl (X.q rfl ?_))
     refine X.opR rfl (X.Z7 h_10 rfl rfl (X.zMA rfl X.jv) rfl rfl) rfl ?_
     refine X.op0W rfl (X.yt (b := (-1001)) h_10 rfl rfl rfl rfl rfl rfl rfl) rfl (GS.zA ?_)
     refine GS.endB ?_
     exact X.gc [some 0] (hj_4 (put (put l4 x6 (-1000)) x6 (-1001)) hM) rfl rfl rfl (zO rfl ⟨9, rfl⟩ (zO rfl ⟨9, rfl⟩ (zO rfl (QO (Eq.trans X.jv X.jv) ⟨9, rfl⟩) (ga rfl rfl)))) (zQ 9 rfl rfl (fun _ => rfl) zM)
    replace hM := zb h_9 hM
    refine GS.skip ?_
    refine GS.endB ?_
    exact X.gc [some 0] (hj_4 (put l4 x6 (-1000)) hM) rfl rfl rfl (zO rfl ⟨9, rfl⟩ (zO rfl ⟨9, rfl⟩ (zO rfl (QO X.jv ⟨9, rfl⟩) (ga rfl rfl)))) (zQ 9 rfl rfl (fun _ => rfl) zM)
   replace hM := zb h_6 hM
   refine GS.skip ?_
   refine GS.endB ?_
   exact X.gc [some 0] (hj_4 l4 hM) rfl rfl rfl (ga rfl rfl) (zQ 9 rfl rfl (fun _ => rfl) zM)
  replace hM := zb h_3 hM
  refine GS.exit rfl ?_
  obtain ⟨y_1, hM, hy⟩ := ZV hM
  rw [hr_1 _ hy.symm] at hM
  exact X.gc [some 0] (hj_2 l4 hM) rfl rfl rfl (ga rfl rfl) (zQ 9 rfl rfl (fun _ => rfl) zM)
 intro hj_1
 refine GS.block ?_
 refine X.gc [some 0] (X.loop (σ := (Int × (List Int))) (fun v => ⟨[(0, (V.fptr [(zT b)] 0 0)), (1, (V.i ship)), (5, (V.osl 0 0 (List.length v.2))), (24, (V.i (l.length : Int))), (25, (V.i v.1))], [.rows 1 (List.map V.i v.2)], 0, none, 81⟩) hM ?_ rfl) rfl rfl rfl (ga rfl rfl) (zQ 9 rfl rfl (fun _ => rfl) zM)
 rintro ⟨x8, l5⟩ b_1 hM hc_5 hr_1
 rw [jY] at hM
 refine X.sq (X.q rfl (GS.zA (GS.seq ?_)))
 refine X.cond rfl (fun h_11 => ?_) (fun h_11 => ?_)
 ·replace hM := za h_11 hM
  refine GS.skip (GS.seq (GS.block (X.sq (X.q rfl (X.q rfl ?_)))))
  refine GS.zA ?_
  obtain ⟨x7, h_12, hM⟩ := zI hM
  refine GS.region (X.q rfl (X.q rfl ?_))
  refine X.opR rfl (X.Z7 h_12 rfl rfl rfl rfl rfl) rfl ?_
  refine X.op0W rfl (X.yt (b := 1073741824) h_12 rfl rfl rfl rfl rfl rfl rfl) rfl (GS.zA ?_)
  refine GS.endB (GS.region ?_)
  refine X.opR rfl (X.addE rfl rfl) rfl (X.q rfl (GS.zA ?_))
  have hE := Option.some.inj hM
  exact X.gc [some 0] (hc_5 (w64 (x8 + 1), (put l5 x8 1073741824)) hE.symm) rfl rfl rfl (zO rfl ⟨9, rfl⟩ (zO rfl ⟨9, rfl⟩ (zO rfl (QO X.jv ⟨9, rfl⟩) (ga rfl rfl)))) (zQ 9 rfl rfl (fun _ => rfl) zM)
 replace hM := zb h_11 hM
 refine GS.exit rfl ?_
 obtain ⟨y_1, hM, hy⟩ := ZV hM
 rw [hr_1 _ hy.symm] at hM
 exact X.gc [some 0] (hj_1 l5 hM) rfl rfl rfl (ga rfl rfl) (zQ 9 rfl rfl (fun _ => rfl) zM)
set_option maxHeartbeats 4000000 in
theorem zCH {b : zK} {ship : Int} {r : (List Int)} (hM : jg b ship = some r) : zEe Tryz.prog 100 [(V.fptr [(zT b)] 0 0), (V.i ship)] (fun z => (ovlz z 0 r)) (fun z => (oblz z 1 V.i r)) := by
 refine zHP ZR rfl ?_
 unfold jg at hM
 refine X.sq (X.q rfl (GS.zA (GS.seq ?_)))
 obtain ⟨l, h_1, hM⟩ := zI hM
 refine X.draw (by kernel_rfl) ?_
 iterate 4 refine X.dop rfl rfl rfl rfl (by kernel_rfl) rfl rfl ?_
 refine X.dop rfl (X.lenF rfl rfl rfl) rfl rfl (by kernel_rfl) rfl rfl ?_
 iterate 4 refine X.dop rfl rfl rfl rfl (by kernel_rfl) rfl rfl ?_
 refine X.dop rfl (X.lenF rfl rfl rfl) rfl rfl (by kernel_rfl) rfl rfl ?_
 refine X.dop rfl (X.addE rfl rfl) rfl rfl (by kernel_rfl) rfl rfl ?_
 refine X.dop rfl (X.zEA (f := V.i) h_1 rfl rfl rfl rfl rfl rfl rfl rfl) rfl rfl (by kernel_rfl) rfl rfl ?_
 refine X.dop rfl rfl rfl rfl (by kernel_rfl) rfl rfl ?_
 refine X.dnil ?_
 refine X.norm [(0, (V.fptr [(zT b)] 0 0)), (1, (V.i ship)), (5, (V.osl 0 0 (List.length l)))] ?_ rfl (sr rfl)
 refine GS.seq (X.sq (X.q rfl ?_))
 refine X.opR rfl (X.lenO (l := l) rfl rfl rfl) rfl (X.q rfl (GS.zA ?_))
 refine X.join (τ := (List Int)) (fun v => Zq b ship v = some r) (fun v => ⟨[(0, (V.fptr [(zT b)] 0 0)), (1, (V.i ship)), (5, (V.osl 0 0 (List.length v)))], [.rows 1 (List.map V.i v)], 0, none, 81⟩) ?_ ?_
 ·intro l1 hM
  replace hM : Zq b ship l1 = some r := hM
  unfold Zq at hM
  refine GS.seq (X.sq ?_)
  iterate 4 refine X.q rfl ?_
  refine X.opR rfl (X.lenF rfl rfl rfl) rfl (X.q rfl (GS.zA ?_))
  refine X.join (τ := (List Int)) (fun v => Zh b ship v = some r) (fun v => ⟨[(0, (V.fptr [(zT b)] 0 0)), (1, (V.i ship)), (5, (V.osl 0 0 (List.length v)))], [.rows 1 (List.map V.i v)], 0, none, 81⟩) ?_ ?_
  ·intro l2 hM
   replace hM : Zh b ship l2 = some r := hM
   unfold Zh at hM
   refine GS.seq ?_
   obtain ⟨x, h_2, hM⟩ := zI hM
   refine GS.region ?_
   iterate 5 refine X.q rfl ?_
   refine X.opR rfl (X.lenF rfl rfl rfl) rfl (X.q rfl ?_)
   refine X.opR rfl (X.addE rfl rfl) rfl ?_
   refine X.opR rfl (X.Z7 h_2 rfl rfl rfl rfl rfl) rfl ?_
   refine X.op0W rfl (X.yt (b := 0) h_2 rfl rfl rfl rfl rfl rfl rfl) rfl (X.nq (X.q rfl (X.q rfl ?_)))
   refine GS.zA ?_
   have hE := Option.some.inj hM
   subst hE
   refine X.gc [some 0] (H' := [.rows 1 (List.map V.i (put l2 (w64 ((b.slots.length : Int) + ship)) 0))]) (K' := [(4, (V.osl 0 0 (List.length (put l2 (w64 ((b.slots.length : Int) + ship)) 0))))]) ?_ rfl rfl rfl (zO rfl (QO X.jv ⟨9, rfl⟩) yD) (zQ 9 rfl rfl (fun _ => rfl) zM)
   exact GS.ret ⟨false, rfl, rfl⟩
  intro hj_2
  refine GS.block ?_
  refine X.gc [some 0] (X.loop (σ := (Int × (List Int))) (fun v => ⟨[(0, (V.fptr [(zT b)] 0 0)), (1, (V.i ship)), (5, (V.osl 0 0 (List.length v.2))), (35, (V.sl (List.map zC b.slots))), (36, (V.i (b.slots.length : Int))), (37, (V.i v.1))], [.rows 1 (List.map V.i v.2)], 0, none, 81⟩) hM ?_ rfl) rfl rfl rfl (ga rfl rfl) (zQ 9 rfl rfl (fun _ => rfl) zM)
  rintro ⟨x6, l4⟩ b_1 hM hc_3 hr_1
  rw [jZ] at hM
  refine X.sq (X.q rfl (GS.zA (GS.seq ?_)))
  refine X.cond rfl (fun h_3 => ?_) (fun h_3 => ?_)
  ·replace hM := za h_3 hM
   refine GS.skip (GS.seq ?_)
   refine X.join (τ := (List Int)) (fun v => Zb x6 v = some b_1) (fun v => ⟨[(0, (V.fptr [(zT b)] 0 0)), (1, (V.i ship)), (5, (V.osl 0 0 (List.length v))), (35, (V.sl (List.map zC b.slots))), (36, (V.i (b.slots.length : Int))), (37, (V.i x6))], [.rows 1 (List.map V.i v)], 0, none, 81⟩) ?_ ?_
   ·intro l3 hM
    replace hM : Zb x6 l3 = some b_1 := hM
    unfold Zb at hM
    refine GS.region ?_
    refine X.opR rfl (X.addE rfl rfl) rfl (X.q rfl (GS.zA ?_))
    have hE := Option.some.inj hM
    exact X.gc [some 0] (hc_3 (w64 (x6 + 1), l3) hE.symm) rfl rfl rfl (ga rfl rfl) (zQ 9 rfl rfl (fun _ => rfl) zM)
   intro hj_4
   refine GS.block (GS.seq ?_)
   obtain ⟨x1, h_4, hM⟩ := zI hM
   refine GS.region (X.q rfl ?_)
   refine X.opR rfl (X.ZJ (f := zC) h_4 (fun _ => rfl) rfl rfl rfl rfl) rfl ?_
   refine X.opR rfl (X.Za h_4 rfl rfl rfl) rfl ?_
   refine X.opW rfl rfl rfl rfl (X.q rfl ?_)
   refine X.op0W rfl rfl rfl (GS.zA (GS.seq ?_))
   obtain ⟨x2, h_5, hM⟩ := zI hM
   refine X.draw (by kernel_rfl) ?_
   iterate 5 refine X.dop rfl rfl rfl rfl (by kernel_rfl) rfl rfl ?_
   refine X.dop rfl (X.ZJ (f := (fun l => V.fmap (List.map (fun p => zC p.1) l) (List.map (fun p => zJ p.2) l))) h_5 (fun _ => rfl) rfl rfl rfl rfl) rfl rfl (by kernel_rfl) rfl rfl ?_
   refine X.dop rfl (X.Za h_5 rfl rfl rfl) rfl rfl (by kernel_rfl) rfl rfl ?_
   refine X.dop rfl rfl rfl rfl (by kernel_rfl) rfl rfl ?_
   refine X.dop rfl (X.zGT (f := zC) (g := zJ) (k := x1) (l := x2) (z := (⟨0, 0⟩ : zD)) (ok := true) J5 rfl rfl rfl rfl rfl) rfl rfl (by kernel_rfl) rfl rfl ?_
   iterate 4 refine X.dop rfl rfl rfl rfl (by kernel_rfl) rfl rfl ?_
   refine X.dop0 rfl rfl rfl rfl (by kernel_rfl) rfl ?_
   refine X.dop rfl rfl rfl rfl (by kernel_rfl) rfl rfl ?_
   refine X.dnil ?_
   refine X.norm [(0, (V.fptr [(zT b)] 0 0)), (1, (V.i ship)), (5, (V.osl 0 0 (List.length l4))), (7, (V.i x6)), (10, (V.b ((ZH x1 x2).isSome))), (35, (V.sl (List.map zC b.slots))), (36, (V.i (b.slots.length : Int))), (37, (V.i x6))] ?_ rfl (sr rfl)
   refine X.sq (X.q rfl (GS.zA ?_))
   refine X.cond rfl (fun h_6 => ?_) (fun h_6 => ?_)
   ·replace hM := za h_6 hM
    refine GS.seq ?_
    obtain ⟨x3, h_7, hM⟩ := zI hM
    refine GS.region (X.q rfl (X.q rfl ?_))
    refine X.opR rfl (X.Z7 h_7 rfl rfl rfl rfl rfl) rfl ?_
    refine X.op0W rfl (X.yt (b := (-1000)) h_7 rfl rfl rfl rfl rfl rfl rfl) rfl (GS.zA (GS.seq ?_))
    obtain ⟨x4, h_8, hM⟩ := zI hM
    refine GS.region ?_
    iterate 5 refine X.q rfl ?_
    refine X.opR rfl (X.ZJ (f := V.i) h_8 (fun _ => rfl) rfl rfl rfl rfl) rfl ?_
    refine X.opR rfl (X.Za h_8 rfl rfl rfl) rfl (X.q rfl (X.q rfl ?_))
    refine GS.zA ?_
    refine X.cond rfl (fun h_9 => ?_) (fun h_9 => ?_)
    ·replace hM := za h_9 hM
     obtain ⟨x5, h_10, hM⟩ := zI hM
     refine GS.region (X.q rfl (X.q rfl ?_))
     refine X.opR rfl (X.Z7 h_10 rfl rfl (X.zMA rfl X.jv) rfl rfl) rfl ?_
     refine X.op0W rfl (X.yt (b := (-1001)) h_10 rfl rfl rfl rfl rfl rfl rfl) rfl (GS.zA ?_)
     refine GS.endB ?_
     exact X.gc [some 0] (hj_4 (put (put l4 x6 (-1000)) x6 (-1001)) hM) rfl rfl rfl (zO rfl ⟨9, rfl⟩ (zO rfl ⟨9, rfl⟩ (zO rfl (QO (Eq.trans X.jv X.jv) ⟨9, rfl⟩) (ga rfl rfl)))) (zQ 9 rfl rfl (fun _ => rfl) zM)
    replace hM := zb h_9 hM
    refine GS.skip ?_
    refine GS.endB ?_
    exact X.gc [some 0] (hj_4 (put l4 x6 (-1000)) hM) rfl rfl rfl (zO rfl ⟨9, rfl⟩ (zO rfl ⟨9, rfl⟩ (zO rfl (QO X.jv ⟨9, rfl⟩) (ga rfl rfl)))) (zQ 9 rfl rfl (fun _ => rfl) zM)
   replace hM := zb h_6 hM
   refine GS.skip ?_
   refine GS.endB ?_
   exact X.gc [some 0] (hj_4 l4 hM) rfl rfl rfl (ga rfl rfl) (zQ 9 rfl rfl (fun _ => rfl) zM)
  replace hM := zb h_3 hM
  refine GS.exit rfl ?_
  obtain ⟨y_1, hM, hy⟩ := ZV hM
  rw [hr_1 _ hy.symm] at hM
  exact X.gc [some 0] (hj_2 l4 hM) rfl rfl rfl (ga rfl rfl) (zQ 9 rfl rfl (fun _ => rfl) zM)
 intro hj_1
 refine GS.block ?_
 refine X.gc [some 0] (X.loop (σ := (Int × (List Int))) (fun v => ⟨[(0, (V.fptr [(zT b)] 0 0)), (1, (V.i ship)), (5, (V.osl 0 0 (List.length v.2))), (24, (V.i (l.length : Int))), (25, (V.i v.1))], [.rows 1 (List.map V.i v.2)], 0, none, 81⟩) hM ?_ rfl) rfl rfl rfl (ga rfl rfl) (zQ 9 rfl rfl (fun _ => rfl) zM)
 rintro ⟨x8, l5⟩ b_1 hM hc_5 hr_1
 rw [jY] at hM
 refine X.sq (X.q rfl (GS.zA (GS.seq ?_)))
 refine X.cond rfl (fun h_11 => ?_) (fun h_11 => ?_)
 ·replace hM := za h_11 hM
  refine GS.skip (GS.seq (GS.block (X.sq (X.q rfl (X.q rfl ?_)))))
  refine GS.zA ?_
  obtain ⟨x7, h_12, hM⟩ := zI hM
  refine GS.region (X.q rfl (X.q rfl ?_))
  refine X.opR rfl (X.Z7 h_12 rfl rfl rfl rfl rfl) rfl ?_
  refine X.op0W rfl (X.yt (b := 1073741824) h_12 rfl rfl rfl rfl rfl rfl rfl) rfl (GS.zA ?_)
  refine GS.endB (GS.region ?_)
  refine X.opR rfl (X.addE rfl rfl) rfl (X.q rfl (GS.zA ?_))
  have hE := Option.some.inj hM
  exact X.gc [some 0] (hc_5 (w64 (x8 + 1), (put l5 x8 1073741824)) hE.symm) rfl rfl rfl (zO rfl ⟨9, rfl⟩ (zO rfl ⟨9, rfl⟩ (zO rfl (QO X.jv ⟨9, rfl⟩) (ga rfl rfl)))) (zQ 9 rfl rfl (fun _ => rfl) zM)
 replace hM := zb h_11 hM
 refine GS.exit rfl ?_
 obtain ⟨y_1, hM, hy⟩ := ZV hM
 rw [hr_1 _ hy.symm] at hM
 exact X.gc [some 0] (hj_1 l5 hM) rfl rfl rfl (ga rfl rfl) (zQ 9 rfl rfl (fun _ => rfl) zM)
end Go.Proofs.YtnkngglimidldaaGreat
