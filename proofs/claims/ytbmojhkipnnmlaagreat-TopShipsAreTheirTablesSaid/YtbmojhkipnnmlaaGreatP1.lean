/- The program's functions compute the plain ones. Conditions: none. Printed by a program (wip/tools/xg.py). -/
import Derived.Test.YtbmojhkipnnmlaaGreatTok
import Derived.Test.YtbmojhkipnnmlaaGreatSrt
import Derived.Test.YtbmojhkipnnmlaaGreatM
set_option linter.unusedVariables false
set_option linter.unusedSimpArgs false
namespace Go.Proofs.YtbmojhkipnnmlaaGreat
open Go Go.Am Go.Proofs Go.Mx
noncomputable def CC : Cfg := cfg (Ct Tryz.prog)
theorem CC_ok : CC.OK := cfg_ok fun f args v h => h
abbrev e_api_Hold (x : api_Hold) : V := .agg [(V.i x.ID), (V.i x.Room), (V.i x.Lever), (V.i x.Height)]
abbrev e_api_Knot (x : api_Knot) : V := .agg [(V.i x.X), (V.i x.Y)]
abbrev e_api_Curve (x : api_Curve) : V := .agg [(V.sl (List.map e_api_Knot x.Knots)), (V.i x.Err)]
abbrev e_api_Ship (x : api_Ship) : V := .agg [(V.i x.ID), (V.i x.Light), (V.i x.Lever), (V.i x.Height), (V.sl (List.map e_api_Hold x.Holds)), (V.sl (List.map e_api_Knot x.Mean.Knots)), (V.i x.Mean.Err), (V.sl (List.map e_api_Knot x.Mtac.Knots)), (V.i x.Mtac.Err), (V.i x.Turn), (V.i x.Least)]
abbrev e_api_Span (x : api_Span) : V := .agg [(V.i x.Lo), (V.i x.Hi)]
abbrev e_api_Load (x : api_Load) : V := .agg [(V.sl (List.map e_api_Span x.Holds)), (V.i x.All.Lo), (V.i x.All.Hi)]
theorem ok_top_slight (s : api_Ship) (l : api_Load) : Ct Tryz.prog 6 [(e_api_Ship s), (e_api_Load l)] (V.b (top_slight s l)) := by
 refine ct_of_gs CC_ok rfl ?_
 generalize hM : top_slight s l = r
 unfold top_slight at hM
 refine X.sq ?_
 iterate 2 refine X.opW rfl rfl rfl rfl ?_
 refine X.q rfl (X.nq ?_)
 refine X.mid [(4, (V.b ((((((decide ((s.Holds.length : Int) ≤ 6)) && (decide ((s.Mean.Knots.length : Int) ≤ 40))) && (decide ((s.Mtac.Knots.length : Int) ≤ 40))) && (decide ((l.Holds.length : Int) ≤ 6))) && (decide ((w64 (l.All.Hi - l.All.Lo)) ≤ 300))) && (decide (l.All.Lo ≤ l.All.Hi)))))] ?_ ?_
 ·intro hg
  refine X.split (decide ((s.Holds.length : Int) ≤ 6)) (fun h_1 => ?_) (fun h_1 => ?_)
  ·refine X.split (((decide ((s.Holds.length : Int) ≤ 6)) && (decide ((s.Mean.Knots.length : Int) ≤ 40)))) (fun h_2 => ?_) (fun h_2 => ?_)
   ·refine X.split ((((decide ((s.Holds.length : Int) ≤ 6)) && (decide ((s.Mean.Knots.length : Int) ≤ 40))) && (decide ((s.Mtac.Knots.length : Int) ≤ 40)))) (fun h_3 => ?_) (fun h_3 => ?_)
    ·refine X.split (((((decide ((s.Holds.length : Int) ≤ 6)) && (decide ((s.Mean.Knots.length : Int) ≤ 40))) && (decide ((s.Mtac.Knots.length : Int) ≤ 40))) && (decide ((l.Holds.length : Int) ≤ 6)))) (fun h_4 => ?_) (fun h_4 => ?_)
     ·refine X.split ((((((decide ((s.Holds.length : Int) ≤ 6)) && (decide ((s.Mean.Knots.length : Int) ≤ 40))) && (decide ((s.Mtac.Knots.length : Int) ≤ 40))) && (decide ((l.Holds.length : Int) ≤ 6))) && (decide ((w64 (l.All.Hi - l.All.Lo)) ≤ 300)))) (fun h_5 => ?_) (fun h_5 => ?_)
      ·iterate 2 refine X.q rfl ?_
       refine X.opR rfl (X.lenF rfl rfl rfl) rfl (X.q rfl (X.q rfl ?_))
       iterate 3 refine X.opR (X.on_t rfl rfl rfl h_1) rfl rfl ?_
       refine X.opR (X.on_t rfl rfl rfl h_1) (X.lenF rfl rfl rfl) rfl ?_
       refine X.opR (X.on_t rfl rfl rfl h_1) rfl rfl ?_
       refine X.opR rfl (X.pickand_t (y := decide ((s.Mean.Knots.length : Int) ≤ 40)) rfl h_1 rfl) rfl (X.q rfl ?_)
       iterate 3 refine X.opR (X.on_t rfl rfl rfl h_2) rfl rfl ?_
       refine X.opR (X.on_t rfl rfl rfl h_2) (X.lenF rfl rfl rfl) rfl ?_
       refine X.opR (X.on_t rfl rfl rfl h_2) rfl rfl ?_
       refine X.opR rfl (X.pickand_t (y := decide ((s.Mtac.Knots.length : Int) ≤ 40)) rfl h_2 rfl) rfl (X.q rfl ?_)
       iterate 2 refine X.opR (X.on_t rfl rfl rfl h_3) rfl rfl ?_
       refine X.opR (X.on_t rfl rfl rfl h_3) (X.lenF rfl rfl rfl) rfl ?_
       refine X.opR (X.on_t rfl rfl rfl h_3) rfl rfl ?_
       refine X.opR rfl (X.pickand_t (y := decide ((l.Holds.length : Int) ≤ 6)) rfl h_3 rfl) rfl (X.q rfl ?_)
       iterate 6 refine X.opR (X.on_t rfl rfl rfl h_4) rfl rfl ?_
       refine X.opR (X.on_t rfl rfl rfl h_4) (X.subE rfl rfl) rfl ?_
       refine X.opR (X.on_t rfl rfl rfl h_4) rfl rfl ?_
       refine X.opR rfl (X.pickand_t (y := decide ((w64 (l.All.Hi - l.All.Lo)) ≤ 300)) rfl h_4 rfl) rfl (X.q rfl ?_)
       iterate 7 refine X.opR (X.on_t rfl rfl rfl h_5) rfl rfl ?_
       refine X.opR rfl (X.pickand_t (y := decide (l.All.Lo ≤ l.All.Hi)) rfl h_5 rfl) rfl (X.q rfl (GS.opsNil ?_))
       exact X.norm _ hg rfl (sr rfl)
      refine X.q rfl (X.q rfl ?_)
      refine X.opR rfl (X.lenF rfl rfl rfl) rfl (X.q rfl (X.q rfl ?_))
      iterate 3 refine X.opR (X.on_t rfl rfl rfl h_1) rfl rfl ?_
      refine X.opR (X.on_t rfl rfl rfl h_1) (X.lenF rfl rfl rfl) rfl ?_
      refine X.opR (X.on_t rfl rfl rfl h_1) rfl rfl ?_
      refine X.opR rfl (X.pickand_t (y := decide ((s.Mean.Knots.length : Int) ≤ 40)) rfl h_1 rfl) rfl (X.q rfl ?_)
      iterate 3 refine X.opR (X.on_t rfl rfl rfl h_2) rfl rfl ?_
      refine X.opR (X.on_t rfl rfl rfl h_2) (X.lenF rfl rfl rfl) rfl ?_
      refine X.opR (X.on_t rfl rfl rfl h_2) rfl rfl ?_
      refine X.opR rfl (X.pickand_t (y := decide ((s.Mtac.Knots.length : Int) ≤ 40)) rfl h_2 rfl) rfl (X.q rfl ?_)
      iterate 2 refine X.opR (X.on_t rfl rfl rfl h_3) rfl rfl ?_
      refine X.opR (X.on_t rfl rfl rfl h_3) (X.lenF rfl rfl rfl) rfl ?_
      refine X.opR (X.on_t rfl rfl rfl h_3) rfl rfl ?_
      refine X.opR rfl (X.pickand_t (y := decide ((l.Holds.length : Int) ≤ 6)) rfl h_3 rfl) rfl (X.q rfl ?_)
      iterate 6 refine X.opR (X.on_t rfl rfl rfl h_4) rfl rfl ?_
      refine X.opR (X.on_t rfl rfl rfl h_4) (X.subE rfl rfl) rfl ?_
      refine X.opR (X.on_t rfl rfl rfl h_4) rfl rfl ?_
      refine X.opR rfl (X.pickand_t (y := decide ((w64 (l.All.Hi - l.All.Lo)) ≤ 300)) rfl h_4 rfl) rfl (X.q rfl ?_)
      iterate 7 refine X.off (X.off_t rfl rfl rfl h_5) rfl ?_
      refine X.opR rfl (X.pickand_f (y := decide (l.All.Lo ≤ l.All.Hi)) rfl h_5 rfl) rfl (X.q rfl (GS.opsNil ?_))
      exact X.norm _ hg rfl (sr rfl)
     refine X.q rfl (X.q rfl ?_)
     refine X.opR rfl (X.lenF rfl rfl rfl) rfl (X.q rfl (X.q rfl ?_))
     iterate 3 refine X.opR (X.on_t rfl rfl rfl h_1) rfl rfl ?_
     refine X.opR (X.on_t rfl rfl rfl h_1) (X.lenF rfl rfl rfl) rfl ?_
     refine X.opR (X.on_t rfl rfl rfl h_1) rfl rfl ?_
     refine X.opR rfl (X.pickand_t (y := decide ((s.Mean.Knots.length : Int) ≤ 40)) rfl h_1 rfl) rfl (X.q rfl ?_)
     iterate 3 refine X.opR (X.on_t rfl rfl rfl h_2) rfl rfl ?_
     refine X.opR (X.on_t rfl rfl rfl h_2) (X.lenF rfl rfl rfl) rfl ?_
     refine X.opR (X.on_t rfl rfl rfl h_2) rfl rfl ?_
     refine X.opR rfl (X.pickand_t (y := decide ((s.Mtac.Knots.length : Int) ≤ 40)) rfl h_2 rfl) rfl (X.q rfl ?_)
     iterate 2 refine X.opR (X.on_t rfl rfl rfl h_3) rfl rfl ?_
     refine X.opR (X.on_t rfl rfl rfl h_3) (X.lenF rfl rfl rfl) rfl ?_
     refine X.opR (X.on_t rfl rfl rfl h_3) rfl rfl ?_
     refine X.opR rfl (X.pickand_t (y := decide ((l.Holds.length : Int) ≤ 6)) rfl h_3 rfl) rfl (X.q rfl ?_)
     iterate 8 refine X.off (X.off_t rfl rfl rfl h_4) rfl ?_
     refine X.opR rfl (X.pickand_f (y := decide ((w64 (l.All.Hi - l.All.Lo)) ≤ 300)) rfl h_4 rfl) rfl (X.q rfl ?_)
     iterate 7 refine X.off (X.off_t rfl rfl rfl (X.and_ff h_4)) rfl ?_
     refine X.opR rfl (X.pickand_f (y := decide (l.All.Lo ≤ l.All.Hi)) rfl (X.and_ff h_4) rfl) rfl (X.q rfl (GS.opsNil ?_))
     exact X.norm _ hg rfl (sr rfl)
    refine X.q rfl (X.q rfl ?_)
    refine X.opR rfl (X.lenF rfl rfl rfl) rfl (X.q rfl (X.q rfl ?_))
    iterate 3 refine X.opR (X.on_t rfl rfl rfl h_1) rfl rfl ?_
    refine X.opR (X.on_t rfl rfl rfl h_1) (X.lenF rfl rfl rfl) rfl ?_
    refine X.opR (X.on_t rfl rfl rfl h_1) rfl rfl ?_
    refine X.opR rfl (X.pickand_t (y := decide ((s.Mean.Knots.length : Int) ≤ 40)) rfl h_1 rfl) rfl (X.q rfl ?_)
    iterate 3 refine X.opR (X.on_t rfl rfl rfl h_2) rfl rfl ?_
    refine X.opR (X.on_t rfl rfl rfl h_2) (X.lenF rfl rfl rfl) rfl ?_
    refine X.opR (X.on_t rfl rfl rfl h_2) rfl rfl ?_
    refine X.opR rfl (X.pickand_t (y := decide ((s.Mtac.Knots.length : Int) ≤ 40)) rfl h_2 rfl) rfl (X.q rfl ?_)
    iterate 4 refine X.off (X.off_t rfl rfl rfl h_3) rfl ?_
    refine X.opR rfl (X.pickand_f (y := decide ((l.Holds.length : Int) ≤ 6)) rfl h_3 rfl) rfl (X.q rfl ?_)
    iterate 8 refine X.off (X.off_t rfl rfl rfl (X.and_ff h_3)) rfl ?_
    refine X.opR rfl (X.pickand_f (y := decide ((w64 (l.All.Hi - l.All.Lo)) ≤ 300)) rfl (X.and_ff h_3) rfl) rfl (X.q rfl ?_)
    iterate 7 refine X.off (X.off_t rfl rfl rfl (X.and_ff (X.and_ff h_3))) rfl ?_
    refine X.opR rfl (X.pickand_f (y := decide (l.All.Lo ≤ l.All.Hi)) rfl (X.and_ff (X.and_ff h_3)) rfl) rfl (X.q rfl (GS.opsNil ?_))
    exact X.norm _ hg rfl (sr rfl)
   refine X.q rfl (X.q rfl ?_)
   refine X.opR rfl (X.lenF rfl rfl rfl) rfl (X.q rfl (X.q rfl ?_))
   iterate 3 refine X.opR (X.on_t rfl rfl rfl h_1) rfl rfl ?_
   refine X.opR (X.on_t rfl rfl rfl h_1) (X.lenF rfl rfl rfl) rfl ?_
   refine X.opR (X.on_t rfl rfl rfl h_1) rfl rfl ?_
   refine X.opR rfl (X.pickand_t (y := decide ((s.Mean.Knots.length : Int) ≤ 40)) rfl h_1 rfl) rfl (X.q rfl ?_)
   iterate 5 refine X.off (X.off_t rfl rfl rfl h_2) rfl ?_
   refine X.opR rfl (X.pickand_f (y := decide ((s.Mtac.Knots.length : Int) ≤ 40)) rfl h_2 rfl) rfl (X.q rfl ?_)
   iterate 4 refine X.off (X.off_t rfl rfl rfl (X.and_ff h_2)) rfl ?_
   refine X.opR rfl (X.pickand_f (y := decide ((l.Holds.length : Int) ≤ 6)) rfl (X.and_ff h_2) rfl) rfl (X.q rfl ?_)
   iterate 8 refine X.off (X.off_t rfl rfl rfl (X.and_ff (X.and_ff h_2))) rfl ?_
   refine X.opR rfl (X.pickand_f (y := decide ((w64 (l.All.Hi - l.All.Lo)) ≤ 300)) rfl (X.and_ff (X.and_ff h_2)) rfl) rfl (X.q rfl ?_)
   iterate 7 refine X.off (X.off_t rfl rfl rfl (X.and_ff (X.and_ff (X.and_ff h_2)))) rfl ?_
   refine X.opR rfl (X.pickand_f (y := decide (l.All.Lo ≤ l.All.Hi)) rfl (X.and_ff (X.and_ff (X.and_ff h_2))) rfl) rfl (X.q rfl (GS.opsNil ?_))
   exact X.norm _ hg rfl (sr rfl)
  refine X.q rfl (X.q rfl ?_)
  refine X.opR rfl (X.lenF rfl rfl rfl) rfl (X.q rfl (X.q rfl ?_))
  iterate 5 refine X.off (X.off_t rfl rfl rfl h_1) rfl ?_
  refine X.opR rfl (X.pickand_f (y := decide ((s.Mean.Knots.length : Int) ≤ 40)) rfl h_1 rfl) rfl (X.q rfl ?_)
  iterate 5 refine X.off (X.off_t rfl rfl rfl (X.and_ff h_1)) rfl ?_
  refine X.opR rfl (X.pickand_f (y := decide ((s.Mtac.Knots.length : Int) ≤ 40)) rfl (X.and_ff h_1) rfl) rfl (X.q rfl ?_)
  iterate 4 refine X.off (X.off_t rfl rfl rfl (X.and_ff (X.and_ff h_1))) rfl ?_
  refine X.opR rfl (X.pickand_f (y := decide ((l.Holds.length : Int) ≤ 6)) rfl (X.and_ff (X.and_ff h_1)) rfl) rfl (X.q rfl ?_)
  iterate 8 refine X.off (X.off_t rfl rfl rfl (X.and_ff (X.and_ff (X.and_ff h_1)))) rfl ?_
  refine X.opR rfl (X.pickand_f (y := decide ((w64 (l.All.Hi - l.All.Lo)) ≤ 300)) rfl (X.and_ff (X.and_ff (X.and_ff h_1))) rfl) rfl (X.q rfl ?_)
  iterate 7 refine X.off (X.off_t rfl rfl rfl (X.and_ff (X.and_ff (X.and_ff (X.and_ff h_1))))) rfl ?_
  refine X.opR rfl (X.pickand_f (y := decide (l.All.Lo ≤ l.All.Hi)) rfl (X.and_ff (X.and_ff (X.and_ff (X.and_ff h_1)))) rfl) rfl (X.q rfl (GS.opsNil ?_))
  exact X.norm _ hg rfl (sr rfl)
 subst hM
 exact GS.ret ⟨_, rfl, ⟨30, rfl⟩⟩
theorem ok_hull_within (n : Int) (lo : Int) (hi : Int) : Ct Tryz.prog 46 [(V.i n), (V.i lo), (V.i hi)] (V.b (hull_within n lo hi)) := by
 refine ct_of_gs CC_ok rfl ?_
 generalize hM : hull_within n lo hi = r
 unfold hull_within at hM
 refine X.sq (X.q rfl (X.nq ?_))
 refine X.mid [(6, (V.b ((decide (lo ≤ n)) && (decide (n ≤ hi)))))] ?_ ?_
 ·intro hg
  refine X.split (decide (lo ≤ n)) (fun h_1 => ?_) (fun h_1 => ?_)
  ·iterate 4 refine X.q rfl ?_
   iterate 3 refine X.opR (X.on_t rfl rfl rfl h_1) rfl rfl ?_
   refine X.opR rfl (X.pickand_t (y := decide (n ≤ hi)) rfl h_1 rfl) rfl (X.q rfl (GS.opsNil ?_))
   exact X.norm _ hg rfl (sr rfl)
  iterate 4 refine X.q rfl ?_
  iterate 3 refine X.off (X.off_t rfl rfl rfl h_1) rfl ?_
  refine X.opR rfl (X.pickand_f (y := decide (n ≤ hi)) rfl h_1 rfl) rfl (X.q rfl (GS.opsNil ?_))
  exact X.norm _ hg rfl (sr rfl)
 subst hM
 exact GS.ret ⟨_, rfl, ⟨30, rfl⟩⟩
theorem ok_hull_placed (lever : Int) (height : Int) : Ct Tryz.prog 101 [(V.i lever), (V.i height)] (V.b (hull_placed lever height)) := by
 refine ct_of_gs CC_ok rfl ?_
 generalize hM : hull_placed lever height = r
 unfold hull_placed at hM
 refine X.sq (X.q rfl (X.nq ?_))
 refine X.mid [(4, (V.b ((hull_within lever (-20000) 20000) && (hull_within height 0 5000))))] ?_ ?_
 ·intro hg
  refine X.split ((hull_within lever (-20000) 20000)) (fun h_1 => ?_) (fun h_1 => ?_)
  ·refine X.q rfl ?_
   refine X.call (ok_hull_within lever (-20000) 20000) rfl rfl rfl (.cons (.shut (n := 9) rfl) (.cons (.shut (n := 9) rfl) (.cons (.shut (n := 9) rfl) .nil))) (X.q rfl ?_)
   refine X.opR (X.on_t rfl rfl rfl h_1) rfl rfl ?_
   refine X.call (ok_hull_within height 0 5000) (X.on_t rfl rfl rfl h_1) rfl rfl (.cons (.shut (n := 9) rfl) (.cons (.shut (n := 9) rfl) (.cons (.shut (n := 9) rfl) .nil))) ?_
   refine X.opR rfl (X.pickand_t (y := (hull_within height 0 5000)) rfl h_1 rfl) rfl (X.q rfl (GS.opsNil ?_))
   exact X.norm _ hg rfl (sr rfl)
  refine X.q rfl ?_
  refine X.call (ok_hull_within lever (-20000) 20000) rfl rfl rfl (.cons (.shut (n := 9) rfl) (.cons (.shut (n := 9) rfl) (.cons (.shut (n := 9) rfl) .nil))) (X.q rfl ?_)
  iterate 2 refine X.off (X.off_t rfl rfl rfl h_1) rfl ?_
  refine X.opR rfl (X.pickand_f (y := (hull_within height 0 5000)) rfl h_1 rfl) rfl (X.q rfl (GS.opsNil ?_))
  exact X.norm _ hg rfl (sr rfl)
 subst hM
 exact GS.ret ⟨_, rfl, ⟨30, rfl⟩⟩
theorem ok_hull_Check_1 (x : api_Hold) (c : api_Hold) : Ct Tryz.prog 103 [(e_api_Hold x), (V.fptr [(e_api_Hold c)] 0 0)] (V.b (hull_Check_1 x c)) := by
 refine ct_of_gs CC_ok rfl ?_
 generalize hM : hull_Check_1 x c = r
 unfold hull_Check_1 at hM
 refine X.sq ?_
 refine X.opW rfl rfl rfl rfl (X.q rfl (X.nq ?_))
 iterate 6 refine X.q rfl ?_
 refine GS.opsNil ?_
 subst hM
 exact GS.ret ⟨_, rfl, ⟨30, rfl⟩⟩
theorem ok_slices_IndexFunc_api_Hold__hull_Check_1 {s : (List api_Hold)} {c : api_Hold} {r : Int} (hM : slices_IndexFunc_api_Hold__hull_Check_1 s c = some r) : Ct Tryz.prog 189 [(V.sl (List.map e_api_Hold s)), (V.fn 103 [(V.fptr [(e_api_Hold c)] 0 0)])] (V.i r) := by
 refine ct_of_gs CC_ok rfl ?_
 unfold slices_IndexFunc_api_Hold__hull_Check_1 at hM
 refine X.sq (X.q rfl (GS.opsNil (GS.seq (X.sq (X.q rfl ?_)))))
 refine X.opR rfl (X.lenF rfl rfl rfl) rfl (X.q rfl (GS.opsNil ?_))
 refine X.join (τ := Unit) (fun v => slices_IndexFunc_api_Hold__hull_Check_1_j1 = some r) (fun v => ⟨[], [], 0, none, 19⟩) ?_ ?_
 ·intro _ hM
  replace hM : slices_IndexFunc_api_Hold__hull_Check_1_j1 = some r := hM
  unfold slices_IndexFunc_api_Hold__hull_Check_1_j1 at hM
  refine X.sq (X.q rfl (GS.opsNil ?_))
  cases hM
  exact GS.ret ⟨_, rfl, ⟨30, rfl⟩⟩
 intro hj_1
 refine GS.block ?_
 refine X.gc [] (X.loop (σ := Int) (fun v => ⟨[(0, (V.sl (List.map e_api_Hold s))), (1, (V.fn 103 [(V.fptr [(e_api_Hold c)] 0 0)])), (7, (V.i (s.length : Int))), (8, (V.i v))], [], 0, none, 19⟩) hM ?_ rfl) rfl rfl rfl (ga rfl rfl) (gb_nil)
 intro x1 b_1 hM hc_2 hr_1
 rw [slices_IndexFunc_api_Hold__hull_Check_1_b2] at hM
 refine X.sq (X.q rfl (GS.opsNil (GS.seq ?_)))
 refine X.cond rfl (fun h_1 => ?_) (fun h_1 => ?_)
 ·replace hM := ite_t h_1 hM
  refine GS.skip (GS.seq (GS.block (X.sq (X.q rfl (X.q rfl ?_)))))
  refine GS.opsNil (GS.seq ?_)
  obtain ⟨x, h_2, hM⟩ := bind_of hM
  refine GS.region (X.q rfl (X.q rfl (X.q rfl ?_)))
  refine X.opR rfl (X.indexF (f := e_api_Hold) h_2 (fun _ => rfl) rfl rfl rfl rfl) rfl ?_
  refine X.opR rfl (X.loadF h_2 rfl rfl rfl) rfl ?_
  refine X.call (ok_hull_Check_1 x c) rfl rfl rfl (.cons (.shut (n := 9) rfl) (.cons (.shut (n := 9) rfl) .nil)) (GS.opsNil ?_)
  refine X.cond rfl (fun h_3 => ?_) (fun h_3 => ?_)
  ·replace hM := ite_t h_3 hM
   refine X.sq (X.q rfl (X.q rfl ?_))
   refine GS.opsNil ?_
   have hE := Option.some.inj hM
   replace hE := hr_1 _ hE.symm
   subst hE
   exact GS.ret ⟨_, rfl, ⟨30, rfl⟩⟩
  replace hM := ite_f h_3 hM
  refine GS.skip ?_
  refine GS.endB (GS.region ?_)
  refine X.opR rfl (X.addE rfl rfl) rfl (X.q rfl (GS.opsNil ?_))
  have hE := Option.some.inj hM
  exact X.gc [] (hc_2 (w64 (x1 + 1)) hE.symm) rfl rfl rfl (ga rfl rfl) (gb_nil)
 replace hM := ite_f h_1 hM
 refine GS.exit rfl ?_
 obtain ⟨y_1, hM, hy⟩ := map_of hM
 rw [hr_1 _ hy.symm] at hM
 exact X.gc [] (hj_1 () hM) rfl rfl rfl (gk_nil) (gb_nil)
theorem ok_slices_ContainsFunc_api_Hold__hull_Check_1 {s : (List api_Hold)} {c : api_Hold} {r : Bool} (hM : slices_ContainsFunc_api_Hold__hull_Check_1 s c = some r) : Ct Tryz.prog 102 [(V.sl (List.map e_api_Hold s)), (V.fn 103 [(V.fptr [(e_api_Hold c)] 0 0)])] (V.b r) := by
 refine ct_of_gs CC_ok rfl ?_
 unfold slices_ContainsFunc_api_Hold__hull_Check_1 at hM
 refine X.sq (X.q rfl (GS.opsNil (GS.seq ?_)))
 obtain ⟨y, h_1, hM⟩ := bind_of hM
 refine GS.region (X.q rfl (X.q rfl ?_))
 refine X.call (ok_slices_IndexFunc_api_Hold__hull_Check_1 h_1) rfl rfl rfl (.cons (.shut (n := 9) rfl) (.cons (.shut (n := 9) rfl) .nil)) (X.q rfl (X.q rfl ?_))
 refine GS.opsNil ?_
 cases hM
 exact GS.ret ⟨_, rfl, ⟨30, rfl⟩⟩
theorem ok_hull_rooms {s : api_Ship} {r : Int} (hM : hull_rooms s = some r) : Ct Tryz.prog 47 [(e_api_Ship s)] (V.i r) := by
 refine ct_of_gs CC_ok rfl ?_
 unfold hull_rooms at hM
 refine X.sq ?_
 refine X.opW rfl rfl rfl rfl (X.q rfl (X.nq (X.q rfl (X.q rfl (X.q rfl ?_)))))
 refine GS.opsNil (GS.seq (X.sq (X.q rfl (X.q rfl ?_))))
 refine X.opR rfl (X.lenF rfl rfl rfl) rfl (X.q rfl (GS.opsNil ?_))
 refine X.join (τ := Int) (fun v => hull_rooms_j1 v = some r) (fun v => ⟨[(3, (V.i v))], [], 0, none, 21⟩) ?_ ?_
 ·intro n hM
  replace hM : hull_rooms_j1 n = some r := hM
  unfold hull_rooms_j1 at hM
  refine X.sq (X.q rfl (X.q rfl ?_))
  refine GS.opsNil ?_
  cases hM
  exact GS.ret ⟨_, rfl, ⟨30, rfl⟩⟩
 intro hj_1
 refine GS.block ?_
 refine X.gc [] (X.loop (σ := (Int × Int)) (fun v => ⟨[(3, (V.i v.1)), (9, (V.sl (List.map e_api_Hold s.Holds))), (10, (V.i (s.Holds.length : Int))), (11, (V.i v.2))], [], 0, none, 21⟩) hM ?_ rfl) rfl rfl rfl (ga rfl rfl) (gb_nil)
 rintro ⟨n1, x1⟩ b_1 hM hc_2 hr_1
 rw [hull_rooms_b2] at hM
 refine X.sq (X.q rfl (GS.opsNil (GS.seq ?_)))
 refine X.cond rfl (fun h_1 => ?_) (fun h_1 => ?_)
 ·replace hM := ite_t h_1 hM
  refine GS.skip (GS.seq (GS.block (GS.seq ?_)))
  obtain ⟨x, h_2, hM⟩ := bind_of hM
  refine GS.region ?_
  refine X.opR rfl (X.indexF (f := e_api_Hold) h_2 (fun _ => rfl) rfl rfl rfl rfl) rfl ?_
  refine X.opR rfl (X.loadF h_2 rfl rfl rfl) rfl ?_
  refine X.opW rfl rfl rfl rfl ?_
  refine X.op0W rfl rfl rfl (X.mq (X.q rfl (X.q rfl (X.q rfl ?_))))
  refine X.opR rfl (X.addE rfl rfl) rfl (X.q rfl (GS.opsNil ?_))
  refine GS.endB (GS.region ?_)
  refine X.opR rfl (X.addE rfl rfl) rfl (X.q rfl (GS.opsNil ?_))
  have hE := Option.some.inj hM
  exact X.gc [] (hc_2 (w64 (n1 + x.Room), w64 (x1 + 1)) hE.symm) rfl rfl rfl (ga rfl rfl) (gb_nil)
 replace hM := ite_f h_1 hM
 refine GS.exit rfl ?_
 obtain ⟨y_1, hM, hy⟩ := map_of hM
 rw [hr_1 _ hy.symm] at hM
 exact X.gc [] (hj_1 n1 hM) rfl rfl rfl (ga rfl rfl) (gb_nil)
theorem ok_curve_within (n : Int) (lo : Int) (hi : Int) : Ct Tryz.prog 55 [(V.i n), (V.i lo), (V.i hi)] (V.b (curve_within n lo hi)) := by
 refine ct_of_gs CC_ok rfl ?_
 generalize hM : curve_within n lo hi = r
 unfold curve_within at hM
 refine X.sq (X.q rfl (X.nq ?_))
 refine X.mid [(6, (V.b ((decide (lo ≤ n)) && (decide (n ≤ hi)))))] ?_ ?_
 ·intro hg
  refine X.split (decide (lo ≤ n)) (fun h_1 => ?_) (fun h_1 => ?_)
  ·iterate 4 refine X.q rfl ?_
   iterate 3 refine X.opR (X.on_t rfl rfl rfl h_1) rfl rfl ?_
   refine X.opR rfl (X.pickand_t (y := decide (n ≤ hi)) rfl h_1 rfl) rfl (X.q rfl (GS.opsNil ?_))
   exact X.norm _ hg rfl (sr rfl)
  iterate 4 refine X.q rfl ?_
  iterate 3 refine X.off (X.off_t rfl rfl rfl h_1) rfl ?_
  refine X.opR rfl (X.pickand_f (y := decide (n ≤ hi)) rfl h_1 rfl) rfl (X.q rfl (GS.opsNil ?_))
  exact X.norm _ hg rfl (sr rfl)
 subst hM
 exact GS.ret ⟨_, rfl, ⟨30, rfl⟩⟩
theorem ok_curve_Check {c : api_Curve} {r : Int} (hM : curve_Check c = some r) : Ct Tryz.prog 53 [(e_api_Curve c)] (V.i r) := by
 refine ct_of_gs CC_ok rfl ?_
 unfold curve_Check at hM
 refine X.sq ?_
 refine X.opW rfl rfl rfl rfl (X.q rfl (GS.opsNil (GS.seq (GS.block (X.sq (X.q rfl (X.q rfl ?_)))))))
 refine X.opR rfl (X.lenF rfl rfl rfl) rfl (X.q rfl (X.q rfl ?_))
 refine GS.opsNil ?_
 refine X.cond rfl (fun h_1 => ?_) (fun h_1 => ?_)
 ·replace hM := ite_t h_1 hM
  refine X.sq (X.q rfl (GS.opsNil ?_))
  cases hM
  exact GS.ret ⟨_, rfl, ⟨30, rfl⟩⟩
 replace hM := ite_f h_1 hM
 refine X.sq ?_
 refine X.mid [(1, (V.ptr 0 0 0)), (11, (V.b ((decide ((c.Knots.length : Int) = 0)) || (!(curve_within c.Err 0 4000)))))] ?_ ?_
 ·intro hg
  refine X.split (decide ((c.Knots.length : Int) = 0)) (fun h_2 => ?_) (fun h_2 => ?_)
  ·iterate 2 refine X.q rfl ?_
   refine X.opR rfl (X.lenF rfl rfl rfl) rfl (X.q rfl (X.q rfl ?_))
   iterate 4 refine X.off (X.off_f rfl rfl rfl h_2) rfl ?_
   refine X.opR rfl (X.pickor_t (y := !(curve_within c.Err 0 4000)) rfl h_2 rfl) rfl (X.q rfl (GS.opsNil ?_))
   exact X.norm _ hg rfl (sr rfl)
  refine X.q rfl (X.q rfl ?_)
  refine X.opR rfl (X.lenF rfl rfl rfl) rfl (X.q rfl (X.q rfl ?_))
  iterate 2 refine X.opR (X.on_f rfl rfl rfl h_2) rfl rfl ?_
  refine X.call (ok_curve_within c.Err 0 4000) (X.on_f rfl rfl rfl h_2) rfl rfl (.cons (.shut (n := 9) rfl) (.cons (.shut (n := 9) rfl) (.cons (.shut (n := 9) rfl) .nil))) ?_
  refine X.opR (X.on_f rfl rfl rfl h_2) rfl rfl ?_
  refine X.opR rfl (X.pickor_f (y := !(curve_within c.Err 0 4000)) rfl h_2 rfl) rfl (X.q rfl (GS.opsNil ?_))
  exact X.norm _ hg rfl (sr rfl)
 refine X.cond rfl (fun h_3 => ?_) (fun h_3 => ?_)
 ·replace hM := ite_t h_3 hM
  refine X.sq (X.q rfl (GS.opsNil ?_))
  cases hM
  exact GS.ret ⟨_, rfl, ⟨30, rfl⟩⟩
 replace hM := ite_f h_3 hM
 refine GS.skip ?_
 refine GS.endB (X.sq (X.q rfl (GS.opsNil (GS.seq (X.sq (X.q rfl (X.q rfl ?_)))))))
 refine X.opR rfl (X.lenF rfl rfl rfl) rfl (X.q rfl (GS.opsNil ?_))
 refine X.join (τ := Unit) (fun v => curve_Check_j1 = some r) (fun v => ⟨[], [], 0, none, 44⟩) ?_ ?_
 ·intro _ hM
  replace hM : curve_Check_j1 = some r := hM
  unfold curve_Check_j1 at hM
  refine X.sq (X.q rfl (GS.opsNil ?_))
  cases hM
  exact GS.ret ⟨_, rfl, ⟨30, rfl⟩⟩
 intro hj_1
 refine GS.block ?_
 refine X.gc [] (X.loop (σ := (Int × Int)) (fun v => ⟨[(3, (V.i v.1)), (23, (V.sl (List.map e_api_Knot c.Knots))), (24, (V.i (c.Knots.length : Int))), (25, (V.i v.2))], [], 0, none, 44⟩) hM ?_ rfl) rfl rfl rfl (ga rfl rfl) (gb_nil)
 rintro ⟨last, x1⟩ b_1 hM hc_2 hr_1
 rw [curve_Check_b2] at hM
 refine X.sq (X.q rfl (GS.opsNil (GS.seq ?_)))
 refine X.cond rfl (fun h_4 => ?_) (fun h_4 => ?_)
 ·replace hM := ite_t h_4 hM
  refine GS.skip (GS.seq (GS.block (GS.seq ?_)))
  obtain ⟨x, h_5, hM⟩ := bind_of hM
  refine GS.region ?_
  refine X.opR rfl (X.indexF (f := e_api_Knot) h_5 (fun _ => rfl) rfl rfl rfl rfl) rfl ?_
  refine X.opR rfl (X.loadF h_5 rfl rfl rfl) rfl ?_
  refine X.opW rfl rfl rfl rfl ?_
  refine X.op0W rfl rfl rfl (GS.opsNil (GS.seq (X.sq ?_)))
  refine X.mid [(5, (V.ptr 0 0 0)), (23, (V.sl (List.map e_api_Knot c.Knots))), (24, (V.i (c.Knots.length : Int))), (25, (V.i x1)), (40, (V.b ((!(curve_within x.X (w64 (last + 1)) 2000)) || (!(curve_within x.Y (-65536) 65536)))))] ?_ ?_
  ·intro hg
   refine X.split (!(curve_within x.X (w64 (last + 1)) 2000)) (fun h_6 => ?_) (fun h_6 => ?_)
   ·iterate 3 refine X.q rfl ?_
    refine X.opR rfl (X.addE rfl rfl) rfl ?_
    refine X.call (ok_curve_within x.X (w64 (last + 1)) 2000) rfl rfl rfl (.cons (.shut (n := 9) rfl) (.cons (.shut (n := 9) rfl) (.cons (.shut (n := 9) rfl) .nil))) (X.q rfl (X.q rfl ?_))
    iterate 4 refine X.off (X.off_f rfl rfl rfl h_6) rfl ?_
    refine X.opR rfl (X.pickor_t (y := !(curve_within x.Y (-65536) 65536)) rfl h_6 rfl) rfl (GS.opsNil ?_)
    exact X.norm _ hg rfl (sr rfl)
   iterate 3 refine X.q rfl ?_
   refine X.opR rfl (X.addE rfl rfl) rfl ?_
   refine X.call (ok_curve_within x.X (w64 (last + 1)) 2000) rfl rfl rfl (.cons (.shut (n := 9) rfl) (.cons (.shut (n := 9) rfl) (.cons (.shut (n := 9) rfl) .nil))) (X.q rfl (X.q rfl ?_))
   iterate 2 refine X.opR (X.on_f rfl rfl rfl h_6) rfl rfl ?_
   refine X.call (ok_curve_within x.Y (-65536) 65536) (X.on_f rfl rfl rfl h_6) rfl rfl (.cons (.shut (n := 9) rfl) (.cons (.shut (n := 9) rfl) (.cons (.shut (n := 9) rfl) .nil))) ?_
   refine X.opR (X.on_f rfl rfl rfl h_6) rfl rfl ?_
   refine X.opR rfl (X.pickor_f (y := !(curve_within x.Y (-65536) 65536)) rfl h_6 rfl) rfl (GS.opsNil ?_)
   exact X.norm _ hg rfl (sr rfl)
  refine X.cond rfl (fun h_7 => ?_) (fun h_7 => ?_)
  ·replace hM := ite_t h_7 hM
   refine X.sq (X.q rfl (GS.opsNil ?_))
   have hE := Option.some.inj hM
   replace hE := hr_1 _ hE.symm
   subst hE
   exact GS.ret ⟨_, rfl, ⟨30, rfl⟩⟩
  replace hM := ite_f h_7 hM
  refine GS.skip (GS.region (X.q rfl (X.q rfl (X.q rfl ?_))))
  refine GS.opsNil ?_
  refine GS.endB (GS.region ?_)
  refine X.opR rfl (X.addE rfl rfl) rfl (X.q rfl (GS.opsNil ?_))
  have hE := Option.some.inj hM
  exact X.gc [] (hc_2 (x.X, w64 (x1 + 1)) hE.symm) rfl rfl rfl (ga rfl rfl) (gb_nil)
 replace hM := ite_f h_4 hM
 refine GS.exit rfl ?_
 obtain ⟨y_1, hM, hy⟩ := map_of hM
 rw [hr_1 _ hy.symm] at hM
 exact X.gc [] (hj_1 () hM) rfl rfl rfl (gk_nil) (gb_nil)
theorem ok_curve_pieces (c : api_Curve) : Ct Tryz.prog 112 [(e_api_Curve c)] (V.fn 194 [(V.fptr [(e_api_Curve (curve_pieces c))] 0 0)]) := by
 refine ct_of_gs CC_ok rfl ?_
 generalize hM : curve_pieces c = r
 unfold curve_pieces at hM
 refine X.sq ?_
 refine X.opW rfl rfl rfl rfl (X.q rfl (X.nq (X.q rfl (X.q rfl ?_))))
 refine GS.opsNil ?_
 subst hM
 exact GS.ret ⟨_, rfl, ⟨30, rfl⟩⟩
abbrev e_curve_piece (x : curve_piece) : V := .agg [(V.i x.p.X), (V.i x.p.Y), (V.i x.q.X), (V.i x.q.Y)]
theorem ok_curve_piece_rise (x : curve_piece) : Ct Tryz.prog 115 [(e_curve_piece x)] (V.i (curve_piece_rise x)) := by
 refine ct_of_gs CC_ok rfl ?_
 generalize hM : curve_piece_rise x = r
 unfold curve_piece_rise at hM
 refine X.sq ?_
 refine X.opW rfl rfl rfl rfl (X.q rfl (X.nq ?_))
 iterate 6 refine X.q rfl ?_
 refine X.opR rfl (X.subE rfl rfl) rfl (X.q rfl (GS.opsNil ?_))
 subst hM
 exact GS.ret ⟨_, rfl, ⟨30, rfl⟩⟩
set_option maxHeartbeats 4000000 in
theorem ok_curve_rising {c : api_Curve} {r : Int} (hM : curve_rising c = some r) : Ct Tryz.prog 190 [(e_api_Curve c)] (V.i r) := by
 refine ct_of_gs CC_ok rfl ?_
 unfold curve_rising at hM
 refine X.sq ?_
 refine X.opW rfl rfl rfl rfl (X.q rfl (X.nq ?_))
 iterate 2 refine X.opW rfl rfl rfl rfl ?_
 iterate 2 refine X.op0W rfl rfl rfl ?_
 refine GS.opsNil (GS.seq (X.sq (X.q rfl ?_)))
 refine X.call (ok_curve_pieces c) rfl rfl rfl (.cons (.shut (n := 9) rfl) .nil) (GS.opsNil (GS.block ?_))
 refine X.gc [some 1, some 2] (H' := [.rows 1 [(V.b true)], .rows 1 [(V.b true)]]) (K' := [(3, (V.ptr 0 0 0)), (4, (V.ptr 1 0 0)), (8, (V.fn 194 [(V.fptr [(e_api_Curve (curve_pieces c))] 0 0)]))]) ?_ rfl rfl rfl (ga rfl rfl) (gb9 rfl rfl rfl (gb9 rfl rfl rfl gb_nil))
 refine X.range rfl rfl (lowK_cons ⟨9, rfl⟩ (lowK_cons ⟨9, rfl⟩ (lowK_cons ⟨9, rfl⟩ lowK_nil))) rfl ?_
 intro R_1 hrn_1 hrK_1 hrp_1 hra_1 hrb_1 hlow_1
 refine X.sq (X.q rfl (GS.opsNil (GS.block ?_)))
 refine X.gc [] (X.loop (σ := (Int × Bool × Bool)) (fun v => ⟨[(0, (V.yld 2)), (1, (V.fptr [(e_api_Curve (curve_pieces c))] 0 0)), (3, (V.i v.1))], [.rows 1 [(V.b v.2.1)], .rows 1 [(V.b v.2.2)], lr R_1 .ready none], 0, none, 28⟩) hM ?_ rfl) rfl rfl rfl (ga rfl rfl) (gb9 rfl rfl rfl (gb9 rfl rfl rfl (gb_loop hlow_1 rfl rfl rfl gb_nil)))
 rintro ⟨i, up, down⟩ b_1 hM hc_1 hr_1
 rw [curve_rising_b1] at hM
 refine GS.seq (X.sq (X.q rfl (X.q rfl (X.q rfl ?_))))
 refine X.opR rfl (X.lenF rfl rfl rfl) rfl (X.q rfl (GS.opsNil ?_))
 refine X.cond rfl (fun h_2 => ?_) (fun h_2 => ?_)
 ·replace hM := ite_t h_2 hM
  refine GS.skip (GS.seq (GS.block (GS.seq ?_)))
  obtain ⟨x, h_3, hM⟩ := bind_of hM
  obtain ⟨x1, h_4, hM⟩ := bind_of hM
  refine X.drawCut 15 rfl (by kernel_rfl) (by kernel_rfl) ?_
  iterate 2 refine X.dop rfl rfl rfl rfl (by kernel_rfl) rfl rfl ?_
  refine X.dop rfl (X.subE rfl rfl) rfl rfl (by kernel_rfl) rfl rfl ?_
  iterate 3 refine X.dop rfl rfl rfl rfl (by kernel_rfl) rfl rfl ?_
  refine X.dop rfl (X.subE rfl rfl) rfl rfl (by kernel_rfl) rfl rfl ?_
  refine X.dop rfl (X.indexF (f := e_api_Knot) h_3 (fun _ => rfl) rfl rfl rfl rfl) rfl rfl (by kernel_rfl) rfl rfl ?_
  refine X.dop rfl (X.loadF h_3 rfl rfl rfl) rfl rfl (by kernel_rfl) rfl rfl ?_
  iterate 3 refine X.dop rfl rfl rfl rfl (by kernel_rfl) rfl rfl ?_
  refine X.dop rfl (X.indexF (f := e_api_Knot) h_4 (fun _ => rfl) rfl rfl rfl rfl) rfl rfl (by kernel_rfl) rfl rfl ?_
  refine X.dop rfl (X.loadF h_4 rfl rfl rfl) rfl rfl (by kernel_rfl) rfl rfl ?_
  refine X.dop rfl rfl rfl rfl (by kernel_rfl) rfl rfl ?_
  refine X.dnil ?_
  refine X.norm [(0, (V.yld 2)), (1, (V.fptr [(e_api_Curve (curve_pieces c))] 0 0)), (3, (V.i i)), (11, (V.yld 2)), (13, (V.i (w64 (i - 1)))), (25, (V.agg [(V.i x.X), (V.i x.Y), (V.i x1.X), (V.i x1.Y)]))] ?_ rfl (sr rfl)
  refine X.yld hrn_1 hrK_1 hrp_1 hra_1 hrb_1 rfl rfl rfl rfl rfl rfl (GS.region ?_)
  refine X.opW (H' := [.rows 1 [(V.b up)], .rows 1 [(V.b down)], lr R_1 .ready none, .rows 4 [(V.agg [(V.i 0), (V.i 0), (V.i 0), (V.i 0)])]]) rfl rfl rfl rfl ?_
  refine X.op0W (H' := [.rows 1 [(V.b up)], .rows 1 [(V.b down)], lr R_1 .ready none, .rows 4 [(V.agg [(V.i x.X), (V.i x.Y), (V.i x1.X), (V.i x1.Y)])]]) rfl rfl rfl (GS.opsNil ?_)
  refine GS.nil (X.begin' rfl rfl ?_ rfl)
  refine GS.block ?_
  refine X.midS ⟨[], [.rows 1 [(V.b (up && (decide (0 < (curve_piece_rise (⟨x, x1⟩ : curve_piece))))))], .rows 1 [(V.b (down && (decide ((curve_piece_rise (⟨x, x1⟩ : curve_piece)) < 0))))], lr R_1 .busy none, .dead], 0, (some 2), 27⟩ ?_ ?_
  ·intro hg
   refine X.split (up) (fun h_5 => ?_) (fun h_5 => ?_)
   ·refine X.split (down) (fun h_6 => ?_) (fun h_6 => ?_)
    ·refine X.draw (by kernel_rfl) ?_
     iterate 2 refine X.dop rfl rfl rfl rfl (by kernel_rfl) rfl rfl ?_
     refine X.dop (X.on_t rfl rfl rfl h_5) rfl rfl rfl (by kernel_rfl) rfl rfl ?_
     refine X.dcall (ok_curve_piece_rise (⟨x, x1⟩ : curve_piece)) (X.on_t rfl rfl rfl h_5) rfl rfl (by kernel_rfl) rfl (.cons (.shut (n := 9) rfl) .nil) ?_
     refine X.dop (X.on_t rfl rfl rfl h_5) rfl rfl rfl (by kernel_rfl) rfl rfl ?_
     refine X.dop rfl (X.pickand_t (y := decide (0 < (curve_piece_rise (⟨x, x1⟩ : curve_piece)))) rfl h_5 rfl) rfl rfl (by kernel_rfl) rfl rfl ?_
     iterate 2 refine X.dop rfl rfl rfl rfl (by kernel_rfl) rfl rfl ?_
     refine X.dop (X.on_t rfl rfl rfl h_6) rfl rfl rfl (by kernel_rfl) rfl rfl ?_
     refine X.dcall (ok_curve_piece_rise (⟨x, x1⟩ : curve_piece)) (X.on_t rfl rfl rfl h_6) rfl rfl (by kernel_rfl) rfl (.cons (.shut (n := 9) rfl) .nil) ?_
     refine X.dop (X.on_t rfl rfl rfl h_6) rfl rfl rfl (by kernel_rfl) rfl rfl ?_
     refine X.dop rfl (X.pickand_t (y := decide ((curve_piece_rise (⟨x, x1⟩ : curve_piece)) < 0)) rfl h_6 rfl) rfl rfl (by kernel_rfl) rfl rfl ?_
     iterate 2 refine X.dop0 rfl rfl rfl rfl (by kernel_rfl) rfl ?_
     refine X.dnil ?_
     exact X.gc [] hg rfl rfl rfl (gk_nil) (gb9 rfl rfl rfl (gb9 rfl rfl rfl (gb_loop hlow_1 rfl rfl rfl (gb_pad gb_nil))))
    refine X.draw (by kernel_rfl) ?_
    iterate 2 refine X.dop rfl rfl rfl rfl (by kernel_rfl) rfl rfl ?_
    refine X.dop (X.on_t rfl rfl rfl h_5) rfl rfl rfl (by kernel_rfl) rfl rfl ?_
    refine X.dcall (ok_curve_piece_rise (⟨x, x1⟩ : curve_piece)) (X.on_t rfl rfl rfl h_5) rfl rfl (by kernel_rfl) rfl (.cons (.shut (n := 9) rfl) .nil) ?_
    refine X.dop (X.on_t rfl rfl rfl h_5) rfl rfl rfl (by kernel_rfl) rfl rfl ?_
    refine X.dop rfl (X.pickand_t (y := decide (0 < (curve_piece_rise (⟨x, x1⟩ : curve_piece)))) rfl h_5 rfl) rfl rfl (by kernel_rfl) rfl rfl ?_
    iterate 2 refine X.dop rfl rfl rfl rfl (by kernel_rfl) rfl rfl ?_
    iterate 3 refine X.doff (X.off_t rfl rfl rfl h_6) (by kernel_rfl) rfl ?_
    refine X.dop rfl (X.pickand_f (y := decide ((curve_piece_rise (⟨x, x1⟩ : curve_piece)) < 0)) rfl h_6 rfl) rfl rfl (by kernel_rfl) rfl rfl ?_
    iterate 2 refine X.dop0 rfl rfl rfl rfl (by kernel_rfl) rfl ?_
    refine X.dnil ?_
    exact X.gc [] hg rfl rfl rfl (gk_nil) (gb9 rfl rfl rfl (gb9 rfl rfl rfl (gb_loop hlow_1 rfl rfl rfl (gb_pad gb_nil))))
   refine X.split (down) (fun h_7 => ?_) (fun h_7 => ?_)
   ·refine X.draw (by kernel_rfl) ?_
    iterate 2 refine X.dop rfl rfl rfl rfl (by kernel_rfl) rfl rfl ?_
    iterate 3 refine X.doff (X.off_t rfl rfl rfl h_5) (by kernel_rfl) rfl ?_
    refine X.dop rfl (X.pickand_f (y := decide (0 < (curve_piece_rise (⟨x, x1⟩ : curve_piece)))) rfl h_5 rfl) rfl rfl (by kernel_rfl) rfl rfl ?_
    iterate 2 refine X.dop rfl rfl rfl rfl (by kernel_rfl) rfl rfl ?_
    refine X.dop (X.on_t rfl rfl rfl h_7) rfl rfl rfl (by kernel_rfl) rfl rfl ?_
    refine X.dcall (ok_curve_piece_rise (⟨x, x1⟩ : curve_piece)) (X.on_t rfl rfl rfl h_7) rfl rfl (by kernel_rfl) rfl (.cons (.shut (n := 9) rfl) .nil) ?_
    refine X.dop (X.on_t rfl rfl rfl h_7) rfl rfl rfl (by kernel_rfl) rfl rfl ?_
    refine X.dop rfl (X.pickand_t (y := decide ((curve_piece_rise (⟨x, x1⟩ : curve_piece)) < 0)) rfl h_7 rfl) rfl rfl (by kernel_rfl) rfl rfl ?_
    iterate 2 refine X.dop0 rfl rfl rfl rfl (by kernel_rfl) rfl ?_
    refine X.dnil ?_
    exact X.gc [] hg rfl rfl rfl (gk_nil) (gb9 rfl rfl rfl (gb9 rfl rfl rfl (gb_loop hlow_1 rfl rfl rfl (gb_pad gb_nil))))
   refine X.draw (by kernel_rfl) ?_
   iterate 2 refine X.dop rfl rfl rfl rfl (by kernel_rfl) rfl rfl ?_
   iterate 3 refine X.doff (X.off_t rfl rfl rfl h_5) (by kernel_rfl) rfl ?_
   refine X.dop rfl (X.pickand_f (y := decide (0 < (curve_piece_rise (⟨x, x1⟩ : curve_piece)))) rfl h_5 rfl) rfl rfl (by kernel_rfl) rfl rfl ?_
   iterate 2 refine X.dop rfl rfl rfl rfl (by kernel_rfl) rfl rfl ?_
   iterate 3 refine X.doff (X.off_t rfl rfl rfl h_7) (by kernel_rfl) rfl ?_
   refine X.dop rfl (X.pickand_f (y := decide ((curve_piece_rise (⟨x, x1⟩ : curve_piece)) < 0)) rfl h_7 rfl) rfl rfl (by kernel_rfl) rfl rfl ?_
   iterate 2 refine X.dop0 rfl rfl rfl rfl (by kernel_rfl) rfl ?_
   refine X.dnil ?_
   exact X.gc [] hg rfl rfl rfl (gk_nil) (gb9 rfl rfl rfl (gb9 rfl rfl rfl (gb_loop hlow_1 rfl rfl rfl (gb_pad gb_nil))))
  refine GS.endB ?_
  refine GS.nil ⟨_, rfl, ?_⟩
  refine X.norm (H' := [.rows 1 [(V.b (up && (decide (0 < (curve_piece_rise (⟨x, x1⟩ : curve_piece))))))], .rows 1 [(V.b (down && (decide ((curve_piece_rise (⟨x, x1⟩ : curve_piece)) < 0))))], lr R_1 .ready none, .dead]) [(0, (V.yld 2)), (1, (V.fptr [(e_api_Curve (curve_pieces c))] 0 0)), (3, (V.i i)), (26, (V.b true))] ?_ rfl (sr rfl)
  refine X.q rfl (GS.opsNil ?_)
  refine GS.condF rfl (GS.skip ?_)
  refine GS.endB (GS.region (X.q rfl ?_))
  refine X.opR rfl (X.addE rfl rfl) rfl (X.q rfl (GS.opsNil ?_))
  have hE := Option.some.inj hM
  exact X.gc [] (hc_1 (w64 (i + 1), (up && (decide (0 < (curve_piece_rise (⟨x, x1⟩ : curve_piece))))), (down && (decide ((curve_piece_rise (⟨x, x1⟩ : curve_piece)) < 0)))) hE.symm) rfl rfl rfl (ga rfl rfl) (gb9 rfl rfl rfl (gb9 rfl rfl rfl (gb_loop hlow_1 rfl rfl rfl gb_nil)))
 replace hM := ite_f h_2 hM
 refine GS.exit rfl ?_
 refine GS.nil ⟨_, _, rfl, rfl, ?_⟩
 refine X.norm (H' := [.rows 1 [(V.b up)], .rows 1 [(V.b down)], .dead]) [(3, (V.ptr 0 0 0)), (4, (V.ptr 1 0 0)), (8, (V.fn 194 [(V.fptr [(e_api_Curve (curve_pieces c))] 0 0)]))] ?_ rfl (sr rfl)
 refine GS.endB (GS.seq (GS.block (X.sq (X.q rfl (X.q rfl ?_)))))
 refine GS.opsNil ?_
 refine X.cond rfl (fun h_8 => ?_) (fun h_8 => ?_)
 ·replace hM := ite_t h_8 hM
  refine X.sq (X.q rfl (GS.opsNil ?_))
  have hE := Option.some.inj hM
  replace hE := hr_1 _ hE.symm
  subst hE
  exact GS.ret ⟨_, rfl, ⟨30, rfl⟩⟩
 replace hM := ite_f h_8 hM
 refine X.sq (X.q rfl (X.q rfl ?_))
 refine GS.opsNil ?_
 refine X.cond rfl (fun h_9 => ?_) (fun h_9 => ?_)
 ·replace hM := ite_t h_9 hM
  refine X.sq (X.q rfl (GS.opsNil ?_))
  have hE := Option.some.inj hM
  replace hE := hr_1 _ hE.symm
  subst hE
  exact GS.ret ⟨_, rfl, ⟨30, rfl⟩⟩
 replace hM := ite_f h_9 hM
 refine GS.skip ?_
 refine GS.endB (X.sq (X.q rfl (GS.opsNil ?_)))
 have hE := Option.some.inj hM
 replace hE := hr_1 _ hE.symm
 subst hE
 exact GS.ret ⟨_, rfl, ⟨30, rfl⟩⟩
theorem ok_curve_Rising {c : api_Curve} {r : Int × Int} (hM : curve_Rising c = some r) : Ct Tryz.prog 104 [(e_api_Curve c)] (V.tup [(V.i r.1), (V.i r.2)]) := by
 refine ct_of_gs CC_ok rfl ?_
 unfold curve_Rising at hM
 refine X.sq ?_
 refine X.opW rfl rfl rfl rfl (X.q rfl (X.q rfl ?_))
 refine GS.opsNil ?_
 iterate 2 refine GS.seq ?_
 obtain ⟨y, h_1, hM⟩ := bind_of hM
 refine GS.region (X.q rfl ?_)
 refine X.call (ok_curve_Check h_1) rfl rfl rfl (.cons (.shut (n := 9) rfl) .nil) (X.q rfl (X.nq (X.q rfl (X.q rfl ?_))))
 refine GS.opsNil ?_
 refine X.cond rfl (fun h_2 => ?_) (fun h_2 => ?_)
 ·replace hM := ite_t h_2 hM
  refine X.sq (X.q rfl (X.q rfl (X.q rfl ?_)))
  refine GS.opsNil ?_
  cases hM
  exact GS.ret ⟨_, rfl, ⟨30, rfl⟩⟩
 replace hM := ite_f h_2 hM
 refine GS.skip (GS.seq ?_)
 obtain ⟨y1, h_3, hM⟩ := bind_of hM
 refine GS.region (X.q rfl ?_)
 refine X.call (ok_curve_rising h_3) rfl rfl rfl (.cons (.shut (n := 9) rfl) .nil) (X.q rfl (X.q rfl ?_))
 refine GS.opsNil ?_
 cases hM
 exact GS.ret ⟨_, rfl, ⟨30, rfl⟩⟩
abbrev e_hull_table (x : hull_table) : V := .agg [(V.sl (List.map e_api_Knot x.Curve.Knots)), (V.i x.Curve.Err)]
theorem ok_hull_table_masses {t : hull_table} {r : api_Span} (hM : hull_table_masses t = some r) : Ct Tryz.prog 191 [(e_hull_table t)] (e_api_Span r) := by
 refine ct_of_gs CC_ok rfl ?_
 unfold hull_table_masses at hM
 refine X.sq ?_
 iterate 2 refine X.opW rfl rfl rfl rfl ?_
 refine GS.opsNil (GS.seq ?_)
 obtain ⟨x, h_1, hM⟩ := bind_of hM
 obtain ⟨x1, h_2, hM⟩ := bind_of hM
 refine X.draw (by kernel_rfl) ?_
 iterate 3 refine X.dop rfl rfl rfl rfl (by kernel_rfl) rfl rfl ?_
 refine X.dop rfl (X.indexF (f := e_api_Knot) h_1 (fun _ => rfl) rfl rfl rfl rfl) rfl rfl (by kernel_rfl) rfl rfl ?_
 refine X.dop rfl rfl rfl rfl (by kernel_rfl) rfl rfl ?_
 refine X.dop rfl (X.loadF h_1 rfl rfl rfl) rfl rfl (by kernel_rfl) rfl rfl ?_
 refine X.dop rfl (X.mulE rfl rfl) rfl rfl (by kernel_rfl) rfl rfl ?_
 iterate 6 refine X.dop rfl rfl rfl rfl (by kernel_rfl) rfl rfl ?_
 refine X.dop rfl (X.lenF rfl rfl rfl) rfl rfl (by kernel_rfl) rfl rfl ?_
 refine X.dop rfl (X.subE rfl rfl) rfl rfl (by kernel_rfl) rfl rfl ?_
 refine X.dop rfl (X.indexF (f := e_api_Knot) h_2 (fun _ => rfl) rfl rfl rfl rfl) rfl rfl (by kernel_rfl) rfl rfl ?_
 refine X.dop rfl rfl rfl rfl (by kernel_rfl) rfl rfl ?_
 refine X.dop rfl (X.loadF h_2 rfl rfl rfl) rfl rfl (by kernel_rfl) rfl rfl ?_
 refine X.dop rfl (X.mulE rfl rfl) rfl rfl (by kernel_rfl) rfl rfl ?_
 refine X.dop rfl rfl rfl rfl (by kernel_rfl) rfl rfl ?_
 refine X.dop0 rfl rfl rfl rfl (by kernel_rfl) rfl ?_
 refine X.dnil ?_
 refine X.norm [(2, (V.ptr 1 0 0))] ?_ rfl (sr rfl)
 cases hM
 exact GS.ret ⟨_, rfl, ⟨30, rfl⟩⟩
theorem ok_hull_tabled_1 (k : api_Knot) : Ct Tryz.prog 193 [(e_api_Knot k)] (V.b (hull_tabled_1 k)) := by
 refine ct_of_gs CC_ok rfl ?_
 generalize hM : hull_tabled_1 k = r
 unfold hull_tabled_1 at hM
 refine X.sq ?_
 refine X.opW rfl rfl rfl rfl (X.q rfl (X.nq ?_))
 iterate 4 refine X.q rfl ?_
 refine GS.opsNil ?_
 subst hM
 exact GS.ret ⟨_, rfl, ⟨30, rfl⟩⟩
theorem ok_slices_IndexFunc_api_Knot__hull_tabled_1 {s : (List api_Knot)} {r : Int} (hM : slices_IndexFunc_api_Knot__hull_tabled_1 s = some r) : Ct Tryz.prog 107 [(V.sl (List.map e_api_Knot s)), (V.fn 193 [])] (V.i r) := by
 refine ct_of_gs CC_ok rfl ?_
 unfold slices_IndexFunc_api_Knot__hull_tabled_1 at hM
 refine X.sq (X.q rfl (GS.opsNil (GS.seq (X.sq (X.q rfl ?_)))))
 refine X.opR rfl (X.lenF rfl rfl rfl) rfl (X.q rfl (GS.opsNil ?_))
 refine X.join (τ := Unit) (fun v => slices_IndexFunc_api_Knot__hull_tabled_1_j1 = some r) (fun v => ⟨[], [], 0, none, 19⟩) ?_ ?_
 ·intro _ hM
  replace hM : slices_IndexFunc_api_Knot__hull_tabled_1_j1 = some r := hM
  unfold slices_IndexFunc_api_Knot__hull_tabled_1_j1 at hM
  refine X.sq (X.q rfl (GS.opsNil ?_))
  cases hM
  exact GS.ret ⟨_, rfl, ⟨30, rfl⟩⟩
 intro hj_1
 refine GS.block ?_
 refine X.gc [] (X.loop (σ := Int) (fun v => ⟨[(0, (V.sl (List.map e_api_Knot s))), (1, (V.fn 193 [])), (7, (V.i (s.length : Int))), (8, (V.i v))], [], 0, none, 19⟩) hM ?_ rfl) rfl rfl rfl (ga rfl rfl) (gb_nil)
 intro x1 b_1 hM hc_2 hr_1
 rw [slices_IndexFunc_api_Knot__hull_tabled_1_b2] at hM
 refine X.sq (X.q rfl (GS.opsNil (GS.seq ?_)))
 refine X.cond rfl (fun h_1 => ?_) (fun h_1 => ?_)
 ·replace hM := ite_t h_1 hM
  refine GS.skip (GS.seq (GS.block (X.sq (X.q rfl (X.q rfl ?_)))))
  refine GS.opsNil (GS.seq ?_)
  obtain ⟨x, h_2, hM⟩ := bind_of hM
  refine GS.region (X.q rfl (X.q rfl (X.q rfl ?_)))
  refine X.opR rfl (X.indexF (f := e_api_Knot) h_2 (fun _ => rfl) rfl rfl rfl rfl) rfl ?_
  refine X.opR rfl (X.loadF h_2 rfl rfl rfl) rfl ?_
  refine X.call (ok_hull_tabled_1 x) rfl rfl rfl (.cons (.shut (n := 9) rfl) .nil) (GS.opsNil ?_)
  refine X.cond rfl (fun h_3 => ?_) (fun h_3 => ?_)
  ·replace hM := ite_t h_3 hM
   refine X.sq (X.q rfl (X.q rfl ?_))
   refine GS.opsNil ?_
   have hE := Option.some.inj hM
   replace hE := hr_1 _ hE.symm
   subst hE
   exact GS.ret ⟨_, rfl, ⟨30, rfl⟩⟩
  replace hM := ite_f h_3 hM
  refine GS.skip ?_
  refine GS.endB (GS.region ?_)
  refine X.opR rfl (X.addE rfl rfl) rfl (X.q rfl (GS.opsNil ?_))
  have hE := Option.some.inj hM
  exact X.gc [] (hc_2 (w64 (x1 + 1)) hE.symm) rfl rfl rfl (ga rfl rfl) (gb_nil)
 replace hM := ite_f h_1 hM
 refine GS.exit rfl ?_
 obtain ⟨y_1, hM, hy⟩ := map_of hM
 rw [hr_1 _ hy.symm] at hM
 exact X.gc [] (hj_1 () hM) rfl rfl rfl (gk_nil) (gb_nil)
theorem ok_slices_ContainsFunc_api_Knot__hull_tabled_1 {s : (List api_Knot)} {r : Bool} (hM : slices_ContainsFunc_api_Knot__hull_tabled_1 s = some r) : Ct Tryz.prog 192 [(V.sl (List.map e_api_Knot s)), (V.fn 193 [])] (V.b r) := by
 refine ct_of_gs CC_ok rfl ?_
 unfold slices_ContainsFunc_api_Knot__hull_tabled_1 at hM
 refine X.sq (X.q rfl (GS.opsNil (GS.seq ?_)))
 obtain ⟨y, h_1, hM⟩ := bind_of hM
 refine GS.region (X.q rfl (X.q rfl ?_))
 refine X.call (ok_slices_IndexFunc_api_Knot__hull_tabled_1 h_1) rfl rfl rfl (.cons (.shut (n := 9) rfl) (.cons (.shut (n := 9) rfl) .nil)) (X.q rfl (X.q rfl ?_))
 refine GS.opsNil ?_
 cases hM
 exact GS.ret ⟨_, rfl, ⟨30, rfl⟩⟩
theorem ok_hull_tabled {s : api_Ship} {c : api_Curve} {r : Int} (hM : hull_tabled s c = some r) : Ct Tryz.prog 106 [(e_api_Ship s), (e_api_Curve c)] (V.i r) := by
 refine ct_of_gs CC_ok rfl ?_
 unfold hull_tabled at hM
 refine X.sq ?_
 iterate 2 refine X.opW rfl rfl rfl rfl ?_
 refine X.q rfl (GS.opsNil (GS.seq ?_))
 obtain ⟨y, h_1, hM⟩ := bind_of hM
 refine GS.region (X.q rfl (X.q rfl ?_))
 refine X.call (ok_hull_table_masses h_1) rfl rfl rfl (.cons (.shut (n := 9) rfl) .nil) ?_
 refine X.opW rfl rfl rfl rfl ?_
 refine X.op0W rfl rfl rfl (GS.opsNil ?_)
 iterate 2 refine GS.seq ?_
 obtain ⟨y1, h_2, hM⟩ := gb_of hM
 obtain ⟨y2, h_3, hM⟩ := gb_of hM
 refine X.mid [(25, (V.b (((decide (s.Light < y.Lo)) || (decide (y.Hi < y1))) || y2)))] ?_ ?_
 ·intro hg
  refine X.split (decide (s.Light < y.Lo)) (fun h_4 => ?_) (fun h_4 => ?_)
  ·refine X.drawc (by kernel_rfl) rfl ?_
   iterate 6 refine X.cop rfl rfl rfl rfl ?_
   iterate 5 refine X.coff (X.off_f rfl rfl rfl h_4) rfl rfl ?_
   refine X.cop rfl (X.pickor_t (y := decide (y.Hi < y1)) rfl h_4 rfl) rfl rfl ?_
   refine X.cop rfl rfl rfl rfl ?_
   iterate 3 refine X.coff (X.off_f rfl rfl rfl (X.or_tt h_4)) rfl rfl ?_
   refine X.cop rfl (X.pickor_t (y := y2) rfl (X.or_tt h_4) rfl) rfl rfl ?_
   refine X.cnil ?_
   exact X.norm _ hg rfl (sr rfl)
  refine X.split (((decide (s.Light < y.Lo)) || (decide (y.Hi < y1)))) (fun h_5 => ?_) (fun h_5 => ?_)
  ·refine X.drawc (by kernel_rfl) rfl ?_
   iterate 6 refine X.cop rfl rfl rfl rfl ?_
   iterate 3 refine X.cop (X.on_f rfl rfl rfl h_4) rfl rfl rfl ?_
   refine X.ccall (ok_hull_rooms (h_2 (X.nt h_4))) (X.on_f rfl rfl rfl h_4) rfl rfl rfl (.cons (.shut (n := 9) rfl) .nil) ?_
   refine X.cop (X.on_f rfl rfl rfl h_4) rfl rfl rfl ?_
   refine X.cop rfl (X.pickor_f (y := decide (y.Hi < y1)) rfl h_4 rfl) rfl rfl ?_
   refine X.cop rfl rfl rfl rfl ?_
   iterate 3 refine X.coff (X.off_f rfl rfl rfl h_5) rfl rfl ?_
   refine X.cop rfl (X.pickor_t (y := y2) rfl h_5 rfl) rfl rfl ?_
   refine X.cnil ?_
   exact X.norm _ hg rfl (sr rfl)
  refine X.drawc (by kernel_rfl) rfl ?_
  iterate 6 refine X.cop rfl rfl rfl rfl ?_
  iterate 3 refine X.cop (X.on_f rfl rfl rfl h_4) rfl rfl rfl ?_
  refine X.ccall (ok_hull_rooms (h_2 (X.nt h_4))) (X.on_f rfl rfl rfl h_4) rfl rfl rfl (.cons (.shut (n := 9) rfl) .nil) ?_
  refine X.cop (X.on_f rfl rfl rfl h_4) rfl rfl rfl ?_
  refine X.cop rfl (X.pickor_f (y := decide (y.Hi < y1)) rfl h_4 rfl) rfl rfl ?_
  refine X.cop rfl rfl rfl rfl ?_
  iterate 2 refine X.cop (X.on_f rfl rfl rfl h_5) rfl rfl rfl ?_
  refine X.ccall (ok_slices_ContainsFunc_api_Knot__hull_tabled_1 (h_3 (X.nt h_5))) (X.on_f rfl rfl rfl h_5) rfl rfl rfl (.cons (.shut (n := 9) rfl) (.cons (.shut (n := 9) rfl) .nil)) ?_
  refine X.cop rfl (X.pickor_f (y := y2) rfl h_5 rfl) rfl rfl ?_
  refine X.cnil ?_
  exact X.norm _ hg rfl (sr rfl)
 refine X.cond rfl (fun h_6 => ?_) (fun h_6 => ?_)
 ·replace hM := ite_t h_6 hM
  refine X.sq (X.q rfl (GS.opsNil ?_))
  cases hM
  exact GS.ret ⟨_, rfl, ⟨30, rfl⟩⟩
 replace hM := ite_f h_6 hM
 refine GS.skip (X.sq (X.q rfl (GS.opsNil ?_)))
 cases hM
 exact GS.ret ⟨_, rfl, ⟨30, rfl⟩⟩
theorem ok_cmp_Or_api_Errno {vals : (List Int)} {r : Int} (hM : cmp_Or_api_Errno vals = some r) : Ct Tryz.prog 105 [(V.sl (List.map V.i vals))] (V.i r) := by
 refine ct_of_gs CC_ok rfl ?_
 unfold cmp_Or_api_Errno at hM
 refine X.sq (X.q rfl (X.nq (X.q rfl (GS.opsNil (GS.seq (X.sq (X.q rfl ?_)))))))
 refine X.opR rfl (X.lenF rfl rfl rfl) rfl (X.q rfl (GS.opsNil ?_))
 refine X.join (τ := Unit) (fun v => cmp_Or_api_Errno_j1 = some r) (fun v => ⟨[(3, (V.i 0))], [], 0, none, 18⟩) ?_ ?_
 ·intro _ hM
  replace hM : cmp_Or_api_Errno_j1 = some r := hM
  unfold cmp_Or_api_Errno_j1 at hM
  refine X.sq (X.q rfl (X.q rfl ?_))
  refine GS.opsNil ?_
  cases hM
  exact GS.ret ⟨_, rfl, ⟨30, rfl⟩⟩
 intro hj_1
 refine GS.block ?_
 refine X.gc [] (X.loop (σ := Int) (fun v => ⟨[(3, (V.i 0)), (6, (V.sl (List.map V.i vals))), (7, (V.i (vals.length : Int))), (8, (V.i v))], [], 0, none, 18⟩) hM ?_ rfl) rfl rfl rfl (ga rfl rfl) (gb_nil)
 intro x1 b_1 hM hc_2 hr_1
 rw [cmp_Or_api_Errno_b2] at hM
 refine X.sq (X.q rfl (GS.opsNil (GS.seq ?_)))
 refine X.cond rfl (fun h_1 => ?_) (fun h_1 => ?_)
 ·replace hM := ite_t h_1 hM
  refine GS.skip (GS.seq (GS.block (GS.seq ?_)))
  obtain ⟨x, h_2, hM⟩ := bind_of hM
  refine GS.region ?_
  refine X.opR rfl (X.indexF (f := V.i) h_2 (fun _ => rfl) rfl rfl rfl rfl) rfl ?_
  refine X.opR rfl (X.loadF h_2 rfl rfl rfl) rfl (X.q rfl (X.nq (X.q rfl (X.q rfl (X.q rfl ?_)))))
  refine GS.opsNil ?_
  refine X.cond rfl (fun h_3 => ?_) (fun h_3 => ?_)
  ·replace hM := ite_t h_3 hM
   refine X.sq (X.q rfl (X.q rfl ?_))
   refine GS.opsNil ?_
   have hE := Option.some.inj hM
   replace hE := hr_1 _ hE.symm
   subst hE
   exact GS.ret ⟨_, rfl, ⟨30, rfl⟩⟩
  replace hM := ite_f h_3 hM
  refine GS.skip ?_
  refine GS.endB (GS.region ?_)
  refine X.opR rfl (X.addE rfl rfl) rfl (X.q rfl (GS.opsNil ?_))
  have hE := Option.some.inj hM
  exact X.gc [] (hc_2 (w64 (x1 + 1)) hE.symm) rfl rfl rfl (ga rfl rfl) (gb_nil)
 replace hM := ite_f h_1 hM
 refine GS.exit rfl ?_
 obtain ⟨y_1, hM, hy⟩ := map_of hM
 rw [hr_1 _ hy.symm] at hM
 exact X.gc [] (hj_1 () hM) rfl rfl rfl (ga rfl rfl) (gb_nil)
set_option maxHeartbeats 4000000 in
theorem ok_hull_Check {s : api_Ship} {r : Int} (hM : hull_Check s = some r) : Ct Tryz.prog 40 [(e_api_Ship s)] (V.i r) := by
 refine ct_of_gs CC_ok rfl ?_
 unfold hull_Check at hM
 refine X.sq ?_
 refine X.opW rfl rfl rfl rfl (X.q rfl (GS.opsNil (GS.seq (X.sq ?_))))
 refine X.mid [(1, (V.ptr 0 0 0)), (39, (V.b (((((!(hull_within s.ID 1 1099511627776)) || (!(hull_within s.Light 1 65536))) || (!(hull_placed s.Lever s.Height))) || (!(hull_within s.Turn 1 1048576))) || (!(hull_within s.Least 0 5000)))))] ?_ ?_
 ·intro hg
  refine X.split (!(hull_within s.ID 1 1099511627776)) (fun h_1 => ?_) (fun h_1 => ?_)
  ·iterate 2 refine X.q rfl ?_
   refine X.call (ok_hull_within s.ID 1 1099511627776) rfl rfl rfl (.cons (.shut (n := 9) rfl) (.cons (.shut (n := 9) rfl) (.cons (.shut (n := 9) rfl) .nil))) (X.q rfl (X.q rfl ?_))
   iterate 4 refine X.off (X.off_f rfl rfl rfl h_1) rfl ?_
   refine X.opR rfl (X.pickor_t (y := !(hull_within s.Light 1 65536)) rfl h_1 rfl) rfl (X.q rfl ?_)
   iterate 6 refine X.off (X.off_f rfl rfl rfl (X.or_tt h_1)) rfl ?_
   refine X.opR rfl (X.pickor_t (y := !(hull_placed s.Lever s.Height)) rfl (X.or_tt h_1) rfl) rfl (X.q rfl ?_)
   iterate 4 refine X.off (X.off_f rfl rfl rfl (X.or_tt (X.or_tt h_1))) rfl ?_
   refine X.opR rfl (X.pickor_t (y := !(hull_within s.Turn 1 1048576)) rfl (X.or_tt (X.or_tt h_1)) rfl) rfl (X.q rfl ?_)
   iterate 4 refine X.off (X.off_f rfl rfl rfl (X.or_tt (X.or_tt (X.or_tt h_1)))) rfl ?_
   refine X.opR rfl (X.pickor_t (y := !(hull_within s.Least 0 5000)) rfl (X.or_tt (X.or_tt (X.or_tt h_1))) rfl) rfl (GS.opsNil ?_)
   exact X.norm _ hg rfl (sr rfl)
  refine X.split (((!(hull_within s.ID 1 1099511627776)) || (!(hull_within s.Light 1 65536)))) (fun h_2 => ?_) (fun h_2 => ?_)
  ·iterate 2 refine X.q rfl ?_
   refine X.call (ok_hull_within s.ID 1 1099511627776) rfl rfl rfl (.cons (.shut (n := 9) rfl) (.cons (.shut (n := 9) rfl) (.cons (.shut (n := 9) rfl) .nil))) (X.q rfl (X.q rfl ?_))
   iterate 2 refine X.opR (X.on_f rfl rfl rfl h_1) rfl rfl ?_
   refine X.call (ok_hull_within s.Light 1 65536) (X.on_f rfl rfl rfl h_1) rfl rfl (.cons (.shut (n := 9) rfl) (.cons (.shut (n := 9) rfl) (.cons (.shut (n := 9) rfl) .nil))) ?_
   refine X.opR (X.on_f rfl rfl rfl h_1) rfl rfl ?_
   refine X.opR rfl (X.pickor_f (y := !(hull_within s.Light 1 65536)) rfl h_1 rfl) rfl (X.q rfl ?_)
   iterate 6 refine X.off (X.off_f rfl rfl rfl h_2) rfl ?_
   refine X.opR rfl (X.pickor_t (y := !(hull_placed s.Lever s.Height)) rfl h_2 rfl) rfl (X.q rfl ?_)
   iterate 4 refine X.off (X.off_f rfl rfl rfl (X.or_tt h_2)) rfl ?_
   refine X.opR rfl (X.pickor_t (y := !(hull_within s.Turn 1 1048576)) rfl (X.or_tt h_2) rfl) rfl (X.q rfl ?_)
   iterate 4 refine X.off (X.off_f rfl rfl rfl (X.or_tt (X.or_tt h_2))) rfl ?_
   refine X.opR rfl (X.pickor_t (y := !(hull_within s.Least 0 5000)) rfl (X.or_tt (X.or_tt h_2)) rfl) rfl (GS.opsNil ?_)
   exact X.norm _ hg rfl (sr rfl)
  refine X.split ((((!(hull_within s.ID 1 1099511627776)) || (!(hull_within s.Light 1 65536))) || (!(hull_placed s.Lever s.Height)))) (fun h_3 => ?_) (fun h_3 => ?_)
  ·iterate 2 refine X.q rfl ?_
   refine X.call (ok_hull_within s.ID 1 1099511627776) rfl rfl rfl (.cons (.shut (n := 9) rfl) (.cons (.shut (n := 9) rfl) (.cons (.shut (n := 9) rfl) .nil))) (X.q rfl (X.q rfl ?_))
   iterate 2 refine X.opR (X.on_f rfl rfl rfl h_1) rfl rfl ?_
   refine X.call (ok_hull_within s.Light 1 65536) (X.on_f rfl rfl rfl h_1) rfl rfl (.cons (.shut (n := 9) rfl) (.cons (.shut (n := 9) rfl) (.cons (.shut (n := 9) rfl) .nil))) ?_
   refine X.opR (X.on_f rfl rfl rfl h_1) rfl rfl ?_
   refine X.opR rfl (X.pickor_f (y := !(hull_within s.Light 1 65536)) rfl h_1 rfl) rfl (X.q rfl ?_)
   iterate 4 refine X.opR (X.on_f rfl rfl rfl h_2) rfl rfl ?_
   refine X.call (ok_hull_placed s.Lever s.Height) (X.on_f rfl rfl rfl h_2) rfl rfl (.cons (.shut (n := 9) rfl) (.cons (.shut (n := 9) rfl) .nil)) ?_
   refine X.opR (X.on_f rfl rfl rfl h_2) rfl rfl ?_
   refine X.opR rfl (X.pickor_f (y := !(hull_placed s.Lever s.Height)) rfl h_2 rfl) rfl (X.q rfl ?_)
   iterate 4 refine X.off (X.off_f rfl rfl rfl h_3) rfl ?_
   refine X.opR rfl (X.pickor_t (y := !(hull_within s.Turn 1 1048576)) rfl h_3 rfl) rfl (X.q rfl ?_)
   iterate 4 refine X.off (X.off_f rfl rfl rfl (X.or_tt h_3)) rfl ?_
   refine X.opR rfl (X.pickor_t (y := !(hull_within s.Least 0 5000)) rfl (X.or_tt h_3) rfl) rfl (GS.opsNil ?_)
   exact X.norm _ hg rfl (sr rfl)
  refine X.split (((((!(hull_within s.ID 1 1099511627776)) || (!(hull_within s.Light 1 65536))) || (!(hull_placed s.Lever s.Height))) || (!(hull_within s.Turn 1 1048576)))) (fun h_4 => ?_) (fun h_4 => ?_)
  ·iterate 2 refine X.q rfl ?_
   refine X.call (ok_hull_within s.ID 1 1099511627776) rfl rfl rfl (.cons (.shut (n := 9) rfl) (.cons (.shut (n := 9) rfl) (.cons (.shut (n := 9) rfl) .nil))) (X.q rfl (X.q rfl ?_))
   iterate 2 refine X.opR (X.on_f rfl rfl rfl h_1) rfl rfl ?_
   refine X.call (ok_hull_within s.Light 1 65536) (X.on_f rfl rfl rfl h_1) rfl rfl (.cons (.shut (n := 9) rfl) (.cons (.shut (n := 9) rfl) (.cons (.shut (n := 9) rfl) .nil))) ?_
   refine X.opR (X.on_f rfl rfl rfl h_1) rfl rfl ?_
   refine X.opR rfl (X.pickor_f (y := !(hull_within s.Light 1 65536)) rfl h_1 rfl) rfl (X.q rfl ?_)
   iterate 4 refine X.opR (X.on_f rfl rfl rfl h_2) rfl rfl ?_
   refine X.call (ok_hull_placed s.Lever s.Height) (X.on_f rfl rfl rfl h_2) rfl rfl (.cons (.shut (n := 9) rfl) (.cons (.shut (n := 9) rfl) .nil)) ?_
   refine X.opR (X.on_f rfl rfl rfl h_2) rfl rfl ?_
   refine X.opR rfl (X.pickor_f (y := !(hull_placed s.Lever s.Height)) rfl h_2 rfl) rfl (X.q rfl ?_)
   iterate 2 refine X.opR (X.on_f rfl rfl rfl h_3) rfl rfl ?_
   refine X.call (ok_hull_within s.Turn 1 1048576) (X.on_f rfl rfl rfl h_3) rfl rfl (.cons (.shut (n := 9) rfl) (.cons (.shut (n := 9) rfl) (.cons (.shut (n := 9) rfl) .nil))) ?_
   refine X.opR (X.on_f rfl rfl rfl h_3) rfl rfl ?_
   refine X.opR rfl (X.pickor_f (y := !(hull_within s.Turn 1 1048576)) rfl h_3 rfl) rfl (X.q rfl ?_)
   iterate 4 refine X.off (X.off_f rfl rfl rfl h_4) rfl ?_
   refine X.opR rfl (X.pickor_t (y := !(hull_within s.Least 0 5000)) rfl h_4 rfl) rfl (GS.opsNil ?_)
   exact X.norm _ hg rfl (sr rfl)
  refine X.q rfl (X.q rfl ?_)
  refine X.call (ok_hull_within s.ID 1 1099511627776) rfl rfl rfl (.cons (.shut (n := 9) rfl) (.cons (.shut (n := 9) rfl) (.cons (.shut (n := 9) rfl) .nil))) (X.q rfl (X.q rfl ?_))
  iterate 2 refine X.opR (X.on_f rfl rfl rfl h_1) rfl rfl ?_
  refine X.call (ok_hull_within s.Light 1 65536) (X.on_f rfl rfl rfl h_1) rfl rfl (.cons (.shut (n := 9) rfl) (.cons (.shut (n := 9) rfl) (.cons (.shut (n := 9) rfl) .nil))) ?_
  refine X.opR (X.on_f rfl rfl rfl h_1) rfl rfl ?_
  refine X.opR rfl (X.pickor_f (y := !(hull_within s.Light 1 65536)) rfl h_1 rfl) rfl (X.q rfl ?_)
  iterate 4 refine X.opR (X.on_f rfl rfl rfl h_2) rfl rfl ?_
  refine X.call (ok_hull_placed s.Lever s.Height) (X.on_f rfl rfl rfl h_2) rfl rfl (.cons (.shut (n := 9) rfl) (.cons (.shut (n := 9) rfl) .nil)) ?_
  refine X.opR (X.on_f rfl rfl rfl h_2) rfl rfl ?_
  refine X.opR rfl (X.pickor_f (y := !(hull_placed s.Lever s.Height)) rfl h_2 rfl) rfl (X.q rfl ?_)
  iterate 2 refine X.opR (X.on_f rfl rfl rfl h_3) rfl rfl ?_
  refine X.call (ok_hull_within s.Turn 1 1048576) (X.on_f rfl rfl rfl h_3) rfl rfl (.cons (.shut (n := 9) rfl) (.cons (.shut (n := 9) rfl) (.cons (.shut (n := 9) rfl) .nil))) ?_
  refine X.opR (X.on_f rfl rfl rfl h_3) rfl rfl ?_
  refine X.opR rfl (X.pickor_f (y := !(hull_within s.Turn 1 1048576)) rfl h_3 rfl) rfl (X.q rfl ?_)
  iterate 2 refine X.opR (X.on_f rfl rfl rfl h_4) rfl rfl ?_
  refine X.call (ok_hull_within s.Least 0 5000) (X.on_f rfl rfl rfl h_4) rfl rfl (.cons (.shut (n := 9) rfl) (.cons (.shut (n := 9) rfl) (.cons (.shut (n := 9) rfl) .nil))) ?_
  refine X.opR (X.on_f rfl rfl rfl h_4) rfl rfl ?_
  refine X.opR rfl (X.pickor_f (y := !(hull_within s.Least 0 5000)) rfl h_4 rfl) rfl (GS.opsNil ?_)
  exact X.norm _ hg rfl (sr rfl)
 refine X.cond rfl (fun h_5 => ?_) (fun h_5 => ?_)
 ·replace hM := ite_t h_5 hM
  refine X.sq (X.q rfl (GS.opsNil ?_))
  cases hM
  exact GS.ret ⟨_, rfl, ⟨30, rfl⟩⟩
 replace hM := ite_f h_5 hM
 refine GS.skip (GS.seq (X.sq (X.q rfl (X.q rfl ?_))))
 refine X.opR rfl (X.lenF rfl rfl rfl) rfl (X.q rfl (GS.opsNil ?_))
 refine X.cond rfl (fun h_6 => ?_) (fun h_6 => ?_)
 ·replace hM := ite_t h_6 hM
  refine X.sq (X.q rfl (GS.opsNil ?_))
  cases hM
  exact GS.ret ⟨_, rfl, ⟨30, rfl⟩⟩
 replace hM := ite_f h_6 hM
 refine GS.skip (GS.seq (X.sq (X.q rfl (X.q rfl ?_))))
 refine X.opR rfl (X.lenF rfl rfl rfl) rfl (X.q rfl (GS.opsNil ?_))
 refine X.join (τ := Unit) (fun v => hull_Check_j1 s = some r) (fun v => ⟨[(1, (V.ptr 0 0 0))], [.rows 11 [(e_api_Ship s)]], 0, none, 114⟩) ?_ ?_
 ·intro _ hM
  replace hM : hull_Check_j1 s = some r := hM
  unfold hull_Check_j1 at hM
  iterate 2 refine GS.seq ?_
  obtain ⟨y, h_7, hM⟩ := bind_of hM
  refine GS.region (X.q rfl ?_)
  refine X.call (ok_hull_rooms h_7) rfl rfl rfl (.cons (.shut (n := 9) rfl) .nil) (X.q rfl (GS.opsNil ?_))
  refine X.cond rfl (fun h_8 => ?_) (fun h_8 => ?_)
  ·replace hM := ite_t h_8 hM
   refine X.sq (X.q rfl (GS.opsNil ?_))
   cases hM
   exact GS.ret ⟨_, rfl, ⟨30, rfl⟩⟩
  replace hM := ite_f h_8 hM
  refine GS.skip (GS.seq (X.sq ?_))
  iterate 4 refine X.q rfl ?_
  refine X.opW rfl rfl rfl rfl ?_
  refine X.opR rfl (X.lenO (l := [s.Mean, s.Mtac]) rfl rfl rfl) rfl (X.q rfl (GS.opsNil ?_))
  refine X.join (τ := Unit) (fun v => hull_Check_j2 s = some r) (fun v => ⟨[(1, (V.ptr 0 0 0))], [.rows 11 [(e_api_Ship s)]], 0, none, 114⟩) ?_ ?_
  ·intro _ hM
   replace hM : hull_Check_j2 s = some r := hM
   unfold hull_Check_j2 at hM
   iterate 2 refine GS.seq ?_
   obtain ⟨y1, h_9, hM⟩ := bind_of hM
   refine GS.region (X.q rfl (X.q rfl ?_))
   refine X.call (ok_curve_Rising h_9) rfl rfl rfl (.cons (.shut (n := 9) rfl) .nil) ?_
   iterate 5 refine X.q rfl ?_
   refine X.nq (X.q rfl (X.q rfl ?_))
   refine GS.opsNil ?_
   refine X.cond rfl (fun h_10 => ?_) (fun h_10 => ?_)
   ·replace hM := ite_t h_10 hM
    refine X.sq (X.q rfl (GS.opsNil ?_))
    cases hM
    exact GS.ret ⟨_, rfl, ⟨30, rfl⟩⟩
   replace hM := ite_f h_10 hM
   refine GS.skip (GS.seq ?_)
   obtain ⟨y2, h_11, hM⟩ := bind_of hM
   obtain ⟨y3, h_12, hM⟩ := bind_of hM
   obtain ⟨y4, h_13, hM⟩ := bind_of hM
   refine X.draw (by kernel_rfl) ?_
   iterate 3 refine X.dop rfl rfl rfl rfl (by kernel_rfl) rfl rfl ?_
   refine X.dcall (ok_hull_tabled h_11) rfl rfl rfl (by kernel_rfl) rfl (.cons (.shut (n := 9) rfl) (.cons (.shut (n := 9) rfl) .nil)) ?_
   iterate 3 refine X.dop rfl rfl rfl rfl (by kernel_rfl) rfl rfl ?_
   refine X.dcall (ok_hull_tabled h_12) rfl rfl rfl (by kernel_rfl) rfl (.cons (.shut (n := 9) rfl) (.cons (.shut (n := 9) rfl) .nil)) ?_
   refine X.dbld rfl rfl rfl rfl rfl (by kernel_rfl) rfl ?_
   refine X.dcall (ok_cmp_Or_api_Errno h_13) rfl rfl rfl (by kernel_rfl) rfl (.cons (.shut (n := 9) rfl) .nil) ?_
   refine X.dop rfl rfl rfl rfl (by kernel_rfl) rfl rfl ?_
   refine X.dnil ?_
   refine X.norm [(2, (V.i y4))] ?_ rfl (sr rfl)
   cases hM
   exact GS.ret ⟨_, rfl, ⟨30, rfl⟩⟩
  intro hj_2
  refine GS.block ?_
  refine X.gc [some 0, some 1] (X.loop (σ := Int) (fun v => ⟨[(1, (V.ptr 0 0 0)), (84, (V.osl 1 0 (List.length ([s.Mean, s.Mtac])))), (85, (V.i (([s.Mean, s.Mtac]).length : Int))), (86, (V.i v))], [.rows 11 [(e_api_Ship s)], .rows 2 (List.map e_api_Curve ([s.Mean, s.Mtac]))], 0, none, 114⟩) hM ?_ rfl) rfl rfl rfl (ga rfl rfl) (gb9 rfl rfl rfl (gb_rows 9 rfl rfl (fun _ => rfl) gb_nil))
  intro x1 b_1 hM hc_3 hr_1
  rw [hull_Check_b3] at hM
  refine X.sq (X.q rfl (GS.opsNil (GS.seq ?_)))
  refine X.cond rfl (fun h_14 => ?_) (fun h_14 => ?_)
  ·replace hM := ite_t h_14 hM
   refine GS.skip (GS.seq (GS.block (GS.seq ?_)))
   obtain ⟨x, h_15, hM⟩ := bind_of hM
   refine GS.region ?_
   refine X.opR rfl (X.indexO h_15 rfl rfl rfl rfl rfl) rfl ?_
   refine X.opR rfl (X.loadO h_15 rfl rfl rfl rfl) rfl ?_
   refine X.opW rfl rfl rfl rfl ?_
   refine X.op0W rfl rfl rfl (GS.opsNil (GS.seq ?_))
   obtain ⟨y5, h_16, hM⟩ := bind_of hM
   refine GS.region (X.q rfl ?_)
   refine X.call (ok_curve_Check h_16) rfl rfl rfl (.cons (.shut (n := 9) rfl) .nil) (X.q rfl (X.nq (X.q rfl (X.q rfl ?_))))
   refine GS.opsNil ?_
   refine X.cond rfl (fun h_17 => ?_) (fun h_17 => ?_)
   ·replace hM := ite_t h_17 hM
    refine X.sq (X.q rfl (X.q rfl ?_))
    refine GS.opsNil ?_
    have hE := Option.some.inj hM
    replace hE := hr_1 _ hE.symm
    subst hE
    exact GS.ret ⟨_, rfl, ⟨30, rfl⟩⟩
   replace hM := ite_f h_17 hM
   refine GS.skip ?_
   refine GS.endB (GS.region ?_)
   refine X.opR rfl (X.addE rfl rfl) rfl (X.q rfl (GS.opsNil ?_))
   have hE := Option.some.inj hM
   exact X.gc [some 0, some 1] (hc_3 (w64 (x1 + 1)) hE.symm) rfl rfl rfl (ga rfl rfl) (gb9 rfl rfl rfl (gb_rows 9 rfl rfl (fun _ => rfl) gb_nil))
  replace hM := ite_f h_14 hM
  refine GS.exit rfl ?_
  obtain ⟨y_1, hM, hy⟩ := map_of hM
  rw [hr_1 _ hy.symm] at hM
  exact X.gc [some 0] (hj_2 () hM) rfl rfl rfl (ga rfl rfl) (gb9 rfl rfl rfl gb_nil)
 intro hj_1
 refine GS.block ?_
 refine X.gc [some 0] (X.loop (σ := Int) (fun v => ⟨[(1, (V.ptr 0 0 0)), (45, (V.sl (List.map e_api_Hold s.Holds))), (46, (V.i (s.Holds.length : Int))), (47, (V.i v))], [.rows 11 [(e_api_Ship s)]], 0, none, 114⟩) hM ?_ rfl) rfl rfl rfl (ga rfl rfl) (gb9 rfl rfl rfl gb_nil)
 intro x3 b_1 hM hc_4 hr_1
 rw [hull_Check_b4] at hM
 refine X.sq (X.q rfl (GS.opsNil (GS.seq ?_)))
 refine X.cond rfl (fun h_18 => ?_) (fun h_18 => ?_)
 ·replace hM := ite_t h_18 hM
  refine GS.skip (GS.seq (GS.block (GS.seq ?_)))
  obtain ⟨x2, h_19, hM⟩ := bind_of hM
  refine GS.region (X.q rfl ?_)
  refine X.opR rfl (X.indexF (f := e_api_Hold) h_19 (fun _ => rfl) rfl rfl rfl rfl) rfl ?_
  refine X.opR rfl (X.loadF h_19 rfl rfl rfl) rfl ?_
  refine X.opW rfl rfl rfl rfl (X.q rfl ?_)
  refine X.op0W rfl rfl rfl (GS.opsNil (GS.seq (X.sq ?_)))
  refine X.mid [(1, (V.ptr 0 0 0)), (3, (V.i x3)), (4, (V.ptr 1 0 0)), (45, (V.sl (List.map e_api_Hold s.Holds))), (46, (V.i (s.Holds.length : Int))), (47, (V.i x3)), (69, (V.b (((!(hull_within x2.ID 1 1099511627776)) || (!(hull_within x2.Room 0 65536))) || (!(hull_placed x2.Lever x2.Height)))))] ?_ ?_
  ·intro hg
   refine X.split (!(hull_within x2.ID 1 1099511627776)) (fun h_20 => ?_) (fun h_20 => ?_)
   ·iterate 2 refine X.q rfl ?_
    refine X.call (ok_hull_within x2.ID 1 1099511627776) rfl rfl rfl (.cons (.shut (n := 9) rfl) (.cons (.shut (n := 9) rfl) (.cons (.shut (n := 9) rfl) .nil))) (X.q rfl (X.q rfl ?_))
    iterate 4 refine X.off (X.off_f rfl rfl rfl h_20) rfl ?_
    refine X.opR rfl (X.pickor_t (y := !(hull_within x2.Room 0 65536)) rfl h_20 rfl) rfl (X.q rfl ?_)
    iterate 6 refine X.off (X.off_f rfl rfl rfl (X.or_tt h_20)) rfl ?_
    refine X.opR rfl (X.pickor_t (y := !(hull_placed x2.Lever x2.Height)) rfl (X.or_tt h_20) rfl) rfl (GS.opsNil ?_)
    exact X.norm _ hg rfl (sr rfl)
   refine X.split (((!(hull_within x2.ID 1 1099511627776)) || (!(hull_within x2.Room 0 65536)))) (fun h_21 => ?_) (fun h_21 => ?_)
   ·iterate 2 refine X.q rfl ?_
    refine X.call (ok_hull_within x2.ID 1 1099511627776) rfl rfl rfl (.cons (.shut (n := 9) rfl) (.cons (.shut (n := 9) rfl) (.cons (.shut (n := 9) rfl) .nil))) (X.q rfl (X.q rfl ?_))
    iterate 2 refine X.opR (X.on_f rfl rfl rfl h_20) rfl rfl ?_
    refine X.call (ok_hull_within x2.Room 0 65536) (X.on_f rfl rfl rfl h_20) rfl rfl (.cons (.shut (n := 9) rfl) (.cons (.shut (n := 9) rfl) (.cons (.shut (n := 9) rfl) .nil))) ?_
    refine X.opR (X.on_f rfl rfl rfl h_20) rfl rfl ?_
    refine X.opR rfl (X.pickor_f (y := !(hull_within x2.Room 0 65536)) rfl h_20 rfl) rfl (X.q rfl ?_)
    iterate 6 refine X.off (X.off_f rfl rfl rfl h_21) rfl ?_
    refine X.opR rfl (X.pickor_t (y := !(hull_placed x2.Lever x2.Height)) rfl h_21 rfl) rfl (GS.opsNil ?_)
    exact X.norm _ hg rfl (sr rfl)
   refine X.q rfl (X.q rfl ?_)
   refine X.call (ok_hull_within x2.ID 1 1099511627776) rfl rfl rfl (.cons (.shut (n := 9) rfl) (.cons (.shut (n := 9) rfl) (.cons (.shut (n := 9) rfl) .nil))) (X.q rfl (X.q rfl ?_))
   iterate 2 refine X.opR (X.on_f rfl rfl rfl h_20) rfl rfl ?_
   refine X.call (ok_hull_within x2.Room 0 65536) (X.on_f rfl rfl rfl h_20) rfl rfl (.cons (.shut (n := 9) rfl) (.cons (.shut (n := 9) rfl) (.cons (.shut (n := 9) rfl) .nil))) ?_
   refine X.opR (X.on_f rfl rfl rfl h_20) rfl rfl ?_
   refine X.opR rfl (X.pickor_f (y := !(hull_within x2.Room 0 65536)) rfl h_20 rfl) rfl (X.q rfl ?_)
   iterate 4 refine X.opR (X.on_f rfl rfl rfl h_21) rfl rfl ?_
   refine X.call (ok_hull_placed x2.Lever x2.Height) (X.on_f rfl rfl rfl h_21) rfl rfl (.cons (.shut (n := 9) rfl) (.cons (.shut (n := 9) rfl) .nil)) ?_
   refine X.opR (X.on_f rfl rfl rfl h_21) rfl rfl ?_
   refine X.opR rfl (X.pickor_f (y := !(hull_placed x2.Lever x2.Height)) rfl h_21 rfl) rfl (GS.opsNil ?_)
   exact X.norm _ hg rfl (sr rfl)
  refine X.cond rfl (fun h_22 => ?_) (fun h_22 => ?_)
  ·replace hM := ite_t h_22 hM
   refine X.sq (X.q rfl (GS.opsNil ?_))
   have hE := Option.some.inj hM
   replace hE := hr_1 _ hE.symm
   subst hE
   exact GS.ret ⟨_, rfl, ⟨30, rfl⟩⟩
  replace hM := ite_f h_22 hM
  refine GS.skip (GS.seq ?_)
  obtain ⟨l, h_23, hM⟩ := bind_of hM
  obtain ⟨y6, h_24, hM⟩ := bind_of hM
  refine GS.region (X.q rfl (X.q rfl (X.q rfl ?_)))
  refine X.opR rfl (X.sliceF (f := e_api_Hold) h_23 (fun _ => rfl) rfl rfl rfl rfl rfl rfl (X.boundA_int rfl)) rfl (X.q rfl ?_)
  refine X.callF (ok_slices_ContainsFunc_api_Hold__hull_Check_1 h_24) rfl rfl rfl (m := 9) rfl (.cons (.shut (n := 9) rfl) (.cons (FR.arg ⟨30, rfl⟩) .nil)) (GS.opsNil ?_)
  refine X.cond rfl (fun h_25 => ?_) (fun h_25 => ?_)
  ·replace hM := ite_t h_25 hM
   refine X.sq (X.q rfl (GS.opsNil ?_))
   have hE := Option.some.inj hM
   replace hE := hr_1 _ hE.symm
   subst hE
   exact GS.ret ⟨_, rfl, ⟨30, rfl⟩⟩
  replace hM := ite_f h_25 hM
  refine GS.skip ?_
  refine GS.endB (GS.region ?_)
  refine X.opR rfl (X.addE rfl rfl) rfl (X.q rfl (GS.opsNil ?_))
  have hE := Option.some.inj hM
  exact X.gc [some 0] (hc_4 (w64 (x3 + 1)) hE.symm) rfl rfl rfl (ga rfl rfl) (gb9 rfl rfl rfl gb_nil)
 replace hM := ite_f h_18 hM
 refine GS.exit rfl ?_
 obtain ⟨y_1, hM, hy⟩ := map_of hM
 rw [hr_1 _ hy.symm] at hM
 exact X.gc [some 0] (hj_1 () hM) rfl rfl rfl (ga rfl rfl) (gb9 rfl rfl rfl gb_nil)
theorem ok_hull_sums {l : (List api_Span)} {r : api_Span} (hM : hull_sums l = some r) : Ct Tryz.prog 51 [(V.sl (List.map e_api_Span l))] (e_api_Span r) := by
 refine ct_of_gs CC_ok rfl ?_
 unfold hull_sums at hM
 refine X.sq ?_
 refine X.opW rfl rfl rfl rfl (X.nq ?_)
 refine X.opW rfl rfl rfl rfl (GS.opsNil (GS.seq (X.sq (X.q rfl ?_))))
 refine X.opR rfl (X.lenF rfl rfl rfl) rfl (X.q rfl (GS.opsNil ?_))
 refine X.join (τ := Int × Int) (fun v => hull_sums_j1 v.1 v.2 = some r) (fun v => ⟨[(2, (V.ptr 0 0 0)), (3, (V.ptr 1 0 0))], [.rows 2 [(V.agg [(V.i 0), (V.i 0)])], .rows 2 [(V.agg [(V.i v.1), (V.i v.2)])]], 0, none, 26⟩) ?_ ?_
 ·rintro ⟨Lo, Hi⟩ hM
  replace hM : hull_sums_j1 Lo Hi = some r := hM
  unfold hull_sums_j1 at hM
  refine X.sq (X.q rfl ?_)
  refine X.op0W rfl rfl rfl (GS.opsNil ?_)
  cases hM
  exact GS.ret ⟨_, rfl, ⟨30, rfl⟩⟩
 intro hj_1
 refine GS.block ?_
 refine X.gc [some 0, some 1] (X.loop (σ := (Int × Int × Int)) (fun v => ⟨[(2, (V.ptr 0 0 0)), (3, (V.ptr 1 0 0)), (6, (V.sl (List.map e_api_Span l))), (7, (V.i (l.length : Int))), (8, (V.i v.1))], [.rows 2 [(V.agg [(V.i 0), (V.i 0)])], .rows 2 [(V.agg [(V.i v.2.1), (V.i v.2.2)])]], 0, none, 26⟩) hM ?_ rfl) rfl rfl rfl (ga rfl rfl) (gb9 rfl rfl rfl (gb9 rfl rfl rfl gb_nil))
 rintro ⟨x1, Lo1, Hi1⟩ b_1 hM hc_2 hr_1
 rw [hull_sums_b2] at hM
 refine X.sq (X.q rfl (GS.opsNil (GS.seq ?_)))
 refine X.cond rfl (fun h_1 => ?_) (fun h_1 => ?_)
 ·replace hM := ite_t h_1 hM
  refine GS.skip (GS.seq (GS.block (GS.seq ?_)))
  obtain ⟨x, h_2, hM⟩ := bind_of hM
  refine GS.region ?_
  refine X.opR rfl (X.indexF (f := e_api_Span) h_2 (fun _ => rfl) rfl rfl rfl rfl) rfl ?_
  refine X.opR rfl (X.loadF h_2 rfl rfl rfl) rfl ?_
  refine X.opW rfl rfl rfl rfl ?_
  refine X.op0W rfl rfl rfl (GS.opsNil ?_)
  refine X.draw (by kernel_rfl) ?_
  iterate 4 refine X.dop rfl rfl rfl rfl (by kernel_rfl) rfl rfl ?_
  refine X.dop rfl (X.addE rfl rfl) rfl rfl (by kernel_rfl) rfl rfl ?_
  iterate 4 refine X.dop rfl rfl rfl rfl (by kernel_rfl) rfl rfl ?_
  refine X.dop rfl (X.addE rfl rfl) rfl rfl (by kernel_rfl) rfl rfl ?_
  refine X.dop rfl rfl rfl rfl (by kernel_rfl) rfl rfl ?_
  refine X.dop0 rfl rfl rfl rfl (by kernel_rfl) rfl ?_
  refine X.dop rfl rfl rfl rfl (by kernel_rfl) rfl rfl ?_
  refine X.dop0 rfl rfl rfl rfl (by kernel_rfl) rfl ?_
  refine X.dnil ?_
  refine X.norm [(2, (V.ptr 0 0 0)), (3, (V.ptr 1 0 0)), (6, (V.sl (List.map e_api_Span l))), (7, (V.i (l.length : Int))), (8, (V.i x1))] ?_ rfl (sr rfl)
  refine GS.endB (GS.region ?_)
  refine X.opR rfl (X.addE rfl rfl) rfl (X.q rfl (GS.opsNil ?_))
  have hE := Option.some.inj hM
  exact X.gc [some 0, some 1] (hc_2 (w64 (x1 + 1), w64 (Lo1 + x.Lo), w64 (Hi1 + x.Hi)) hE.symm) rfl rfl rfl (ga rfl rfl) (gb9 rfl rfl rfl (gb9 rfl rfl rfl gb_nil))
 replace hM := ite_f h_1 hM
 refine GS.exit rfl ?_
 obtain ⟨y_1, hM, hy⟩ := map_of hM
 rw [hr_1 _ hy.symm] at hM
 exact X.gc [some 0, some 1] (hj_1 (Lo1, Hi1) hM) rfl rfl rfl (ga rfl rfl) (gb9 rfl rfl rfl (gb9 rfl rfl rfl gb_nil))
theorem ok_hull_greater_int (a : Int) (b : Int) : Ct Tryz.prog 52 [(V.i a), (V.i b)] (V.i (hull_greater_int a b)) := by
 refine ct_of_gs CC_ok rfl ?_
 generalize hM : hull_greater_int a b = r
 unfold hull_greater_int at hM
 refine X.sq (X.q rfl (GS.opsNil (GS.seq (X.sq (X.q rfl (X.q rfl (X.q rfl ?_)))))))
 refine GS.opsNil ?_
 refine X.cond rfl (fun h_1 => ?_) (fun h_1 => ?_)
 ·replace hM := ite_t h_1 hM
  refine X.sq (X.q rfl (X.q rfl ?_))
  refine GS.opsNil ?_
  subst hM
  exact GS.ret ⟨_, rfl, ⟨30, rfl⟩⟩
 replace hM := ite_f h_1 hM
 refine GS.skip (X.sq (X.q rfl (X.q rfl ?_)))
 refine GS.opsNil ?_
 subst hM
 exact GS.ret ⟨_, rfl, ⟨30, rfl⟩⟩
theorem ok_hull_totals {l : api_Load} {r : api_Span} (hM : hull_totals l = some r) : Ct Tryz.prog 41 [(e_api_Load l)] (e_api_Span r) := by
 refine ct_of_gs CC_ok rfl ?_
 unfold hull_totals at hM
 refine X.sq ?_
 iterate 2 refine X.opW rfl rfl rfl rfl ?_
 refine GS.opsNil (GS.seq ?_)
 obtain ⟨y, h_1, hM⟩ := bind_of hM
 refine GS.region (X.q rfl (X.q rfl ?_))
 refine X.call (ok_hull_sums h_1) rfl rfl rfl (.cons (.shut (n := 9) rfl) .nil) ?_
 refine X.opW rfl rfl rfl rfl ?_
 refine X.op0W rfl rfl rfl (GS.opsNil (GS.seq ?_))
 refine X.draw (by kernel_rfl) ?_
 iterate 5 refine X.dop rfl rfl rfl rfl (by kernel_rfl) rfl rfl ?_
 refine X.dcall (ok_hull_greater_int y.Lo l.All.Lo) rfl rfl rfl (by kernel_rfl) rfl (.cons (.shut (n := 9) rfl) (.cons (.shut (n := 9) rfl) .nil)) ?_
 iterate 5 refine X.dop rfl rfl rfl rfl (by kernel_rfl) rfl rfl ?_
 refine X.dop rfl (X.minE rfl rfl) rfl rfl (by kernel_rfl) rfl rfl ?_
 refine X.dop rfl rfl rfl rfl (by kernel_rfl) rfl rfl ?_
 refine X.dop0 rfl rfl rfl rfl (by kernel_rfl) rfl ?_
 refine X.dnil ?_
 refine X.norm [(2, (V.ptr 1 0 0))] ?_ rfl (sr rfl)
 cases hM
 exact GS.ret ⟨_, rfl, ⟨30, rfl⟩⟩
set_option maxHeartbeats 4000000 in
theorem ok_hull_CheckLoad {s : api_Ship} {l : api_Load} {r : Int} (hM : hull_CheckLoad s l = some r) : Ct Tryz.prog 7 [(e_api_Ship s), (e_api_Load l)] (V.i r) := by
 refine ct_of_gs CC_ok rfl ?_
 unfold hull_CheckLoad at hM
 refine X.sq ?_
 iterate 2 refine X.opW rfl rfl rfl rfl ?_
 refine X.q rfl (GS.opsNil ?_)
 iterate 2 refine GS.seq ?_
 obtain ⟨y, h_1, hM⟩ := bind_of hM
 refine GS.region (X.q rfl ?_)
 refine X.call (ok_hull_Check h_1) rfl rfl rfl (.cons (.shut (n := 9) rfl) .nil) (X.q rfl (X.nq (X.q rfl (X.q rfl ?_))))
 refine GS.opsNil ?_
 refine X.cond rfl (fun h_2 => ?_) (fun h_2 => ?_)
 ·replace hM := ite_t h_2 hM
  refine X.sq (X.q rfl (X.q rfl ?_))
  refine GS.opsNil ?_
  cases hM
  exact GS.ret ⟨_, rfl, ⟨30, rfl⟩⟩
 replace hM := ite_f h_2 hM
 refine GS.skip (GS.seq (X.sq (X.q rfl (X.q rfl ?_))))
 refine X.opR rfl (X.lenF rfl rfl rfl) rfl (X.q rfl (X.q rfl ?_))
 refine X.opR rfl (X.lenF rfl rfl rfl) rfl (X.q rfl (GS.opsNil ?_))
 refine X.cond rfl (fun h_3 => ?_) (fun h_3 => ?_)
 ·replace hM := ite_t h_3 hM
  refine X.sq (X.q rfl (GS.opsNil ?_))
  cases hM
  exact GS.ret ⟨_, rfl, ⟨30, rfl⟩⟩
 replace hM := ite_f h_3 hM
 refine GS.skip (GS.seq (X.sq (X.q rfl (X.q rfl ?_))))
 refine X.opR rfl (X.lenF rfl rfl rfl) rfl (X.q rfl (GS.opsNil ?_))
 refine X.join (τ := Unit) (fun v => hull_CheckLoad_j1 l = some r) (fun v => ⟨[(3, (V.ptr 0 0 0))], [.rows 3 [(e_api_Load l)]], 0, none, 88⟩) ?_ ?_
 ·intro _ hM
  replace hM : hull_CheckLoad_j1 l = some r := hM
  unfold hull_CheckLoad_j1 at hM
  iterate 2 refine GS.seq ?_
  obtain ⟨y1, h_4, hM⟩ := bind_of hM
  refine GS.region (X.q rfl ?_)
  refine X.call (ok_hull_totals h_4) rfl rfl rfl (.cons (.shut (n := 9) rfl) .nil) ?_
  refine X.opW rfl rfl rfl rfl ?_
  refine X.op0W rfl rfl rfl (GS.opsNil (GS.block (X.sq ?_)))
  refine X.mid [(3, (V.ptr 0 0 0)), (8, (V.ptr 1 0 0)), (53, (V.b (((decide (l.All.Lo < 0)) || (decide (l.All.Hi < l.All.Lo))) || (decide (65536 < l.All.Hi)))))] ?_ ?_
  ·intro hg
   refine X.split (decide (l.All.Lo < 0)) (fun h_5 => ?_) (fun h_5 => ?_)
   ·iterate 5 refine X.q rfl ?_
    iterate 7 refine X.off (X.off_f rfl rfl rfl h_5) rfl ?_
    refine X.opR rfl (X.pickor_t (y := decide (l.All.Hi < l.All.Lo)) rfl h_5 rfl) rfl (X.q rfl ?_)
    iterate 4 refine X.off (X.off_f rfl rfl rfl (X.or_tt h_5)) rfl ?_
    refine X.opR rfl (X.pickor_t (y := decide (65536 < l.All.Hi)) rfl (X.or_tt h_5) rfl) rfl (X.q rfl (GS.opsNil ?_))
    exact X.norm _ hg rfl (sr rfl)
   refine X.split (((decide (l.All.Lo < 0)) || (decide (l.All.Hi < l.All.Lo)))) (fun h_6 => ?_) (fun h_6 => ?_)
   ·iterate 5 refine X.q rfl ?_
    iterate 7 refine X.opR (X.on_f rfl rfl rfl h_5) rfl rfl ?_
    refine X.opR rfl (X.pickor_f (y := decide (l.All.Hi < l.All.Lo)) rfl h_5 rfl) rfl (X.q rfl ?_)
    iterate 4 refine X.off (X.off_f rfl rfl rfl h_6) rfl ?_
    refine X.opR rfl (X.pickor_t (y := decide (65536 < l.All.Hi)) rfl h_6 rfl) rfl (X.q rfl (GS.opsNil ?_))
    exact X.norm _ hg rfl (sr rfl)
   iterate 5 refine X.q rfl ?_
   iterate 7 refine X.opR (X.on_f rfl rfl rfl h_5) rfl rfl ?_
   refine X.opR rfl (X.pickor_f (y := decide (l.All.Hi < l.All.Lo)) rfl h_5 rfl) rfl (X.q rfl ?_)
   iterate 4 refine X.opR (X.on_f rfl rfl rfl h_6) rfl rfl ?_
   refine X.opR rfl (X.pickor_f (y := decide (65536 < l.All.Hi)) rfl h_6 rfl) rfl (X.q rfl (GS.opsNil ?_))
   exact X.norm _ hg rfl (sr rfl)
  refine X.cond rfl (fun h_7 => ?_) (fun h_7 => ?_)
  ·replace hM := ite_t h_7 hM
   refine X.sq (X.q rfl (GS.opsNil ?_))
   cases hM
   exact GS.ret ⟨_, rfl, ⟨30, rfl⟩⟩
  replace hM := ite_f h_7 hM
  refine X.sq ?_
  iterate 6 refine X.q rfl ?_
  refine X.opR rfl (X.subE rfl rfl) rfl (X.q rfl (X.q rfl ?_))
  refine GS.opsNil ?_
  refine X.cond rfl (fun h_8 => ?_) (fun h_8 => ?_)
  ·replace hM := ite_t h_8 hM
   refine X.sq (X.q rfl (GS.opsNil ?_))
   cases hM
   exact GS.ret ⟨_, rfl, ⟨30, rfl⟩⟩
  replace hM := ite_f h_8 hM
  refine X.sq ?_
  iterate 6 refine X.q rfl ?_
  refine GS.opsNil ?_
  refine X.cond rfl (fun h_9 => ?_) (fun h_9 => ?_)
  ·replace hM := ite_t h_9 hM
   refine X.sq (X.q rfl (GS.opsNil ?_))
   cases hM
   exact GS.ret ⟨_, rfl, ⟨30, rfl⟩⟩
  replace hM := ite_f h_9 hM
  refine GS.skip ?_
  refine GS.endB (X.sq (X.q rfl (GS.opsNil ?_)))
  cases hM
  exact GS.ret ⟨_, rfl, ⟨30, rfl⟩⟩
 intro hj_1
 refine GS.block ?_
 refine X.gc [some 0, some 1] (X.loop (σ := Int) (fun v => ⟨[(2, (V.ptr 0 0 0)), (3, (V.ptr 1 0 0)), (22, (V.sl (List.map e_api_Span l.Holds))), (23, (V.i (l.Holds.length : Int))), (24, (V.i v))], [.rows 11 [(e_api_Ship s)], .rows 3 [(e_api_Load l)]], 0, none, 88⟩) hM ?_ rfl) rfl rfl rfl (ga rfl rfl) (gb9 rfl rfl rfl (gb9 rfl rfl rfl gb_nil))
 intro x2 b_1 hM hc_2 hr_1
 rw [hull_CheckLoad_b2] at hM
 refine X.sq (X.q rfl (GS.opsNil (GS.seq ?_)))
 refine X.cond rfl (fun h_10 => ?_) (fun h_10 => ?_)
 ·replace hM := ite_t h_10 hM
  refine GS.skip (GS.seq (GS.block (GS.seq ?_)))
  obtain ⟨x, h_11, hM⟩ := bind_of hM
  refine GS.region (X.q rfl ?_)
  refine X.opR rfl (X.indexF (f := e_api_Span) h_11 (fun _ => rfl) rfl rfl rfl rfl) rfl ?_
  refine X.opR rfl (X.loadF h_11 rfl rfl rfl) rfl ?_
  refine X.opW rfl rfl rfl rfl (X.q rfl ?_)
  refine X.op0W rfl rfl rfl (GS.opsNil (GS.seq ?_))
  obtain ⟨x1, h_12, hM⟩ := gb_of hM
  refine X.mid [(2, (V.ptr 0 0 0)), (3, (V.ptr 1 0 0)), (22, (V.sl (List.map e_api_Span l.Holds))), (23, (V.i (l.Holds.length : Int))), (24, (V.i x2)), (49, (V.b (((decide (x.Lo < 0)) || (decide (x.Hi < x.Lo))) || (decide (x1.Room < x.Hi)))))] ?_ ?_
  ·intro hg
   refine X.split (decide (x.Lo < 0)) (fun h_13 => ?_) (fun h_13 => ?_)
   ·refine X.drawc (by kernel_rfl) rfl ?_
    iterate 4 refine X.cop rfl rfl rfl rfl ?_
    iterate 5 refine X.coff (X.off_f rfl rfl rfl h_13) rfl rfl ?_
    refine X.cop rfl (X.pickor_t (y := decide (x.Hi < x.Lo)) rfl h_13 rfl) rfl rfl ?_
    refine X.cop rfl rfl rfl rfl ?_
    iterate 9 refine X.coff (X.off_f rfl rfl rfl (X.or_tt h_13)) rfl rfl ?_
    refine X.cop rfl (X.pickor_t (y := decide (x1.Room < x.Hi)) rfl (X.or_tt h_13) rfl) rfl rfl ?_
    refine X.cnil ?_
    exact X.norm _ hg rfl (sr rfl)
   refine X.split (((decide (x.Lo < 0)) || (decide (x.Hi < x.Lo)))) (fun h_14 => ?_) (fun h_14 => ?_)
   ·refine X.drawc (by kernel_rfl) rfl ?_
    iterate 4 refine X.cop rfl rfl rfl rfl ?_
    iterate 5 refine X.cop (X.on_f rfl rfl rfl h_13) rfl rfl rfl ?_
    refine X.cop rfl (X.pickor_f (y := decide (x.Hi < x.Lo)) rfl h_13 rfl) rfl rfl ?_
    refine X.cop rfl rfl rfl rfl ?_
    iterate 9 refine X.coff (X.off_f rfl rfl rfl h_14) rfl rfl ?_
    refine X.cop rfl (X.pickor_t (y := decide (x1.Room < x.Hi)) rfl h_14 rfl) rfl rfl ?_
    refine X.cnil ?_
    exact X.norm _ hg rfl (sr rfl)
   refine X.drawc (by kernel_rfl) rfl ?_
   iterate 4 refine X.cop rfl rfl rfl rfl ?_
   iterate 5 refine X.cop (X.on_f rfl rfl rfl h_13) rfl rfl rfl ?_
   refine X.cop rfl (X.pickor_f (y := decide (x.Hi < x.Lo)) rfl h_13 rfl) rfl rfl ?_
   refine X.cop rfl rfl rfl rfl ?_
   iterate 5 refine X.cop (X.on_f rfl rfl rfl h_14) rfl rfl rfl ?_
   refine X.cop (X.on_f rfl rfl rfl h_14) (X.indexF (f := e_api_Hold) (h_12 (X.nt h_14)) (fun _ => rfl) rfl rfl rfl rfl) rfl rfl ?_
   refine X.cop (X.on_f rfl rfl rfl h_14) rfl rfl rfl ?_
   refine X.cop (X.on_f rfl rfl rfl h_14) (X.loadF (h_12 (X.nt h_14)) rfl rfl rfl) rfl rfl ?_
   refine X.cop (X.on_f rfl rfl rfl h_14) rfl rfl rfl ?_
   refine X.cop rfl (X.pickor_f (y := decide (x1.Room < x.Hi)) rfl h_14 rfl) rfl rfl ?_
   refine X.cnil ?_
   exact X.norm _ hg rfl (sr rfl)
  refine X.cond rfl (fun h_15 => ?_) (fun h_15 => ?_)
  ·replace hM := ite_t h_15 hM
   refine X.sq (X.q rfl (GS.opsNil ?_))
   have hE := Option.some.inj hM
   replace hE := hr_1 _ hE.symm
   subst hE
   exact GS.ret ⟨_, rfl, ⟨30, rfl⟩⟩
  replace hM := ite_f h_15 hM
  refine GS.skip ?_
  refine GS.endB (GS.region ?_)
  refine X.opR rfl (X.addE rfl rfl) rfl (X.q rfl (GS.opsNil ?_))
  have hE := Option.some.inj hM
  exact X.gc [some 0, some 1] (hc_2 (w64 (x2 + 1)) hE.symm) rfl rfl rfl (ga rfl rfl) (gb9 rfl rfl rfl (gb9 rfl rfl rfl gb_nil))
 replace hM := ite_f h_10 hM
 refine GS.exit rfl ?_
 obtain ⟨y_1, hM, hy⟩ := map_of hM
 rw [hr_1 _ hy.symm] at hM
 exact X.gc [some 1] (hj_1 () hM) rfl rfl rfl (ga rfl rfl) (gb9 rfl rfl rfl gb_nil)
theorem ok_law03_Ship : Ct Tryz.prog 42 [] (e_api_Ship (law03_Ship)) := by
 refine ct_of_gs CC_ok rfl ?_
 generalize hM : law03_Ship = r
 unfold law03_Ship at hM
 refine X.sq ?_
 refine X.opW rfl rfl rfl rfl (X.nq (X.q rfl (X.q rfl ?_)))
 refine X.opW rfl rfl rfl rfl (X.q rfl (X.nq (X.q rfl (X.q rfl ?_))))
 refine X.opW rfl rfl rfl rfl (X.q rfl ?_)
 refine X.opW (H' := [.rows 11 [(V.agg [(V.i 0), (V.i 0), (V.i 0), (V.i 0), V.nil, V.nil, (V.i 0), V.nil, (V.i 0), (V.i 0), (V.i 0)])], .rows 4 (List.map e_api_Hold ([(⟨1, 400, 50, 60⟩ : api_Hold), (⟨2, 400, (-50), 150⟩ : api_Hold)])), .rows 2 (List.map e_api_Knot ([(⟨10, 100⟩ : api_Knot), (⟨30, 500⟩ : api_Knot)])), .rows 2 [(V.agg [V.nil, (V.i 0)])]]) rfl rfl rfl rfl ?_
 refine X.op0W (H' := [.rows 11 [(V.agg [(V.i 0), (V.i 0), (V.i 0), (V.i 0), V.nil, V.nil, (V.i 0), V.nil, (V.i 0), (V.i 0), (V.i 0)])], .rows 4 (List.map e_api_Hold ([(⟨1, 400, 50, 60⟩ : api_Hold), (⟨2, 400, (-50), 150⟩ : api_Hold)])), .rows 2 (List.map e_api_Knot ([(⟨10, 100⟩ : api_Knot), (⟨30, 500⟩ : api_Knot)])), .rows 2 [(V.agg [(V.osl 2 0 (List.length ([(⟨10, 100⟩ : api_Knot), (⟨30, 500⟩ : api_Knot)]))), (V.i 0)])]]) rfl rfl rfl (X.nq ?_)
 refine X.q rfl (X.q rfl ?_)
 refine X.opW (H' := [.rows 11 [(V.agg [(V.i 0), (V.i 0), (V.i 0), (V.i 0), V.nil, V.nil, (V.i 0), V.nil, (V.i 0), (V.i 0), (V.i 0)])], .rows 4 (List.map e_api_Hold ([(⟨1, 400, 50, 60⟩ : api_Hold), (⟨2, 400, (-50), 150⟩ : api_Hold)])), .rows 2 (List.map e_api_Knot ([(⟨10, 100⟩ : api_Knot), (⟨30, 500⟩ : api_Knot)])), .rows 2 [(V.agg [(V.osl 2 0 (List.length ([(⟨10, 100⟩ : api_Knot), (⟨30, 500⟩ : api_Knot)]))), (V.i 0)])], .rows 2 (List.map e_api_Knot ([(⟨10, 160⟩ : api_Knot), (⟨30, 140⟩ : api_Knot)]))]) rfl rfl rfl rfl ?_
 refine X.q rfl ?_
 refine X.opW (H' := [.rows 11 [(V.agg [(V.i 0), (V.i 0), (V.i 0), (V.i 0), V.nil, V.nil, (V.i 0), V.nil, (V.i 0), (V.i 0), (V.i 0)])], .rows 4 (List.map e_api_Hold ([(⟨1, 400, 50, 60⟩ : api_Hold), (⟨2, 400, (-50), 150⟩ : api_Hold)])), .rows 2 (List.map e_api_Knot ([(⟨10, 100⟩ : api_Knot), (⟨30, 500⟩ : api_Knot)])), .rows 2 [(V.agg [(V.osl 2 0 (List.length ([(⟨10, 100⟩ : api_Knot), (⟨30, 500⟩ : api_Knot)]))), (V.i 0)])], .rows 2 (List.map e_api_Knot ([(⟨10, 160⟩ : api_Knot), (⟨30, 140⟩ : api_Knot)])), .rows 2 [(V.agg [V.nil, (V.i 0)])]]) rfl rfl rfl rfl ?_
 refine X.op0W (H' := [.rows 11 [(V.agg [(V.i 0), (V.i 0), (V.i 0), (V.i 0), V.nil, V.nil, (V.i 0), V.nil, (V.i 0), (V.i 0), (V.i 0)])], .rows 4 (List.map e_api_Hold ([(⟨1, 400, 50, 60⟩ : api_Hold), (⟨2, 400, (-50), 150⟩ : api_Hold)])), .rows 2 (List.map e_api_Knot ([(⟨10, 100⟩ : api_Knot), (⟨30, 500⟩ : api_Knot)])), .rows 2 [(V.agg [(V.osl 2 0 (List.length ([(⟨10, 100⟩ : api_Knot), (⟨30, 500⟩ : api_Knot)]))), (V.i 0)])], .rows 2 (List.map e_api_Knot ([(⟨10, 160⟩ : api_Knot), (⟨30, 140⟩ : api_Knot)])), .rows 2 [(V.agg [(V.osl 4 0 (List.length ([(⟨10, 160⟩ : api_Knot), (⟨30, 140⟩ : api_Knot)]))), (V.i 0)])]]) rfl rfl rfl (X.nq ?_)
 iterate 4 refine X.q rfl ?_
 refine X.op0W (H' := [.rows 11 [(V.agg [(V.i 1), (V.i 400), (V.i 0), (V.i 100), (V.osl 1 0 (List.length ([(⟨1, 400, 50, 60⟩ : api_Hold), (⟨2, 400, (-50), 150⟩ : api_Hold)]))), (V.osl 2 0 (List.length ([(⟨10, 100⟩ : api_Knot), (⟨30, 500⟩ : api_Knot)]))), (V.i 0), (V.osl 4 0 (List.length ([(⟨10, 160⟩ : api_Knot), (⟨30, 140⟩ : api_Knot)]))), (V.i 0), (V.i 10), (V.i 30)])], .rows 4 (List.map e_api_Hold ([(⟨1, 400, 50, 60⟩ : api_Hold), (⟨2, 400, (-50), 150⟩ : api_Hold)])), .rows 2 (List.map e_api_Knot ([(⟨10, 100⟩ : api_Knot), (⟨30, 500⟩ : api_Knot)])), .rows 2 [(V.agg [(V.osl 2 0 (List.length ([(⟨10, 100⟩ : api_Knot), (⟨30, 500⟩ : api_Knot)]))), (V.i 0)])], .rows 2 (List.map e_api_Knot ([(⟨10, 160⟩ : api_Knot), (⟨30, 140⟩ : api_Knot)])), .rows 2 [(V.agg [(V.osl 4 0 (List.length ([(⟨10, 160⟩ : api_Knot), (⟨30, 140⟩ : api_Knot)]))), (V.i 0)])]]) rfl rfl rfl (GS.opsNil ?_)
 subst hM
 exact GS.ret ⟨_, rfl, ⟨30, rfl⟩⟩
abbrev e_api_Frac (x : api_Frac) : V := .agg [(V.i x.Num), (V.i x.Den)]
theorem ok_hull_table_at_1 (k : api_Knot) (c : Int) : Ct Tryz.prog 108 [(e_api_Knot k), (V.fptr [(V.i c)] 0 0)] (V.b (hull_table_at_1 k c)) := by
 refine ct_of_gs CC_ok rfl ?_
 generalize hM : hull_table_at_1 k c = r
 unfold hull_table_at_1 at hM
 refine X.sq ?_
 refine X.opW rfl rfl rfl rfl (X.q rfl (X.nq (X.q rfl (X.q rfl ?_))))
 refine X.opR rfl (X.mulE rfl rfl) rfl (X.q rfl (X.q rfl (X.q rfl ?_)))
 refine GS.opsNil ?_
 subst hM
 exact GS.ret ⟨_, rfl, ⟨30, rfl⟩⟩
theorem ok_slices_IndexFunc_api_Knot__hull_table_at_1 {s : (List api_Knot)} {c : Int} {r : Int} (hM : slices_IndexFunc_api_Knot__hull_table_at_1 s c = some r) : Ct Tryz.prog 107 [(V.sl (List.map e_api_Knot s)), (V.fn 108 [(V.fptr [(V.i c)] 0 0)])] (V.i r) := by
 refine ct_of_gs CC_ok rfl ?_
 unfold slices_IndexFunc_api_Knot__hull_table_at_1 at hM
 refine X.sq (X.q rfl (GS.opsNil (GS.seq (X.sq (X.q rfl ?_)))))
 refine X.opR rfl (X.lenF rfl rfl rfl) rfl (X.q rfl (GS.opsNil ?_))
 refine X.join (τ := Unit) (fun v => slices_IndexFunc_api_Knot__hull_table_at_1_j1 = some r) (fun v => ⟨[], [], 0, none, 19⟩) ?_ ?_
 ·intro _ hM
  replace hM : slices_IndexFunc_api_Knot__hull_table_at_1_j1 = some r := hM
  unfold slices_IndexFunc_api_Knot__hull_table_at_1_j1 at hM
  refine X.sq (X.q rfl (GS.opsNil ?_))
  cases hM
  exact GS.ret ⟨_, rfl, ⟨30, rfl⟩⟩
 intro hj_1
 refine GS.block ?_
 refine X.gc [] (X.loop (σ := Int) (fun v => ⟨[(0, (V.sl (List.map e_api_Knot s))), (1, (V.fn 108 [(V.fptr [(V.i c)] 0 0)])), (7, (V.i (s.length : Int))), (8, (V.i v))], [], 0, none, 19⟩) hM ?_ rfl) rfl rfl rfl (ga rfl rfl) (gb_nil)
 intro x1 b_1 hM hc_2 hr_1
 rw [slices_IndexFunc_api_Knot__hull_table_at_1_b2] at hM
 refine X.sq (X.q rfl (GS.opsNil (GS.seq ?_)))
 refine X.cond rfl (fun h_1 => ?_) (fun h_1 => ?_)
 ·replace hM := ite_t h_1 hM
  refine GS.skip (GS.seq (GS.block (X.sq (X.q rfl (X.q rfl ?_)))))
  refine GS.opsNil (GS.seq ?_)
  obtain ⟨x, h_2, hM⟩ := bind_of hM
  refine GS.region (X.q rfl (X.q rfl (X.q rfl ?_)))
  refine X.opR rfl (X.indexF (f := e_api_Knot) h_2 (fun _ => rfl) rfl rfl rfl rfl) rfl ?_
  refine X.opR rfl (X.loadF h_2 rfl rfl rfl) rfl ?_
  refine X.call (ok_hull_table_at_1 x c) rfl rfl rfl (.cons (.shut (n := 9) rfl) (.cons (.shut (n := 9) rfl) .nil)) (GS.opsNil ?_)
  refine X.cond rfl (fun h_3 => ?_) (fun h_3 => ?_)
  ·replace hM := ite_t h_3 hM
   refine X.sq (X.q rfl (X.q rfl ?_))
   refine GS.opsNil ?_
   have hE := Option.some.inj hM
   replace hE := hr_1 _ hE.symm
   subst hE
   exact GS.ret ⟨_, rfl, ⟨30, rfl⟩⟩
  replace hM := ite_f h_3 hM
  refine GS.skip ?_
  refine GS.endB (GS.region ?_)
  refine X.opR rfl (X.addE rfl rfl) rfl (X.q rfl (GS.opsNil ?_))
  have hE := Option.some.inj hM
  exact X.gc [] (hc_2 (w64 (x1 + 1)) hE.symm) rfl rfl rfl (ga rfl rfl) (gb_nil)
 replace hM := ite_f h_1 hM
 refine GS.exit rfl ?_
 obtain ⟨y_1, hM, hy⟩ := map_of hM
 rw [hr_1 _ hy.symm] at hM
 exact X.gc [] (hj_1 () hM) rfl rfl rfl (gk_nil) (gb_nil)
theorem ok_hull_table_at {t : hull_table} {mass : Int} {r : Int × Int} (hM : hull_table_at t mass = some r) : Ct Tryz.prog 49 [(e_hull_table t), (V.i mass)] (V.tup [(V.i r.1), (V.i r.2)]) := by
 refine ct_of_gs CC_ok rfl ?_
 unfold hull_table_at at hM
 refine X.sq ?_
 iterate 2 refine X.opW rfl rfl rfl rfl ?_
 refine X.q rfl (X.q rfl ?_)
 refine GS.opsNil (GS.seq ?_)
 obtain ⟨y, h_1, hM⟩ := bind_of hM
 refine GS.region ?_
 iterate 4 refine X.q rfl ?_
 refine X.callF (ok_slices_IndexFunc_api_Knot__hull_table_at_1 h_1) rfl rfl rfl (m := 9) rfl (.cons (.shut (n := 9) rfl) (.cons (FR.arg ⟨30, rfl⟩) .nil)) (X.q rfl (GS.opsNil (GS.seq ?_)))
 obtain ⟨x, h_2, hM⟩ := bind_of hM
 refine GS.region ?_
 iterate 4 refine X.q rfl ?_
 refine X.opR rfl (X.indexF (f := e_api_Knot) h_2 (fun _ => rfl) rfl rfl rfl rfl) rfl ?_
 refine X.opR rfl (X.loadF h_2 rfl rfl rfl) rfl ?_
 refine X.opW rfl rfl rfl rfl ?_
 refine X.op0W rfl rfl rfl (GS.opsNil (GS.seq (X.sq (X.q rfl (X.q rfl ?_)))))
 refine X.opR rfl (X.mulE rfl rfl) rfl (X.q rfl (X.q rfl ?_))
 refine GS.opsNil ?_
 refine X.cond rfl (fun h_3 => ?_) (fun h_3 => ?_)
 ·replace hM := ite_t h_3 hM
  refine X.sq ?_
  iterate 4 refine X.q rfl ?_
  refine GS.opsNil ?_
  cases hM
  exact GS.ret ⟨_, rfl, ⟨30, rfl⟩⟩
 replace hM := ite_f h_3 hM
 refine GS.skip (GS.seq ?_)
 obtain ⟨x1, h_4, hM⟩ := bind_of hM
 refine GS.region ?_
 iterate 4 refine X.q rfl ?_
 refine X.opR rfl (X.subE rfl rfl) rfl ?_
 refine X.opR rfl (X.indexF (f := e_api_Knot) h_4 (fun _ => rfl) rfl rfl rfl rfl) rfl ?_
 refine X.opR rfl (X.loadF h_4 rfl rfl rfl) rfl ?_
 refine X.opW (H' := [.rows 2 [(e_hull_table t)], .rows 1 [(V.i mass)], .rows 2 [(e_api_Knot x)], .rows 2 [(V.agg [(V.i 0), (V.i 0)])]]) rfl rfl rfl rfl ?_
 refine X.op0W (H' := [.rows 2 [(e_hull_table t)], .rows 1 [(V.i mass)], .rows 2 [(e_api_Knot x)], .rows 2 [(e_api_Knot x1)]]) rfl rfl rfl (X.nq ?_)
 iterate 4 refine X.q rfl ?_
 refine X.opR rfl (X.subE rfl rfl) rfl ?_
 refine X.opR rfl (X.mulE rfl rfl) rfl (X.q rfl (X.nq (X.q rfl (X.q rfl (X.q rfl ?_)))))
 refine X.opR rfl (X.mulE rfl rfl) rfl ?_
 iterate 4 refine X.q rfl ?_
 refine X.opR rfl (X.subE rfl rfl) rfl (X.q rfl (X.q rfl (X.q rfl ?_)))
 refine X.opR rfl (X.mulE rfl rfl) rfl ?_
 refine X.opR rfl (X.subE rfl rfl) rfl ?_
 refine X.opR rfl (X.mulE rfl rfl) rfl ?_
 refine X.opR rfl (X.addE rfl rfl) rfl (X.q rfl (X.q rfl (X.q rfl ?_)))
 refine GS.opsNil ?_
 cases hM
 exact GS.ret ⟨_, rfl, ⟨30, rfl⟩⟩
theorem ok_hull_low {num : Int} {den : Int} {r : api_Frac} (hM : hull_low num den = some r) : Ct Tryz.prog 48 [(V.i num), (V.i den)] (e_api_Frac r) := by
 refine ct_of_gs CC_ok rfl ?_
 unfold hull_low at hM
 refine X.sq ?_
 refine X.opW rfl rfl rfl rfl (X.nq (X.q rfl (X.q rfl ?_)))
 refine X.opR rfl (X.negE rfl) rfl ?_
 refine X.call (ok_hull_greater_int num (w64 (0 - num))) rfl rfl rfl (.cons (.shut (n := 9) rfl) (.cons (.shut (n := 9) rfl) .nil)) (X.q rfl (X.q rfl (X.q rfl ?_)))
 refine GS.opsNil (GS.seq ?_)
 refine X.join (τ := Int) (fun v => hull_low_j1 num den v = some r) (fun v => ⟨[(0, (V.i num)), (1, (V.i den)), (4, (V.ptr 0 0 0)), (5, (V.i v))], [.rows 2 [(V.agg [(V.i 0), (V.i 0)])]], 0, none, 25⟩) ?_ ?_
 ·intro a hM
  replace hM : hull_low_j1 num den a = some r := hM
  unfold hull_low_j1 at hM
  refine GS.seq ?_
  obtain ⟨q, h_1, hM⟩ := bind_of hM
  obtain ⟨q1, h_2, hM⟩ := bind_of hM
  refine X.draw (by kernel_rfl) ?_
  iterate 2 refine X.dop rfl rfl rfl rfl (by kernel_rfl) rfl rfl ?_
  refine X.dop rfl (X.quoE h_1 rfl rfl) rfl rfl (by kernel_rfl) rfl rfl ?_
  iterate 2 refine X.dop rfl rfl rfl rfl (by kernel_rfl) rfl rfl ?_
  refine X.dop rfl (X.quoE h_2 rfl rfl) rfl rfl (by kernel_rfl) rfl rfl ?_
  refine X.dop rfl rfl rfl rfl (by kernel_rfl) rfl rfl ?_
  refine X.dop0 rfl rfl rfl rfl (by kernel_rfl) rfl ?_
  refine X.dnil ?_
  refine X.norm [(4, (V.ptr 0 0 0))] ?_ rfl (sr rfl)
  cases hM
  exact GS.ret ⟨_, rfl, ⟨30, rfl⟩⟩
 intro hj_1
 refine GS.block ?_
 refine X.gc [some 0] (X.loop (σ := (Int × Int)) (fun v => ⟨[(0, (V.i num)), (1, (V.i den)), (4, (V.ptr 0 0 0)), (5, (V.i v.1)), (6, (V.i v.2))], [.rows 2 [(V.agg [(V.i 0), (V.i 0)])]], 0, none, 25⟩) hM ?_ rfl) rfl rfl rfl (ga rfl rfl) (gb9 rfl rfl rfl gb_nil)
 rintro ⟨a1, b⟩ b_1 hM hc_2 hr_1
 rw [hull_low_b2] at hM
 refine GS.seq (X.sq (X.q rfl (X.q rfl ?_)))
 refine GS.opsNil ?_
 refine X.cond rfl (fun h_3 => ?_) (fun h_3 => ?_)
 ·replace hM := ite_t h_3 hM
  refine GS.skip (GS.block ?_)
  obtain ⟨q2, h_4, hM⟩ := bind_of hM
  refine X.drawc (by kernel_rfl) rfl ?_
  iterate 3 refine X.cop rfl rfl rfl rfl ?_
  refine X.cop rfl (X.remE h_4 rfl rfl) rfl rfl ?_
  iterate 2 refine X.cop rfl rfl rfl rfl ?_
  refine X.cnil ?_
  refine X.norm [(0, (V.i num)), (1, (V.i den)), (4, (V.ptr 0 0 0)), (5, (V.i b)), (6, (V.i q2))] ?_ rfl (sr rfl)
  refine GS.endB ?_
  have hE := Option.some.inj hM
  exact X.gc [some 0] (hc_2 (b, q2) hE.symm) rfl rfl rfl (ga rfl rfl) (gb9 rfl rfl rfl gb_nil)
 replace hM := ite_f h_3 hM
 refine GS.exit rfl ?_
 obtain ⟨y_1, hM, hy⟩ := map_of hM
 rw [hr_1 _ hy.symm] at hM
 exact X.gc [some 0] (hj_1 a1 hM) rfl rfl rfl (ga rfl rfl) (gb9 rfl rfl rfl gb_nil)
theorem ok_hull_Meta {s : api_Ship} {mass : Int} {r : api_Frac × Int} (hM : hull_Meta s mass = some r) : Ct Tryz.prog 12 [(e_api_Ship s), (V.i mass)] (V.tup [(e_api_Frac r.1), (V.i r.2)]) := by
 refine ct_of_gs CC_ok rfl ?_
 unfold hull_Meta at hM
 refine X.sq ?_
 iterate 2 refine X.opW rfl rfl rfl rfl ?_
 refine X.q rfl (GS.opsNil ?_)
 iterate 2 refine GS.seq ?_
 obtain ⟨y, h_1, hM⟩ := bind_of hM
 refine GS.region (X.q rfl ?_)
 refine X.call (ok_hull_Check h_1) rfl rfl rfl (.cons (.shut (n := 9) rfl) .nil) (X.q rfl (X.nq (X.q rfl (X.q rfl ?_))))
 refine GS.opsNil ?_
 refine X.cond rfl (fun h_2 => ?_) (fun h_2 => ?_)
 ·replace hM := ite_t h_2 hM
  refine X.sq (X.q rfl (X.q rfl ?_))
  refine X.op0W rfl rfl rfl (X.q rfl (GS.opsNil ?_))
  cases hM
  exact GS.ret ⟨_, rfl, ⟨30, rfl⟩⟩
 replace hM := ite_f h_2 hM
 refine GS.skip ?_
 iterate 2 refine GS.seq ?_
 obtain ⟨y1, h_3, hM⟩ := bind_of hM
 refine X.drawc (by kernel_rfl) rfl ?_
 iterate 4 refine X.cop rfl rfl rfl rfl ?_
 refine X.ccall (ok_hull_rooms h_3) rfl rfl rfl rfl (.cons (.shut (n := 9) rfl) .nil) ?_
 refine X.ccall (ok_hull_within mass s.Light y1) rfl rfl rfl rfl (.cons (.shut (n := 9) rfl) (.cons (.shut (n := 9) rfl) (.cons (.shut (n := 9) rfl) .nil))) ?_
 refine X.cop rfl rfl rfl rfl ?_
 refine X.cnil ?_
 refine X.norm [(1, (V.i mass)), (2, (V.ptr 0 0 0)), (4, (V.ptr 1 0 0)), (19, (V.b (!(hull_within mass s.Light y1))))] ?_ rfl (sr rfl)
 refine X.cond rfl (fun h_4 => ?_) (fun h_4 => ?_)
 ·replace hM := ite_t h_4 hM
  refine X.sq (X.q rfl ?_)
  refine X.op0W rfl rfl rfl (X.q rfl (GS.opsNil ?_))
  cases hM
  exact GS.ret ⟨_, rfl, ⟨30, rfl⟩⟩
 replace hM := ite_f h_4 hM
 refine GS.skip (GS.seq ?_)
 obtain ⟨y2, h_5, hM⟩ := bind_of hM
 obtain ⟨y3, h_6, hM⟩ := bind_of hM
 refine GS.region ?_
 iterate 4 refine X.q rfl ?_
 refine X.call (ok_hull_table_at h_5) rfl rfl rfl (.cons (.shut (n := 9) rfl) (.cons (.shut (n := 9) rfl) .nil)) (X.q rfl (X.q rfl ?_))
 refine X.call (ok_hull_low h_6) rfl rfl rfl (.cons (.shut (n := 9) rfl) (.cons (.shut (n := 9) rfl) .nil)) ?_
 refine X.op0W rfl rfl rfl (X.q rfl (GS.opsNil ?_))
 cases hM
 exact GS.ret ⟨_, rfl, ⟨30, rfl⟩⟩
theorem ok_curve_domain {c : api_Curve} {r : api_Span} (hM : curve_domain c = some r) : Ct Tryz.prog 54 [(e_api_Curve c)] (e_api_Span r) := by
 refine ct_of_gs CC_ok rfl ?_
 unfold curve_domain at hM
 refine X.sq ?_
 iterate 2 refine X.opW rfl rfl rfl rfl ?_
 refine GS.opsNil (GS.seq ?_)
 obtain ⟨x, h_1, hM⟩ := bind_of hM
 obtain ⟨x1, h_2, hM⟩ := bind_of hM
 refine X.draw (by kernel_rfl) ?_
 iterate 2 refine X.dop rfl rfl rfl rfl (by kernel_rfl) rfl rfl ?_
 refine X.dop rfl (X.indexF (f := e_api_Knot) h_1 (fun _ => rfl) rfl rfl rfl rfl) rfl rfl (by kernel_rfl) rfl rfl ?_
 refine X.dop rfl rfl rfl rfl (by kernel_rfl) rfl rfl ?_
 refine X.dop rfl (X.loadF h_1 rfl rfl rfl) rfl rfl (by kernel_rfl) rfl rfl ?_
 iterate 4 refine X.dop rfl rfl rfl rfl (by kernel_rfl) rfl rfl ?_
 refine X.dop rfl (X.lenF rfl rfl rfl) rfl rfl (by kernel_rfl) rfl rfl ?_
 refine X.dop rfl (X.subE rfl rfl) rfl rfl (by kernel_rfl) rfl rfl ?_
 refine X.dop rfl (X.indexF (f := e_api_Knot) h_2 (fun _ => rfl) rfl rfl rfl rfl) rfl rfl (by kernel_rfl) rfl rfl ?_
 refine X.dop rfl rfl rfl rfl (by kernel_rfl) rfl rfl ?_
 refine X.dop rfl (X.loadF h_2 rfl rfl rfl) rfl rfl (by kernel_rfl) rfl rfl ?_
 refine X.dop rfl rfl rfl rfl (by kernel_rfl) rfl rfl ?_
 refine X.dop0 rfl rfl rfl rfl (by kernel_rfl) rfl ?_
 refine X.dnil ?_
 refine X.norm [(2, (V.ptr 1 0 0))] ?_ rfl (sr rfl)
 cases hM
 exact GS.ret ⟨_, rfl, ⟨30, rfl⟩⟩
theorem ok_curve_piece_run (x : curve_piece) : Ct Tryz.prog 114 [(e_curve_piece x)] (V.i (curve_piece_run x)) := by
 refine ct_of_gs CC_ok rfl ?_
 generalize hM : curve_piece_run x = r
 unfold curve_piece_run at hM
 refine X.sq ?_
 refine X.opW rfl rfl rfl rfl (X.q rfl (X.nq ?_))
 iterate 6 refine X.q rfl ?_
 refine X.opR rfl (X.subE rfl rfl) rfl (X.q rfl (GS.opsNil ?_))
 subst hM
 exact GS.ret ⟨_, rfl, ⟨30, rfl⟩⟩
theorem ok_curve_size (n : Int) : Ct Tryz.prog 196 [(V.i n)] (V.i (curve_size n)) := by
 refine ct_of_gs CC_ok rfl ?_
 generalize hM : curve_size n = r
 unfold curve_size at hM
 refine X.sq (X.q rfl (X.nq (X.q rfl (X.q rfl ?_))))
 refine X.opR rfl (X.negE rfl) rfl ?_
 refine X.opR rfl (X.maxE rfl rfl) rfl (X.q rfl (GS.opsNil ?_))
 subst hM
 exact GS.ret ⟨_, rfl, ⟨30, rfl⟩⟩
theorem ok_curve_common {a : Int} {b : Int} {r : Int} (hM : curve_common a b = some r) : Ct Tryz.prog 195 [(V.i a), (V.i b)] (V.i r) := by
 refine ct_of_gs CC_ok rfl ?_
 unfold curve_common at hM
 refine X.sq (X.q rfl (GS.opsNil (GS.seq ?_)))
 refine X.join (τ := Int) (fun v => curve_common_j1 v = some r) (fun v => ⟨[(0, (V.i v))], [], 0, none, 12⟩) ?_ ?_
 ·intro a1 hM
  replace hM : curve_common_j1 a1 = some r := hM
  unfold curve_common_j1 at hM
  refine X.sq (X.q rfl (X.q rfl ?_))
  refine GS.opsNil ?_
  cases hM
  exact GS.ret ⟨_, rfl, ⟨30, rfl⟩⟩
 intro hj_1
 refine GS.block ?_
 refine X.gc [] (X.loop (σ := (Int × Int)) (fun v => ⟨[(0, (V.i v.1)), (1, (V.i v.2))], [], 0, none, 12⟩) hM ?_ rfl) rfl rfl rfl (ga rfl rfl) (gb_nil)
 rintro ⟨a2, b1⟩ b_1 hM hc_2 hr_1
 rw [curve_common_b2] at hM
 refine GS.seq (X.sq (X.q rfl (X.q rfl ?_)))
 refine GS.opsNil ?_
 refine X.cond rfl (fun h_1 => ?_) (fun h_1 => ?_)
 ·replace hM := ite_t h_1 hM
  refine GS.skip (GS.block ?_)
  obtain ⟨q, h_2, hM⟩ := bind_of hM
  refine X.drawc (by kernel_rfl) rfl ?_
  iterate 3 refine X.cop rfl rfl rfl rfl ?_
  refine X.cop rfl (X.remE h_2 rfl rfl) rfl rfl ?_
  iterate 2 refine X.cop rfl rfl rfl rfl ?_
  refine X.cnil ?_
  refine X.norm [(0, (V.i b1)), (1, (V.i q))] ?_ rfl (sr rfl)
  refine GS.endB ?_
  have hE := Option.some.inj hM
  exact X.gc [] (hc_2 (b1, q) hE.symm) rfl rfl rfl (ga rfl rfl) (gb_nil)
 replace hM := ite_f h_1 hM
 refine GS.exit rfl ?_
 obtain ⟨y_1, hM, hy⟩ := map_of hM
 rw [hr_1 _ hy.symm] at hM
 exact X.gc [] (hj_1 a2 hM) rfl rfl rfl (ga rfl rfl) (gb_nil)
theorem ok_curve_frac {num : Int} {den : Int} {r : api_Frac} (hM : curve_frac num den = some r) : Ct Tryz.prog 113 [(V.i num), (V.i den)] (e_api_Frac r) := by
 refine ct_of_gs CC_ok rfl ?_
 unfold curve_frac at hM
 refine X.sq ?_
 refine X.opW rfl rfl rfl rfl (GS.opsNil (GS.seq (X.sq (X.q rfl (X.q rfl ?_)))))
 refine GS.opsNil ?_
 refine X.join (τ := Int × Int) (fun v => curve_frac_j1 v.1 v.2 = some r) (fun v => ⟨[(0, (V.i v.1)), (1, (V.i v.2)), (4, (V.ptr 0 0 0))], [.rows 2 [(V.agg [(V.i 0), (V.i 0)])]], 0, none, 23⟩) ?_ ?_
 ·rintro ⟨num1, den1⟩ hM
  replace hM : curve_frac_j1 num1 den1 = some r := hM
  unfold curve_frac_j1 at hM
  refine GS.seq ?_
  obtain ⟨y, h_1, hM⟩ := bind_of hM
  refine GS.region (X.q rfl ?_)
  refine X.call (ok_curve_size num1) rfl rfl rfl (.cons (.shut (n := 9) rfl) .nil) (X.q rfl ?_)
  refine X.call (ok_curve_common h_1) rfl rfl rfl (.cons (.shut (n := 9) rfl) (.cons (.shut (n := 9) rfl) .nil)) (X.q rfl (GS.opsNil (GS.seq ?_)))
  obtain ⟨q, h_2, hM⟩ := bind_of hM
  obtain ⟨q1, h_3, hM⟩ := bind_of hM
  refine X.draw (by kernel_rfl) ?_
  iterate 2 refine X.dop rfl rfl rfl rfl (by kernel_rfl) rfl rfl ?_
  refine X.dop rfl (X.quoE h_2 rfl rfl) rfl rfl (by kernel_rfl) rfl rfl ?_
  iterate 2 refine X.dop rfl rfl rfl rfl (by kernel_rfl) rfl rfl ?_
  refine X.dop rfl (X.quoE h_3 rfl rfl) rfl rfl (by kernel_rfl) rfl rfl ?_
  refine X.dop rfl rfl rfl rfl (by kernel_rfl) rfl rfl ?_
  refine X.dop0 rfl rfl rfl rfl (by kernel_rfl) rfl ?_
  refine X.dnil ?_
  refine X.norm [(4, (V.ptr 0 0 0))] ?_ rfl (sr rfl)
  cases hM
  exact GS.ret ⟨_, rfl, ⟨30, rfl⟩⟩
 intro hj_1
 refine X.cond rfl (fun h_4 => ?_) (fun h_4 => ?_)
 ·replace hM := ite_t h_4 hM
  refine GS.region (X.q rfl ?_)
  refine X.opR rfl (X.negE rfl) rfl (X.q rfl ?_)
  refine X.opR rfl (X.negE rfl) rfl (X.q rfl (X.q rfl ?_))
  refine GS.opsNil ?_
  exact X.gc [some 0] (hj_1 (w64 (0 - num), w64 (0 - den)) hM) rfl rfl rfl (ga rfl rfl) (gb9 rfl rfl rfl gb_nil)
 replace hM := ite_f h_4 hM
 refine GS.skip ?_
 exact X.gc [some 0] (hj_1 (num, den) hM) rfl rfl rfl (ga rfl rfl) (gb9 rfl rfl rfl gb_nil)
theorem ok_curve_value {c : api_Curve} {x : Int} {r : api_Frac} (hM : curve_value c x = some r) : Ct Tryz.prog 56 [(e_api_Curve c), (V.i x)] (e_api_Frac r) := by
 refine ct_of_gs CC_ok rfl ?_
 unfold curve_value at hM
 refine X.sq ?_
 iterate 3 refine X.opW rfl rfl rfl rfl ?_
 refine GS.opsNil (GS.seq (X.sq (X.q rfl ?_)))
 refine X.call (ok_curve_pieces c) rfl rfl rfl (.cons (.shut (n := 9) rfl) .nil) (GS.opsNil (GS.block ?_))
 refine X.gc [some 0, some 1, some 2] (H' := [.rows 2 [(e_api_Curve c)], .rows 1 [(V.i x)], .rows 2 [(V.agg [(V.i 0), (V.i 0)])]]) (K' := [(2, (V.ptr 0 0 0)), (3, (V.ptr 1 0 0)), (4, (V.ptr 2 0 0)), (8, (V.fn 194 [(V.fptr [(e_api_Curve (curve_pieces c))] 0 0)]))]) ?_ rfl rfl rfl (ga rfl rfl) (gb9 rfl rfl rfl (gb9 rfl rfl rfl (gb9 rfl rfl rfl gb_nil)))
 refine X.range rfl rfl (lowK_cons ⟨9, rfl⟩ (lowK_cons ⟨9, rfl⟩ (lowK_cons ⟨9, rfl⟩ (lowK_cons ⟨9, rfl⟩ lowK_nil)))) rfl ?_
 intro R_1 hrn_1 hrK_1 hrp_1 hra_1 hrb_1 hlow_1
 refine X.sq (X.q rfl (GS.opsNil (GS.block ?_)))
 refine X.gc [] (X.loop (σ := Int) (fun v => ⟨[(0, (V.yld 3)), (1, (V.fptr [(e_api_Curve (curve_pieces c))] 0 0)), (3, (V.i v))], [.rows 2 [(e_api_Curve c)], .rows 1 [(V.i x)], .rows 2 [(V.agg [(V.i 0), (V.i 0)])], lr R_1 .ready none], 0, none, 28⟩) hM ?_ rfl) rfl rfl rfl (ga rfl rfl) (gb9 rfl rfl rfl (gb9 rfl rfl rfl (gb9 rfl rfl rfl (gb_loop hlow_1 rfl rfl rfl gb_nil))))
 intro i b_1 hM hc_1 hr_1
 rw [curve_value_b1] at hM
 refine GS.seq (X.sq (X.q rfl (X.q rfl (X.q rfl ?_))))
 refine X.opR rfl (X.lenF rfl rfl rfl) rfl (X.q rfl (GS.opsNil ?_))
 refine X.cond rfl (fun h_2 => ?_) (fun h_2 => ?_)
 ·replace hM := ite_t h_2 hM
  refine GS.skip (GS.seq (GS.block (GS.seq ?_)))
  obtain ⟨x1, h_3, hM⟩ := bind_of hM
  obtain ⟨x2, h_4, hM⟩ := bind_of hM
  refine X.drawCut 15 rfl (by kernel_rfl) (by kernel_rfl) ?_
  iterate 2 refine X.dop rfl rfl rfl rfl (by kernel_rfl) rfl rfl ?_
  refine X.dop rfl (X.subE rfl rfl) rfl rfl (by kernel_rfl) rfl rfl ?_
  iterate 3 refine X.dop rfl rfl rfl rfl (by kernel_rfl) rfl rfl ?_
  refine X.dop rfl (X.subE rfl rfl) rfl rfl (by kernel_rfl) rfl rfl ?_
  refine X.dop rfl (X.indexF (f := e_api_Knot) h_3 (fun _ => rfl) rfl rfl rfl rfl) rfl rfl (by kernel_rfl) rfl rfl ?_
  refine X.dop rfl (X.loadF h_3 rfl rfl rfl) rfl rfl (by kernel_rfl) rfl rfl ?_
  iterate 3 refine X.dop rfl rfl rfl rfl (by kernel_rfl) rfl rfl ?_
  refine X.dop rfl (X.indexF (f := e_api_Knot) h_4 (fun _ => rfl) rfl rfl rfl rfl) rfl rfl (by kernel_rfl) rfl rfl ?_
  refine X.dop rfl (X.loadF h_4 rfl rfl rfl) rfl rfl (by kernel_rfl) rfl rfl ?_
  refine X.dop rfl rfl rfl rfl (by kernel_rfl) rfl rfl ?_
  refine X.dnil ?_
  refine X.norm [(0, (V.yld 3)), (1, (V.fptr [(e_api_Curve (curve_pieces c))] 0 0)), (3, (V.i i)), (11, (V.yld 3)), (13, (V.i (w64 (i - 1)))), (25, (V.agg [(V.i x1.X), (V.i x1.Y), (V.i x2.X), (V.i x2.Y)]))] ?_ rfl (sr rfl)
  refine X.yld hrn_1 hrK_1 hrp_1 hra_1 hrb_1 rfl rfl rfl rfl rfl rfl (GS.region ?_)
  refine X.opW (H' := [.rows 2 [(e_api_Curve c)], .rows 1 [(V.i x)], .rows 2 [(V.agg [(V.i 0), (V.i 0)])], lr R_1 .ready none, .rows 4 [(V.agg [(V.i 0), (V.i 0), (V.i 0), (V.i 0)])]]) rfl rfl rfl rfl ?_
  refine X.op0W (H' := [.rows 2 [(e_api_Curve c)], .rows 1 [(V.i x)], .rows 2 [(V.agg [(V.i 0), (V.i 0)])], lr R_1 .ready none, .rows 4 [(V.agg [(V.i x1.X), (V.i x1.Y), (V.i x2.X), (V.i x2.Y)])]]) rfl rfl rfl (GS.opsNil ?_)
  refine GS.nil (X.begin' rfl rfl ?_ rfl)
  refine GS.block (X.sq ?_)
  iterate 5 refine X.q rfl ?_
  refine GS.opsNil ?_
  refine X.cond rfl (fun h_5 => ?_) (fun h_5 => ?_)
  ·replace hM := ite_t h_5 hM
   refine GS.seq ?_
   obtain ⟨y, h_6, hM⟩ := bind_of hM
   refine X.draw (by kernel_rfl) ?_
   iterate 4 refine X.dop rfl rfl rfl rfl (by kernel_rfl) rfl rfl ?_
   refine X.dcall (ok_curve_piece_run (⟨x1, x2⟩ : curve_piece)) rfl rfl rfl (by kernel_rfl) rfl (.cons (.shut (n := 9) rfl) .nil) ?_
   refine X.dop rfl (X.mulE rfl rfl) rfl rfl (by kernel_rfl) rfl rfl ?_
   refine X.dop rfl rfl rfl rfl (by kernel_rfl) rfl rfl ?_
   refine X.dcall (ok_curve_piece_rise (⟨x1, x2⟩ : curve_piece)) rfl rfl rfl (by kernel_rfl) rfl (.cons (.shut (n := 9) rfl) .nil) ?_
   iterate 4 refine X.dop rfl rfl rfl rfl (by kernel_rfl) rfl rfl ?_
   refine X.dop rfl (X.subE rfl rfl) rfl rfl (by kernel_rfl) rfl rfl ?_
   refine X.dop rfl (X.mulE rfl rfl) rfl rfl (by kernel_rfl) rfl rfl ?_
   refine X.dop rfl (X.addE rfl rfl) rfl rfl (by kernel_rfl) rfl rfl ?_
   refine X.dop rfl rfl rfl rfl (by kernel_rfl) rfl rfl ?_
   refine X.dcall (ok_curve_piece_run (⟨x1, x2⟩ : curve_piece)) rfl rfl rfl (by kernel_rfl) rfl (.cons (.shut (n := 9) rfl) .nil) ?_
   refine X.dcall (ok_curve_frac h_6) rfl rfl rfl (by kernel_rfl) rfl (.cons (.shut (n := 9) rfl) (.cons (.shut (n := 9) rfl) .nil)) ?_
   refine X.dop0 rfl rfl rfl rfl (by kernel_rfl) rfl ?_
   refine X.dnil ?_
   refine X.norm [] ?_ rfl W.sub_nil
   refine GS.ret ⟨_, rfl, ?_⟩
   refine X.norm (H' := [.rows 2 [(e_api_Curve c)], .rows 1 [(V.i x)], .rows 2 [(e_api_Frac y)], lr R_1 .done (some .ret), .rows 4 [(V.agg [(V.i x1.X), (V.i x1.Y), (V.i x2.X), (V.i x2.Y)])]]) [(0, (V.yld 3)), (1, (V.fptr [(e_api_Curve (curve_pieces c))] 0 0)), (3, (V.i i)), (26, (V.b false))] ?_ rfl (sr rfl)
   refine X.q rfl (GS.opsNil ?_)
   refine GS.condT rfl ?_
   refine GS.ret ⟨_, _, rfl, rfl, ?_⟩
   refine X.norm (H' := [.rows 2 [(e_api_Curve c)], .rows 1 [(V.i x)], .rows 2 [(e_api_Frac y)], .dead, .rows 4 [(V.agg [(V.i x1.X), (V.i x1.Y), (V.i x2.X), (V.i x2.Y)])]]) [(2, (V.ptr 0 0 0)), (3, (V.ptr 1 0 0)), (4, (V.ptr 2 0 0)), (8, (V.fn 194 [(V.fptr [(e_api_Curve (curve_pieces c))] 0 0)]))] ?_ rfl (sr rfl)
   have hE := Option.some.inj hM
   replace hE := hr_1 _ hE.symm
   subst hE
   exact GS.ret ⟨_, rfl, ⟨30, rfl⟩⟩
  replace hM := ite_f h_5 hM
  refine GS.skip ?_
  refine GS.endB ?_
  refine GS.nil ⟨_, rfl, ?_⟩
  refine X.norm (H' := [.rows 2 [(e_api_Curve c)], .rows 1 [(V.i x)], .rows 2 [(V.agg [(V.i 0), (V.i 0)])], lr R_1 .ready none, .rows 4 [(V.agg [(V.i x1.X), (V.i x1.Y), (V.i x2.X), (V.i x2.Y)])]]) [(0, (V.yld 3)), (1, (V.fptr [(e_api_Curve (curve_pieces c))] 0 0)), (3, (V.i i)), (26, (V.b true))] ?_ rfl (sr rfl)
  refine X.q rfl (GS.opsNil ?_)
  refine GS.condF rfl (GS.skip ?_)
  refine GS.endB (GS.region (X.q rfl ?_))
  refine X.opR rfl (X.addE rfl rfl) rfl (X.q rfl (GS.opsNil ?_))
  have hE := Option.some.inj hM
  exact X.gc [] (hc_1 (w64 (i + 1)) hE.symm) rfl rfl rfl (ga rfl rfl) (gb9 rfl rfl rfl (gb9 rfl rfl rfl (gb9 rfl rfl rfl (gb_loop hlow_1 rfl rfl rfl gb_nil))))
 replace hM := ite_f h_2 hM
 refine GS.exit rfl ?_
 refine GS.nil ⟨_, _, rfl, rfl, ?_⟩
 refine X.norm (H' := [.rows 2 [(e_api_Curve c)], .rows 1 [(V.i x)], .rows 2 [(V.agg [(V.i 0), (V.i 0)])], .dead]) [(2, (V.ptr 0 0 0)), (3, (V.ptr 1 0 0)), (4, (V.ptr 2 0 0)), (8, (V.fn 194 [(V.fptr [(e_api_Curve (curve_pieces c))] 0 0)]))] ?_ rfl (sr rfl)
 refine GS.endB (GS.seq ?_)
 obtain ⟨x3, h_7, hM⟩ := bind_of hM
 obtain ⟨y1, h_8, hM⟩ := bind_of hM
 refine GS.region ?_
 iterate 4 refine X.q rfl ?_
 refine X.opR rfl (X.lenF rfl rfl rfl) rfl ?_
 refine X.opR rfl (X.subE rfl rfl) rfl ?_
 refine X.opR rfl (X.indexF (f := e_api_Knot) h_7 (fun _ => rfl) rfl rfl rfl rfl) rfl (X.q rfl ?_)
 refine X.opR rfl (X.loadF h_7 rfl rfl rfl) rfl ?_
 refine X.call (ok_curve_frac h_8) rfl rfl rfl (.cons (.shut (n := 9) rfl) (.cons (.shut (n := 9) rfl) .nil)) ?_
 refine X.op0W (H' := [.rows 2 [(e_api_Curve c)], .rows 1 [(V.i x)], .rows 2 [(e_api_Frac y1)], .dead]) rfl rfl rfl (GS.opsNil ?_)
 have hE := Option.some.inj hM
 replace hE := hr_1 _ hE.symm
 subst hE
 exact GS.ret ⟨_, rfl, ⟨30, rfl⟩⟩
theorem ok_curve_Value {c : api_Curve} {x : Int} {r : api_Frac × Int} (hM : curve_Value c x = some r) : Ct Tryz.prog 15 [(e_api_Curve c), (V.i x)] (V.tup [(e_api_Frac r.1), (V.i r.2)]) := by
 refine ct_of_gs CC_ok rfl ?_
 unfold curve_Value at hM
 refine X.sq ?_
 iterate 2 refine X.opW rfl rfl rfl rfl ?_
 refine X.q rfl (GS.opsNil ?_)
 iterate 2 refine GS.seq ?_
 obtain ⟨y, h_1, hM⟩ := bind_of hM
 refine GS.region (X.q rfl ?_)
 refine X.call (ok_curve_Check h_1) rfl rfl rfl (.cons (.shut (n := 9) rfl) .nil) (X.q rfl (X.nq (X.q rfl (X.q rfl ?_))))
 refine GS.opsNil ?_
 refine X.cond rfl (fun h_2 => ?_) (fun h_2 => ?_)
 ·replace hM := ite_t h_2 hM
  refine X.sq (X.q rfl (X.q rfl ?_))
  refine X.op0W rfl rfl rfl (X.q rfl (GS.opsNil ?_))
  cases hM
  exact GS.ret ⟨_, rfl, ⟨30, rfl⟩⟩
 replace hM := ite_f h_2 hM
 refine GS.skip ?_
 iterate 2 refine GS.seq ?_
 obtain ⟨y1, h_3, hM⟩ := bind_of hM
 refine GS.region (X.q rfl ?_)
 refine X.call (ok_curve_domain h_3) rfl rfl rfl (.cons (.shut (n := 9) rfl) .nil) ?_
 refine X.opW rfl rfl rfl rfl ?_
 refine X.op0W rfl rfl rfl (X.nq ?_)
 iterate 5 refine X.q rfl ?_
 refine X.call (ok_curve_within x y1.Lo y1.Hi) rfl rfl rfl (.cons (.shut (n := 9) rfl) (.cons (.shut (n := 9) rfl) (.cons (.shut (n := 9) rfl) .nil))) (X.q rfl (GS.opsNil ?_))
 refine X.cond rfl (fun h_4 => ?_) (fun h_4 => ?_)
 ·replace hM := ite_t h_4 hM
  refine X.sq (X.q rfl ?_)
  refine X.op0W rfl rfl rfl (X.q rfl (GS.opsNil ?_))
  cases hM
  exact GS.ret ⟨_, rfl, ⟨30, rfl⟩⟩
 replace hM := ite_f h_4 hM
 refine GS.skip (GS.seq ?_)
 obtain ⟨y2, h_5, hM⟩ := bind_of hM
 refine GS.region (X.q rfl (X.q rfl ?_))
 refine X.call (ok_curve_value h_5) rfl rfl rfl (.cons (.shut (n := 9) rfl) (.cons (.shut (n := 9) rfl) .nil)) ?_
 refine X.op0W rfl rfl rfl (X.q rfl (GS.opsNil ?_))
 cases hM
 exact GS.ret ⟨_, rfl, ⟨30, rfl⟩⟩
theorem ok_hull_each (l : api_Load) : Ct Tryz.prog 121 [(e_api_Load l)] (V.fn 203 [(V.fptr [(e_api_Load (hull_each l))] 0 0)]) := by
 refine ct_of_gs CC_ok rfl ?_
 generalize hM : hull_each l = r
 unfold hull_each at hM
 refine X.sq ?_
 refine X.opW rfl rfl rfl rfl (X.q rfl (X.nq (X.q rfl (X.q rfl ?_))))
 refine GS.opsNil ?_
 subst hM
 exact GS.ret ⟨_, rfl, ⟨30, rfl⟩⟩
theorem ok_hull_heights {s : api_Ship} {r : (List Int)} (hM : hull_heights s = some r) : Ct Tryz.prog 123 [(e_api_Ship s)] (V.sl (List.map V.i r)) := by
 refine ct_of_gs CC_ok rfl ?_
 unfold hull_heights at hM
 refine X.sq ?_
 refine X.opW rfl rfl rfl rfl (X.q rfl (X.nq (X.q rfl (GS.opsNil (GS.seq (X.sq (X.q rfl (X.q rfl ?_))))))))
 refine X.opR rfl (X.lenF rfl rfl rfl) rfl (X.q rfl (GS.opsNil ?_))
 refine X.join (τ := (List Int)) (fun v => hull_heights_j1 v = some r) (fun v => ⟨[(3, (ovl 0 v))], [obl 1 V.i v], 0, none, 20⟩) ?_ ?_
 ·intro l hM
  replace hM : hull_heights_j1 l = some r := hM
  unfold hull_heights_j1 at hM
  refine X.sq (X.q rfl (X.q rfl ?_))
  refine GS.opsNil ?_
  have hE := Option.some.inj hM
  subst hE
  exact GS.ret ⟨_, rfl, FR.ovl (f := V.i) (l := l) 9 rfl rfl (fun _ => rfl)⟩
 intro hj_1
 refine GS.block ?_
 refine X.gc [none] (X.loop (σ := (Int × (List Int))) (fun v => ⟨[(3, (ovl 0 v.2)), (7, (V.sl (List.map e_api_Hold s.Holds))), (8, (V.i (s.Holds.length : Int))), (9, (V.i v.1))], [obl 1 V.i v.2], 0, none, 20⟩) hM ?_ rfl) rfl rfl rfl (ga rfl rfl) (gb_pad' rfl gb_nil)
 rintro ⟨x1, l2⟩ b_1 hM hc_2 hr_1
 rw [hull_heights_b2] at hM
 refine X.sq (X.q rfl (GS.opsNil (GS.seq ?_)))
 refine X.cond rfl (fun h_1 => ?_) (fun h_1 => ?_)
 ·replace hM := ite_t h_1 hM
  refine GS.skip (GS.seq (GS.block (GS.seq ?_)))
  obtain ⟨x, h_2, hM⟩ := bind_of hM
  refine GS.region ?_
  refine X.opR rfl (X.indexF (f := e_api_Hold) h_2 (fun _ => rfl) rfl rfl rfl rfl) rfl ?_
  refine X.opR rfl (X.loadF h_2 rfl rfl rfl) rfl ?_
  refine X.opW rfl rfl rfl rfl ?_
  refine X.op0W rfl rfl rfl (GS.opsNil ?_)
  obtain ⟨l1, h_3, hM⟩ := bind_of hM
  refine GS.region (X.q rfl (X.q rfl (X.q rfl ?_)))
  refine X.opW rfl rfl rfl rfl ?_
  refine X.appN (f := V.i) h_3 (fun _ => rfl) (by rfl) (by rfl) (by rfl) (by rfl) (by rfl) (by rfl) (by rfl) (by rfl) (by rfl) (by rfl) (by rfl) (by exact rfl) (by rfl) (by rfl) (X.q rfl (GS.opsNil ?_))
  refine GS.endB (GS.region ?_)
  refine X.opR rfl (X.addE rfl rfl) rfl (X.q rfl (GS.opsNil ?_))
  have hE := Option.some.inj hM
  exact X.gc [some 3] (hc_2 (w64 (x1 + 1), l1) hE.symm) rfl rfl rfl (gk_cons rfl (rv_ne (app_ne h_3) rfl) (ga rfl rfl)) (gb_obl' 9 (app_ne h_3) rfl rfl (fun _ => rfl) gb_nil)
 replace hM := ite_f h_1 hM
 refine GS.exit rfl ?_
 obtain ⟨y_1, hM, hy⟩ := map_of hM
 rw [hr_1 _ hy.symm] at hM
 exact X.gc [some 0] (hj_1 l2 hM) rfl rfl rfl (gk_cons rfl (rn_ovl rfl) gk_nil) (gb_obl 9 rfl rfl (fun _ => rfl) gb_nil)
theorem ok_cmp_isNaN_int (x : Int) : Ct Tryz.prog 222 [(V.i x)] (V.b (cmp_isNaN_int x)) := by
 refine ct_of_gs CC_ok rfl ?_
 generalize hM : cmp_isNaN_int x = r
 unfold cmp_isNaN_int at hM
 refine X.sq (X.q rfl (X.nq ?_))
 iterate 4 refine X.q rfl ?_
 refine GS.opsNil ?_
 subst hM
 exact GS.ret ⟨_, rfl, ⟨30, rfl⟩⟩
theorem ok_cmp_Compare_int (x : Int) (y : Int) : Ct Tryz.prog 155 [(V.i x), (V.i y)] (V.i (cmp_Compare_int x y)) := by
 refine ct_of_gs CC_ok rfl ?_
 generalize hM : cmp_Compare_int x y = r
 unfold cmp_Compare_int at hM
 refine X.sq (X.q rfl (X.nq (X.q rfl ?_)))
 refine X.call (ok_cmp_isNaN_int x) rfl rfl rfl (.cons (.shut (n := 9) rfl) .nil) (X.q rfl (X.nq (X.q rfl ?_)))
 refine X.call (ok_cmp_isNaN_int y) rfl rfl rfl (.cons (.shut (n := 9) rfl) .nil) (X.q rfl (GS.opsNil (GS.seq (X.sq (X.q rfl (GS.opsNil ?_))))))
 refine X.cond rfl (fun h_1 => ?_) (fun h_1 => ?_)
 ·replace hM := ite_t h_1 hM
  refine GS.seq (X.sq (X.q rfl (GS.opsNil ?_)))
  refine X.cond rfl (fun h_2 => ?_) (fun h_2 => ?_)
  ·replace hM := ite_t h_2 hM
   refine X.sq (X.q rfl (GS.opsNil ?_))
   subst hM
   exact GS.ret ⟨_, rfl, ⟨30, rfl⟩⟩
  replace hM := ite_f h_2 hM
  refine GS.skip (X.sq (X.q rfl (GS.opsNil ?_)))
  subst hM
  exact GS.ret ⟨_, rfl, ⟨30, rfl⟩⟩
 replace hM := ite_f h_1 hM
 refine GS.skip (GS.seq (X.sq (X.q rfl (GS.opsNil ?_))))
 refine X.cond rfl (fun h_3 => ?_) (fun h_3 => ?_)
 ·replace hM := ite_t h_3 hM
  refine X.sq (X.q rfl (GS.opsNil ?_))
  subst hM
  exact GS.ret ⟨_, rfl, ⟨30, rfl⟩⟩
 replace hM := ite_f h_3 hM
 refine GS.skip (GS.seq (X.sq (X.q rfl (X.q rfl (X.q rfl ?_)))))
 refine GS.opsNil ?_
 refine X.cond rfl (fun h_4 => ?_) (fun h_4 => ?_)
 ·replace hM := ite_t h_4 hM
  refine X.sq (X.q rfl (GS.opsNil ?_))
  subst hM
  exact GS.ret ⟨_, rfl, ⟨30, rfl⟩⟩
 replace hM := ite_f h_4 hM
 refine GS.skip (GS.seq (X.sq (X.q rfl (X.q rfl (X.q rfl ?_)))))
 refine GS.opsNil ?_
 refine X.cond rfl (fun h_5 => ?_) (fun h_5 => ?_)
 ·replace hM := ite_t h_5 hM
  refine X.sq (X.q rfl (GS.opsNil ?_))
  subst hM
  exact GS.ret ⟨_, rfl, ⟨30, rfl⟩⟩
 replace hM := ite_f h_5 hM
 refine GS.skip (X.sq (X.q rfl (GS.opsNil ?_)))
 subst hM
 exact GS.ret ⟨_, rfl, ⟨30, rfl⟩⟩
theorem ok_hull_best_1 {a : Int} {b : Int} {c : (List Int)} {r : Int} (hM : hull_best_1 a b c = some r) : Ct Tryz.prog 205 [(V.i a), (V.i b), (V.fptr [(V.sl (List.map V.i c))] 0 0)] (V.i r) := by
 refine ct_of_gs CC_ok rfl ?_
 unfold hull_best_1 at hM
 refine X.sq (X.q rfl (GS.opsNil (GS.seq ?_)))
 obtain ⟨x, h_1, hM⟩ := bind_of hM
 obtain ⟨x1, h_2, hM⟩ := bind_of hM
 refine X.drawc (by kernel_rfl) rfl ?_
 iterate 2 refine X.cop rfl rfl rfl rfl ?_
 refine X.cop rfl (X.indexF (f := V.i) h_1 (fun _ => rfl) rfl rfl rfl rfl) rfl rfl ?_
 refine X.cop rfl (X.loadF h_1 rfl rfl rfl) rfl rfl ?_
 iterate 2 refine X.cop rfl rfl rfl rfl ?_
 refine X.cop rfl (X.indexF (f := V.i) h_2 (fun _ => rfl) rfl rfl rfl rfl) rfl rfl ?_
 refine X.cop rfl (X.loadF h_2 rfl rfl rfl) rfl rfl ?_
 refine X.ccall (ok_cmp_Compare_int x x1) rfl rfl rfl rfl (.cons (.shut (n := 9) rfl) (.cons (.shut (n := 9) rfl) .nil)) ?_
 refine X.cop rfl rfl rfl rfl ?_
 refine X.cnil ?_
 refine X.norm [(5, (V.i (cmp_Compare_int x x1)))] ?_ rfl (sr rfl)
 cases hM
 exact GS.ret ⟨_, rfl, ⟨30, rfl⟩⟩
theorem ok_hull_sum {x : (List Int)} {r : Int} (hM : hull_sum x = some r) : Ct Tryz.prog 45 [(V.sl (List.map V.i x))] (V.i r) := by
 refine ct_of_gs CC_ok rfl ?_
 unfold hull_sum at hM
 refine X.sq (X.q rfl (X.nq (X.q rfl (GS.opsNil (GS.seq (X.sq (X.q rfl ?_)))))))
 refine X.opR rfl (X.lenF rfl rfl rfl) rfl (X.q rfl (GS.opsNil ?_))
 refine X.join (τ := Int) (fun v => hull_sum_j1 v = some r) (fun v => ⟨[(3, (V.i v))], [], 0, none, 17⟩) ?_ ?_
 ·intro n hM
  replace hM : hull_sum_j1 n = some r := hM
  unfold hull_sum_j1 at hM
  refine X.sq (X.q rfl (X.q rfl ?_))
  refine GS.opsNil ?_
  cases hM
  exact GS.ret ⟨_, rfl, ⟨30, rfl⟩⟩
 intro hj_1
 refine GS.block ?_
 refine X.gc [] (X.loop (σ := (Int × Int)) (fun v => ⟨[(3, (V.i v.1)), (6, (V.sl (List.map V.i x))), (7, (V.i (x.length : Int))), (8, (V.i v.2))], [], 0, none, 17⟩) hM ?_ rfl) rfl rfl rfl (ga rfl rfl) (gb_nil)
 rintro ⟨n1, x2⟩ b_1 hM hc_2 hr_1
 rw [hull_sum_b2] at hM
 refine X.sq (X.q rfl (GS.opsNil (GS.seq ?_)))
 refine X.cond rfl (fun h_1 => ?_) (fun h_1 => ?_)
 ·replace hM := ite_t h_1 hM
  refine GS.skip (GS.seq (GS.block (GS.seq ?_)))
  obtain ⟨x1, h_2, hM⟩ := bind_of hM
  refine GS.region ?_
  refine X.opR rfl (X.indexF (f := V.i) h_2 (fun _ => rfl) rfl rfl rfl rfl) rfl ?_
  refine X.opR rfl (X.loadF h_2 rfl rfl rfl) rfl (X.q rfl (X.mq (X.q rfl (X.q rfl ?_))))
  refine X.opR rfl (X.addE rfl rfl) rfl (X.q rfl (GS.opsNil ?_))
  refine GS.endB (GS.region ?_)
  refine X.opR rfl (X.addE rfl rfl) rfl (X.q rfl (GS.opsNil ?_))
  have hE := Option.some.inj hM
  exact X.gc [] (hc_2 (w64 (n1 + x1), w64 (x2 + 1)) hE.symm) rfl rfl rfl (ga rfl rfl) (gb_nil)
 replace hM := ite_f h_1 hM
 refine GS.exit rfl ?_
 obtain ⟨y_1, hM, hy⟩ := map_of hM
 rw [hr_1 _ hy.symm] at hM
 exact X.gc [] (hj_1 n1 hM) rfl rfl rfl (ga rfl rfl) (gb_nil)
set_option maxHeartbeats 4000000 in
theorem ok_hull_best {l : api_Load} {form : (List Int)} {total : Int} {r : (List Int)} (hM : hull_best l form total = some r) : Ct Tryz.prog 122 [(e_api_Load l), (V.sl (List.map V.i form)), (V.i total)] (V.sl (List.map V.i r)) := by
 refine ct_of_gs CC_ok rfl ?_
 unfold hull_best at hM
 refine X.sq ?_
 iterate 2 refine X.opW rfl rfl rfl rfl ?_
 refine X.q rfl (X.nq ?_)
 refine X.opW rfl rfl rfl rfl (X.q rfl (GS.opsNil (GS.seq (X.sq (X.q rfl (X.q rfl ?_))))))
 refine X.opR rfl (X.lenF rfl rfl rfl) rfl (X.q rfl (GS.opsNil ?_))
 refine X.join (τ := (List Int) × (List Int)) (fun v => hull_best_j1 l form total v.1 v.2 = some r) (fun v => ⟨[(2, (V.i total)), (3, (V.ptr 0 0 0)), (4, (V.ptr 1 0 0)), (7, (V.ptr 2 0 0)), (8, (ovl 3 v.1))], [.rows 3 [(e_api_Load l)], .rows 1 [(V.sl (List.map V.i form))], .rows 1 [(ovl 4 v.2)], obl 1 V.i v.1, obl 1 V.i v.2], 0, none, 52⟩) ?_ ?_
 ·rintro ⟨l1, l2⟩ hM
  replace hM : hull_best_j1 l form total l1 l2 = some r := hM
  unfold hull_best_j1 at hM
  refine X.sq (X.q rfl (X.q rfl ?_))
  refine X.inl rfl rfl rfl rfl (GS.region (X.q rfl (X.q rfl ?_)))
  refine X.opR rfl (X.lenN (l := l1) rfl rfl rfl) rfl (X.q rfl ?_)
  refine X.joinO (τ := (List Int)) (fun v => hull_best_j2 l total l1 l2 v = some r) (fun v => ⟨[], [.rows 3 [(e_api_Load l)], .dead, .rows 1 [(ovl 4 l2)], obl 1 V.i v, obl 1 V.i l2], 0, none, 9⟩) ?_ ?_
  ·intro l3 hM
   replace hM : hull_best_j2 l total l1 l2 l3 = some r := hM
   unfold hull_best_j2 at hM
   refine GS.opsNil ?_
   obtain ⟨_, h_1, hM⟩ := bind_of hM
   replace h_1 := sameO_of h_1
   refine GS.nil ⟨_, rfl, ?_⟩
   refine X.norm (H' := [.rows 3 [(e_api_Load l)], .dead, .rows 1 [(ovl 4 l2)], obl 1 V.i l3, obl 1 V.i l2]) [(2, (V.i total)), (3, (V.ptr 0 0 0)), (7, (V.ptr 2 0 0)), (8, (ovl 3 l3))] ?_ rfl (W.sub_cons rfl (W.sub_cons rfl (W.sub_cons rfl (X.sub_eq rfl (X.ovlz_len h_1) W.sub_nil))))
   refine GS.opsNil (GS.seq ?_)
   obtain ⟨y, h_2, hM⟩ := bind_of hM
   refine GS.region (X.q rfl ?_)
   refine X.opR rfl (v := (ovl 4 l2)) (by rcases X.ovl_or (z := true) 4 l2 with h0 | ⟨n0, h0⟩ <;> simp only [h0] <;> rfl) rfl ?_
   refine X.callF (ok_hull_sum h_2) rfl rfl rfl (m := 9) rfl (.cons (FR.arg (FR.ovl (f := V.i) (l := l2) 9 rfl rfl (fun _ => rfl))) .nil) ?_
   refine X.opR rfl (X.subE rfl rfl) rfl ?_
   refine X.opW (H' := [.rows 3 [(e_api_Load l)], .dead, .rows 1 [(ovl 4 l2)], obl 1 V.i l3, obl 1 V.i l2, .rows 1 [(V.i 0)]]) rfl rfl rfl rfl ?_
   refine X.op0W (H' := [.rows 3 [(e_api_Load l)], .dead, .rows 1 [(ovl 4 l2)], obl 1 V.i l3, obl 1 V.i l2, .rows 1 [(V.i (w64 (total - y)))]]) rfl rfl rfl (X.nq (X.q rfl (X.q rfl ?_)))
   refine GS.opsNil (GS.seq (X.sq (X.q rfl ?_)))
   refine X.opR rfl (X.lenN (l := l3) rfl rfl rfl) rfl (X.q rfl (GS.opsNil ?_))
   refine X.join (τ := (List Int)) (fun v => hull_best_j3 v = some r) (fun v => ⟨[(7, (V.ptr 0 0 0))], [.rows 1 [(ovl 1 v)], obl 1 V.i v], 0, none, 52⟩) ?_ ?_
   ·intro l4 hM
    replace hM : hull_best_j3 l4 = some r := hM
    unfold hull_best_j3 at hM
    refine X.sq ?_
    refine X.opR rfl (v := (ovl 1 l4)) (by rcases X.ovl_or (z := true) 1 l4 with h0 | ⟨n0, h0⟩ <;> simp only [h0] <;> rfl) rfl (X.q rfl (GS.opsNil ?_))
    have hE := Option.some.inj hM
    subst hE
    exact GS.ret ⟨_, rfl, FR.ovl (f := V.i) (l := l4) 9 rfl rfl (fun _ => rfl)⟩
   intro hj_3
   refine GS.block ?_
   refine X.gc [some 2, some 5, some 0, some 3, some 4] (X.loop (σ := (Int × Int × (List Int))) (fun v => ⟨[(7, (V.ptr 0 0 0)), (12, (V.fn 206 [(V.ptr 1 0 0), (V.ptr 2 0 0), (V.ptr 0 0 0)])), (41, (ovl 3 l3)), (42, (V.i (l3.length : Int))), (43, (V.i v.1))], [.rows 1 [(ovl 4 v.2.2)], .rows 1 [(V.i v.2.1)], .rows 3 [(e_api_Load l)], obl 1 V.i l3, obl 1 V.i v.2.2], 0, none, 52⟩) hM ?_ rfl) rfl rfl rfl (gk_cons rfl ⟨9, rfl⟩ (gk_cons rfl ⟨9, rfl⟩ (gk_cons rfl (rn_ovl rfl) (ga rfl rfl)))) (gb_box rfl rfl (rn_ovl rfl) (gb9 rfl rfl rfl (gb9 rfl rfl rfl (gb_obl 9 rfl rfl (fun _ => rfl) (gb_obl 9 rfl rfl (fun _ => rfl) gb_nil)))))
   rintro ⟨x5, left, l5⟩ b_1 hM hc_4 hr_1
   rw [hull_best_b4] at hM
   refine X.sq (X.q rfl (GS.opsNil (GS.seq ?_)))
   refine X.cond rfl (fun h_3 => ?_) (fun h_3 => ?_)
   ·replace hM := ite_t h_3 hM
    refine GS.skip (GS.seq (GS.block (GS.seq ?_)))
    obtain ⟨x, h_4, hM⟩ := bind_of hM
    refine GS.region ?_
    refine X.opR rfl (X.indexN h_4 rfl rfl rfl rfl rfl) rfl ?_
    refine X.opR rfl (X.loadN h_4 rfl rfl rfl rfl) rfl (X.q rfl (X.mq (X.q rfl (X.q rfl ?_))))
    refine X.inl rfl rfl rfl rfl (GS.seq ?_)
    obtain ⟨x1, h_5, hM⟩ := bind_of hM
    obtain ⟨x2, h_6, hM⟩ := bind_of hM
    refine X.drawc (by kernel_rfl) rfl ?_
    iterate 4 refine X.cop rfl rfl rfl rfl ?_
    refine X.cop rfl (X.indexF (f := e_api_Span) h_5 (fun _ => rfl) rfl rfl rfl rfl) rfl rfl ?_
    refine X.cop rfl rfl rfl rfl ?_
    refine X.cop rfl (X.loadF h_5 rfl rfl rfl) rfl rfl ?_
    iterate 3 refine X.cop rfl rfl rfl rfl ?_
    refine X.cop rfl (X.indexF (f := e_api_Span) h_6 (fun _ => rfl) rfl rfl rfl rfl) rfl rfl ?_
    refine X.cop rfl rfl rfl rfl ?_
    refine X.cop rfl (X.loadF h_6 rfl rfl rfl) rfl rfl ?_
    refine X.cop rfl (X.subE rfl rfl) rfl rfl ?_
    refine X.cop rfl (X.minE rfl rfl) rfl rfl ?_
    refine X.cop rfl rfl rfl rfl ?_
    refine X.cnil ?_
    refine X.norm [(0, (V.i x)), (1, (V.ptr 1 0 0)), (3, (V.ptr 0 0 0)), (5, (V.i (min left (w64 (x1.Hi - x2.Lo)))))] ?_ rfl (sr rfl)
    refine GS.seq ?_
    obtain ⟨x3, h_7, hM⟩ := bind_of hM
    obtain ⟨x4, h_8, hM⟩ := bind_of hM
    refine GS.region ?_
    refine X.opR rfl (v := (ovl 4 l5)) (by rcases X.ovl_or (z := true) 4 l5 with h0 | ⟨n0, h0⟩ <;> simp only [h0] <;> rfl) rfl (X.q rfl ?_)
    refine X.opR rfl (X.indexN h_7 rfl rfl rfl rfl rfl) rfl ?_
    refine X.opR rfl (X.loadN h_7 rfl rfl rfl rfl) rfl (X.q rfl ?_)
    refine X.opR rfl (X.addE rfl rfl) rfl ?_
    refine X.opR rfl (X.indexN h_8 rfl rfl rfl rfl rfl) rfl ?_
    refine X.op0W (H' := [.rows 1 [(ovl 4 l5)], .rows 1 [(V.i left)], .rows 3 [(e_api_Load l)], obl 1 V.i l3, obl 1 V.i (put l5 x (w64 (x3 + (min left (w64 (x1.Hi - x2.Lo))))))]) rfl (X.storeN (b := w64 (x3 + (min left (w64 (x1.Hi - x2.Lo))))) h_8 rfl rfl rfl rfl rfl rfl rfl) rfl (X.mq (X.q rfl (X.q rfl ?_)))
    refine X.opR rfl (X.subE rfl rfl) rfl ?_
    refine X.op0W (H' := [.rows 1 [(ovl 4 l5)], .rows 1 [(V.i (w64 (left - (min left (w64 (x1.Hi - x2.Lo))))))], .rows 3 [(e_api_Load l)], obl 1 V.i l3, obl 1 V.i (put l5 x (w64 (x3 + (min left (w64 (x1.Hi - x2.Lo))))))]) rfl rfl rfl (GS.opsNil ?_)
    refine GS.nil ⟨_, rfl, ?_⟩
    refine X.norm (H' := [.rows 1 [(ovl 4 l5)], .rows 1 [(V.i (w64 (left - (min left (w64 (x1.Hi - x2.Lo))))))], .rows 3 [(e_api_Load l)], obl 1 V.i l3, obl 1 V.i (put l5 x (w64 (x3 + (min left (w64 (x1.Hi - x2.Lo))))))]) [(7, (V.ptr 0 0 0)), (12, (V.fn 206 [(V.ptr 1 0 0), (V.ptr 2 0 0), (V.ptr 0 0 0)])), (41, (ovl 3 l3)), (42, (V.i (l3.length : Int))), (43, (V.i x5))] ?_ rfl (sr rfl)
    refine GS.opsNil ?_
    refine GS.endB (GS.region ?_)
    refine X.opR rfl (X.addE rfl rfl) rfl (X.q rfl (GS.opsNil ?_))
    have hE := Option.some.inj hM
    exact X.gc [some 0, some 1, some 2, some 3, some 4] (hc_4 (w64 (x5 + 1), w64 (left - (min left (w64 (x1.Hi - x2.Lo)))), (put l5 x (w64 (x3 + (min left (w64 (x1.Hi - x2.Lo))))))) hE.symm) rfl rfl rfl (gk_cons rfl ⟨9, rfl⟩ (gk_cons rfl ⟨9, rfl⟩ (gk_cons rfl (rn_ovl rfl) (ga rfl rfl)))) (gb_box rfl rfl (rv_eq X.ovl_put (rn_ovl rfl)) (gb9 rfl rfl rfl (gb9 rfl rfl rfl (gb_obl 9 rfl rfl (fun _ => rfl) (gb_obl 9 rfl rfl (fun _ => rfl) gb_nil)))))
   replace hM := ite_f h_3 hM
   refine GS.exit rfl ?_
   obtain ⟨y_1, hM, hy⟩ := map_of hM
   rw [hr_1 _ hy.symm] at hM
   exact X.gc [some 0, some 4] (hj_3 l5 hM) rfl rfl rfl (ga rfl rfl) (gb_box rfl rfl (rn_ovl rfl) (gb_obl 9 rfl rfl (fun _ => rfl) gb_nil))
  intro hj_2
  refine X.inl rfl rfl rfl rfl (X.sq (X.q rfl (X.nq (X.q rfl (X.q rfl (X.q rfl ?_))))))
  refine GS.opsNil (GS.seq ?_)
  refine X.join (τ := Int × (List Int)) (fun v => hull_best_j5 l form total l1 l2 v.1 v.2 = some r) (fun v => ⟨[(0, (ovl 3 v.2)), (1, (V.i (l1.length : Int))), (2, (V.fn 205 [(V.ptr 1 0 0)])), (6, (V.i 20)), (7, (V.i v.1))], [.rows 3 [(e_api_Load l)], .rows 1 [(V.sl (List.map V.i form))], .rows 1 [(ovl 4 l2)], obl 1 V.i v.2, obl 1 V.i l2], 0, none, 63⟩) ?_ ?_
  ·rintro ⟨a, l6⟩ hM
   replace hM : hull_best_j5 l form total l1 l2 a l6 = some r := hM
   unfold hull_best_j5 at hM
   refine X.sq ?_
   iterate 4 refine X.q rfl ?_
   refine X.joinO (τ := (List Int)) (fun v => hull_best_j6 l total l1 l2 v = some r) (fun v => ⟨[(0, (ovl 3 v)), (1, (V.i (l1.length : Int))), (2, (V.fn 205 [(V.ptr 1 0 0)])), (6, (V.i 20))], [.rows 3 [(e_api_Load l)], .rows 1 [(V.sl (List.map V.i form))], .rows 1 [(ovl 4 l2)], obl 1 V.i v, obl 1 V.i l2], 0, none, 63⟩) ?_ ?_
   ·intro l7 hM
    replace hM : hull_best_j6 l total l1 l2 l7 = some r := hM
    unfold hull_best_j6 at hM
    refine GS.opsNil (GS.block ?_)
    refine X.gc [] (X.loop (σ := Int) (fun v => ⟨[(0, (ovl 3 l7)), (1, (V.i (l1.length : Int))), (2, (V.fn 205 [(V.ptr 1 0 0)])), (6, (V.i v))], [.rows 3 [(e_api_Load l)], .rows 1 [(V.sl (List.map V.i form))], .rows 1 [(ovl 4 l2)], obl 1 V.i l7, obl 1 V.i l2], 0, none, 63⟩) hM ?_ rfl) rfl rfl rfl (gk_cons rfl (rn_ovl rfl) (ga rfl rfl)) (gb9 rfl rfl rfl (gb9 rfl rfl rfl (gb_box rfl rfl (rn_ovl rfl) (gb_obl 9 rfl rfl (fun _ => rfl) (gb_obl 9 rfl rfl (fun _ => rfl) gb_nil)))))
    intro blockSize b_1 hM hc_7 hr_1
    rw [hull_best_b7] at hM
    refine GS.seq (X.sq (X.q rfl (X.q rfl (X.q rfl ?_))))
    refine GS.opsNil ?_
    refine X.cond rfl (fun h_9 => ?_) (fun h_9 => ?_)
    ·replace hM := ite_t h_9 hM
     refine GS.skip (GS.block (X.sq (X.q rfl ?_)))
     refine X.opR rfl (X.mulE rfl rfl) rfl (X.q rfl (X.q rfl ?_))
     refine GS.opsNil (GS.seq ?_)
     refine X.join (τ := Unit) (fun v => hull_best_j8 l1 blockSize = some b_1) (fun v => ⟨[(0, (ovl 3 l7)), (1, (V.i (l1.length : Int))), (2, (V.fn 205 [(V.ptr 1 0 0)])), (6, (V.i blockSize)), (7, (V.i 0))], [.rows 3 [(e_api_Load l)], .rows 1 [(V.sl (List.map V.i form))], .rows 1 [(ovl 4 l2)], obl 1 V.i l7, obl 1 V.i l2], 0, none, 63⟩) ?_ ?_
     ·intro _ hM
      replace hM : hull_best_j8 l1 blockSize = some b_1 := hM
      unfold hull_best_j8 at hM
      refine GS.seq (X.sq (X.q rfl (X.q rfl ?_)))
      refine X.opR rfl (X.addE rfl rfl) rfl (X.q rfl (X.nq (X.q rfl (X.q rfl (X.q rfl ?_)))))
      refine GS.opsNil ?_
      refine X.cond rfl (fun h_10 => ?_) (fun h_10 => ?_)
      ·replace hM := ite_t h_10 hM
       cases hM
      replace hM := ite_f h_10 hM
      refine GS.skip (GS.region (X.q rfl ?_))
      refine X.opR rfl (X.mulE rfl rfl) rfl (X.q rfl (GS.opsNil ?_))
      refine GS.endB ?_
      have hE := Option.some.inj hM
      exact X.gc [] (hc_7 (w64 (blockSize * 2)) hE.symm) rfl rfl rfl (gk_cons rfl (rn_ovl rfl) (ga rfl rfl)) (gb9 rfl rfl rfl (gb9 rfl rfl rfl (gb_box rfl rfl (rn_ovl rfl) (gb_obl 9 rfl rfl (fun _ => rfl) (gb_obl 9 rfl rfl (fun _ => rfl) gb_nil)))))
     intro hj_8
     refine GS.block ?_
     refine X.gc [] (X.loop (σ := Unit) (fun v => ⟨[(0, (ovl 3 l7)), (1, (V.i (l1.length : Int))), (2, (V.fn 205 [(V.ptr 1 0 0)])), (6, (V.i blockSize)), (7, (V.i 0)), (8, (V.i (w64 (2 * blockSize))))], [.rows 3 [(e_api_Load l)], .rows 1 [(V.sl (List.map V.i form))], .rows 1 [(ovl 4 l2)], obl 1 V.i l7, obl 1 V.i l2], 0, none, 63⟩) hM ?_ rfl) rfl rfl rfl (gk_cons rfl (rn_ovl rfl) (ga rfl rfl)) (gb9 rfl rfl rfl (gb9 rfl rfl rfl (gb_box rfl rfl (rn_ovl rfl) (gb_obl 9 rfl rfl (fun _ => rfl) (gb_obl 9 rfl rfl (fun _ => rfl) gb_nil)))))
     intro _ b_2 hM hc_9 hr_2
     rw [hull_best_b9] at hM
     refine GS.seq (X.sq (X.q rfl (X.q rfl (X.q rfl ?_))))
     refine GS.opsNil ?_
     refine X.cond rfl (fun h_11 => ?_) (fun h_11 => ?_)
     ·replace hM := ite_t h_11 hM
      refine GS.skip (GS.block (GS.seq ?_))
      cases hM
     replace hM := ite_f h_11 hM
     refine GS.exit rfl ?_
     obtain ⟨y_2, hM, hy⟩ := map_of hM
     rw [hr_2 _ hy.symm] at hM
     exact X.gc [] (hj_8 () hM) rfl rfl rfl (gk_cons rfl (rn_ovl rfl) (ga rfl rfl)) (gb9 rfl rfl rfl (gb9 rfl rfl rfl (gb_box rfl rfl (rn_ovl rfl) (gb_obl 9 rfl rfl (fun _ => rfl) (gb_obl 9 rfl rfl (fun _ => rfl) gb_nil)))))
    replace hM := ite_f h_9 hM
    refine GS.exit rfl ?_
    refine GS.nil ⟨_, rfl, ?_⟩
    refine X.norm (H' := [.rows 3 [(e_api_Load l)], .rows 1 [(V.sl (List.map V.i form))], .rows 1 [(ovl 4 l2)], obl 1 V.i l7, obl 1 V.i l2]) [] ?_ rfl W.sub_nil
    obtain ⟨y_1, hM, hy⟩ := map_of hM
    rw [hr_1 _ hy.symm] at hM
    exact X.gc [] (hj_2 l7 hM) rfl rfl rfl (gk_nil) (gb9 rfl rfl rfl (gb_pad (gb_box rfl rfl (rn_ovl rfl) (gb_obl 9 rfl rfl (fun _ => rfl) (gb_obl 9 rfl rfl (fun _ => rfl) gb_nil)))))
   intro hj_6
   refine X.inl rfl rfl rfl rfl (X.sq (X.q rfl ?_))
   refine X.opR rfl (X.addE rfl rfl) rfl (X.q rfl (GS.opsNil (GS.block ?_)))
   refine X.gc [] (X.loop (σ := (Int × (List Int))) (fun v => ⟨[(0, (ovl 3 v.2)), (1, (V.i a)), (2, (V.i (l1.length : Int))), (3, (V.fn 205 [(V.ptr 1 0 0)])), (8, (V.i v.1))], [.rows 3 [(e_api_Load l)], .rows 1 [(V.sl (List.map V.i form))], .rows 1 [(ovl 4 l2)], obl 1 V.i v.2, obl 1 V.i l2], 0, none, 53⟩) hM ?_ rfl) rfl rfl rfl (gk_cons rfl (rn_ovl rfl) (ga rfl rfl)) (gb9 rfl rfl rfl (gb9 rfl rfl rfl (gb_box rfl rfl (rn_ovl rfl) (gb_obl 9 rfl rfl (fun _ => rfl) (gb_obl 9 rfl rfl (fun _ => rfl) gb_nil)))))
   rintro ⟨i, l10⟩ b_1 hM hc_10 hr_1
   rw [hull_best_b10] at hM
   refine GS.seq (X.sq (X.q rfl (X.q rfl (X.q rfl ?_))))
   refine GS.opsNil ?_
   refine X.cond rfl (fun h_12 => ?_) (fun h_12 => ?_)
   ·replace hM := ite_t h_12 hM
    refine GS.skip (GS.seq (GS.block (X.sq (X.q rfl (X.q rfl ?_)))))
    refine GS.opsNil ?_
    refine X.join (τ := (List Int)) (fun v => hull_best_j11 i v = some b_1) (fun v => ⟨[(0, (ovl 3 v)), (1, (V.i a)), (2, (V.i (l1.length : Int))), (3, (V.fn 205 [(V.ptr 1 0 0)])), (8, (V.i i))], [.rows 3 [(e_api_Load l)], .rows 1 [(V.sl (List.map V.i form))], .rows 1 [(ovl 4 l2)], obl 1 V.i v, obl 1 V.i l2], 0, none, 53⟩) ?_ ?_
    ·intro l8 hM
     replace hM : hull_best_j11 i l8 = some b_1 := hM
     unfold hull_best_j11 at hM
     refine GS.endB (GS.region (X.q rfl ?_))
     refine X.opR rfl (X.addE rfl rfl) rfl (X.q rfl (GS.opsNil ?_))
     have hE := Option.some.inj hM
     exact X.gc [] (hc_10 (w64 (i + 1), l8) hE.symm) rfl rfl rfl (gk_cons rfl (rn_ovl rfl) (ga rfl rfl)) (gb9 rfl rfl rfl (gb9 rfl rfl rfl (gb_box rfl rfl (rn_ovl rfl) (gb_obl 9 rfl rfl (fun _ => rfl) (gb_obl 9 rfl rfl (fun _ => rfl) gb_nil)))))
    intro hj_11
    refine GS.block ?_
    refine X.gc [] (X.loop (σ := (Int × (List Int))) (fun v => ⟨[(0, (ovl 3 v.2)), (1, (V.i a)), (2, (V.i (l1.length : Int))), (3, (V.fn 205 [(V.ptr 1 0 0)])), (8, (V.i i)), (9, (V.i v.1))], [.rows 3 [(e_api_Load l)], .rows 1 [(V.sl (List.map V.i form))], .rows 1 [(ovl 4 l2)], obl 1 V.i v.2, obl 1 V.i l2], 0, none, 53⟩) hM ?_ rfl) rfl rfl rfl (gk_cons rfl (rn_ovl rfl) (ga rfl rfl)) (gb9 rfl rfl rfl (gb9 rfl rfl rfl (gb_box rfl rfl (rn_ovl rfl) (gb_obl 9 rfl rfl (fun _ => rfl) (gb_obl 9 rfl rfl (fun _ => rfl) gb_nil)))))
    rintro ⟨j, l9⟩ b_2 hM hc_12 hr_2
    rw [hull_best_b12] at hM
    iterate 2 refine GS.seq ?_
    obtain ⟨x6, h_13, hM⟩ := gb_of hM
    obtain ⟨x7, h_14, hM⟩ := gb_of hM
    obtain ⟨y1, h_15, hM⟩ := gb_of hM
    refine X.mid [(0, (ovl 3 l9)), (1, (V.i a)), (2, (V.i (l1.length : Int))), (3, (V.fn 205 [(V.ptr 1 0 0)])), (8, (V.i i)), (9, (V.i j)), (34, (V.b ((decide (a < j)) && (decide (y1 < 0)))))] ?_ ?_
    ·intro hg
     refine X.split (decide (a < j)) (fun h_16 => ?_) (fun h_16 => ?_)
     ·refine X.drawc (by kernel_rfl) rfl ?_
      iterate 4 refine X.cop rfl rfl rfl rfl ?_
      iterate 3 refine X.cop (X.on_t rfl rfl rfl h_16) rfl rfl rfl ?_
      refine X.cop (X.on_t rfl rfl rfl h_16) (X.indexN (h_13 h_16) rfl rfl rfl rfl rfl) rfl rfl ?_
      refine X.cop (X.on_t rfl rfl rfl h_16) (X.loadN (h_13 h_16) rfl rfl rfl rfl) rfl rfl ?_
      iterate 2 refine X.cop (X.on_t rfl rfl rfl h_16) rfl rfl rfl ?_
      refine X.cop (X.on_t rfl rfl rfl h_16) (X.subE rfl rfl) rfl rfl ?_
      refine X.cop (X.on_t rfl rfl rfl h_16) (X.indexN (h_14 h_16) rfl rfl rfl rfl rfl) rfl rfl ?_
      refine X.cop (X.on_t rfl rfl rfl h_16) (X.loadN (h_14 h_16) rfl rfl rfl rfl) rfl rfl ?_
      refine X.ccallF (ok_hull_best_1 (h_15 h_16)) (X.on_t rfl rfl rfl h_16) rfl rfl rfl (m := 9) rfl (.cons (.shut (n := 9) rfl) (.cons (.shut (n := 9) rfl) (.cons (FR.arg ⟨30, rfl⟩) .nil))) ?_
      refine X.cop (X.on_t rfl rfl rfl h_16) rfl rfl rfl ?_
      refine X.cop rfl (X.pickand_t (y := decide (y1 < 0)) rfl h_16 rfl) rfl rfl ?_
      refine X.cnil ?_
      exact X.norm _ hg rfl (sr rfl)
     refine X.drawc (by kernel_rfl) rfl ?_
     iterate 4 refine X.cop rfl rfl rfl rfl ?_
     iterate 12 refine X.coff (X.off_t rfl rfl rfl h_16) rfl rfl ?_
     refine X.cop rfl (X.pickand_f (y := decide (y1 < 0)) rfl h_16 rfl) rfl rfl ?_
     refine X.cnil ?_
     exact X.norm _ hg rfl (sr rfl)
    refine X.cond rfl (fun h_17 => ?_) (fun h_17 => ?_)
    ·replace hM := ite_t h_17 hM
     refine GS.skip (GS.seq (GS.block ?_))
     obtain ⟨x8, h_18, hM⟩ := bind_of hM
     obtain ⟨x9, h_19, hM⟩ := bind_of hM
     obtain ⟨x10, h_20, hM⟩ := bind_of hM
     obtain ⟨x11, h_21, hM⟩ := bind_of hM
     refine X.draw (by kernel_rfl) ?_
     iterate 4 refine X.dop rfl rfl rfl rfl (by kernel_rfl) rfl rfl ?_
     refine X.dop rfl (X.subE rfl rfl) rfl rfl (by kernel_rfl) rfl rfl ?_
     iterate 2 refine X.dop rfl rfl rfl rfl (by kernel_rfl) rfl rfl ?_
     refine X.dop rfl (X.subE rfl rfl) rfl rfl (by kernel_rfl) rfl rfl ?_
     refine X.dop rfl (X.indexN h_18 rfl rfl rfl rfl rfl) rfl rfl (by kernel_rfl) rfl rfl ?_
     refine X.dop rfl (X.loadN h_18 rfl rfl rfl rfl) rfl rfl (by kernel_rfl) rfl rfl ?_
     iterate 2 refine X.dop rfl rfl rfl rfl (by kernel_rfl) rfl rfl ?_
     refine X.dop rfl (X.indexN h_19 rfl rfl rfl rfl rfl) rfl rfl (by kernel_rfl) rfl rfl ?_
     refine X.dop rfl (X.loadN h_19 rfl rfl rfl rfl) rfl rfl (by kernel_rfl) rfl rfl ?_
     refine X.dop rfl (X.indexN h_20 rfl rfl rfl rfl rfl) rfl rfl (by kernel_rfl) rfl rfl ?_
     refine X.dop0 rfl (X.storeN (b := x8) h_20 rfl rfl rfl rfl rfl rfl rfl) rfl rfl (by kernel_rfl) rfl ?_
     refine X.dop rfl (X.indexN h_21 rfl rfl (X.kev_eq rfl X.ovl_put) rfl rfl) rfl rfl (by kernel_rfl) rfl rfl ?_
     refine X.dop0 rfl (X.storeN (b := x9) h_21 rfl rfl rfl rfl rfl rfl rfl) rfl rfl (by kernel_rfl) rfl ?_
     refine X.dnil ?_
     refine X.norm [(0, (ovl 3 l9)), (1, (V.i a)), (2, (V.i (l1.length : Int))), (3, (V.fn 205 [(V.ptr 1 0 0)])), (8, (V.i i)), (9, (V.i j))] ?_ rfl (sr rfl)
     refine GS.endB (GS.region (X.q rfl ?_))
     refine X.opR rfl (X.subE rfl rfl) rfl (X.q rfl (GS.opsNil ?_))
     have hE := Option.some.inj hM
     exact X.gc [] (hc_12 (w64 (j - 1), (put (put l9 j x8) (w64 (j - 1)) x9)) hE.symm) rfl rfl rfl (gk_cons rfl (rv_eq (Eq.trans X.ovl_put X.ovl_put) (rn_ovl rfl)) (ga rfl rfl)) (gb9 rfl rfl rfl (gb9 rfl rfl rfl (gb_box rfl rfl (rn_ovl rfl) (gb_obl 9 rfl rfl (fun _ => rfl) (gb_obl 9 rfl rfl (fun _ => rfl) gb_nil)))))
    replace hM := ite_f h_17 hM
    refine GS.exit rfl ?_
    obtain ⟨y_2, hM, hy⟩ := map_of hM
    rw [hr_2 _ hy.symm] at hM
    exact X.gc [] (hj_11 l9 hM) rfl rfl rfl (gk_cons rfl (rn_ovl rfl) (ga rfl rfl)) (gb9 rfl rfl rfl (gb9 rfl rfl rfl (gb_box rfl rfl (rn_ovl rfl) (gb_obl 9 rfl rfl (fun _ => rfl) (gb_obl 9 rfl rfl (fun _ => rfl) gb_nil)))))
   replace hM := ite_f h_12 hM
   refine GS.exit rfl ?_
   obtain ⟨_, h_22, hM⟩ := bind_of hM
   replace h_22 := sameO_of h_22
   refine GS.nil ⟨_, rfl, ?_⟩
   refine X.norm (H' := [.rows 3 [(e_api_Load l)], .rows 1 [(V.sl (List.map V.i form))], .rows 1 [(ovl 4 l2)], obl 1 V.i l10, obl 1 V.i l2]) [(0, (ovl 3 l10)), (1, (V.i (l1.length : Int))), (2, (V.fn 205 [(V.ptr 1 0 0)])), (6, (V.i 20))] ?_ rfl (X.sub_eq rfl (X.ovlz_len h_22) (sr rfl))
   obtain ⟨y_1, hM, hy⟩ := map_of hM
   rw [hr_1 _ hy.symm] at hM
   exact X.gc [] (hj_6 l10 hM) rfl rfl rfl (gk_cons rfl (rn_ovl rfl) (ga rfl rfl)) (gb9 rfl rfl rfl (gb9 rfl rfl rfl (gb_box rfl rfl (rn_ovl rfl) (gb_obl 9 rfl rfl (fun _ => rfl) (gb_obl 9 rfl rfl (fun _ => rfl) gb_nil)))))
  intro hj_5
  refine GS.block ?_
  refine X.gc [] (X.loop (σ := (Int × Int × (List Int))) (fun v => ⟨[(0, (ovl 3 v.2.2)), (1, (V.i (l1.length : Int))), (2, (V.fn 205 [(V.ptr 1 0 0)])), (6, (V.i 20)), (7, (V.i v.1)), (8, (V.i v.2.1))], [.rows 3 [(e_api_Load l)], .rows 1 [(V.sl (List.map V.i form))], .rows 1 [(ovl 4 l2)], obl 1 V.i v.2.2, obl 1 V.i l2], 0, none, 63⟩) hM ?_ rfl) rfl rfl rfl (gk_cons rfl (rn_ovl rfl) (ga rfl rfl)) (gb9 rfl rfl rfl (gb9 rfl rfl rfl (gb_box rfl rfl (rn_ovl rfl) (gb_obl 9 rfl rfl (fun _ => rfl) (gb_obl 9 rfl rfl (fun _ => rfl) gb_nil)))))
  rintro ⟨a1, b, l15⟩ b_1 hM hc_13 hr_1
  rw [hull_best_b13] at hM
  refine GS.seq (X.sq (X.q rfl (X.q rfl (X.q rfl ?_))))
  refine GS.opsNil ?_
  refine X.cond rfl (fun h_23 => ?_) (fun h_23 => ?_)
  ·replace hM := ite_t h_23 hM
   refine GS.skip (GS.block (X.sq ?_))
   iterate 4 refine X.q rfl ?_
   refine X.joinO (τ := (List Int)) (fun v => hull_best_j14 b v = some b_1) (fun v => ⟨[(0, (ovl 3 v)), (1, (V.i (l1.length : Int))), (2, (V.fn 205 [(V.ptr 1 0 0)])), (6, (V.i 20)), (8, (V.i b))], [.rows 3 [(e_api_Load l)], .rows 1 [(V.sl (List.map V.i form))], .rows 1 [(ovl 4 l2)], obl 1 V.i v, obl 1 V.i l2], 0, none, 63⟩) ?_ ?_
   ·intro l11 hM
    replace hM : hull_best_j14 b l11 = some b_1 := hM
    unfold hull_best_j14 at hM
    refine X.nq (X.q rfl (X.q rfl ?_))
    refine X.mq (X.q rfl (X.q rfl ?_))
    refine X.opR rfl (X.addE rfl rfl) rfl (X.q rfl (GS.opsNil ?_))
    refine GS.endB ?_
    have hE := Option.some.inj hM
    exact X.gc [] (hc_13 (b, w64 (b + 20), l11) hE.symm) rfl rfl rfl (gk_cons rfl (rn_ovl rfl) (ga rfl rfl)) (gb9 rfl rfl rfl (gb9 rfl rfl rfl (gb_box rfl rfl (rn_ovl rfl) (gb_obl 9 rfl rfl (fun _ => rfl) (gb_obl 9 rfl rfl (fun _ => rfl) gb_nil)))))
   intro hj_14
   refine X.inl rfl rfl rfl rfl (X.sq (X.q rfl ?_))
   refine X.opR rfl (X.addE rfl rfl) rfl (X.q rfl (GS.opsNil (GS.block ?_)))
   refine X.gc [] (X.loop (σ := (Int × (List Int))) (fun v => ⟨[(0, (ovl 3 v.2)), (1, (V.i a1)), (2, (V.i b)), (3, (V.fn 205 [(V.ptr 1 0 0)])), (8, (V.i v.1))], [.rows 3 [(e_api_Load l)], .rows 1 [(V.sl (List.map V.i form))], .rows 1 [(ovl 4 l2)], obl 1 V.i v.2, obl 1 V.i l2], 0, none, 53⟩) hM ?_ rfl) rfl rfl rfl (gk_cons rfl (rn_ovl rfl) (ga rfl rfl)) (gb9 rfl rfl rfl (gb9 rfl rfl rfl (gb_box rfl rfl (rn_ovl rfl) (gb_obl 9 rfl rfl (fun _ => rfl) (gb_obl 9 rfl rfl (fun _ => rfl) gb_nil)))))
   rintro ⟨i1, l14⟩ b_2 hM hc_15 hr_2
   rw [hull_best_b15] at hM
   refine GS.seq (X.sq (X.q rfl (X.q rfl (X.q rfl ?_))))
   refine GS.opsNil ?_
   refine X.cond rfl (fun h_24 => ?_) (fun h_24 => ?_)
   ·replace hM := ite_t h_24 hM
    refine GS.skip (GS.seq (GS.block (X.sq (X.q rfl (X.q rfl ?_)))))
    refine GS.opsNil ?_
    refine X.join (τ := (List Int)) (fun v => hull_best_j16 i1 v = some b_2) (fun v => ⟨[(0, (ovl 3 v)), (1, (V.i a1)), (2, (V.i b)), (3, (V.fn 205 [(V.ptr 1 0 0)])), (8, (V.i i1))], [.rows 3 [(e_api_Load l)], .rows 1 [(V.sl (List.map V.i form))], .rows 1 [(ovl 4 l2)], obl 1 V.i v, obl 1 V.i l2], 0, none, 53⟩) ?_ ?_
    ·intro l12 hM
     replace hM : hull_best_j16 i1 l12 = some b_2 := hM
     unfold hull_best_j16 at hM
     refine GS.endB (GS.region (X.q rfl ?_))
     refine X.opR rfl (X.addE rfl rfl) rfl (X.q rfl (GS.opsNil ?_))
     have hE := Option.some.inj hM
     exact X.gc [] (hc_15 (w64 (i1 + 1), l12) hE.symm) rfl rfl rfl (gk_cons rfl (rn_ovl rfl) (ga rfl rfl)) (gb9 rfl rfl rfl (gb9 rfl rfl rfl (gb_box rfl rfl (rn_ovl rfl) (gb_obl 9 rfl rfl (fun _ => rfl) (gb_obl 9 rfl rfl (fun _ => rfl) gb_nil)))))
    intro hj_16
    refine GS.block ?_
    refine X.gc [] (X.loop (σ := (Int × (List Int))) (fun v => ⟨[(0, (ovl 3 v.2)), (1, (V.i a1)), (2, (V.i b)), (3, (V.fn 205 [(V.ptr 1 0 0)])), (8, (V.i i1)), (9, (V.i v.1))], [.rows 3 [(e_api_Load l)], .rows 1 [(V.sl (List.map V.i form))], .rows 1 [(ovl 4 l2)], obl 1 V.i v.2, obl 1 V.i l2], 0, none, 53⟩) hM ?_ rfl) rfl rfl rfl (gk_cons rfl (rn_ovl rfl) (ga rfl rfl)) (gb9 rfl rfl rfl (gb9 rfl rfl rfl (gb_box rfl rfl (rn_ovl rfl) (gb_obl 9 rfl rfl (fun _ => rfl) (gb_obl 9 rfl rfl (fun _ => rfl) gb_nil)))))
    rintro ⟨j1, l13⟩ b_3 hM hc_17 hr_3
    rw [hull_best_b17] at hM
    iterate 2 refine GS.seq ?_
    obtain ⟨x12, h_25, hM⟩ := gb_of hM
    obtain ⟨x13, h_26, hM⟩ := gb_of hM
    obtain ⟨y2, h_27, hM⟩ := gb_of hM
    refine X.mid [(0, (ovl 3 l13)), (1, (V.i a1)), (2, (V.i b)), (3, (V.fn 205 [(V.ptr 1 0 0)])), (8, (V.i i1)), (9, (V.i j1)), (34, (V.b ((decide (a1 < j1)) && (decide (y2 < 0)))))] ?_ ?_
    ·intro hg
     refine X.split (decide (a1 < j1)) (fun h_28 => ?_) (fun h_28 => ?_)
     ·refine X.drawc (by kernel_rfl) rfl ?_
      iterate 4 refine X.cop rfl rfl rfl rfl ?_
      iterate 3 refine X.cop (X.on_t rfl rfl rfl h_28) rfl rfl rfl ?_
      refine X.cop (X.on_t rfl rfl rfl h_28) (X.indexN (h_25 h_28) rfl rfl rfl rfl rfl) rfl rfl ?_
      refine X.cop (X.on_t rfl rfl rfl h_28) (X.loadN (h_25 h_28) rfl rfl rfl rfl) rfl rfl ?_
      iterate 2 refine X.cop (X.on_t rfl rfl rfl h_28) rfl rfl rfl ?_
      refine X.cop (X.on_t rfl rfl rfl h_28) (X.subE rfl rfl) rfl rfl ?_
      refine X.cop (X.on_t rfl rfl rfl h_28) (X.indexN (h_26 h_28) rfl rfl rfl rfl rfl) rfl rfl ?_
      refine X.cop (X.on_t rfl rfl rfl h_28) (X.loadN (h_26 h_28) rfl rfl rfl rfl) rfl rfl ?_
      refine X.ccallF (ok_hull_best_1 (h_27 h_28)) (X.on_t rfl rfl rfl h_28) rfl rfl rfl (m := 9) rfl (.cons (.shut (n := 9) rfl) (.cons (.shut (n := 9) rfl) (.cons (FR.arg ⟨30, rfl⟩) .nil))) ?_
      refine X.cop (X.on_t rfl rfl rfl h_28) rfl rfl rfl ?_
      refine X.cop rfl (X.pickand_t (y := decide (y2 < 0)) rfl h_28 rfl) rfl rfl ?_
      refine X.cnil ?_
      exact X.norm _ hg rfl (sr rfl)
     refine X.drawc (by kernel_rfl) rfl ?_
     iterate 4 refine X.cop rfl rfl rfl rfl ?_
     iterate 12 refine X.coff (X.off_t rfl rfl rfl h_28) rfl rfl ?_
     refine X.cop rfl (X.pickand_f (y := decide (y2 < 0)) rfl h_28 rfl) rfl rfl ?_
     refine X.cnil ?_
     exact X.norm _ hg rfl (sr rfl)
    refine X.cond rfl (fun h_29 => ?_) (fun h_29 => ?_)
    ·replace hM := ite_t h_29 hM
     refine GS.skip (GS.seq (GS.block ?_))
     obtain ⟨x14, h_30, hM⟩ := bind_of hM
     obtain ⟨x15, h_31, hM⟩ := bind_of hM
     obtain ⟨x16, h_32, hM⟩ := bind_of hM
     obtain ⟨x17, h_33, hM⟩ := bind_of hM
     refine X.draw (by kernel_rfl) ?_
     iterate 4 refine X.dop rfl rfl rfl rfl (by kernel_rfl) rfl rfl ?_
     refine X.dop rfl (X.subE rfl rfl) rfl rfl (by kernel_rfl) rfl rfl ?_
     iterate 2 refine X.dop rfl rfl rfl rfl (by kernel_rfl) rfl rfl ?_
     refine X.dop rfl (X.subE rfl rfl) rfl rfl (by kernel_rfl) rfl rfl ?_
     refine X.dop rfl (X.indexN h_30 rfl rfl rfl rfl rfl) rfl rfl (by kernel_rfl) rfl rfl ?_
     refine X.dop rfl (X.loadN h_30 rfl rfl rfl rfl) rfl rfl (by kernel_rfl) rfl rfl ?_
     iterate 2 refine X.dop rfl rfl rfl rfl (by kernel_rfl) rfl rfl ?_
     refine X.dop rfl (X.indexN h_31 rfl rfl rfl rfl rfl) rfl rfl (by kernel_rfl) rfl rfl ?_
     refine X.dop rfl (X.loadN h_31 rfl rfl rfl rfl) rfl rfl (by kernel_rfl) rfl rfl ?_
     refine X.dop rfl (X.indexN h_32 rfl rfl rfl rfl rfl) rfl rfl (by kernel_rfl) rfl rfl ?_
     refine X.dop0 rfl (X.storeN (b := x14) h_32 rfl rfl rfl rfl rfl rfl rfl) rfl rfl (by kernel_rfl) rfl ?_
     refine X.dop rfl (X.indexN h_33 rfl rfl (X.kev_eq rfl X.ovl_put) rfl rfl) rfl rfl (by kernel_rfl) rfl rfl ?_
     refine X.dop0 rfl (X.storeN (b := x15) h_33 rfl rfl rfl rfl rfl rfl rfl) rfl rfl (by kernel_rfl) rfl ?_
     refine X.dnil ?_
     refine X.norm [(0, (ovl 3 l13)), (1, (V.i a1)), (2, (V.i b)), (3, (V.fn 205 [(V.ptr 1 0 0)])), (8, (V.i i1)), (9, (V.i j1))] ?_ rfl (sr rfl)
     refine GS.endB (GS.region (X.q rfl ?_))
     refine X.opR rfl (X.subE rfl rfl) rfl (X.q rfl (GS.opsNil ?_))
     have hE := Option.some.inj hM
     exact X.gc [] (hc_17 (w64 (j1 - 1), (put (put l13 j1 x14) (w64 (j1 - 1)) x15)) hE.symm) rfl rfl rfl (gk_cons rfl (rv_eq (Eq.trans X.ovl_put X.ovl_put) (rn_ovl rfl)) (ga rfl rfl)) (gb9 rfl rfl rfl (gb9 rfl rfl rfl (gb_box rfl rfl (rn_ovl rfl) (gb_obl 9 rfl rfl (fun _ => rfl) (gb_obl 9 rfl rfl (fun _ => rfl) gb_nil)))))
    replace hM := ite_f h_29 hM
    refine GS.exit rfl ?_
    obtain ⟨y_3, hM, hy⟩ := map_of hM
    rw [hr_3 _ hy.symm] at hM
    exact X.gc [] (hj_16 l13 hM) rfl rfl rfl (gk_cons rfl (rn_ovl rfl) (ga rfl rfl)) (gb9 rfl rfl rfl (gb9 rfl rfl rfl (gb_box rfl rfl (rn_ovl rfl) (gb_obl 9 rfl rfl (fun _ => rfl) (gb_obl 9 rfl rfl (fun _ => rfl) gb_nil)))))
   replace hM := ite_f h_24 hM
   refine GS.exit rfl ?_
   obtain ⟨_, h_34, hM⟩ := bind_of hM
   replace h_34 := sameO_of h_34
   refine GS.nil ⟨_, rfl, ?_⟩
   refine X.norm (H' := [.rows 3 [(e_api_Load l)], .rows 1 [(V.sl (List.map V.i form))], .rows 1 [(ovl 4 l2)], obl 1 V.i l14, obl 1 V.i l2]) [(0, (ovl 3 l14)), (1, (V.i (l1.length : Int))), (2, (V.fn 205 [(V.ptr 1 0 0)])), (6, (V.i 20)), (8, (V.i b))] ?_ rfl (X.sub_eq rfl (X.ovlz_len h_34) (sr rfl))
   obtain ⟨y_2, hM, hy⟩ := map_of hM
   rw [hr_2 _ hy.symm] at hM
   exact X.gc [] (hj_14 l14 hM) rfl rfl rfl (gk_cons rfl (rn_ovl rfl) (ga rfl rfl)) (gb9 rfl rfl rfl (gb9 rfl rfl rfl (gb_box rfl rfl (rn_ovl rfl) (gb_obl 9 rfl rfl (fun _ => rfl) (gb_obl 9 rfl rfl (fun _ => rfl) gb_nil)))))
  replace hM := ite_f h_23 hM
  refine GS.exit rfl ?_
  obtain ⟨y_1, hM, hy⟩ := map_of hM
  rw [hr_1 _ hy.symm] at hM
  exact X.gc [] (hj_5 (a1, l15) hM) rfl rfl rfl (gk_cons rfl (rn_ovl rfl) (ga rfl rfl)) (gb9 rfl rfl rfl (gb9 rfl rfl rfl (gb_box rfl rfl (rn_ovl rfl) (gb_obl 9 rfl rfl (fun _ => rfl) (gb_obl 9 rfl rfl (fun _ => rfl) gb_nil)))))
 intro hj_1
 refine GS.block ?_
 refine X.gc [some 0, some 1, some 2, none, none] (X.loop (σ := (Int × (List Int) × (List Int))) (fun v => ⟨[(2, (V.i total)), (3, (V.ptr 0 0 0)), (4, (V.ptr 1 0 0)), (7, (V.ptr 2 0 0)), (8, (ovl 3 v.2.1)), (16, (V.sl (List.map e_api_Span l.Holds))), (17, (V.i (l.Holds.length : Int))), (18, (V.i v.1))], [.rows 3 [(e_api_Load l)], .rows 1 [(V.sl (List.map V.i form))], .rows 1 [(ovl 4 v.2.2)], obl 1 V.i v.2.1, obl 1 V.i v.2.2], 0, none, 52⟩) hM ?_ rfl) rfl rfl rfl (ga rfl rfl) (gb9 rfl rfl rfl (gb9 rfl rfl rfl (gb9 rfl rfl rfl (gb_pad' rfl (gb_pad' rfl gb_nil)))))
 rintro ⟨x19, l18, l19⟩ b_1 hM hc_18 hr_1
 rw [hull_best_b18] at hM
 refine X.sq (X.q rfl (GS.opsNil (GS.seq ?_)))
 refine X.cond rfl (fun h_35 => ?_) (fun h_35 => ?_)
 ·replace hM := ite_t h_35 hM
  refine GS.skip (GS.seq (GS.block (GS.seq ?_)))
  obtain ⟨x18, h_36, hM⟩ := bind_of hM
  refine GS.region (X.q rfl ?_)
  refine X.opR rfl (X.indexF (f := e_api_Span) h_36 (fun _ => rfl) rfl rfl rfl rfl) rfl ?_
  refine X.opR rfl (X.loadF h_36 rfl rfl rfl) rfl ?_
  refine X.opW (H' := [.rows 3 [(e_api_Load l)], .rows 1 [(V.sl (List.map V.i form))], .rows 1 [(ovl 4 l19)], obl 1 V.i l18, obl 1 V.i l19, .rows 2 [(V.agg [(V.i 0), (V.i 0)])]]) rfl rfl rfl rfl (X.q rfl ?_)
  refine X.op0W (H' := [.rows 3 [(e_api_Load l)], .rows 1 [(V.sl (List.map V.i form))], .rows 1 [(ovl 4 l19)], obl 1 V.i l18, obl 1 V.i l19, .rows 2 [(e_api_Span x18)]]) rfl rfl rfl (GS.opsNil ?_)
  obtain ⟨l16, h_37, hM⟩ := bind_of hM
  obtain ⟨l17, h_38, hM⟩ := bind_of hM
  refine GS.region ?_
  refine X.opR rfl (v := (ovl 4 l19)) (by rcases X.ovl_or (z := true) 4 l19 with h0 | ⟨n0, h0⟩ <;> simp only [h0] <;> rfl) rfl (X.q rfl (X.q rfl ?_))
  refine X.opW (H' := [.rows 3 [(e_api_Load l)], .rows 1 [(V.sl (List.map V.i form))], .rows 1 [(ovl 4 l19)], obl 1 V.i l18, obl 1 V.i l19, .rows 2 [(e_api_Span x18)], .rows 1 (List.map V.i ([x18.Lo]))]) rfl rfl rfl rfl ?_
  refine X.appN (f := V.i) h_37 (fun _ => rfl) (by rfl) (by rfl) (by rfl) (by rfl) (by rfl) (by rfl) (by rfl) (by rfl) (by rfl) (by rfl) (by rfl) (by exact rfl) (by rfl) (by rfl) (X.q rfl (X.q rfl ?_))
  refine X.opW (H' := [.rows 3 [(e_api_Load l)], .rows 1 [(V.sl (List.map V.i form))], .rows 1 [(ovl 4 l19)], obl 1 V.i l18, .dead, .rows 2 [(e_api_Span x18)], .rows 1 (List.map V.i ([x18.Lo])), .rows 1 (List.map V.i l16), .rows 1 (List.map V.i ([x19]))]) rfl rfl rfl rfl ?_
  refine X.appN (f := V.i) h_38 (fun _ => rfl) (by rfl) (by rfl) (by rfl) (by rfl) (by rfl) (by rfl) (by rfl) (by rfl) (by rfl) (by rfl) (by rfl) (by exact rfl) (by rfl) (by rfl) ?_
  refine X.op0W (H' := [.rows 3 [(e_api_Load l)], .rows 1 [(V.sl (List.map V.i form))], .rows 1 [(V.osl 7 0 (List.length l16))], .dead, .dead, .rows 2 [(e_api_Span x18)], .rows 1 (List.map V.i ([x18.Lo])), .rows 1 (List.map V.i l16), .rows 1 (List.map V.i ([x19])), .rows 1 (List.map V.i l17)]) rfl (v := undefV) (wr := [(2, .rows 1 [(V.osl 7 0 (List.length l16))])]) (by rcases X.ovl_or (z := true) 4 l19 with h0 | ⟨n0, h0⟩ <;> simp only [h0] <;> rfl) rfl ?_
  refine X.q rfl (GS.opsNil ?_)
  refine GS.endB (GS.region ?_)
  refine X.opR rfl (X.addE rfl rfl) rfl (X.q rfl (GS.opsNil ?_))
  have hE := Option.some.inj hM
  exact X.gc [some 0, some 1, some 2, some 9, some 7] (hc_18 (w64 (x19 + 1), l17, l16) hE.symm) rfl rfl rfl (gk_cons rfl ⟨9, rfl⟩ (gk_cons rfl ⟨9, rfl⟩ (gk_cons rfl ⟨9, rfl⟩ (gk_cons rfl ⟨9, rfl⟩ (gk_cons rfl (rv_ne (app_ne h_38) rfl) (ga rfl rfl)))))) (gb9 rfl rfl rfl (gb9 rfl rfl rfl (gb_box rfl rfl (rv_ne (app_ne h_37) rfl) (gb_obl' 9 (app_ne h_38) rfl rfl (fun _ => rfl) (gb_obl' 9 (app_ne h_37) rfl rfl (fun _ => rfl) gb_nil)))))
 replace hM := ite_f h_35 hM
 refine GS.exit rfl ?_
 obtain ⟨y_1, hM, hy⟩ := map_of hM
 rw [hr_1 _ hy.symm] at hM
 exact X.gc [some 0, some 1, some 2, some 3, some 4] (hj_1 (l18, l19) hM) rfl rfl rfl (gk_cons rfl ⟨9, rfl⟩ (gk_cons rfl ⟨9, rfl⟩ (gk_cons rfl ⟨9, rfl⟩ (gk_cons rfl ⟨9, rfl⟩ (gk_cons rfl (rn_ovl rfl) gk_nil))))) (gb9 rfl rfl rfl (gb9 rfl rfl rfl (gb_box rfl rfl (rn_ovl rfl) (gb_obl 9 rfl rfl (fun _ => rfl) (gb_obl 9 rfl rfl (fun _ => rfl) gb_nil)))))
theorem ok_hull_spare {s : api_Ship} {total : Int} {r : Int × Int} (hM : hull_spare s total = some r) : Ct Tryz.prog 207 [(e_api_Ship s), (V.i total)] (V.tup [(V.i r.1), (V.i r.2)]) := by
 refine ct_of_gs CC_ok rfl ?_
 unfold hull_spare at hM
 refine X.sq ?_
 refine X.opW rfl rfl rfl rfl (X.q rfl (X.q rfl ?_))
 refine X.nq (X.q rfl (X.q rfl (X.q rfl ?_)))
 refine X.opR rfl (X.addE rfl rfl) rfl (X.q rfl (GS.opsNil (GS.seq ?_)))
 obtain ⟨y, h_1, hM⟩ := bind_of hM
 refine GS.region ?_
 iterate 4 refine X.q rfl ?_
 refine X.call (ok_hull_table_at h_1) rfl rfl rfl (.cons (.shut (n := 9) rfl) (.cons (.shut (n := 9) rfl) .nil)) ?_
 iterate 5 refine X.q rfl ?_
 refine X.nq ?_
 iterate 6 refine X.q rfl ?_
 refine X.opR rfl (X.addE rfl rfl) rfl (X.q rfl ?_)
 refine X.opR rfl (X.mulE rfl rfl) rfl ?_
 refine X.opR rfl (X.subE rfl rfl) rfl (X.q rfl ?_)
 refine X.opR rfl (X.mulE rfl rfl) rfl (X.q rfl (X.q rfl (X.q rfl ?_)))
 refine GS.opsNil ?_
 cases hM
 exact GS.ret ⟨_, rfl, ⟨30, rfl⟩⟩
theorem ok_hull_value {form : (List Int)} {x : (List Int)} {r : Int} (hM : hull_value form x = some r) : Ct Tryz.prog 126 [(V.sl (List.map V.i form)), (V.sl (List.map V.i x))] (V.i r) := by
 refine ct_of_gs CC_ok rfl ?_
 unfold hull_value at hM
 refine X.sq (X.q rfl (X.nq (X.q rfl (GS.opsNil (GS.seq (X.sq (X.q rfl ?_)))))))
 refine X.opR rfl (X.lenF rfl rfl rfl) rfl (X.q rfl (GS.opsNil ?_))
 refine X.join (τ := Int) (fun v => hull_value_j1 v = some r) (fun v => ⟨[(5, (V.i v))], [], 0, none, 25⟩) ?_ ?_
 ·intro n hM
  replace hM : hull_value_j1 n = some r := hM
  unfold hull_value_j1 at hM
  refine X.sq (X.q rfl (X.q rfl ?_))
  refine GS.opsNil ?_
  cases hM
  exact GS.ret ⟨_, rfl, ⟨30, rfl⟩⟩
 intro hj_1
 refine GS.block ?_
 refine X.gc [] (X.loop (σ := (Int × Int)) (fun v => ⟨[(1, (V.sl (List.map V.i x))), (5, (V.i v.1)), (8, (V.sl (List.map V.i form))), (9, (V.i (form.length : Int))), (10, (V.i v.2))], [], 0, none, 25⟩) hM ?_ rfl) rfl rfl rfl (ga rfl rfl) (gb_nil)
 rintro ⟨n1, x3⟩ b_1 hM hc_2 hr_1
 rw [hull_value_b2] at hM
 refine X.sq (X.q rfl (GS.opsNil (GS.seq ?_)))
 refine X.cond rfl (fun h_1 => ?_) (fun h_1 => ?_)
 ·replace hM := ite_t h_1 hM
  refine GS.skip (GS.seq (GS.block (GS.seq ?_)))
  obtain ⟨x1, h_2, hM⟩ := bind_of hM
  refine GS.region (X.q rfl ?_)
  refine X.opR rfl (X.indexF (f := V.i) h_2 (fun _ => rfl) rfl rfl rfl rfl) rfl ?_
  refine X.opR rfl (X.loadF h_2 rfl rfl rfl) rfl (X.q rfl (X.q rfl ?_))
  refine GS.opsNil ?_
  obtain ⟨x2, h_3, hM⟩ := bind_of hM
  refine GS.region ?_
  iterate 4 refine X.q rfl ?_
  refine X.opR rfl (X.indexF (f := V.i) h_3 (fun _ => rfl) rfl rfl rfl rfl) rfl ?_
  refine X.opR rfl (X.loadF h_3 rfl rfl rfl) rfl ?_
  refine X.opR rfl (X.mulE rfl rfl) rfl ?_
  refine X.opR rfl (X.addE rfl rfl) rfl (X.q rfl (GS.opsNil ?_))
  refine GS.endB (GS.region ?_)
  refine X.opR rfl (X.addE rfl rfl) rfl (X.q rfl (GS.opsNil ?_))
  have hE := Option.some.inj hM
  exact X.gc [] (hc_2 (w64 (n1 + (w64 (x1 * x2))), w64 (x3 + 1)) hE.symm) rfl rfl rfl (ga rfl rfl) (gb_nil)
 replace hM := ite_f h_1 hM
 refine GS.exit rfl ?_
 obtain ⟨y_1, hM, hy⟩ := map_of hM
 rw [hr_1 _ hy.symm] at hM
 exact X.gc [] (hj_1 n1 hM) rfl rfl rfl (ga rfl rfl) (gb_nil)
theorem ok_hull_rise {s : api_Ship} {x : (List Int)} {r : Int} (hM : hull_rise s x = some r) : Ct Tryz.prog 64 [(e_api_Ship s), (V.sl (List.map V.i x))] (V.i r) := by
 refine ct_of_gs CC_ok rfl ?_
 unfold hull_rise at hM
 refine X.sq ?_
 refine X.opW rfl rfl rfl rfl (X.q rfl (GS.opsNil (GS.seq ?_)))
 obtain ⟨y, h_1, hM⟩ := bind_of hM
 obtain ⟨y1, h_2, hM⟩ := bind_of hM
 refine X.drawc (by kernel_rfl) rfl ?_
 iterate 4 refine X.cop rfl rfl rfl rfl ?_
 refine X.cop rfl (X.mulE rfl rfl) rfl rfl ?_
 refine X.cop rfl rfl rfl rfl ?_
 refine X.ccall (ok_hull_heights h_1) rfl rfl rfl rfl (.cons (.shut (n := 9) rfl) .nil) ?_
 refine X.cop rfl rfl rfl rfl ?_
 refine X.ccall (ok_hull_value h_2) rfl rfl rfl rfl (.cons (.shut (n := 9) rfl) (.cons (.shut (n := 9) rfl) .nil)) ?_
 refine X.cop rfl (X.addE rfl rfl) rfl rfl ?_
 refine X.cop rfl rfl rfl rfl ?_
 refine X.cnil ?_
 refine X.norm [(4, (V.i (w64 ((w64 (s.Light * s.Height)) + y1))))] ?_ rfl (sr rfl)
 cases hM
 exact GS.ret ⟨_, rfl, ⟨30, rfl⟩⟩
theorem ok_hull_steady {s : api_Ship} {x : (List Int)} {r : Bool} (hM : hull_steady s x = some r) : Ct Tryz.prog 124 [(e_api_Ship s), (V.sl (List.map V.i x))] (V.b r) := by
 refine ct_of_gs CC_ok rfl ?_
 unfold hull_steady at hM
 refine X.sq ?_
 refine X.opW rfl rfl rfl rfl (X.q rfl (GS.opsNil (GS.seq ?_)))
 obtain ⟨y, h_1, hM⟩ := bind_of hM
 obtain ⟨y1, h_2, hM⟩ := bind_of hM
 refine X.drawc (by kernel_rfl) rfl ?_
 iterate 2 refine X.cop rfl rfl rfl rfl ?_
 refine X.ccall (ok_hull_sum h_1) rfl rfl rfl rfl (.cons (.shut (n := 9) rfl) .nil) ?_
 refine X.ccall (ok_hull_spare h_2) rfl rfl rfl rfl (.cons (.shut (n := 9) rfl) (.cons (.shut (n := 9) rfl) .nil)) ?_
 iterate 5 refine X.cop rfl rfl rfl rfl ?_
 refine X.cnil ?_
 refine X.norm [(1, (V.sl (List.map V.i x))), (2, (V.ptr 0 0 0)), (5, (V.i y1.1)), (6, (V.i y1.2))] ?_ rfl (sr rfl)
 refine GS.seq ?_
 obtain ⟨y2, h_3, hM⟩ := bind_of hM
 refine GS.region (X.q rfl (X.q rfl (X.q rfl ?_)))
 refine X.call (ok_hull_rise h_3) rfl rfl rfl (.cons (.shut (n := 9) rfl) (.cons (.shut (n := 9) rfl) .nil)) (X.q rfl ?_)
 refine X.opR rfl (X.mulE rfl rfl) rfl (X.q rfl (X.q rfl ?_))
 refine GS.opsNil ?_
 cases hM
 exact GS.ret ⟨_, rfl, ⟨30, rfl⟩⟩
theorem ok_hull_shaky {s : api_Ship} {l : api_Load} {r : (List Int) × Bool} (hM : hull_shaky s l = some r) : Ct Tryz.prog 62 [(e_api_Ship s), (e_api_Load l)] (V.tup [(V.sl (List.map V.i r.1)), (V.b r.2)]) := by
 refine ct_of_gs CC_ok rfl ?_
 unfold hull_shaky at hM
 refine X.sq ?_
 iterate 3 refine X.opW rfl rfl rfl rfl ?_
 refine X.opW (H' := [.rows 11 [(e_api_Ship s)], .rows 3 [(e_api_Load l)], .rows 1 [V.nil], .rows 1 [(V.b false)]]) rfl rfl rfl rfl (GS.opsNil (GS.seq (X.sq (X.q rfl ?_))))
 refine X.call (ok_hull_each l) rfl rfl rfl (.cons (.shut (n := 9) rfl) .nil) (GS.opsNil (GS.block ?_))
 refine X.gc [some 0, some 1, some 2, some 3] (H' := [.rows 11 [(e_api_Ship s)], .rows 3 [(e_api_Load l)], .rows 1 [V.nil], .rows 1 [(V.b false)]]) (K' := [(2, (V.ptr 0 0 0)), (3, (V.ptr 1 0 0)), (4, (V.ptr 2 0 0)), (5, (V.ptr 3 0 0)), (9, (V.fn 203 [(V.fptr [(e_api_Load (hull_each l))] 0 0)]))]) ?_ rfl rfl rfl (ga rfl rfl) (gb9 rfl rfl rfl (gb9 rfl rfl rfl (gb9 rfl rfl rfl (gb9 rfl rfl rfl gb_nil))))
 refine X.range rfl rfl (lowK_cons ⟨9, rfl⟩ (lowK_cons ⟨9, rfl⟩ (lowK_cons ⟨9, rfl⟩ (lowK_cons ⟨9, rfl⟩ (lowK_cons ⟨9, rfl⟩ lowK_nil))))) rfl ?_
 intro R_1 hrn_1 hrK_1 hrp_1 hra_1 hrb_1 hlow_1
 refine GS.seq ?_
 obtain ⟨y, h_2, hM⟩ := bind_of hM
 refine GS.region (X.q rfl ?_)
 refine X.call (ok_hull_totals h_2) rfl rfl rfl (.cons (.shut (n := 9) rfl) .nil) ?_
 refine X.opW (H' := [.rows 11 [(e_api_Ship s)], .rows 3 [(e_api_Load l)], .rows 1 [V.nil], .rows 1 [(V.b false)], lr R_1 .ready none, .rows 2 [(V.agg [(V.i 0), (V.i 0)])]]) rfl rfl rfl rfl ?_
 refine X.op0W (H' := [.rows 11 [(e_api_Ship s)], .rows 3 [(e_api_Load l)], .rows 1 [V.nil], .rows 1 [(V.b false)], lr R_1 .ready none, .rows 2 [(e_api_Span y)]]) rfl rfl rfl (X.nq (X.q rfl (X.q rfl (X.q rfl ?_))))
 refine GS.opsNil (GS.block ?_)
 refine X.gc [some 5] (X.loop (σ := Int) (fun v => ⟨[(0, (V.yld 4)), (3, (V.ptr 5 0 0)), (4, (V.i v))], [.rows 11 [(e_api_Ship s)], .rows 3 [(e_api_Load l)], .rows 1 [V.nil], .rows 1 [(V.b false)], lr R_1 .ready none, .rows 2 [(e_api_Span y)]], 0, none, 19⟩) hM ?_ rfl) rfl rfl rfl (ga rfl rfl) (gb9 rfl rfl rfl (gb9 rfl rfl rfl (gb9 rfl rfl rfl (gb9 rfl rfl rfl (gb_loop hlow_1 rfl rfl rfl (gb9 rfl rfl rfl gb_nil))))))
 intro t b_1 hM hc_1 hr_1
 rw [hull_shaky_b1] at hM
 refine GS.seq (X.sq ?_)
 iterate 4 refine X.q rfl ?_
 refine GS.opsNil ?_
 refine X.cond rfl (fun h_3 => ?_) (fun h_3 => ?_)
 ·replace hM := ite_t h_3 hM
  refine GS.skip (GS.seq (GS.block (X.sq (X.q rfl (X.q rfl ?_)))))
  refine X.yld hrn_1 hrK_1 hrp_1 hra_1 hrb_1 rfl rfl rfl rfl rfl rfl (GS.region (X.q rfl (GS.opsNil ?_)))
  refine GS.nil (X.begin' rfl rfl ?_ rfl)
  refine GS.block (GS.seq ?_)
  obtain ⟨y1, h_4, hM⟩ := bind_of hM
  obtain ⟨y2, h_5, hM⟩ := bind_of hM
  refine X.drawc (by kernel_rfl) rfl ?_
  iterate 2 refine X.cop rfl rfl rfl rfl ?_
  refine X.ccall (ok_hull_heights h_4) rfl rfl rfl rfl (.cons (.shut (n := 9) rfl) .nil) ?_
  refine X.cop rfl rfl rfl rfl ?_
  refine X.ccall (ok_hull_best h_5) rfl rfl rfl rfl (.cons (.shut (n := 9) rfl) (.cons (.shut (n := 9) rfl) (.cons (.shut (n := 9) rfl) .nil))) ?_
  refine X.cop rfl rfl rfl rfl ?_
  refine X.cnil ?_
  refine X.norm [(2, (V.ptr 0 0 0)), (4, (V.ptr 2 0 0)), (5, (V.ptr 3 0 0)), (7, (V.sl (List.map V.i y2)))] ?_ rfl (sr rfl)
  refine GS.seq ?_
  obtain ⟨y3, h_6, hM⟩ := bind_of hM
  refine GS.region (X.q rfl (X.q rfl ?_))
  refine X.call (ok_hull_steady h_6) rfl rfl rfl (.cons (.shut (n := 9) rfl) (.cons (.shut (n := 9) rfl) .nil)) (X.q rfl (GS.opsNil ?_))
  refine X.cond rfl (fun h_7 => ?_) (fun h_7 => ?_)
  ·replace hM := ite_t h_7 hM
   refine X.sq (X.q rfl ?_)
   refine X.op0W (H' := [.rows 11 [(e_api_Ship s)], .rows 3 [(e_api_Load l)], .rows 1 [(V.sl (List.map V.i y2))], .rows 1 [(V.b false)], lr R_1 .busy none, .rows 2 [(e_api_Span y)]]) rfl rfl rfl ?_
   refine X.op0W (H' := [.rows 11 [(e_api_Ship s)], .rows 3 [(e_api_Load l)], .rows 1 [(V.sl (List.map V.i y2))], .rows 1 [(V.b true)], lr R_1 .busy none, .rows 2 [(e_api_Span y)]]) rfl rfl rfl (GS.opsNil ?_)
   refine GS.ret ⟨_, rfl, ?_⟩
   refine X.norm (H' := [.rows 11 [(e_api_Ship s)], .rows 3 [(e_api_Load l)], .rows 1 [(V.sl (List.map V.i y2))], .rows 1 [(V.b true)], lr R_1 .done (some .ret), .rows 2 [(e_api_Span y)]]) [(0, (V.yld 4)), (3, (V.ptr 5 0 0)), (4, (V.i t)), (17, (V.b false))] ?_ rfl (sr rfl)
   refine X.q rfl (GS.opsNil ?_)
   refine GS.condT rfl ?_
   refine GS.ret ⟨_, _, rfl, rfl, ?_⟩
   refine X.norm (H' := [.rows 11 [(e_api_Ship s)], .rows 3 [(e_api_Load l)], .rows 1 [(V.sl (List.map V.i y2))], .rows 1 [(V.b true)], .dead, .rows 2 [(e_api_Span y)]]) [(2, (V.ptr 0 0 0)), (3, (V.ptr 1 0 0)), (4, (V.ptr 2 0 0)), (5, (V.ptr 3 0 0)), (9, (V.fn 203 [(V.fptr [(e_api_Load (hull_each l))] 0 0)]))] ?_ rfl (sr rfl)
   have hE := Option.some.inj hM
   replace hE := hr_1 _ hE.symm
   subst hE
   exact GS.ret ⟨_, rfl, ⟨30, rfl⟩⟩
  replace hM := ite_f h_7 hM
  refine GS.skip ?_
  refine GS.endB ?_
  refine GS.nil ⟨_, rfl, ?_⟩
  refine X.norm (H' := [.rows 11 [(e_api_Ship s)], .rows 3 [(e_api_Load l)], .rows 1 [V.nil], .rows 1 [(V.b false)], lr R_1 .ready none, .rows 2 [(e_api_Span y)]]) [(0, (V.yld 4)), (3, (V.ptr 5 0 0)), (4, (V.i t)), (17, (V.b true))] ?_ rfl (sr rfl)
  refine X.q rfl (GS.opsNil ?_)
  refine GS.condF rfl (GS.skip ?_)
  refine GS.endB (GS.region (X.q rfl ?_))
  refine X.opR rfl (X.addE rfl rfl) rfl (X.q rfl (GS.opsNil ?_))
  have hE := Option.some.inj hM
  exact X.gc [some 5] (hc_1 (w64 (t + 1)) hE.symm) rfl rfl rfl (ga rfl rfl) (gb9 rfl rfl rfl (gb9 rfl rfl rfl (gb9 rfl rfl rfl (gb9 rfl rfl rfl (gb_loop hlow_1 rfl rfl rfl (gb9 rfl rfl rfl gb_nil))))))
 replace hM := ite_f h_3 hM
 refine GS.exit rfl ?_
 refine GS.nil ⟨_, _, rfl, rfl, ?_⟩
 refine X.norm (H' := [.rows 11 [(e_api_Ship s)], .rows 3 [(e_api_Load l)], .rows 1 [V.nil], .rows 1 [(V.b false)], .dead, .rows 2 [(e_api_Span y)]]) [(2, (V.ptr 0 0 0)), (3, (V.ptr 1 0 0)), (4, (V.ptr 2 0 0)), (5, (V.ptr 3 0 0)), (9, (V.fn 203 [(V.fptr [(e_api_Load (hull_each l))] 0 0)]))] ?_ rfl (sr rfl)
 refine GS.endB (X.sq ?_)
 iterate 2 refine X.op0W (H' := [.rows 11 [(e_api_Ship s)], .rows 3 [(e_api_Load l)], .rows 1 [V.nil], .rows 1 [(V.b false)], .dead, .rows 2 [(e_api_Span y)]]) rfl rfl rfl ?_
 refine GS.opsNil ?_
 have hE := Option.some.inj hM
 replace hE := hr_1 _ hE.symm
 subst hE
 exact GS.ret ⟨_, rfl, ⟨30, rfl⟩⟩
theorem ok_hull_Steady {s : api_Ship} {l : api_Load} {r : (List Int) × Bool × Int} (hM : hull_Steady s l = some r) : Ct Tryz.prog 20 [(e_api_Ship s), (e_api_Load l)] (V.tup [(V.sl (List.map V.i r.1)), (V.b r.2.1), (V.i r.2.2)]) := by
 refine ct_of_gs CC_ok rfl ?_
 unfold hull_Steady at hM
 refine X.sq ?_
 iterate 2 refine X.opW rfl rfl rfl rfl ?_
 iterate 3 refine X.q rfl ?_
 refine GS.opsNil ?_
 iterate 2 refine GS.seq ?_
 obtain ⟨y, h_1, hM⟩ := bind_of hM
 refine GS.region (X.q rfl (X.q rfl ?_))
 refine X.call (ok_hull_CheckLoad h_1) rfl rfl rfl (.cons (.shut (n := 9) rfl) (.cons (.shut (n := 9) rfl) .nil)) (X.q rfl (X.nq (X.q rfl (X.q rfl ?_))))
 refine GS.opsNil ?_
 refine X.cond rfl (fun h_2 => ?_) (fun h_2 => ?_)
 ·replace hM := ite_t h_2 hM
  refine X.sq ?_
  iterate 4 refine X.q rfl ?_
  refine GS.opsNil ?_
  cases hM
  exact GS.ret ⟨_, rfl, ⟨30, rfl⟩⟩
 replace hM := ite_f h_2 hM
 refine GS.skip (GS.seq ?_)
 obtain ⟨y1, h_3, hM⟩ := bind_of hM
 refine GS.region (X.q rfl (X.q rfl ?_))
 refine X.call (ok_hull_shaky h_3) rfl rfl rfl (.cons (.shut (n := 9) rfl) (.cons (.shut (n := 9) rfl) .nil)) ?_
 iterate 5 refine X.q rfl ?_
 refine X.nq ?_
 iterate 6 refine X.q rfl ?_
 refine GS.opsNil ?_
 cases hM
 exact GS.ret ⟨_, rfl, ⟨30, rfl⟩⟩
theorem eq_api_Frac (a b : api_Frac) : eqA CC.ty 45 (e_api_Frac a) (e_api_Frac b) = some (decide (a = b)) := by
 refine (X.eqa rfl rfl (X.eqp rfl rfl rfl (X.eqp rfl rfl rfl X.eqn'))).trans ?_
 congr 1
 rw [Bool.eq_iff_iff]
 simp only [Bool.and_eq_true, decide_eq_true_eq, beq_iff_eq, and_true]
 constructor
 ·intro h
  obtain ⟨a1, a2⟩ := a
  obtain ⟨b3, b4⟩ := b
  simp at h
  simp [h]
 ·rintro rfl
  simp
theorem ok_top_floating {r : Bool} (hM : top_floating = some r) : Ct Tryz.prog 8 [] (V.b r) := by
 refine ct_of_gs CC_ok rfl ?_
 unfold top_floating at hM
 refine X.sq (X.q rfl (X.nq ?_))
 refine X.call ok_law03_Ship rfl rfl rfl .nil ?_
 refine X.opW rfl rfl rfl rfl ?_
 refine X.op0W rfl rfl rfl (GS.opsNil (GS.seq ?_))
 replace hM := bind_of hM
 obtain ⟨y, h_1, hM⟩ := hM
 refine GS.region (X.q rfl ?_)
 refine X.call (ok_hull_Meta h_1) rfl rfl rfl (.cons (.shut (n := 9) rfl) (.cons (.shut (n := 9) rfl) .nil)) (X.q rfl (X.q rfl (X.q rfl ?_)))
 refine X.opW rfl rfl rfl rfl ?_
 refine X.op0W rfl rfl rfl (X.q rfl (GS.opsNil (GS.seq ?_)))
 replace hM := bind_of hM
 obtain ⟨y1, h_2, hM⟩ := hM
 refine GS.region (X.q rfl (X.q rfl ?_))
 refine X.call (ok_curve_Value h_2) rfl rfl rfl (.cons (.shut (n := 9) rfl) (.cons (.shut (n := 9) rfl) .nil)) (X.q rfl (X.q rfl (X.q rfl ?_)))
 refine X.opW rfl rfl rfl rfl ?_
 refine X.op0W rfl rfl rfl (X.q rfl (GS.opsNil (GS.seq ?_)))
 replace hM := bind_of hM
 obtain ⟨y2, h_3, hM⟩ := hM
 refine GS.region (X.q rfl (X.q rfl (X.q rfl ?_)))
 refine GS.bldF rfl rfl rfl rfl (X.q rfl (X.q rfl ?_))
 refine X.call (ok_hull_Steady h_3) rfl rfl rfl (.cons (.shut (n := 9) rfl) (.cons (.shut (n := 9) rfl) .nil)) ?_
 iterate 7 refine X.q rfl ?_
 refine X.nq ?_
 refine X.mid [(0, (V.b ((((((decide (y.2 = 0)) && (decide (y1.2 = 0))) && (decide (y2.2.2 = 0))) && (decide (y.1 = y1.1))) && y2.2.1) && (decide (y.1 = (⟨152, 1⟩ : api_Frac))))))] ?_ ?_
 ·intro hg
  refine X.split (decide (y.2 = 0)) (fun h_4 => ?_) (fun h_4 => ?_)
  ·refine X.split (((decide (y.2 = 0)) && (decide (y1.2 = 0)))) (fun h_5 => ?_) (fun h_5 => ?_)
   ·refine X.split ((((decide (y.2 = 0)) && (decide (y1.2 = 0))) && (decide (y2.2.2 = 0)))) (fun h_6 => ?_) (fun h_6 => ?_)
    ·refine X.split (((((decide (y.2 = 0)) && (decide (y1.2 = 0))) && (decide (y2.2.2 = 0))) && (decide (y.1 = y1.1)))) (fun h_7 => ?_) (fun h_7 => ?_)
     ·refine X.split ((((((decide (y.2 = 0)) && (decide (y1.2 = 0))) && (decide (y2.2.2 = 0))) && (decide (y.1 = y1.1))) && y2.2.1)) (fun h_8 => ?_) (fun h_8 => ?_)
      ·iterate 3 refine X.q rfl ?_
       iterate 2 refine X.opR (X.on_t rfl rfl rfl h_4) rfl rfl ?_
       refine X.opR rfl (X.pickand_t (y := decide (y1.2 = 0)) rfl h_4 rfl) rfl (X.q rfl ?_)
       iterate 2 refine X.opR (X.on_t rfl rfl rfl h_5) rfl rfl ?_
       refine X.opR rfl (X.pickand_t (y := decide (y2.2.2 = 0)) rfl h_5 rfl) rfl (X.q rfl ?_)
       iterate 2 refine X.opR (X.on_t rfl rfl rfl h_6) rfl rfl ?_
       refine X.opR (X.on_t rfl rfl rfl h_6) (X.eqlE (eq_api_Frac y.1 y1.1) rfl rfl) rfl ?_
       refine X.opR rfl (X.pickand_t (y := decide (y.1 = y1.1)) rfl h_6 rfl) rfl (X.q rfl ?_)
       refine X.opR (X.on_t rfl rfl rfl h_7) rfl rfl ?_
       refine X.opR rfl (X.pickand_t (y := y2.2.1) rfl h_7 rfl) rfl (X.q rfl ?_)
       iterate 2 refine X.opR (X.on_t rfl rfl rfl h_8) rfl rfl ?_
       refine X.opR (X.on_t rfl rfl rfl h_8) (X.eqlE (eq_api_Frac y.1 (⟨152, 1⟩ : api_Frac)) rfl rfl) rfl ?_
       refine X.opR rfl (X.pickand_t (y := decide (y.1 = (⟨152, 1⟩ : api_Frac))) rfl h_8 rfl) rfl (X.q rfl (GS.opsNil ?_))
       exact X.norm _ hg rfl (sr rfl)
      iterate 3 refine X.q rfl ?_
      iterate 2 refine X.opR (X.on_t rfl rfl rfl h_4) rfl rfl ?_
      refine X.opR rfl (X.pickand_t (y := decide (y1.2 = 0)) rfl h_4 rfl) rfl (X.q rfl ?_)
      iterate 2 refine X.opR (X.on_t rfl rfl rfl h_5) rfl rfl ?_
      refine X.opR rfl (X.pickand_t (y := decide (y2.2.2 = 0)) rfl h_5 rfl) rfl (X.q rfl ?_)
      iterate 2 refine X.opR (X.on_t rfl rfl rfl h_6) rfl rfl ?_
      refine X.opR (X.on_t rfl rfl rfl h_6) (X.eqlE (eq_api_Frac y.1 y1.1) rfl rfl) rfl ?_
      refine X.opR rfl (X.pickand_t (y := decide (y.1 = y1.1)) rfl h_6 rfl) rfl (X.q rfl ?_)
      refine X.opR (X.on_t rfl rfl rfl h_7) rfl rfl ?_
      refine X.opR rfl (X.pickand_t (y := y2.2.1) rfl h_7 rfl) rfl (X.q rfl ?_)
      iterate 3 refine X.off (X.off_t rfl rfl rfl h_8) rfl ?_
      refine X.opR rfl (X.pickand_f (y := decide (y.1 = (⟨152, 1⟩ : api_Frac))) rfl h_8 rfl) rfl (X.q rfl (GS.opsNil ?_))
      exact X.norm _ hg rfl (sr rfl)
     iterate 3 refine X.q rfl ?_
     iterate 2 refine X.opR (X.on_t rfl rfl rfl h_4) rfl rfl ?_
     refine X.opR rfl (X.pickand_t (y := decide (y1.2 = 0)) rfl h_4 rfl) rfl (X.q rfl ?_)
     iterate 2 refine X.opR (X.on_t rfl rfl rfl h_5) rfl rfl ?_
     refine X.opR rfl (X.pickand_t (y := decide (y2.2.2 = 0)) rfl h_5 rfl) rfl (X.q rfl ?_)
     iterate 2 refine X.opR (X.on_t rfl rfl rfl h_6) rfl rfl ?_
     refine X.opR (X.on_t rfl rfl rfl h_6) (X.eqlE (eq_api_Frac y.1 y1.1) rfl rfl) rfl ?_
     refine X.opR rfl (X.pickand_t (y := decide (y.1 = y1.1)) rfl h_6 rfl) rfl (X.q rfl ?_)
     refine X.off (X.off_t rfl rfl rfl h_7) rfl ?_
     refine X.opR rfl (X.pickand_f (y := y2.2.1) rfl h_7 rfl) rfl (X.q rfl ?_)
     iterate 3 refine X.off (X.off_t rfl rfl rfl (X.and_ff h_7)) rfl ?_
     refine X.opR rfl (X.pickand_f (y := decide (y.1 = (⟨152, 1⟩ : api_Frac))) rfl (X.and_ff h_7) rfl) rfl (X.q rfl (GS.opsNil ?_))
     exact X.norm _ hg rfl (sr rfl)
    iterate 3 refine X.q rfl ?_
    iterate 2 refine X.opR (X.on_t rfl rfl rfl h_4) rfl rfl ?_
    refine X.opR rfl (X.pickand_t (y := decide (y1.2 = 0)) rfl h_4 rfl) rfl (X.q rfl ?_)
    iterate 2 refine X.opR (X.on_t rfl rfl rfl h_5) rfl rfl ?_
    refine X.opR rfl (X.pickand_t (y := decide (y2.2.2 = 0)) rfl h_5 rfl) rfl (X.q rfl ?_)
    iterate 3 refine X.off (X.off_t rfl rfl rfl h_6) rfl ?_
    refine X.opR rfl (X.pickand_f (y := decide (y.1 = y1.1)) rfl h_6 rfl) rfl (X.q rfl ?_)
    refine X.off (X.off_t rfl rfl rfl (X.and_ff h_6)) rfl ?_
    refine X.opR rfl (X.pickand_f (y := y2.2.1) rfl (X.and_ff h_6) rfl) rfl (X.q rfl ?_)
    iterate 3 refine X.off (X.off_t rfl rfl rfl (X.and_ff (X.and_ff h_6))) rfl ?_
    refine X.opR rfl (X.pickand_f (y := decide (y.1 = (⟨152, 1⟩ : api_Frac))) rfl (X.and_ff (X.and_ff h_6)) rfl) rfl (X.q rfl (GS.opsNil ?_))
    exact X.norm _ hg rfl (sr rfl)
   iterate 3 refine X.q rfl ?_
   iterate 2 refine X.opR (X.on_t rfl rfl rfl h_4) rfl rfl ?_
   refine X.opR rfl (X.pickand_t (y := decide (y1.2 = 0)) rfl h_4 rfl) rfl (X.q rfl ?_)
   iterate 2 refine X.off (X.off_t rfl rfl rfl h_5) rfl ?_
   refine X.opR rfl (X.pickand_f (y := decide (y2.2.2 = 0)) rfl h_5 rfl) rfl (X.q rfl ?_)
   iterate 3 refine X.off (X.off_t rfl rfl rfl (X.and_ff h_5)) rfl ?_
   refine X.opR rfl (X.pickand_f (y := decide (y.1 = y1.1)) rfl (X.and_ff h_5) rfl) rfl (X.q rfl ?_)
   refine X.off (X.off_t rfl rfl rfl (X.and_ff (X.and_ff h_5))) rfl ?_
   refine X.opR rfl (X.pickand_f (y := y2.2.1) rfl (X.and_ff (X.and_ff h_5)) rfl) rfl (X.q rfl ?_)
   iterate 3 refine X.off (X.off_t rfl rfl rfl (X.and_ff (X.and_ff (X.and_ff h_5)))) rfl ?_
   refine X.opR rfl (X.pickand_f (y := decide (y.1 = (⟨152, 1⟩ : api_Frac))) rfl (X.and_ff (X.and_ff (X.and_ff h_5))) rfl) rfl (X.q rfl (GS.opsNil ?_))
   exact X.norm _ hg rfl (sr rfl)
  iterate 3 refine X.q rfl ?_
  iterate 2 refine X.off (X.off_t rfl rfl rfl h_4) rfl ?_
  refine X.opR rfl (X.pickand_f (y := decide (y1.2 = 0)) rfl h_4 rfl) rfl (X.q rfl ?_)
  iterate 2 refine X.off (X.off_t rfl rfl rfl (X.and_ff h_4)) rfl ?_
  refine X.opR rfl (X.pickand_f (y := decide (y2.2.2 = 0)) rfl (X.and_ff h_4) rfl) rfl (X.q rfl ?_)
  iterate 3 refine X.off (X.off_t rfl rfl rfl (X.and_ff (X.and_ff h_4))) rfl ?_
  refine X.opR rfl (X.pickand_f (y := decide (y.1 = y1.1)) rfl (X.and_ff (X.and_ff h_4)) rfl) rfl (X.q rfl ?_)
  refine X.off (X.off_t rfl rfl rfl (X.and_ff (X.and_ff (X.and_ff h_4)))) rfl ?_
  refine X.opR rfl (X.pickand_f (y := y2.2.1) rfl (X.and_ff (X.and_ff (X.and_ff h_4))) rfl) rfl (X.q rfl ?_)
  iterate 3 refine X.off (X.off_t rfl rfl rfl (X.and_ff (X.and_ff (X.and_ff (X.and_ff h_4))))) rfl ?_
  refine X.opR rfl (X.pickand_f (y := decide (y.1 = (⟨152, 1⟩ : api_Frac))) rfl (X.and_ff (X.and_ff (X.and_ff (X.and_ff h_4)))) rfl) rfl (X.q rfl (GS.opsNil ?_))
  exact X.norm _ hg rfl (sr rfl)
 cases hM
 exact GS.ret ⟨_, rfl, ⟨30, rfl⟩⟩
set_option maxHeartbeats 4000000 in
theorem ok_law03_Inside {l : api_Load} {by_ : (List Int)} {r : (List Int) × Bool} (hM : law03_Inside l by_ = some r) : Ct Tryz.prog 9 [(e_api_Load l), (V.sl (List.map (fun x => V.lit (.int .u16 x)) by_))] (V.tup [(V.sl (List.map V.i r.1)), (V.b r.2)]) := by
 refine ct_of_gs CC_ok rfl ?_
 unfold law03_Inside at hM
 refine X.sq ?_
 refine X.opW rfl rfl rfl rfl (X.q rfl (X.q rfl ?_))
 refine X.nq (X.q rfl (X.nq (X.q rfl (GS.opsNil (GS.seq (X.sq (X.q rfl (X.q rfl ?_))))))))
 refine X.opR rfl (X.lenF rfl rfl rfl) rfl (X.q rfl (GS.opsNil ?_))
 refine X.join (τ := Int × (List Int)) (fun v => law03_Inside_j1 l v.1 v.2 = some r) (fun v => ⟨[(2, (V.ptr 0 0 0)), (6, (ovl 1 v.2)), (7, (V.i v.1))], [.rows 3 [(e_api_Load l)], obl 1 V.i v.2], 0, none, 109⟩) ?_ ?_
 ·rintro ⟨all, l1⟩ hM
  replace hM : law03_Inside_j1 l all l1 = some r := hM
  unfold law03_Inside_j1 at hM
  refine GS.seq (X.sq (X.q rfl (X.q rfl ?_)))
  refine X.opR rfl (X.lenF rfl rfl rfl) rfl (X.q rfl (GS.opsNil ?_))
  refine X.join (τ := Int × (List Int)) (fun v => law03_Inside_j2 l v.1 v.2 = some r) (fun v => ⟨[(2, (V.ptr 0 0 0)), (6, (ovl 1 v.2)), (7, (V.i v.1))], [.rows 3 [(e_api_Load l)], obl 1 V.i v.2], 0, none, 109⟩) ?_ ?_
  ·rintro ⟨all1, l2⟩ hM
   replace hM : law03_Inside_j2 l all1 l2 = some r := hM
   unfold law03_Inside_j2 at hM
   refine GS.seq ?_
   refine X.mid [(4, (ovl 1 l2)), (5, (V.b ((decide (l.All.Lo ≤ all1)) && (decide (all1 ≤ l.All.Hi)))))] ?_ ?_
   ·intro hg
    refine X.split (decide (l.All.Lo ≤ all1)) (fun h_1 => ?_) (fun h_1 => ?_)
    ·refine X.drawc (by kernel_rfl) rfl ?_
     iterate 7 refine X.cop rfl rfl rfl rfl ?_
     iterate 5 refine X.cop (X.on_t rfl rfl rfl h_1) rfl rfl rfl ?_
     refine X.cop rfl (X.pickand_t (y := decide (all1 ≤ l.All.Hi)) rfl h_1 rfl) rfl rfl ?_
     iterate 2 refine X.cop rfl rfl rfl rfl ?_
     refine X.cnil ?_
     exact X.norm _ hg rfl (sr rfl)
    refine X.drawc (by kernel_rfl) rfl ?_
    iterate 7 refine X.cop rfl rfl rfl rfl ?_
    iterate 5 refine X.coff (X.off_t rfl rfl rfl h_1) rfl rfl ?_
    refine X.cop rfl (X.pickand_f (y := decide (all1 ≤ l.All.Hi)) rfl h_1 rfl) rfl rfl ?_
    iterate 2 refine X.cop rfl rfl rfl rfl ?_
    refine X.cnil ?_
    exact X.norm _ hg rfl (sr rfl)
   have hE := Option.some.inj hM
   subst hE
   exact GS.ret ⟨_, rfl, FR.tup (.cons (FR.ovl (f := V.i) (l := l2) 9 rfl rfl (fun _ => rfl)) (.cons ⟨30, rfl⟩ .nil))⟩
  intro hj_2
  refine GS.block ?_
  refine X.gc [some 0, some 1] (X.loop (σ := (Int × Int × (List Int))) (fun v => ⟨[(2, (V.ptr 0 0 0)), (6, (ovl 1 v.2.2)), (7, (V.i v.1)), (52, (V.sl (List.map e_api_Span l.Holds))), (53, (V.i (l.Holds.length : Int))), (54, (V.i v.2.1))], [.rows 3 [(e_api_Load l)], obl 1 V.i v.2.2], 0, none, 109⟩) hM ?_ rfl) rfl rfl rfl (gk_cons rfl ⟨9, rfl⟩ (gk_cons rfl (rn_ovl rfl) (ga rfl rfl))) (gb9 rfl rfl rfl (gb_obl 9 rfl rfl (fun _ => rfl) gb_nil))
  rintro ⟨all2, x4, l3⟩ b_1 hM hc_3 hr_1
  rw [law03_Inside_b3] at hM
  refine X.sq (X.q rfl (GS.opsNil (GS.seq ?_)))
  refine X.cond rfl (fun h_2 => ?_) (fun h_2 => ?_)
  ·replace hM := ite_t h_2 hM
   refine GS.skip (GS.seq (GS.block (GS.seq ?_)))
   obtain ⟨x, h_3, hM⟩ := bind_of hM
   refine GS.region (X.q rfl ?_)
   refine X.opR rfl (X.indexF (f := e_api_Span) h_3 (fun _ => rfl) rfl rfl rfl rfl) rfl ?_
   refine X.opR rfl (X.loadF h_3 rfl rfl rfl) rfl ?_
   refine X.opW rfl rfl rfl rfl (X.q rfl ?_)
   refine X.op0W rfl rfl rfl (GS.opsNil (GS.seq ?_))
   obtain ⟨x1, h_4, hM⟩ := bind_of hM
   refine X.drawc (by kernel_rfl) rfl ?_
   iterate 6 refine X.cop rfl rfl rfl rfl ?_
   refine X.cop rfl (X.indexN h_4 rfl rfl rfl rfl rfl) rfl rfl ?_
   refine X.cop rfl (X.loadN h_4 rfl rfl rfl rfl) rfl rfl ?_
   iterate 4 refine X.cop rfl rfl rfl rfl ?_
   refine X.cop rfl (X.subE rfl rfl) rfl rfl ?_
   refine X.cop rfl (X.maxE rfl rfl) rfl rfl ?_
   refine X.cop rfl (X.addE rfl rfl) rfl rfl ?_
   iterate 4 refine X.cop rfl rfl rfl rfl ?_
   refine X.cop rfl (X.subE rfl rfl) rfl rfl ?_
   refine X.cop rfl (X.maxE rfl rfl) rfl rfl ?_
   refine X.cop rfl (X.subE rfl rfl) rfl rfl ?_
   refine X.cop rfl (X.minE rfl rfl) rfl rfl ?_
   refine X.cop rfl (X.maxE rfl rfl) rfl rfl ?_
   refine X.cop rfl rfl rfl rfl ?_
   refine X.cnil ?_
   refine X.norm [(2, (V.ptr 0 0 0)), (6, (ovl 1 l3)), (7, (V.i all2)), (11, (V.i x4)), (13, (V.i (max x.Lo (min x.Hi (w64 ((w64 (x1 + (max 0 (w64 (l.All.Lo - all2))))) - (max 0 (w64 (all2 - l.All.Hi))))))))), (52, (V.sl (List.map e_api_Span l.Holds))), (53, (V.i (l.Holds.length : Int))), (54, (V.i x4))] ?_ rfl (sr rfl)
   obtain ⟨x2, h_5, hM⟩ := bind_of hM
   obtain ⟨x3, h_6, hM⟩ := bind_of hM
   refine GS.region ?_
   iterate 5 refine X.q rfl ?_
   refine X.opR rfl (X.addE rfl rfl) rfl (X.q rfl (X.q rfl ?_))
   refine X.opR rfl (X.indexN h_5 rfl rfl rfl rfl rfl) rfl ?_
   refine X.opR rfl (X.loadN h_5 rfl rfl rfl rfl) rfl ?_
   refine X.opR rfl (X.subE rfl rfl) rfl ?_
   refine X.opR rfl (X.indexN h_6 rfl rfl rfl rfl rfl) rfl ?_
   refine X.op0W rfl (X.storeN (b := max x.Lo (min x.Hi (w64 ((w64 (x1 + (max 0 (w64 (l.All.Lo - all2))))) - (max 0 (w64 (all2 - l.All.Hi))))))) h_6 rfl rfl rfl rfl rfl rfl rfl) rfl (X.q rfl (GS.opsNil ?_))
   refine GS.endB (GS.region ?_)
   refine X.opR rfl (X.addE rfl rfl) rfl (X.q rfl (GS.opsNil ?_))
   have hE := Option.some.inj hM
   exact X.gc [some 0, some 1] (hc_3 (w64 ((w64 (all2 + (max x.Lo (min x.Hi (w64 ((w64 (x1 + (max 0 (w64 (l.All.Lo - all2))))) - (max 0 (w64 (all2 - l.All.Hi))))))))) - x2), w64 (x4 + 1), (put l3 x4 (max x.Lo (min x.Hi (w64 ((w64 (x1 + (max 0 (w64 (l.All.Lo - all2))))) - (max 0 (w64 (all2 - l.All.Hi))))))))) hE.symm) rfl rfl rfl (gk_cons rfl ⟨9, rfl⟩ (gk_cons rfl (rv_eq X.ovl_put (rn_ovl rfl)) (ga rfl rfl))) (gb9 rfl rfl rfl (gb_obl 9 rfl rfl (fun _ => rfl) gb_nil))
  replace hM := ite_f h_2 hM
  refine GS.exit rfl ?_
  obtain ⟨y_1, hM, hy⟩ := map_of hM
  rw [hr_1 _ hy.symm] at hM
  exact X.gc [some 0, some 1] (hj_2 (all2, l3) hM) rfl rfl rfl (gk_cons rfl ⟨9, rfl⟩ (gk_cons rfl (rn_ovl rfl) (ga rfl rfl))) (gb9 rfl rfl rfl (gb_obl 9 rfl rfl (fun _ => rfl) gb_nil))
 intro hj_1
 refine GS.block ?_
 refine X.gc [some 0, none] (X.loop (σ := (Int × Int × (List Int))) (fun v => ⟨[(1, (V.sl (List.map (fun x => V.lit (.int .u16 x)) by_))), (2, (V.ptr 0 0 0)), (6, (ovl 1 v.2.2)), (7, (V.i v.1)), (15, (V.sl (List.map e_api_Span l.Holds))), (16, (V.i (l.Holds.length : Int))), (17, (V.i v.2.1))], [.rows 3 [(e_api_Load l)], obl 1 V.i v.2.2], 0, none, 109⟩) hM ?_ rfl) rfl rfl rfl (ga rfl rfl) (gb9 rfl rfl rfl (gb_pad' rfl gb_nil))
 rintro ⟨all3, x7, l5⟩ b_1 hM hc_4 hr_1
 rw [law03_Inside_b4] at hM
 refine X.sq (X.q rfl (GS.opsNil (GS.seq ?_)))
 refine X.cond rfl (fun h_7 => ?_) (fun h_7 => ?_)
 ·replace hM := ite_t h_7 hM
  refine GS.skip (GS.seq (GS.block (GS.seq ?_)))
  obtain ⟨x5, h_8, hM⟩ := bind_of hM
  refine GS.region (X.q rfl ?_)
  refine X.opR rfl (X.indexF (f := e_api_Span) h_8 (fun _ => rfl) rfl rfl rfl rfl) rfl ?_
  refine X.opR rfl (X.loadF h_8 rfl rfl rfl) rfl ?_
  refine X.opW rfl rfl rfl rfl (X.q rfl ?_)
  refine X.op0W rfl rfl rfl (X.nq (X.q rfl (X.q rfl (X.q rfl ?_))))
  refine GS.opsNil (GS.seq (X.sq (X.q rfl (X.q rfl ?_))))
  refine X.opR rfl (X.lenF rfl rfl rfl) rfl (X.q rfl (GS.opsNil ?_))
  refine X.join (τ := Int) (fun v => law03_Inside_j5 all3 x7 l5 v = some b_1) (fun v => ⟨[(1, (V.sl (List.map (fun x => V.lit (.int .u16 x)) by_))), (2, (V.ptr 0 0 0)), (6, (ovl 1 l5)), (7, (V.i all3)), (10, (V.i v)), (15, (V.sl (List.map e_api_Span l.Holds))), (16, (V.i (l.Holds.length : Int))), (17, (V.i x7))], [.rows 3 [(e_api_Load l)], obl 1 V.i l5], 0, none, 109⟩) ?_ ?_
  ·intro n hM
   replace hM : law03_Inside_j5 all3 x7 l5 n = some b_1 := hM
   unfold law03_Inside_j5 at hM
   obtain ⟨l4, h_9, hM⟩ := bind_of hM
   refine GS.region (X.q rfl (X.q rfl ?_))
   refine X.opW rfl rfl rfl rfl ?_
   refine X.appN (f := V.i) h_9 (fun _ => rfl) (by rfl) (by rfl) (by rfl) (by rfl) (by rfl) (by rfl) (by rfl) (by rfl) (by rfl) (by rfl) (by rfl) (by exact rfl) (by rfl) (by rfl) (X.q rfl (X.q rfl ?_))
   refine X.opR rfl (X.addE rfl rfl) rfl (X.q rfl (X.q rfl ?_))
   refine GS.opsNil ?_
   refine GS.endB (GS.region ?_)
   refine X.opR rfl (X.addE rfl rfl) rfl (X.q rfl (GS.opsNil ?_))
   have hE := Option.some.inj hM
   exact X.gc [some 0, some 3] (hc_4 (w64 (all3 + n), w64 (x7 + 1), l4) hE.symm) rfl rfl rfl (gk_cons rfl ⟨9, rfl⟩ (gk_cons rfl ⟨9, rfl⟩ (gk_cons rfl (rv_ne (app_ne h_9) rfl) (ga rfl rfl)))) (gb9 rfl rfl rfl (gb_obl' 9 (app_ne h_9) rfl rfl (fun _ => rfl) gb_nil))
  intro hj_5
  refine X.cond rfl (fun h_10 => ?_) (fun h_10 => ?_)
  ·replace hM := ite_t h_10 hM
   obtain ⟨x6, h_11, hM⟩ := bind_of hM
   obtain ⟨q, h_12, hM⟩ := bind_of hM
   refine X.drawc (by kernel_rfl) rfl ?_
   iterate 4 refine X.cop rfl rfl rfl rfl ?_
   refine X.cop rfl (X.indexF (f := (fun x => V.lit (.int .u16 x))) h_11 (fun _ => rfl) rfl rfl rfl rfl) rfl rfl ?_
   refine X.cop rfl (X.loadF h_11 rfl rfl rfl) rfl rfl ?_
   refine X.cop rfl (X.convE rfl rfl rfl rfl) rfl rfl ?_
   iterate 4 refine X.cop rfl rfl rfl rfl ?_
   refine X.cop rfl (X.subE rfl rfl) rfl rfl ?_
   refine X.cop rfl (X.addE rfl rfl) rfl rfl ?_
   refine X.cop rfl (X.remE h_12 rfl rfl) rfl rfl ?_
   refine X.cop rfl (X.addE rfl rfl) rfl rfl ?_
   refine X.cop rfl rfl rfl rfl ?_
   refine X.cnil ?_
   refine X.norm [(1, (V.sl (List.map (fun x => V.lit (.int .u16 x)) by_))), (2, (V.ptr 0 0 0)), (6, (ovl 1 l5)), (7, (V.i all3)), (10, (V.i (w64 (x5.Lo + q)))), (15, (V.sl (List.map e_api_Span l.Holds))), (16, (V.i (l.Holds.length : Int))), (17, (V.i x7))] ?_ rfl (sr rfl)
   exact X.gc [some 0, some 1] (hj_5 (w64 (x5.Lo + q)) hM) rfl rfl rfl (gk_cons rfl ⟨9, rfl⟩ (gk_cons rfl ⟨9, rfl⟩ (gk_cons rfl (rn_ovl rfl) (ga rfl rfl)))) (gb9 rfl rfl rfl (gb_obl 9 rfl rfl (fun _ => rfl) gb_nil))
  replace hM := ite_f h_10 hM
  refine GS.skip ?_
  exact X.gc [some 0, some 1] (hj_5 x5.Lo hM) rfl rfl rfl (gk_cons rfl ⟨9, rfl⟩ (gk_cons rfl ⟨9, rfl⟩ (gk_cons rfl (rn_ovl rfl) (ga rfl rfl)))) (gb9 rfl rfl rfl (gb_obl 9 rfl rfl (fun _ => rfl) gb_nil))
 replace hM := ite_f h_7 hM
 refine GS.exit rfl ?_
 obtain ⟨y_1, hM, hy⟩ := map_of hM
 rw [hr_1 _ hy.symm] at hM
 exact X.gc [some 0, some 1] (hj_1 (all3, l5) hM) rfl rfl rfl (gk_cons rfl ⟨9, rfl⟩ (gk_cons rfl (rn_ovl rfl) (ga rfl rfl))) (gb9 rfl rfl rfl (gb_obl 9 rfl rfl (fun _ => rfl) gb_nil))
set_option maxHeartbeats 4000000 in
theorem own_law03_Inside {l : api_Load} {by_ : (List Int)} {r : (List Int) × Bool} (hM : law03_Inside l by_ = some r) : OwnCt Tryz.prog 9 [(e_api_Load l), (V.sl (List.map (fun x => V.lit (.int .u16 x)) by_))] (fun z => (V.tup [(ovlz z 0 r.1), (V.b r.2)])) (fun z => (oblz z 1 V.i r.1)) := by
 refine own_of_gs CC_ok rfl ?_
 unfold law03_Inside at hM
 refine X.sq ?_
 refine X.opW rfl rfl rfl rfl (X.q rfl (X.q rfl ?_))
 refine X.nq (X.q rfl (X.nq (X.q rfl (GS.opsNil (GS.seq (X.sq (X.q rfl (X.q rfl ?_))))))))
 refine X.opR rfl (X.lenF rfl rfl rfl) rfl (X.q rfl (GS.opsNil ?_))
 refine X.join (τ := Int × (List Int)) (fun v => law03_Inside_j1 l v.1 v.2 = some r) (fun v => ⟨[(2, (V.ptr 0 0 0)), (6, (ovl 1 v.2)), (7, (V.i v.1))], [.rows 3 [(e_api_Load l)], obl 1 V.i v.2], 0, none, 109⟩) ?_ ?_
 ·rintro ⟨all, l1⟩ hM
  replace hM : law03_Inside_j1 l all l1 = some r := hM
  unfold law03_Inside_j1 at hM
  refine GS.seq (X.sq (X.q rfl (X.q rfl ?_)))
  refine X.opR rfl (X.lenF rfl rfl rfl) rfl (X.q rfl (GS.opsNil ?_))
  refine X.join (τ := Int × (List Int)) (fun v => law03_Inside_j2 l v.1 v.2 = some r) (fun v => ⟨[(2, (V.ptr 0 0 0)), (6, (ovl 1 v.2)), (7, (V.i v.1))], [.rows 3 [(e_api_Load l)], obl 1 V.i v.2], 0, none, 109⟩) ?_ ?_
  ·rintro ⟨all1, l2⟩ hM
   replace hM : law03_Inside_j2 l all1 l2 = some r := hM
   unfold law03_Inside_j2 at hM
   refine GS.seq ?_
   refine X.mid [(4, (ovl 1 l2)), (5, (V.b ((decide (l.All.Lo ≤ all1)) && (decide (all1 ≤ l.All.Hi)))))] ?_ ?_
   ·intro hg
    refine X.split (decide (l.All.Lo ≤ all1)) (fun h_1 => ?_) (fun h_1 => ?_)
    ·refine X.drawc (by kernel_rfl) rfl ?_
     iterate 7 refine X.cop rfl rfl rfl rfl ?_
     iterate 5 refine X.cop (X.on_t rfl rfl rfl h_1) rfl rfl rfl ?_
     refine X.cop rfl (X.pickand_t (y := decide (all1 ≤ l.All.Hi)) rfl h_1 rfl) rfl rfl ?_
     iterate 2 refine X.cop rfl rfl rfl rfl ?_
     refine X.cnil ?_
     exact X.norm _ hg rfl (sr rfl)
    refine X.drawc (by kernel_rfl) rfl ?_
    iterate 7 refine X.cop rfl rfl rfl rfl ?_
    iterate 5 refine X.coff (X.off_t rfl rfl rfl h_1) rfl rfl ?_
    refine X.cop rfl (X.pickand_f (y := decide (all1 ≤ l.All.Hi)) rfl h_1 rfl) rfl rfl ?_
    iterate 2 refine X.cop rfl rfl rfl rfl ?_
    refine X.cnil ?_
    exact X.norm _ hg rfl (sr rfl)
   have hE := Option.some.inj hM
   subst hE
   refine X.gc [some 1] (H' := [obl 1 V.i l2]) (K' := [(4, (ovl 0 l2)), (5, (V.b ((decide (l.All.Lo ≤ all1)) && (decide (all1 ≤ l.All.Hi)))))]) ?_ rfl rfl rfl (gk_cons rfl (rn_ovl rfl) (ga rfl rfl)) (gb_obl 9 rfl rfl (fun _ => rfl) gb_nil)
   exact GS.ret ⟨true, rfl, rfl⟩
  intro hj_2
  refine GS.block ?_
  refine X.gc [some 0, some 1] (X.loop (σ := (Int × Int × (List Int))) (fun v => ⟨[(2, (V.ptr 0 0 0)), (6, (ovl 1 v.2.2)), (7, (V.i v.1)), (52, (V.sl (List.map e_api_Span l.Holds))), (53, (V.i (l.Holds.length : Int))), (54, (V.i v.2.1))], [.rows 3 [(e_api_Load l)], obl 1 V.i v.2.2], 0, none, 109⟩) hM ?_ rfl) rfl rfl rfl (gk_cons rfl ⟨9, rfl⟩ (gk_cons rfl (rn_ovl rfl) (ga rfl rfl))) (gb9 rfl rfl rfl (gb_obl 9 rfl rfl (fun _ => rfl) gb_nil))
  rintro ⟨all2, x4, l3⟩ b_1 hM hc_3 hr_1
  rw [law03_Inside_b3] at hM
  refine X.sq (X.q rfl (GS.opsNil (GS.seq ?_)))
  refine X.cond rfl (fun h_2 => ?_) (fun h_2 => ?_)
  ·replace hM := ite_t h_2 hM
   refine GS.skip (GS.seq (GS.block (GS.seq ?_)))
   obtain ⟨x, h_3, hM⟩ := bind_of hM
   refine GS.region (X.q rfl ?_)
   refine X.opR rfl (X.indexF (f := e_api_Span) h_3 (fun _ => rfl) rfl rfl rfl rfl) rfl ?_
   refine X.opR rfl (X.loadF h_3 rfl rfl rfl) rfl ?_
   refine X.opW rfl rfl rfl rfl (X.q rfl ?_)
   refine X.op0W rfl rfl rfl (GS.opsNil (GS.seq ?_))
   obtain ⟨x1, h_4, hM⟩ := bind_of hM
   refine X.drawc (by kernel_rfl) rfl ?_
   iterate 6 refine X.cop rfl rfl rfl rfl ?_
   refine X.cop rfl (X.indexN h_4 rfl rfl rfl rfl rfl) rfl rfl ?_
   refine X.cop rfl (X.loadN h_4 rfl rfl rfl rfl) rfl rfl ?_
   iterate 4 refine X.cop rfl rfl rfl rfl ?_
   refine X.cop rfl (X.subE rfl rfl) rfl rfl ?_
   refine X.cop rfl (X.maxE rfl rfl) rfl rfl ?_
   refine X.cop rfl (X.addE rfl rfl) rfl rfl ?_
   iterate 4 refine X.cop rfl rfl rfl rfl ?_
   refine X.cop rfl (X.subE rfl rfl) rfl rfl ?_
   refine X.cop rfl (X.maxE rfl rfl) rfl rfl ?_
   refine X.cop rfl (X.subE rfl rfl) rfl rfl ?_
   refine X.cop rfl (X.minE rfl rfl) rfl rfl ?_
   refine X.cop rfl (X.maxE rfl rfl) rfl rfl ?_
   refine X.cop rfl rfl rfl rfl ?_
   refine X.cnil ?_
   refine X.norm [(2, (V.ptr 0 0 0)), (6, (ovl 1 l3)), (7, (V.i all2)), (11, (V.i x4)), (13, (V.i (max x.Lo (min x.Hi (w64 ((w64 (x1 + (max 0 (w64 (l.All.Lo - all2))))) - (max 0 (w64 (all2 - l.All.Hi))))))))), (52, (V.sl (List.map e_api_Span l.Holds))), (53, (V.i (l.Holds.length : Int))), (54, (V.i x4))] ?_ rfl (sr rfl)
   obtain ⟨x2, h_5, hM⟩ := bind_of hM
   obtain ⟨x3, h_6, hM⟩ := bind_of hM
   refine GS.region ?_
   iterate 5 refine X.q rfl ?_
   refine X.opR rfl (X.addE rfl rfl) rfl (X.q rfl (X.q rfl ?_))
   refine X.opR rfl (X.indexN h_5 rfl rfl rfl rfl rfl) rfl ?_
   refine X.opR rfl (X.loadN h_5 rfl rfl rfl rfl) rfl ?_
   refine X.opR rfl (X.subE rfl rfl) rfl ?_
   refine X.opR rfl (X.indexN h_6 rfl rfl rfl rfl rfl) rfl ?_
   refine X.op0W rfl (X.storeN (b := max x.Lo (min x.Hi (w64 ((w64 (x1 + (max 0 (w64 (l.All.Lo - all2))))) - (max 0 (w64 (all2 - l.All.Hi))))))) h_6 rfl rfl rfl rfl rfl rfl rfl) rfl (X.q rfl (GS.opsNil ?_))
   refine GS.endB (GS.region ?_)
   refine X.opR rfl (X.addE rfl rfl) rfl (X.q rfl (GS.opsNil ?_))
   have hE := Option.some.inj hM
   exact X.gc [some 0, some 1] (hc_3 (w64 ((w64 (all2 + (max x.Lo (min x.Hi (w64 ((w64 (x1 + (max 0 (w64 (l.All.Lo - all2))))) - (max 0 (w64 (all2 - l.All.Hi))))))))) - x2), w64 (x4 + 1), (put l3 x4 (max x.Lo (min x.Hi (w64 ((w64 (x1 + (max 0 (w64 (l.All.Lo - all2))))) - (max 0 (w64 (all2 - l.All.Hi))))))))) hE.symm) rfl rfl rfl (gk_cons rfl ⟨9, rfl⟩ (gk_cons rfl (rv_eq X.ovl_put (rn_ovl rfl)) (ga rfl rfl))) (gb9 rfl rfl rfl (gb_obl 9 rfl rfl (fun _ => rfl) gb_nil))
  replace hM := ite_f h_2 hM
  refine GS.exit rfl ?_
  obtain ⟨y_1, hM, hy⟩ := map_of hM
  rw [hr_1 _ hy.symm] at hM
  exact X.gc [some 0, some 1] (hj_2 (all2, l3) hM) rfl rfl rfl (gk_cons rfl ⟨9, rfl⟩ (gk_cons rfl (rn_ovl rfl) (ga rfl rfl))) (gb9 rfl rfl rfl (gb_obl 9 rfl rfl (fun _ => rfl) gb_nil))
 intro hj_1
 refine GS.block ?_
 refine X.gc [some 0, none] (X.loop (σ := (Int × Int × (List Int))) (fun v => ⟨[(1, (V.sl (List.map (fun x => V.lit (.int .u16 x)) by_))), (2, (V.ptr 0 0 0)), (6, (ovl 1 v.2.2)), (7, (V.i v.1)), (15, (V.sl (List.map e_api_Span l.Holds))), (16, (V.i (l.Holds.length : Int))), (17, (V.i v.2.1))], [.rows 3 [(e_api_Load l)], obl 1 V.i v.2.2], 0, none, 109⟩) hM ?_ rfl) rfl rfl rfl (ga rfl rfl) (gb9 rfl rfl rfl (gb_pad' rfl gb_nil))
 rintro ⟨all3, x7, l5⟩ b_1 hM hc_4 hr_1
 rw [law03_Inside_b4] at hM
 refine X.sq (X.q rfl (GS.opsNil (GS.seq ?_)))
 refine X.cond rfl (fun h_7 => ?_) (fun h_7 => ?_)
 ·replace hM := ite_t h_7 hM
  refine GS.skip (GS.seq (GS.block (GS.seq ?_)))
  obtain ⟨x5, h_8, hM⟩ := bind_of hM
  refine GS.region (X.q rfl ?_)
  refine X.opR rfl (X.indexF (f := e_api_Span) h_8 (fun _ => rfl) rfl rfl rfl rfl) rfl ?_
  refine X.opR rfl (X.loadF h_8 rfl rfl rfl) rfl ?_
  refine X.opW rfl rfl rfl rfl (X.q rfl ?_)
  refine X.op0W rfl rfl rfl (X.nq (X.q rfl (X.q rfl (X.q rfl ?_))))
  refine GS.opsNil (GS.seq (X.sq (X.q rfl (X.q rfl ?_))))
  refine X.opR rfl (X.lenF rfl rfl rfl) rfl (X.q rfl (GS.opsNil ?_))
  refine X.join (τ := Int) (fun v => law03_Inside_j5 all3 x7 l5 v = some b_1) (fun v => ⟨[(1, (V.sl (List.map (fun x => V.lit (.int .u16 x)) by_))), (2, (V.ptr 0 0 0)), (6, (ovl 1 l5)), (7, (V.i all3)), (10, (V.i v)), (15, (V.sl (List.map e_api_Span l.Holds))), (16, (V.i (l.Holds.length : Int))), (17, (V.i x7))], [.rows 3 [(e_api_Load l)], obl 1 V.i l5], 0, none, 109⟩) ?_ ?_
  ·intro n hM
   replace hM : law03_Inside_j5 all3 x7 l5 n = some b_1 := hM
   unfold law03_Inside_j5 at hM
   obtain ⟨l4, h_9, hM⟩ := bind_of hM
   refine GS.region (X.q rfl (X.q rfl ?_))
   refine X.opW rfl rfl rfl rfl ?_
   refine X.appN (f := V.i) h_9 (fun _ => rfl) (by rfl) (by rfl) (by rfl) (by rfl) (by rfl) (by rfl) (by rfl) (by rfl) (by rfl) (by rfl) (by rfl) (by exact rfl) (by rfl) (by rfl) (X.q rfl (X.q rfl ?_))
   refine X.opR rfl (X.addE rfl rfl) rfl (X.q rfl (X.q rfl ?_))
   refine GS.opsNil ?_
   refine GS.endB (GS.region ?_)
   refine X.opR rfl (X.addE rfl rfl) rfl (X.q rfl (GS.opsNil ?_))
   have hE := Option.some.inj hM
   exact X.gc [some 0, some 3] (hc_4 (w64 (all3 + n), w64 (x7 + 1), l4) hE.symm) rfl rfl rfl (gk_cons rfl ⟨9, rfl⟩ (gk_cons rfl ⟨9, rfl⟩ (gk_cons rfl (rv_ne (app_ne h_9) rfl) (ga rfl rfl)))) (gb9 rfl rfl rfl (gb_obl' 9 (app_ne h_9) rfl rfl (fun _ => rfl) gb_nil))
  intro hj_5
  refine X.cond rfl (fun h_10 => ?_) (fun h_10 => ?_)
  ·replace hM := ite_t h_10 hM
   obtain ⟨x6, h_11, hM⟩ := bind_of hM
   obtain ⟨q, h_12, hM⟩ := bind_of hM
   refine X.drawc (by kernel_rfl) rfl ?_
   iterate 4 refine X.cop rfl rfl rfl rfl ?_
   refine X.cop rfl (X.indexF (f := (fun x => V.lit (.int .u16 x))) h_11 (fun _ => rfl) rfl rfl rfl rfl) rfl rfl ?_
   refine X.cop rfl (X.loadF h_11 rfl rfl rfl) rfl rfl ?_
   refine X.cop rfl (X.convE rfl rfl rfl rfl) rfl rfl ?_
   iterate 4 refine X.cop rfl rfl rfl rfl ?_
   refine X.cop rfl (X.subE rfl rfl) rfl rfl ?_
   refine X.cop rfl (X.addE rfl rfl) rfl rfl ?_
   refine X.cop rfl (X.remE h_12 rfl rfl) rfl rfl ?_
   refine X.cop rfl (X.addE rfl rfl) rfl rfl ?_
   refine X.cop rfl rfl rfl rfl ?_
   refine X.cnil ?_
   refine X.norm [(1, (V.sl (List.map (fun x => V.lit (.int .u16 x)) by_))), (2, (V.ptr 0 0 0)), (6, (ovl 1 l5)), (7, (V.i all3)), (10, (V.i (w64 (x5.Lo + q)))), (15, (V.sl (List.map e_api_Span l.Holds))), (16, (V.i (l.Holds.length : Int))), (17, (V.i x7))] ?_ rfl (sr rfl)
   exact X.gc [some 0, some 1] (hj_5 (w64 (x5.Lo + q)) hM) rfl rfl rfl (gk_cons rfl ⟨9, rfl⟩ (gk_cons rfl ⟨9, rfl⟩ (gk_cons rfl (rn_ovl rfl) (ga rfl rfl)))) (gb9 rfl rfl rfl (gb_obl 9 rfl rfl (fun _ => rfl) gb_nil))
  replace hM := ite_f h_10 hM
  refine GS.skip ?_
  exact X.gc [some 0, some 1] (hj_5 x5.Lo hM) rfl rfl rfl (gk_cons rfl ⟨9, rfl⟩ (gk_cons rfl ⟨9, rfl⟩ (gk_cons rfl (rn_ovl rfl) (ga rfl rfl)))) (gb9 rfl rfl rfl (gb_obl 9 rfl rfl (fun _ => rfl) gb_nil))
 replace hM := ite_f h_7 hM
 refine GS.exit rfl ?_
 obtain ⟨y_1, hM, hy⟩ := map_of hM
 rw [hr_1 _ hy.symm] at hM
 exact X.gc [some 0, some 1] (hj_1 (all3, l5) hM) rfl rfl rfl (gk_cons rfl ⟨9, rfl⟩ (gk_cons rfl (rn_ovl rfl) (ga rfl rfl))) (gb9 rfl rfl rfl (gb_obl 9 rfl rfl (fun _ => rfl) gb_nil))
theorem ok_hull_fits {l : api_Load} {x : (List Int)} {r : Bool} (hM : hull_fits l x = some r) : Ct Tryz.prog 43 [(e_api_Load l), (V.sl (List.map V.i x))] (V.b r) := by
 refine ct_of_gs CC_ok rfl ?_
 unfold hull_fits at hM
 refine X.sq ?_
 refine X.opW rfl rfl rfl rfl (X.q rfl (GS.opsNil (GS.seq (X.sq (X.q rfl ?_)))))
 refine X.opR rfl (X.lenF rfl rfl rfl) rfl (X.q rfl (X.q rfl ?_))
 refine X.opR rfl (X.lenF rfl rfl rfl) rfl (X.q rfl (GS.opsNil ?_))
 refine X.cond rfl (fun h_1 => ?_) (fun h_1 => ?_)
 ·replace hM := ite_t h_1 hM
  refine X.sq (X.q rfl (GS.opsNil ?_))
  cases hM
  exact GS.ret ⟨_, rfl, ⟨30, rfl⟩⟩
 replace hM := ite_f h_1 hM
 refine GS.skip (GS.seq (X.sq (X.q rfl ?_)))
 refine X.opR rfl (X.lenF rfl rfl rfl) rfl (X.q rfl (GS.opsNil ?_))
 refine X.join (τ := Unit) (fun v => hull_fits_j1 l x = some r) (fun v => ⟨[(1, (V.sl (List.map V.i x))), (2, (V.ptr 0 0 0))], [.rows 3 [(e_api_Load l)]], 0, none, 45⟩) ?_ ?_
 ·intro _ hM
  replace hM : hull_fits_j1 l x = some r := hM
  unfold hull_fits_j1 at hM
  refine GS.seq ?_
  obtain ⟨y, h_2, hM⟩ := bind_of hM
  refine X.drawc (by kernel_rfl) rfl ?_
  refine X.cop rfl rfl rfl rfl ?_
  refine X.ccall (ok_hull_sum h_2) rfl rfl rfl rfl (.cons (.shut (n := 9) rfl) .nil) ?_
  iterate 6 refine X.cop rfl rfl rfl rfl ?_
  refine X.ccall (ok_hull_within y l.All.Lo l.All.Hi) rfl rfl rfl rfl (.cons (.shut (n := 9) rfl) (.cons (.shut (n := 9) rfl) (.cons (.shut (n := 9) rfl) .nil))) ?_
  refine X.cop rfl rfl rfl rfl ?_
  refine X.cnil ?_
  refine X.norm [(4, (V.b (hull_within y l.All.Lo l.All.Hi)))] ?_ rfl (sr rfl)
  cases hM
  exact GS.ret ⟨_, rfl, ⟨30, rfl⟩⟩
 intro hj_1
 refine GS.block ?_
 refine X.gc [some 0] (X.loop (σ := Int) (fun v => ⟨[(1, (V.sl (List.map V.i x))), (2, (V.ptr 0 0 0)), (13, (V.sl (List.map V.i x))), (14, (V.i (x.length : Int))), (15, (V.i v))], [.rows 3 [(e_api_Load l)]], 0, none, 45⟩) hM ?_ rfl) rfl rfl rfl (ga rfl rfl) (gb9 rfl rfl rfl gb_nil)
 intro x4 b_1 hM hc_2 hr_1
 rw [hull_fits_b2] at hM
 refine X.sq (X.q rfl (GS.opsNil (GS.seq ?_)))
 refine X.cond rfl (fun h_3 => ?_) (fun h_3 => ?_)
 ·replace hM := ite_t h_3 hM
  refine GS.skip (GS.seq (GS.block (GS.seq ?_)))
  obtain ⟨x1, h_4, hM⟩ := bind_of hM
  refine GS.region (X.q rfl ?_)
  refine X.opR rfl (X.indexF (f := V.i) h_4 (fun _ => rfl) rfl rfl rfl rfl) rfl ?_
  refine X.opR rfl (X.loadF h_4 rfl rfl rfl) rfl (X.q rfl (X.q rfl ?_))
  refine GS.opsNil (GS.seq ?_)
  obtain ⟨x2, h_5, hM⟩ := bind_of hM
  obtain ⟨x3, h_6, hM⟩ := bind_of hM
  refine X.drawc (by kernel_rfl) rfl ?_
  iterate 4 refine X.cop rfl rfl rfl rfl ?_
  refine X.cop rfl (X.indexF (f := e_api_Span) h_5 (fun _ => rfl) rfl rfl rfl rfl) rfl rfl ?_
  refine X.cop rfl rfl rfl rfl ?_
  refine X.cop rfl (X.loadF h_5 rfl rfl rfl) rfl rfl ?_
  iterate 3 refine X.cop rfl rfl rfl rfl ?_
  refine X.cop rfl (X.indexF (f := e_api_Span) h_6 (fun _ => rfl) rfl rfl rfl rfl) rfl rfl ?_
  refine X.cop rfl rfl rfl rfl ?_
  refine X.cop rfl (X.loadF h_6 rfl rfl rfl) rfl rfl ?_
  refine X.ccall (ok_hull_within x1 x2.Lo x3.Hi) rfl rfl rfl rfl (.cons (.shut (n := 9) rfl) (.cons (.shut (n := 9) rfl) (.cons (.shut (n := 9) rfl) .nil))) ?_
  refine X.cop rfl rfl rfl rfl ?_
  refine X.cnil ?_
  refine X.norm [(1, (V.sl (List.map V.i x))), (2, (V.ptr 0 0 0)), (13, (V.sl (List.map V.i x))), (14, (V.i (x.length : Int))), (15, (V.i x4)), (34, (V.b (!(hull_within x1 x2.Lo x3.Hi))))] ?_ rfl (sr rfl)
  refine X.cond rfl (fun h_7 => ?_) (fun h_7 => ?_)
  ·replace hM := ite_t h_7 hM
   refine X.sq (X.q rfl (GS.opsNil ?_))
   have hE := Option.some.inj hM
   replace hE := hr_1 _ hE.symm
   subst hE
   exact GS.ret ⟨_, rfl, ⟨30, rfl⟩⟩
  replace hM := ite_f h_7 hM
  refine GS.skip ?_
  refine GS.endB (GS.region ?_)
  refine X.opR rfl (X.addE rfl rfl) rfl (X.q rfl (GS.opsNil ?_))
  have hE := Option.some.inj hM
  exact X.gc [some 0] (hc_2 (w64 (x4 + 1)) hE.symm) rfl rfl rfl (ga rfl rfl) (gb9 rfl rfl rfl gb_nil)
 replace hM := ite_f h_3 hM
 refine GS.exit rfl ?_
 obtain ⟨y_1, hM, hy⟩ := map_of hM
 rw [hr_1 _ hy.symm] at hM
 exact X.gc [some 0] (hj_1 () hM) rfl rfl rfl (ga rfl rfl) (gb9 rfl rfl rfl gb_nil)
theorem ok_hull_Fits {s : api_Ship} {l : api_Load} {x : (List Int)} {r : Bool} (hM : hull_Fits s l x = some r) : Ct Tryz.prog 10 [(e_api_Ship s), (e_api_Load l), (V.sl (List.map V.i x))] (V.b r) := by
 refine ct_of_gs CC_ok rfl ?_
 unfold hull_Fits at hM
 refine X.sq ?_
 iterate 2 refine X.opW rfl rfl rfl rfl ?_
 refine X.q rfl (GS.opsNil (GS.seq ?_))
 obtain ⟨y, h_1, hM⟩ := bind_of hM
 obtain ⟨y1, h_2, hM⟩ := gb_of hM
 refine GS.region ?_
 refine X.mid [(6, (V.b ((decide (y = 0)) && y1)))] ?_ ?_
 ·intro hg
  refine X.split (decide (y = 0)) (fun h_3 => ?_) (fun h_3 => ?_)
  ·iterate 2 refine X.q rfl ?_
   refine X.call (ok_hull_CheckLoad h_1) rfl rfl rfl (.cons (.shut (n := 9) rfl) (.cons (.shut (n := 9) rfl) .nil)) (X.q rfl (X.q rfl ?_))
   iterate 2 refine X.opR (X.on_t rfl rfl rfl h_3) rfl rfl ?_
   refine X.call (ok_hull_fits (h_2 h_3)) (X.on_t rfl rfl rfl h_3) rfl rfl (.cons (.shut (n := 9) rfl) (.cons (.shut (n := 9) rfl) .nil)) ?_
   refine X.opR rfl (X.pickand_t (y := y1) rfl h_3 rfl) rfl (X.q rfl (GS.opsNil ?_))
   exact X.norm _ hg rfl (sr rfl)
  refine X.q rfl (X.q rfl ?_)
  refine X.call (ok_hull_CheckLoad h_1) rfl rfl rfl (.cons (.shut (n := 9) rfl) (.cons (.shut (n := 9) rfl) .nil)) (X.q rfl (X.q rfl ?_))
  iterate 3 refine X.off (X.off_t rfl rfl rfl h_3) rfl ?_
  refine X.opR rfl (X.pickand_f (y := y1) rfl h_3 rfl) rfl (X.q rfl (GS.opsNil ?_))
  exact X.norm _ hg rfl (sr rfl)
 cases hM
 exact GS.ret ⟨_, rfl, ⟨30, rfl⟩⟩
theorem ok_hull_loaded {s : api_Ship} {l : (List (List Int))} {r : Int} (hM : hull_loaded s l = some r) : Ct Tryz.prog 44 [(e_api_Ship s), (V.sl (List.map (fun l => V.sl (List.map V.i l)) l))] (V.i r) := by
 refine ct_of_gs CC_ok rfl ?_
 unfold hull_loaded at hM
 refine X.sq ?_
 refine X.opW rfl rfl rfl rfl (X.q rfl (GS.opsNil ?_))
 iterate 2 refine GS.seq ?_
 obtain ⟨y, h_1, hM⟩ := bind_of hM
 refine GS.region (X.q rfl ?_)
 refine X.call (ok_hull_Check h_1) rfl rfl rfl (.cons (.shut (n := 9) rfl) .nil) (X.q rfl (X.nq (X.q rfl (X.q rfl ?_))))
 refine GS.opsNil ?_
 refine X.cond rfl (fun h_2 => ?_) (fun h_2 => ?_)
 ·replace hM := ite_t h_2 hM
  refine X.sq (X.q rfl (X.q rfl ?_))
  refine GS.opsNil ?_
  cases hM
  exact GS.ret ⟨_, rfl, ⟨30, rfl⟩⟩
 replace hM := ite_f h_2 hM
 refine GS.skip (GS.seq (X.sq (X.q rfl ?_)))
 refine X.opR rfl (X.lenF rfl rfl rfl) rfl (X.q rfl (GS.opsNil ?_))
 refine X.join (τ := Unit) (fun v => hull_loaded_j1 = some r) (fun v => ⟨[], [], 0, none, 45⟩) ?_ ?_
 ·intro _ hM
  replace hM : hull_loaded_j1 = some r := hM
  unfold hull_loaded_j1 at hM
  refine X.sq (X.q rfl (GS.opsNil ?_))
  cases hM
  exact GS.ret ⟨_, rfl, ⟨30, rfl⟩⟩
 intro hj_1
 refine GS.block ?_
 refine X.gc [some 0] (X.loop (σ := Int) (fun v => ⟨[(2, (V.ptr 0 0 0)), (15, (V.sl (List.map (fun l => V.sl (List.map V.i l)) l))), (16, (V.i (l.length : Int))), (17, (V.i v))], [.rows 11 [(e_api_Ship s)]], 0, none, 45⟩) hM ?_ rfl) rfl rfl rfl (ga rfl rfl) (gb9 rfl rfl rfl gb_nil)
 intro x4 b_1 hM hc_2 hr_1
 rw [hull_loaded_b2] at hM
 refine X.sq (X.q rfl (GS.opsNil (GS.seq ?_)))
 refine X.cond rfl (fun h_3 => ?_) (fun h_3 => ?_)
 ·replace hM := ite_t h_3 hM
  refine GS.skip (GS.seq (GS.block (GS.seq ?_)))
  obtain ⟨x, h_4, hM⟩ := bind_of hM
  refine GS.region ?_
  refine X.opR rfl (X.indexF (f := (fun l => V.sl (List.map V.i l))) h_4 (fun _ => rfl) rfl rfl rfl rfl) rfl ?_
  refine X.opR rfl (X.loadF h_4 rfl rfl rfl) rfl (X.q rfl (GS.opsNil (GS.seq (X.sq (X.q rfl ?_)))))
  refine X.opR rfl (X.lenF rfl rfl rfl) rfl (X.q rfl (X.q rfl ?_))
  refine X.opR rfl (X.lenF rfl rfl rfl) rfl (X.q rfl (GS.opsNil ?_))
  refine X.cond rfl (fun h_5 => ?_) (fun h_5 => ?_)
  ·replace hM := ite_t h_5 hM
   refine X.sq (X.q rfl (GS.opsNil ?_))
   have hE := Option.some.inj hM
   replace hE := hr_1 _ hE.symm
   subst hE
   exact GS.ret ⟨_, rfl, ⟨30, rfl⟩⟩
  replace hM := ite_f h_5 hM
  refine GS.skip (X.sq (X.q rfl ?_))
  refine X.opR rfl (X.lenF rfl rfl rfl) rfl (X.q rfl (GS.opsNil ?_))
  refine X.join (τ := Unit) (fun v => hull_loaded_j3 x4 = some b_1) (fun v => ⟨[(2, (V.ptr 0 0 0)), (15, (V.sl (List.map (fun l => V.sl (List.map V.i l)) l))), (16, (V.i (l.length : Int))), (17, (V.i x4))], [.rows 11 [(e_api_Ship s)]], 0, none, 45⟩) ?_ ?_
  ·intro _ hM
   replace hM : hull_loaded_j3 x4 = some b_1 := hM
   unfold hull_loaded_j3 at hM
   refine GS.endB (GS.region ?_)
   refine X.opR rfl (X.addE rfl rfl) rfl (X.q rfl (GS.opsNil ?_))
   have hE := Option.some.inj hM
   exact X.gc [some 0] (hc_2 (w64 (x4 + 1)) hE.symm) rfl rfl rfl (ga rfl rfl) (gb9 rfl rfl rfl gb_nil)
  intro hj_3
  refine GS.block ?_
  refine X.gc [some 0] (X.loop (σ := Int) (fun v => ⟨[(2, (V.ptr 0 0 0)), (15, (V.sl (List.map (fun l => V.sl (List.map V.i l)) l))), (16, (V.i (l.length : Int))), (17, (V.i x4)), (27, (V.sl (List.map V.i x))), (28, (V.i (x.length : Int))), (29, (V.i v))], [.rows 11 [(e_api_Ship s)]], 0, none, 45⟩) hM ?_ rfl) rfl rfl rfl (ga rfl rfl) (gb9 rfl rfl rfl gb_nil)
  intro x3 b_2 hM hc_4 hr_2
  rw [hull_loaded_b4] at hM
  refine X.sq (X.q rfl (GS.opsNil (GS.seq ?_)))
  refine X.cond rfl (fun h_6 => ?_) (fun h_6 => ?_)
  ·replace hM := ite_t h_6 hM
   refine GS.skip (GS.seq (GS.block (GS.seq ?_)))
   obtain ⟨x1, h_7, hM⟩ := bind_of hM
   refine GS.region (X.q rfl ?_)
   refine X.opR rfl (X.indexF (f := V.i) h_7 (fun _ => rfl) rfl rfl rfl rfl) rfl ?_
   refine X.opR rfl (X.loadF h_7 rfl rfl rfl) rfl (X.q rfl (X.q rfl ?_))
   refine GS.opsNil (GS.seq ?_)
   obtain ⟨x2, h_8, hM⟩ := bind_of hM
   refine GS.region ?_
   iterate 4 refine X.q rfl ?_
   refine X.opR rfl (X.indexF (f := e_api_Hold) h_8 (fun _ => rfl) rfl rfl rfl rfl) rfl (X.q rfl ?_)
   refine X.opR rfl (X.loadF h_8 rfl rfl rfl) rfl ?_
   refine X.call (ok_hull_within x1 0 x2.Room) rfl rfl rfl (.cons (.shut (n := 9) rfl) (.cons (.shut (n := 9) rfl) (.cons (.shut (n := 9) rfl) .nil))) (X.q rfl (GS.opsNil ?_))
   refine X.cond rfl (fun h_9 => ?_) (fun h_9 => ?_)
   ·replace hM := ite_t h_9 hM
    refine X.sq (X.q rfl (GS.opsNil ?_))
    have hE := Option.some.inj hM
    replace hE := hr_2 _ hE.symm
    replace hE := hr_1 _ hE.symm
    subst hE
    exact GS.ret ⟨_, rfl, ⟨30, rfl⟩⟩
   replace hM := ite_f h_9 hM
   refine GS.skip ?_
   refine GS.endB (GS.region ?_)
   refine X.opR rfl (X.addE rfl rfl) rfl (X.q rfl (GS.opsNil ?_))
   have hE := Option.some.inj hM
   exact X.gc [some 0] (hc_4 (w64 (x3 + 1)) hE.symm) rfl rfl rfl (ga rfl rfl) (gb9 rfl rfl rfl gb_nil)
  replace hM := ite_f h_6 hM
  refine GS.exit rfl ?_
  obtain ⟨y_2, hM, hy⟩ := map_of hM
  rw [hr_2 _ hy.symm] at hM
  exact X.gc [some 0] (hj_3 () hM) rfl rfl rfl (ga rfl rfl) (gb9 rfl rfl rfl gb_nil)
 replace hM := ite_f h_3 hM
 refine GS.exit rfl ?_
 obtain ⟨y_1, hM, hy⟩ := map_of hM
 rw [hr_1 _ hy.symm] at hM
 exact X.gc [] (hj_1 () hM) rfl rfl rfl (gk_nil) (gb_nil)
theorem ok_hull_Displacement {s : api_Ship} {x : (List Int)} {r : Int × Int} (hM : hull_Displacement s x = some r) : Ct Tryz.prog 11 [(e_api_Ship s), (V.sl (List.map V.i x))] (V.tup [(V.i r.1), (V.i r.2)]) := by
 refine ct_of_gs CC_ok rfl ?_
 unfold hull_Displacement at hM
 refine X.sq ?_
 refine X.opW rfl rfl rfl rfl (X.q rfl (X.q rfl ?_))
 refine GS.opsNil ?_
 iterate 2 refine GS.seq ?_
 obtain ⟨y, h_1, hM⟩ := bind_of hM
 refine GS.region (X.q rfl (X.q rfl ?_))
 refine GS.bldF rfl rfl rfl rfl ?_
 refine X.call (ok_hull_loaded h_1) rfl rfl rfl (.cons (.shut (n := 9) rfl) (.cons (.shut (n := 9) rfl) .nil)) (X.q rfl (X.nq (X.q rfl (X.q rfl ?_))))
 refine GS.opsNil ?_
 refine X.cond rfl (fun h_2 => ?_) (fun h_2 => ?_)
 ·replace hM := ite_t h_2 hM
  refine X.sq (X.q rfl (X.q rfl (X.q rfl ?_)))
  refine GS.opsNil ?_
  cases hM
  exact GS.ret ⟨_, rfl, ⟨30, rfl⟩⟩
 replace hM := ite_f h_2 hM
 refine GS.skip (GS.seq ?_)
 obtain ⟨y1, h_3, hM⟩ := bind_of hM
 refine X.drawc (by kernel_rfl) rfl ?_
 iterate 3 refine X.cop rfl rfl rfl rfl ?_
 refine X.ccall (ok_hull_sum h_3) rfl rfl rfl rfl (.cons (.shut (n := 9) rfl) .nil) ?_
 refine X.cop rfl (X.addE rfl rfl) rfl rfl ?_
 iterate 2 refine X.cop rfl rfl rfl rfl ?_
 refine X.cnil ?_
 refine X.norm [(4, (V.i (w64 (s.Light + y1)))), (5, (V.i 0))] ?_ rfl (sr rfl)
 cases hM
 exact GS.ret ⟨_, rfl, ⟨30, rfl⟩⟩
abbrev e_api_Draughts (x : api_Draughts) : V := .agg [(V.i x.Fore.Lo), (V.i x.Fore.Hi), (V.i x.Aft.Lo), (V.i x.Aft.Hi)]
theorem ok_hull_levers {s : api_Ship} {r : (List Int)} (hM : hull_levers s = some r) : Ct Tryz.prog 173 [(e_api_Ship s)] (V.sl (List.map V.i r)) := by
 refine ct_of_gs CC_ok rfl ?_
 unfold hull_levers at hM
 refine X.sq ?_
 refine X.opW rfl rfl rfl rfl (X.q rfl (X.nq (X.q rfl (GS.opsNil (GS.seq (X.sq (X.q rfl (X.q rfl ?_))))))))
 refine X.opR rfl (X.lenF rfl rfl rfl) rfl (X.q rfl (GS.opsNil ?_))
 refine X.join (τ := (List Int)) (fun v => hull_levers_j1 v = some r) (fun v => ⟨[(3, (ovl 0 v))], [obl 1 V.i v], 0, none, 20⟩) ?_ ?_
 ·intro l hM
  replace hM : hull_levers_j1 l = some r := hM
  unfold hull_levers_j1 at hM
  refine X.sq (X.q rfl (X.q rfl ?_))
  refine GS.opsNil ?_
  have hE := Option.some.inj hM
  subst hE
  exact GS.ret ⟨_, rfl, FR.ovl (f := V.i) (l := l) 9 rfl rfl (fun _ => rfl)⟩
 intro hj_1
 refine GS.block ?_
 refine X.gc [none] (X.loop (σ := (Int × (List Int))) (fun v => ⟨[(3, (ovl 0 v.2)), (7, (V.sl (List.map e_api_Hold s.Holds))), (8, (V.i (s.Holds.length : Int))), (9, (V.i v.1))], [obl 1 V.i v.2], 0, none, 20⟩) hM ?_ rfl) rfl rfl rfl (ga rfl rfl) (gb_pad' rfl gb_nil)
 rintro ⟨x1, l2⟩ b_1 hM hc_2 hr_1
 rw [hull_levers_b2] at hM
 refine X.sq (X.q rfl (GS.opsNil (GS.seq ?_)))
 refine X.cond rfl (fun h_1 => ?_) (fun h_1 => ?_)
 ·replace hM := ite_t h_1 hM
  refine GS.skip (GS.seq (GS.block (GS.seq ?_)))
  obtain ⟨x, h_2, hM⟩ := bind_of hM
  refine GS.region ?_
  refine X.opR rfl (X.indexF (f := e_api_Hold) h_2 (fun _ => rfl) rfl rfl rfl rfl) rfl ?_
  refine X.opR rfl (X.loadF h_2 rfl rfl rfl) rfl ?_
  refine X.opW rfl rfl rfl rfl ?_
  refine X.op0W rfl rfl rfl (GS.opsNil ?_)
  obtain ⟨l1, h_3, hM⟩ := bind_of hM
  refine GS.region (X.q rfl (X.q rfl (X.q rfl ?_)))
  refine X.opW rfl rfl rfl rfl ?_
  refine X.appN (f := V.i) h_3 (fun _ => rfl) (by rfl) (by rfl) (by rfl) (by rfl) (by rfl) (by rfl) (by rfl) (by rfl) (by rfl) (by rfl) (by rfl) (by exact rfl) (by rfl) (by rfl) (X.q rfl (GS.opsNil ?_))
  refine GS.endB (GS.region ?_)
  refine X.opR rfl (X.addE rfl rfl) rfl (X.q rfl (GS.opsNil ?_))
  have hE := Option.some.inj hM
  exact X.gc [some 3] (hc_2 (w64 (x1 + 1), l1) hE.symm) rfl rfl rfl (gk_cons rfl (rv_ne (app_ne h_3) rfl) (ga rfl rfl)) (gb_obl' 9 (app_ne h_3) rfl rfl (fun _ => rfl) gb_nil)
 replace hM := ite_f h_1 hM
 refine GS.exit rfl ?_
 obtain ⟨y_1, hM, hy⟩ := map_of hM
 rw [hr_1 _ hy.symm] at hM
 exact X.gc [some 0] (hj_1 l2 hM) rfl rfl rfl (gk_cons rfl (rn_ovl rfl) gk_nil) (gb_obl 9 rfl rfl (fun _ => rfl) gb_nil)
theorem ok_hull_moment {s : api_Ship} {x : (List Int)} {r : Int} (hM : hull_moment s x = some r) : Ct Tryz.prog 110 [(e_api_Ship s), (V.sl (List.map V.i x))] (V.i r) := by
 refine ct_of_gs CC_ok rfl ?_
 unfold hull_moment at hM
 refine X.sq ?_
 refine X.opW rfl rfl rfl rfl (X.q rfl (GS.opsNil (GS.seq ?_)))
 obtain ⟨y, h_1, hM⟩ := bind_of hM
 obtain ⟨y1, h_2, hM⟩ := bind_of hM
 refine X.drawc (by kernel_rfl) rfl ?_
 iterate 4 refine X.cop rfl rfl rfl rfl ?_
 refine X.cop rfl (X.mulE rfl rfl) rfl rfl ?_
 refine X.cop rfl rfl rfl rfl ?_
 refine X.ccall (ok_hull_levers h_1) rfl rfl rfl rfl (.cons (.shut (n := 9) rfl) .nil) ?_
 refine X.cop rfl rfl rfl rfl ?_
 refine X.ccall (ok_hull_value h_2) rfl rfl rfl rfl (.cons (.shut (n := 9) rfl) (.cons (.shut (n := 9) rfl) .nil)) ?_
 refine X.cop rfl (X.addE rfl rfl) rfl rfl ?_
 refine X.cop rfl rfl rfl rfl ?_
 refine X.cnil ?_
 refine X.norm [(4, (V.i (w64 ((w64 (s.Light * s.Lever)) + y1))))] ?_ rfl (sr rfl)
 cases hM
 exact GS.ret ⟨_, rfl, ⟨30, rfl⟩⟩
theorem ok_hull_below {a : Int} {b : Int} {r : Int} (hM : hull_below a b = some r) : Ct Tryz.prog 111 [(V.i a), (V.i b)] (V.i r) := by
 refine ct_of_gs CC_ok rfl ?_
 unfold hull_below at hM
 refine X.sq (X.q rfl (GS.opsNil (GS.seq ?_)))
 obtain ⟨q, h_1, hM⟩ := bind_of hM
 obtain ⟨q1, h_2, hM⟩ := bind_of hM
 obtain ⟨q2, h_3, hM⟩ := bind_of hM
 refine GS.region (X.q rfl (X.q rfl (X.q rfl ?_)))
 refine X.opR rfl (X.remE h_1 rfl rfl) rfl (X.q rfl ?_)
 refine X.opR rfl (X.addE rfl rfl) rfl (X.q rfl ?_)
 refine X.opR rfl (X.remE h_2 rfl rfl) rfl ?_
 refine X.opR rfl (X.subE rfl rfl) rfl (X.q rfl ?_)
 refine X.opR rfl (X.quoE h_3 rfl rfl) rfl (X.q rfl (GS.opsNil ?_))
 cases hM
 exact GS.ret ⟨_, rfl, ⟨30, rfl⟩⟩
theorem ok_hull_afloat_1 {sign : Int} {c : Int} {c1 : api_Ship} {c2 : (List Int)} {c3 : Int} {r : api_Span} (hM : hull_afloat_1 sign c c1 c2 c3 = some r) : Ct Tryz.prog 109 [(V.i sign), (V.fptr [(V.i c)] 0 0), (V.fptr [(e_api_Ship c1)] 0 0), (V.fptr [(V.sl (List.map V.i c2))] 0 0), (V.fptr [(V.i c3)] 0 0)] (e_api_Span r) := by
 refine ct_of_gs CC_ok rfl ?_
 unfold hull_afloat_1 at hM
 refine X.sq ?_
 refine X.opW rfl rfl rfl rfl (GS.opsNil (GS.seq ?_))
 obtain ⟨y, h_1, hM⟩ := bind_of hM
 refine X.drawc (by kernel_rfl) rfl ?_
 refine X.cop rfl rfl rfl rfl ?_
 refine X.cop rfl (X.mulE rfl rfl) rfl rfl ?_
 iterate 2 refine X.cop rfl rfl rfl rfl ?_
 refine X.cop rfl (X.mulE rfl rfl) rfl rfl ?_
 iterate 3 refine X.cop rfl rfl rfl rfl ?_
 refine X.ccall (ok_hull_moment h_1) rfl rfl rfl rfl (.cons (.shut (n := 9) rfl) (.cons (.shut (n := 9) rfl) .nil)) ?_
 refine X.cop rfl (X.mulE rfl rfl) rfl rfl ?_
 refine X.cop rfl rfl rfl rfl ?_
 refine X.cop rfl (X.mulE rfl rfl) rfl rfl ?_
 refine X.cop rfl (X.addE rfl rfl) rfl rfl ?_
 refine X.cop rfl rfl rfl rfl ?_
 refine X.cop rfl (X.mulE rfl rfl) rfl rfl ?_
 iterate 2 refine X.cop rfl rfl rfl rfl ?_
 refine X.cop rfl (X.mulE rfl rfl) rfl rfl ?_
 iterate 2 refine X.cop rfl rfl rfl rfl ?_
 refine X.cnil ?_
 refine X.norm [(2, (V.fptr [(e_api_Ship c1)] 0 0)), (6, (V.ptr 0 0 0)), (7, (V.i (w64 ((w64 ((w64 (c * 2)) * c1.Turn)) + (w64 ((w64 (sign * y)) * c3)))))), (8, (V.i (w64 ((w64 (c3 * 2)) * c1.Turn))))] ?_ rfl (sr rfl)
 refine GS.seq ?_
 obtain ⟨y1, h_2, hM⟩ := bind_of hM
 obtain ⟨y2, h_3, hM⟩ := bind_of hM
 refine X.draw (by kernel_rfl) ?_
 iterate 2 refine X.dop rfl rfl rfl rfl (by kernel_rfl) rfl rfl ?_
 refine X.dcall (ok_hull_below h_2) rfl rfl rfl (by kernel_rfl) rfl (.cons (.shut (n := 9) rfl) (.cons (.shut (n := 9) rfl) .nil)) ?_
 iterate 3 refine X.dop rfl rfl rfl rfl (by kernel_rfl) rfl rfl ?_
 refine X.dop rfl (X.subE rfl rfl) rfl rfl (by kernel_rfl) rfl rfl ?_
 refine X.dop rfl rfl rfl rfl (by kernel_rfl) rfl rfl ?_
 refine X.dop rfl (X.negE rfl) rfl rfl (by kernel_rfl) rfl rfl ?_
 refine X.dop rfl rfl rfl rfl (by kernel_rfl) rfl rfl ?_
 refine X.dcall (ok_hull_below h_3) rfl rfl rfl (by kernel_rfl) rfl (.cons (.shut (n := 9) rfl) (.cons (.shut (n := 9) rfl) .nil)) ?_
 refine X.dop rfl (X.negE rfl) rfl rfl (by kernel_rfl) rfl rfl ?_
 iterate 3 refine X.dop rfl rfl rfl rfl (by kernel_rfl) rfl rfl ?_
 refine X.dop rfl (X.addE rfl rfl) rfl rfl (by kernel_rfl) rfl rfl ?_
 refine X.dop rfl rfl rfl rfl (by kernel_rfl) rfl rfl ?_
 refine X.dop0 rfl rfl rfl rfl (by kernel_rfl) rfl ?_
 refine X.dnil ?_
 refine X.norm [(6, (V.ptr 0 0 0))] ?_ rfl (sr rfl)
 cases hM
 exact GS.ret ⟨_, rfl, ⟨30, rfl⟩⟩
end Go.Proofs.YtbmojhkipnnmlaaGreat
