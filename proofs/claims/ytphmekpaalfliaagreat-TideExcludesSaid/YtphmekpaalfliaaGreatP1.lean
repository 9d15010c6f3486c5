/- The program's functions compute the plain ones. Conditions: none. Printed by a program (wip/tools/xg.py). -/
import Derived.Test.YtphmekpaalfliaaGreatTok
import Derived.Test.YtphmekpaalfliaaGreatSrt
import Derived.Test.YtphmekpaalfliaaGreatM
set_option linter.unusedVariables false
set_option linter.unusedSimpArgs false
namespace Go.Proofs.YtphmekpaalfliaaGreat
open Go Go.Am Go.Proofs Go.Mx

noncomputable def CC : Cfg := cfg (Ct Tryz.prog)
theorem CC_ok : CC.OK := cfg_ok fun f args v h => h

def e_mi : Option (List (Int × Int)) → V
  | none => .lit (.map none)
  | some l => .fmap (l.map fun p => V.i p.1) (l.map fun p => V.i p.2)
theorem rv_mi {N : Nat} {keep : List (Option Nat)} {l : Option (List (Int × Int))} : Rv N keep (e_mi l) (e_mi l) := ⟨1, by cases l <;> rfl⟩
theorem fr_mi {H : List Blk} {lo : Nat} {l : Option (List (Int × Int))} : FR H lo (e_mi l) (e_mi l) := ⟨1, by cases l <;> rfl⟩

abbrev e_api_Cycle (x : api_Cycle) : V := .agg [(V.i x.ID), (V.i x.Begin), (V.i x.Every), (V.sl (List.map V.i x.Heights))]

abbrev e_api_Shift (x : api_Shift) : V := .agg [(V.i x.From), (V.i x.To), (V.i x.Add)]

abbrev e_api_Water (x : api_Water) : V := .agg [(V.i x.Level), (V.sl (List.map e_api_Cycle x.Cycles)), (V.sl (List.map e_api_Shift x.Shifts))]

abbrev e_api_Span (x : api_Span) : V := .agg [(V.i x.Lo), (V.i x.Hi)]

abbrev e_api_Gauge (x : api_Gauge) : V := .agg [(V.i x.ID), (V.i x.Tick), (V.i x.Read.Lo), (V.i x.Read.Hi)]

theorem ok_law02_few {w : api_Water} {r : Bool} (hM : law02_few w = some r) : Ct Tryz.prog 5 [(e_api_Water w)] (V.b r) := by
  refine ct_of_gs CC_ok rfl ?_
  unfold law02_few at hM
  refine GS.seq ?_
  refine GS.region ?_
  refine X.opW rfl rfl rfl rfl ?_
  refine X.opR rfl rfl rfl ?_
  refine GS.opsNil ?_
  iterate 2 refine GS.seq ?_
  refine GS.region ?_
  refine X.opR rfl rfl rfl ?_
  refine GS.opsNil ?_
  refine X.join (τ := Unit) (fun v => law02_few_j1 w = some r) (fun v => ⟨[(1, (V.ptr 0 0 0))], [.rows 3 [(e_api_Water w)]], 0, none, 29⟩) ?_ ?_
  · intro _ hM
    replace hM : law02_few_j1 w = some r := hM
    unfold law02_few_j1 at hM
    refine GS.seq ?_
    refine GS.region ?_
    refine X.mid [(2, (V.b ((decide ((w.Cycles.length : Int) ≤ 8)) && (decide ((w.Shifts.length : Int) ≤ 30)))))] ?_ ?_
    · intro hg
      refine X.split (decide ((w.Cycles.length : Int) ≤ 8)) (fun h_1 => ?_) (fun h_1 => ?_)
      · iterate 2 refine X.opR rfl rfl rfl ?_
        refine X.opR rfl (X.lenF rfl rfl rfl) rfl ?_
        iterate 2 refine X.opR rfl rfl rfl ?_
        iterate 2 refine X.opR (X.on_t rfl rfl rfl h_1) rfl rfl ?_
        refine X.opR (X.on_t rfl rfl rfl h_1) (X.lenF rfl rfl rfl) rfl ?_
        refine X.opR (X.on_t rfl rfl rfl h_1) rfl rfl ?_
        refine X.opR rfl (X.pickand_t (y := decide ((w.Shifts.length : Int) ≤ 30)) rfl h_1 rfl) rfl ?_
        refine X.opR rfl rfl rfl ?_
        refine GS.opsNil ?_
        exact X.norm _ hg rfl (W.sub_cons rfl W.sub_nil)
      · iterate 2 refine X.opR rfl rfl rfl ?_
        refine X.opR rfl (X.lenF rfl rfl rfl) rfl ?_
        iterate 2 refine X.opR rfl rfl rfl ?_
        iterate 4 refine X.off (X.off_t rfl rfl rfl h_1) rfl ?_
        refine X.opR rfl (X.pickand_f (y := decide ((w.Shifts.length : Int) ≤ 30)) rfl h_1 rfl) rfl ?_
        refine X.opR rfl rfl rfl ?_
        refine GS.opsNil ?_
        exact X.norm _ hg rfl (W.sub_cons rfl W.sub_nil)
    have hE := Option.some.inj hM
    subst hE
    exact GS.ret ⟨_, rfl, ⟨30, rfl⟩⟩
  · intro hj_1
    refine GS.block ?_
    refine X.gc [some 0] (X.loop (σ := Int) (fun v => ⟨[(1, (V.ptr 0 0 0)), (3, (V.i v))], [.rows 3 [(e_api_Water w)]], 0, none, 29⟩) hM ?_ rfl) rfl rfl rfl (gk_cons rfl ⟨9, rfl⟩ (gk_cons rfl ⟨9, rfl⟩ gk_nil)) (gb_box rfl rfl ⟨9, rfl⟩ gb_nil)
    intro i b_1 hM hc_2 hr_1
    rw [law02_few_b2] at hM
    iterate 2 refine GS.seq ?_
    refine GS.region ?_
    iterate 3 refine X.opR rfl rfl rfl ?_
    refine X.opR rfl (X.lenF rfl rfl rfl) rfl ?_
    refine X.opR rfl rfl rfl ?_
    refine GS.opsNil ?_
    refine X.cond rfl (fun h_2 => ?_) (fun h_2 => ?_)
    · replace hM := ite_t h_2 hM
      refine GS.skip ?_
      refine GS.seq ?_
      refine GS.block ?_
      refine GS.seq ?_
      obtain ⟨x, h_3, hM⟩ := bind_of hM
      refine GS.region ?_
      iterate 3 refine X.opR rfl rfl rfl ?_
      refine X.opR rfl (X.indexF (f := e_api_Cycle) h_3 (fun _ => rfl) rfl rfl rfl rfl) rfl ?_
      refine X.opR rfl rfl rfl ?_
      refine X.opR rfl (X.loadF h_3 rfl rfl rfl) rfl ?_
      refine X.opR rfl (X.lenF rfl rfl rfl) rfl ?_
      refine X.opR rfl rfl rfl ?_
      refine GS.opsNil ?_
      refine X.cond rfl (fun h_4 => ?_) (fun h_4 => ?_)
      · replace hM := ite_t h_4 hM
        refine GS.seq ?_
        refine GS.region ?_
        refine X.opR rfl rfl rfl ?_
        refine GS.opsNil ?_
        have hE := Option.some.inj hM
        replace hE := hr_1 _ hE.symm
        subst hE
        exact GS.ret ⟨_, rfl, ⟨30, rfl⟩⟩
      · replace hM := ite_f h_4 hM
        refine GS.skip ?_
        refine GS.endB ?_
        refine GS.region ?_
        refine X.opR rfl rfl rfl ?_
        refine X.opR rfl (X.addE rfl rfl) rfl ?_
        refine X.opR rfl rfl rfl ?_
        refine GS.opsNil ?_
        have hE := Option.some.inj hM
        exact X.gc [some 0] (hc_2 (w64 (i + 1)) hE.symm) rfl rfl rfl (gk_cons rfl ⟨9, rfl⟩ (gk_cons rfl ⟨9, rfl⟩ gk_nil)) (gb_box rfl rfl ⟨9, rfl⟩ gb_nil)
    · replace hM := ite_f h_2 hM
      refine GS.exit rfl ?_
      obtain ⟨y_1, hM, hy⟩ := map_of hM
      rw [hr_1 _ hy.symm] at hM
      exact X.gc [some 0] (hj_1 () hM) rfl rfl rfl (gk_cons rfl ⟨9, rfl⟩ gk_nil) (gb_box rfl rfl ⟨9, rfl⟩ gb_nil)

theorem ok_law02_example : Ct Tryz.prog 21 [] (e_api_Water (law02_example)) := by
  refine ct_of_gs CC_ok rfl ?_
  generalize hM : law02_example = r
  unfold law02_example at hM
  refine GS.seq ?_
  refine GS.region ?_
  refine X.opW rfl rfl rfl rfl ?_
  refine GS.opsNil ?_
  refine GS.seq ?_
  refine GS.region ?_
  refine X.opW rfl rfl rfl rfl ?_
  refine X.opR rfl rfl rfl ?_
  refine X.opW rfl rfl rfl rfl ?_
  refine X.opR rfl rfl rfl ?_
  refine X.opW (H' := [.rows 3 [(V.agg [(V.i 0), V.nil, V.nil])], .rows 1 (List.map V.i ([0, 30, 20])), .rows 1 (List.map V.i ([1, 2])), .rows 4 [(V.agg [(V.i 1), (V.i 10), (V.i 5), (V.osl 1 0 (List.length ([0, 30, 20])))]), (V.agg [(V.i 2), (V.i 0), (V.i 10), (V.osl 2 0 (List.length ([1, 2])))])]]) rfl rfl rfl rfl ?_
  refine X.opR rfl rfl rfl ?_
  refine X.opW (H' := [.rows 3 [(V.agg [(V.i 0), V.nil, V.nil])], .rows 1 (List.map V.i ([0, 30, 20])), .rows 1 (List.map V.i ([1, 2])), .rows 4 [(V.agg [(V.i 1), (V.i 10), (V.i 5), (V.osl 1 0 (List.length ([0, 30, 20])))]), (V.agg [(V.i 2), (V.i 0), (V.i 10), (V.osl 2 0 (List.length ([1, 2])))])], .rows 3 (List.map e_api_Shift ([(⟨1, 1, 7⟩ : api_Shift)]))]) rfl rfl rfl rfl ?_
  refine X.opR rfl rfl rfl ?_
  refine X.op0W (H' := [.rows 3 [(V.agg [(V.i 100), (V.osl 3 0 2), (V.osl 4 0 (List.length ([(⟨1, 1, 7⟩ : api_Shift)])))])], .rows 1 (List.map V.i ([0, 30, 20])), .rows 1 (List.map V.i ([1, 2])), .rows 4 [(V.agg [(V.i 1), (V.i 10), (V.i 5), (V.osl 1 0 (List.length ([0, 30, 20])))]), (V.agg [(V.i 2), (V.i 0), (V.i 10), (V.osl 2 0 (List.length ([1, 2])))])], .rows 3 (List.map e_api_Shift ([(⟨1, 1, 7⟩ : api_Shift)]))]) rfl rfl rfl ?_
  refine GS.opsNil ?_
  subst hM
  exact GS.ret ⟨_, rfl, ⟨30, rfl⟩⟩

theorem ok_tide_within (n : Int) (lo : Int) (hi : Int) : Ct Tryz.prog 45 [(V.i n), (V.i lo), (V.i hi)] (V.b (tide_within n lo hi)) := by
  refine ct_of_gs CC_ok rfl ?_
  generalize hM : tide_within n lo hi = r
  unfold tide_within at hM
  refine GS.seq ?_
  refine GS.region ?_
  refine X.opR rfl rfl rfl ?_
  refine GS.opsNil ?_
  refine GS.seq ?_
  refine GS.region ?_
  refine X.mid [(6, (V.b ((decide (lo ≤ n)) && (decide (n ≤ hi)))))] ?_ ?_
  · intro hg
    refine X.split (decide (lo ≤ n)) (fun h_1 => ?_) (fun h_1 => ?_)
    · iterate 4 refine X.opR rfl rfl rfl ?_
      iterate 3 refine X.opR (X.on_t rfl rfl rfl h_1) rfl rfl ?_
      refine X.opR rfl (X.pickand_t (y := decide (n ≤ hi)) rfl h_1 rfl) rfl ?_
      refine X.opR rfl rfl rfl ?_
      refine GS.opsNil ?_
      exact X.norm _ hg rfl (W.sub_cons rfl W.sub_nil)
    · iterate 4 refine X.opR rfl rfl rfl ?_
      iterate 3 refine X.off (X.off_t rfl rfl rfl h_1) rfl ?_
      refine X.opR rfl (X.pickand_f (y := decide (n ≤ hi)) rfl h_1 rfl) rfl ?_
      refine X.opR rfl rfl rfl ?_
      refine GS.opsNil ?_
      exact X.norm _ hg rfl (W.sub_cons rfl W.sub_nil)
  subst hM
  exact GS.ret ⟨_, rfl, ⟨30, rfl⟩⟩

theorem ok_tide_minute (tick : Int) : Ct Tryz.prog 55 [(V.i tick)] (V.b (tide_minute tick)) := by
  refine ct_of_gs CC_ok rfl ?_
  generalize hM : tide_minute tick = r
  unfold tide_minute at hM
  refine GS.seq ?_
  refine GS.region ?_
  refine X.opR rfl rfl rfl ?_
  refine GS.opsNil ?_
  refine GS.seq ?_
  refine GS.region ?_
  refine X.opR rfl rfl rfl ?_
  refine X.call (ok_tide_within tick 0 1048576) rfl rfl rfl (.cons (.shut (n := 9) rfl) (.cons (.shut (n := 9) rfl) (.cons (.shut (n := 9) rfl) .nil))) ?_
  refine X.opR rfl rfl rfl ?_
  refine GS.opsNil ?_
  subst hM
  exact GS.ret ⟨_, rfl, ⟨30, rfl⟩⟩

theorem ok_tide_level (n : Int) : Ct Tryz.prog 44 [(V.i n)] (V.b (tide_level n)) := by
  refine ct_of_gs CC_ok rfl ?_
  generalize hM : tide_level n = r
  unfold tide_level at hM
  refine GS.seq ?_
  refine GS.region ?_
  refine X.opR rfl rfl rfl ?_
  refine GS.opsNil ?_
  refine GS.seq ?_
  refine GS.region ?_
  refine X.opR rfl rfl rfl ?_
  refine X.call (ok_tide_within n (-4000) 4000) rfl rfl rfl (.cons (.shut (n := 9) rfl) (.cons (.shut (n := 9) rfl) (.cons (.shut (n := 9) rfl) .nil))) ?_
  refine X.opR rfl rfl rfl ?_
  refine GS.opsNil ?_
  subst hM
  exact GS.ret ⟨_, rfl, ⟨30, rfl⟩⟩

theorem ok_tide_right_1 (h : Int) : Ct Tryz.prog 81 [(V.i h)] (V.b (tide_right_1 h)) := by
  refine ct_of_gs CC_ok rfl ?_
  generalize hM : tide_right_1 h = r
  unfold tide_right_1 at hM
  refine GS.seq ?_
  refine GS.region ?_
  refine X.opR rfl rfl rfl ?_
  refine GS.opsNil ?_
  refine GS.seq ?_
  refine GS.region ?_
  refine X.opR rfl rfl rfl ?_
  refine X.call (ok_tide_level h) rfl rfl rfl (.cons (.shut (n := 9) rfl) .nil) ?_
  iterate 2 refine X.opR rfl rfl rfl ?_
  refine GS.opsNil ?_
  subst hM
  exact GS.ret ⟨_, rfl, ⟨30, rfl⟩⟩

theorem ok_slices_IndexFunc_int__tide_right_1 {s : (List Int)} {r : Int} (hM : slices_IndexFunc_int__tide_right_1 s = some r) : Ct Tryz.prog 117 [(V.sl (List.map V.i s)), (V.fn 81 [])] (V.i r) := by
  refine ct_of_gs CC_ok rfl ?_
  unfold slices_IndexFunc_int__tide_right_1 at hM
  refine GS.seq ?_
  refine GS.region ?_
  refine X.opR rfl rfl rfl ?_
  refine GS.opsNil ?_
  iterate 2 refine GS.seq ?_
  refine GS.region ?_
  refine X.opR rfl rfl rfl ?_
  refine X.opR rfl (X.lenF rfl rfl rfl) rfl ?_
  refine X.opR rfl rfl rfl ?_
  refine GS.opsNil ?_
  refine X.join (τ := Unit) (fun v => slices_IndexFunc_int__tide_right_1_j1 = some r) (fun v => ⟨[], [], 0, none, 19⟩) ?_ ?_
  · intro _ hM
    replace hM : slices_IndexFunc_int__tide_right_1_j1 = some r := hM
    unfold slices_IndexFunc_int__tide_right_1_j1 at hM
    refine GS.seq ?_
    refine GS.region ?_
    refine X.opR rfl rfl rfl ?_
    refine GS.opsNil ?_
    have hE := Option.some.inj hM
    subst hE
    exact GS.ret ⟨_, rfl, ⟨30, rfl⟩⟩
  · intro hj_1
    refine GS.block ?_
    refine X.gc [] (X.loop (σ := Int) (fun v => ⟨[(0, (V.sl (List.map V.i s))), (1, (V.fn 81 [])), (7, (V.i (s.length : Int))), (8, (V.i v))], [], 0, none, 19⟩) hM ?_ rfl) rfl rfl rfl (gk_cons rfl ⟨9, rfl⟩ (gk_cons rfl ⟨9, rfl⟩ (gk_cons rfl ⟨9, rfl⟩ (gk_cons rfl ⟨9, rfl⟩ gk_nil)))) (gb_nil)
    intro x1 b_1 hM hc_2 hr_1
    rw [slices_IndexFunc_int__tide_right_1_b2] at hM
    refine GS.seq ?_
    refine GS.region ?_
    refine X.opR rfl rfl rfl ?_
    refine GS.opsNil ?_
    refine GS.seq ?_
    refine X.cond rfl (fun h_1 => ?_) (fun h_1 => ?_)
    · replace hM := ite_t h_1 hM
      refine GS.skip ?_
      refine GS.seq ?_
      refine GS.block ?_
      refine GS.seq ?_
      refine GS.region ?_
      iterate 2 refine X.opR rfl rfl rfl ?_
      refine GS.opsNil ?_
      refine GS.seq ?_
      obtain ⟨x, h_2, hM⟩ := bind_of hM
      refine GS.region ?_
      iterate 3 refine X.opR rfl rfl rfl ?_
      refine X.opR rfl (X.indexF (f := V.i) h_2 (fun _ => rfl) rfl rfl rfl rfl) rfl ?_
      refine X.opR rfl (X.loadF h_2 rfl rfl rfl) rfl ?_
      refine X.call (ok_tide_right_1 x) rfl rfl rfl (.cons (.shut (n := 9) rfl) .nil) ?_
      refine GS.opsNil ?_
      refine X.cond rfl (fun h_3 => ?_) (fun h_3 => ?_)
      · replace hM := ite_t h_3 hM
        refine GS.seq ?_
        refine GS.region ?_
        iterate 2 refine X.opR rfl rfl rfl ?_
        refine GS.opsNil ?_
        have hE := Option.some.inj hM
        replace hE := hr_1 _ hE.symm
        subst hE
        exact GS.ret ⟨_, rfl, ⟨30, rfl⟩⟩
      · replace hM := ite_f h_3 hM
        refine GS.skip ?_
        refine GS.endB ?_
        refine GS.region ?_
        refine X.opR rfl (X.addE rfl rfl) rfl ?_
        refine X.opR rfl rfl rfl ?_
        refine GS.opsNil ?_
        have hE := Option.some.inj hM
        exact X.gc [] (hc_2 (w64 (x1 + 1)) hE.symm) rfl rfl rfl (gk_cons rfl ⟨9, rfl⟩ (gk_cons rfl ⟨9, rfl⟩ (gk_cons rfl ⟨9, rfl⟩ (gk_cons rfl ⟨9, rfl⟩ gk_nil)))) (gb_nil)
    · replace hM := ite_f h_1 hM
      refine GS.exit rfl ?_
      obtain ⟨y_1, hM, hy⟩ := map_of hM
      rw [hr_1 _ hy.symm] at hM
      exact X.gc [] (hj_1 () hM) rfl rfl rfl (gk_nil) (gb_nil)

theorem ok_slices_ContainsFunc_int__tide_right_1 {s : (List Int)} {r : Bool} (hM : slices_ContainsFunc_int__tide_right_1 s = some r) : Ct Tryz.prog 80 [(V.sl (List.map V.i s)), (V.fn 81 [])] (V.b r) := by
  refine ct_of_gs CC_ok rfl ?_
  unfold slices_ContainsFunc_int__tide_right_1 at hM
  refine GS.seq ?_
  refine GS.region ?_
  refine X.opR rfl rfl rfl ?_
  refine GS.opsNil ?_
  refine GS.seq ?_
  obtain ⟨y, h_1, hM⟩ := bind_of hM
  refine GS.region ?_
  iterate 2 refine X.opR rfl rfl rfl ?_
  refine X.call (ok_slices_IndexFunc_int__tide_right_1 h_1) rfl rfl rfl (.cons (.shut (n := 9) rfl) (.cons (.shut (n := 9) rfl) .nil)) ?_
  iterate 2 refine X.opR rfl rfl rfl ?_
  refine GS.opsNil ?_
  have hE := Option.some.inj hM
  subst hE
  exact GS.ret ⟨_, rfl, ⟨30, rfl⟩⟩

theorem ok_tide_right {c : api_Cycle} {r : Bool} (hM : tide_right c = some r) : Ct Tryz.prog 54 [(e_api_Cycle c)] (V.b r) := by
  refine ct_of_gs CC_ok rfl ?_
  unfold tide_right at hM
  refine GS.seq ?_
  refine GS.region ?_
  refine X.opW rfl rfl rfl rfl ?_
  refine X.opR rfl rfl rfl ?_
  refine GS.opsNil ?_
  refine GS.seq ?_
  obtain ⟨y, h_1, hM⟩ := gb_of hM
  refine GS.region ?_
  refine X.mid [(2, (V.b (((((tide_within c.ID 1 1099511627776) && (tide_minute c.Begin)) && (tide_within c.Every 1 120)) && (tide_within (c.Heights.length : Int) 1 60)) && (!y))))] ?_ ?_
  · intro hg
    refine X.split ((tide_within c.ID 1 1099511627776)) (fun h_2 => ?_) (fun h_2 => ?_)
    · refine X.split (((tide_within c.ID 1 1099511627776) && (tide_minute c.Begin))) (fun h_3 => ?_) (fun h_3 => ?_)
      · refine X.split ((((tide_within c.ID 1 1099511627776) && (tide_minute c.Begin)) && (tide_within c.Every 1 120))) (fun h_4 => ?_) (fun h_4 => ?_)
        · refine X.split (((((tide_within c.ID 1 1099511627776) && (tide_minute c.Begin)) && (tide_within c.Every 1 120)) && (tide_within (c.Heights.length : Int) 1 60))) (fun h_5 => ?_) (fun h_5 => ?_)
          · iterate 2 refine X.opR rfl rfl rfl ?_
            refine X.call (ok_tide_within c.ID 1 1099511627776) rfl rfl rfl (.cons (.shut (n := 9) rfl) (.cons (.shut (n := 9) rfl) (.cons (.shut (n := 9) rfl) .nil))) ?_
            refine X.opR rfl rfl rfl ?_
            iterate 2 refine X.opR (X.on_t rfl rfl rfl h_2) rfl rfl ?_
            refine X.call (ok_tide_minute c.Begin) (X.on_t rfl rfl rfl h_2) rfl rfl (.cons (.shut (n := 9) rfl) .nil) ?_
            refine X.opR rfl (X.pickand_t (y := (tide_minute c.Begin)) rfl h_2 rfl) rfl ?_
            refine X.opR rfl rfl rfl ?_
            iterate 2 refine X.opR (X.on_t rfl rfl rfl h_3) rfl rfl ?_
            refine X.call (ok_tide_within c.Every 1 120) (X.on_t rfl rfl rfl h_3) rfl rfl (.cons (.shut (n := 9) rfl) (.cons (.shut (n := 9) rfl) (.cons (.shut (n := 9) rfl) .nil))) ?_
            refine X.opR rfl (X.pickand_t (y := (tide_within c.Every 1 120)) rfl h_3 rfl) rfl ?_
            refine X.opR rfl rfl rfl ?_
            iterate 2 refine X.opR (X.on_t rfl rfl rfl h_4) rfl rfl ?_
            refine X.opR (X.on_t rfl rfl rfl h_4) (X.lenF rfl rfl rfl) rfl ?_
            refine X.call (ok_tide_within (c.Heights.length : Int) 1 60) (X.on_t rfl rfl rfl h_4) rfl rfl (.cons (.shut (n := 9) rfl) (.cons (.shut (n := 9) rfl) (.cons (.shut (n := 9) rfl) .nil))) ?_
            refine X.opR rfl (X.pickand_t (y := (tide_within (c.Heights.length : Int) 1 60)) rfl h_4 rfl) rfl ?_
            refine X.opR rfl rfl rfl ?_
            iterate 2 refine X.opR (X.on_t rfl rfl rfl h_5) rfl rfl ?_
            refine X.call (ok_slices_ContainsFunc_int__tide_right_1 (h_1 h_5)) (X.on_t rfl rfl rfl h_5) rfl rfl (.cons (.shut (n := 9) rfl) (.cons (.shut (n := 9) rfl) .nil)) ?_
            refine X.opR (X.on_t rfl rfl rfl h_5) rfl rfl ?_
            refine X.opR rfl (X.pickand_t (y := !y) rfl h_5 rfl) rfl ?_
            refine X.opR rfl rfl rfl ?_
            refine GS.opsNil ?_
            exact X.norm _ hg rfl (W.sub_cons rfl W.sub_nil)
          · iterate 2 refine X.opR rfl rfl rfl ?_
            refine X.call (ok_tide_within c.ID 1 1099511627776) rfl rfl rfl (.cons (.shut (n := 9) rfl) (.cons (.shut (n := 9) rfl) (.cons (.shut (n := 9) rfl) .nil))) ?_
            refine X.opR rfl rfl rfl ?_
            iterate 2 refine X.opR (X.on_t rfl rfl rfl h_2) rfl rfl ?_
            refine X.call (ok_tide_minute c.Begin) (X.on_t rfl rfl rfl h_2) rfl rfl (.cons (.shut (n := 9) rfl) .nil) ?_
            refine X.opR rfl (X.pickand_t (y := (tide_minute c.Begin)) rfl h_2 rfl) rfl ?_
            refine X.opR rfl rfl rfl ?_
            iterate 2 refine X.opR (X.on_t rfl rfl rfl h_3) rfl rfl ?_
            refine X.call (ok_tide_within c.Every 1 120) (X.on_t rfl rfl rfl h_3) rfl rfl (.cons (.shut (n := 9) rfl) (.cons (.shut (n := 9) rfl) (.cons (.shut (n := 9) rfl) .nil))) ?_
            refine X.opR rfl (X.pickand_t (y := (tide_within c.Every 1 120)) rfl h_3 rfl) rfl ?_
            refine X.opR rfl rfl rfl ?_
            iterate 2 refine X.opR (X.on_t rfl rfl rfl h_4) rfl rfl ?_
            refine X.opR (X.on_t rfl rfl rfl h_4) (X.lenF rfl rfl rfl) rfl ?_
            refine X.call (ok_tide_within (c.Heights.length : Int) 1 60) (X.on_t rfl rfl rfl h_4) rfl rfl (.cons (.shut (n := 9) rfl) (.cons (.shut (n := 9) rfl) (.cons (.shut (n := 9) rfl) .nil))) ?_
            refine X.opR rfl (X.pickand_t (y := (tide_within (c.Heights.length : Int) 1 60)) rfl h_4 rfl) rfl ?_
            refine X.opR rfl rfl rfl ?_
            iterate 4 refine X.off (X.off_t rfl rfl rfl h_5) rfl ?_
            refine X.opR rfl (X.pickand_f (y := !y) rfl h_5 rfl) rfl ?_
            refine X.opR rfl rfl rfl ?_
            refine GS.opsNil ?_
            exact X.norm _ hg rfl (W.sub_cons rfl W.sub_nil)
        · iterate 2 refine X.opR rfl rfl rfl ?_
          refine X.call (ok_tide_within c.ID 1 1099511627776) rfl rfl rfl (.cons (.shut (n := 9) rfl) (.cons (.shut (n := 9) rfl) (.cons (.shut (n := 9) rfl) .nil))) ?_
          refine X.opR rfl rfl rfl ?_
          iterate 2 refine X.opR (X.on_t rfl rfl rfl h_2) rfl rfl ?_
          refine X.call (ok_tide_minute c.Begin) (X.on_t rfl rfl rfl h_2) rfl rfl (.cons (.shut (n := 9) rfl) .nil) ?_
          refine X.opR rfl (X.pickand_t (y := (tide_minute c.Begin)) rfl h_2 rfl) rfl ?_
          refine X.opR rfl rfl rfl ?_
          iterate 2 refine X.opR (X.on_t rfl rfl rfl h_3) rfl rfl ?_
          refine X.call (ok_tide_within c.Every 1 120) (X.on_t rfl rfl rfl h_3) rfl rfl (.cons (.shut (n := 9) rfl) (.cons (.shut (n := 9) rfl) (.cons (.shut (n := 9) rfl) .nil))) ?_
          refine X.opR rfl (X.pickand_t (y := (tide_within c.Every 1 120)) rfl h_3 rfl) rfl ?_
          refine X.opR rfl rfl rfl ?_
          iterate 4 refine X.off (X.off_t rfl rfl rfl h_4) rfl ?_
          refine X.opR rfl (X.pickand_f (y := (tide_within (c.Heights.length : Int) 1 60)) rfl h_4 rfl) rfl ?_
          refine X.opR rfl rfl rfl ?_
          iterate 4 refine X.off (X.off_t rfl rfl rfl (X.and_ff h_4)) rfl ?_
          refine X.opR rfl (X.pickand_f (y := !y) rfl (X.and_ff h_4) rfl) rfl ?_
          refine X.opR rfl rfl rfl ?_
          refine GS.opsNil ?_
          exact X.norm _ hg rfl (W.sub_cons rfl W.sub_nil)
      · iterate 2 refine X.opR rfl rfl rfl ?_
        refine X.call (ok_tide_within c.ID 1 1099511627776) rfl rfl rfl (.cons (.shut (n := 9) rfl) (.cons (.shut (n := 9) rfl) (.cons (.shut (n := 9) rfl) .nil))) ?_
        refine X.opR rfl rfl rfl ?_
        iterate 2 refine X.opR (X.on_t rfl rfl rfl h_2) rfl rfl ?_
        refine X.call (ok_tide_minute c.Begin) (X.on_t rfl rfl rfl h_2) rfl rfl (.cons (.shut (n := 9) rfl) .nil) ?_
        refine X.opR rfl (X.pickand_t (y := (tide_minute c.Begin)) rfl h_2 rfl) rfl ?_
        refine X.opR rfl rfl rfl ?_
        iterate 3 refine X.off (X.off_t rfl rfl rfl h_3) rfl ?_
        refine X.opR rfl (X.pickand_f (y := (tide_within c.Every 1 120)) rfl h_3 rfl) rfl ?_
        refine X.opR rfl rfl rfl ?_
        iterate 4 refine X.off (X.off_t rfl rfl rfl (X.and_ff h_3)) rfl ?_
        refine X.opR rfl (X.pickand_f (y := (tide_within (c.Heights.length : Int) 1 60)) rfl (X.and_ff h_3) rfl) rfl ?_
        refine X.opR rfl rfl rfl ?_
        iterate 4 refine X.off (X.off_t rfl rfl rfl (X.and_ff (X.and_ff h_3))) rfl ?_
        refine X.opR rfl (X.pickand_f (y := !y) rfl (X.and_ff (X.and_ff h_3)) rfl) rfl ?_
        refine X.opR rfl rfl rfl ?_
        refine GS.opsNil ?_
        exact X.norm _ hg rfl (W.sub_cons rfl W.sub_nil)
    · iterate 2 refine X.opR rfl rfl rfl ?_
      refine X.call (ok_tide_within c.ID 1 1099511627776) rfl rfl rfl (.cons (.shut (n := 9) rfl) (.cons (.shut (n := 9) rfl) (.cons (.shut (n := 9) rfl) .nil))) ?_
      refine X.opR rfl rfl rfl ?_
      iterate 3 refine X.off (X.off_t rfl rfl rfl h_2) rfl ?_
      refine X.opR rfl (X.pickand_f (y := (tide_minute c.Begin)) rfl h_2 rfl) rfl ?_
      refine X.opR rfl rfl rfl ?_
      iterate 3 refine X.off (X.off_t rfl rfl rfl (X.and_ff h_2)) rfl ?_
      refine X.opR rfl (X.pickand_f (y := (tide_within c.Every 1 120)) rfl (X.and_ff h_2) rfl) rfl ?_
      refine X.opR rfl rfl rfl ?_
      iterate 4 refine X.off (X.off_t rfl rfl rfl (X.and_ff (X.and_ff h_2))) rfl ?_
      refine X.opR rfl (X.pickand_f (y := (tide_within (c.Heights.length : Int) 1 60)) rfl (X.and_ff (X.and_ff h_2)) rfl) rfl ?_
      refine X.opR rfl rfl rfl ?_
      iterate 4 refine X.off (X.off_t rfl rfl rfl (X.and_ff (X.and_ff (X.and_ff h_2)))) rfl ?_
      refine X.opR rfl (X.pickand_f (y := !y) rfl (X.and_ff (X.and_ff (X.and_ff h_2))) rfl) rfl ?_
      refine X.opR rfl rfl rfl ?_
      refine GS.opsNil ?_
      exact X.norm _ hg rfl (W.sub_cons rfl W.sub_nil)
  have hE := Option.some.inj hM
  subst hE
  exact GS.ret ⟨_, rfl, ⟨30, rfl⟩⟩

theorem ok_tide_below {a : Int} {b : Int} {r : Int × Int} (hM : tide_below a b = some r) : Ct Tryz.prog 82 [(V.i a), (V.i b)] (V.tup [(V.i r.1), (V.i r.2)]) := by
  refine ct_of_gs CC_ok rfl ?_
  unfold tide_below at hM
  refine GS.seq ?_
  refine GS.region ?_
  iterate 2 refine X.opR rfl rfl rfl ?_
  refine GS.opsNil ?_
  refine GS.seq ?_
  obtain ⟨q, h_1, hM⟩ := bind_of hM
  obtain ⟨q1, h_2, hM⟩ := bind_of hM
  refine GS.region ?_
  iterate 2 refine X.opR rfl rfl rfl ?_
  refine X.opR rfl (X.remE h_1 rfl rfl) rfl ?_
  refine X.opR rfl rfl rfl ?_
  refine X.opR rfl (X.addE rfl rfl) rfl ?_
  refine X.opR rfl rfl rfl ?_
  refine X.opR rfl (X.remE h_2 rfl rfl) rfl ?_
  refine X.opR rfl rfl rfl ?_
  refine GS.opsNil ?_
  refine GS.seq ?_
  obtain ⟨q2, h_3, hM⟩ := bind_of hM
  refine GS.region ?_
  iterate 2 refine X.opR rfl rfl rfl ?_
  refine X.opR rfl (X.subE rfl rfl) rfl ?_
  refine X.opR rfl rfl rfl ?_
  refine X.opR rfl (X.quoE h_3 rfl rfl) rfl ?_
  iterate 3 refine X.opR rfl rfl rfl ?_
  refine GS.opsNil ?_
  have hE := Option.some.inj hM
  subst hE
  exact GS.ret ⟨_, rfl, ⟨30, rfl⟩⟩

theorem ok_tide_value {c : api_Cycle} {tick : Int} {r : Int} (hM : tide_value c tick = some r) : Ct Tryz.prog 56 [(e_api_Cycle c), (V.i tick)] (V.i r) := by
  refine ct_of_gs CC_ok rfl ?_
  unfold tide_value at hM
  refine GS.seq ?_
  refine GS.region ?_
  refine X.opW rfl rfl rfl rfl ?_
  refine X.opR rfl rfl rfl ?_
  refine GS.opsNil ?_
  refine GS.seq ?_
  obtain ⟨y, h_1, hM⟩ := bind_of hM
  refine GS.region ?_
  iterate 3 refine X.opR rfl rfl rfl ?_
  refine X.opR rfl (X.subE rfl rfl) rfl ?_
  iterate 2 refine X.opR rfl rfl rfl ?_
  refine X.call (ok_tide_below h_1) rfl rfl rfl (.cons (.shut (n := 9) rfl) (.cons (.shut (n := 9) rfl) .nil)) ?_
  iterate 5 refine X.opR rfl rfl rfl ?_
  refine GS.opsNil ?_
  refine GS.seq ?_
  obtain ⟨y1, h_2, hM⟩ := bind_of hM
  refine GS.region ?_
  iterate 3 refine X.opR rfl rfl rfl ?_
  refine X.opR rfl (X.lenF rfl rfl rfl) rfl ?_
  refine X.call (ok_tide_below h_2) rfl rfl rfl (.cons (.shut (n := 9) rfl) (.cons (.shut (n := 9) rfl) .nil)) ?_
  iterate 5 refine X.opR rfl rfl rfl ?_
  refine GS.opsNil ?_
  refine GS.seq ?_
  obtain ⟨x, h_3, hM⟩ := bind_of hM
  refine GS.region ?_
  iterate 3 refine X.opR rfl rfl rfl ?_
  refine X.opR rfl (X.indexF (f := V.i) h_3 (fun _ => rfl) rfl rfl rfl rfl) rfl ?_
  refine X.opR rfl (X.loadF h_3 rfl rfl rfl) rfl ?_
  refine X.opR rfl rfl rfl ?_
  refine GS.opsNil ?_
  have hE := Option.some.inj hM
  subst hE
  exact GS.ret ⟨_, rfl, ⟨30, rfl⟩⟩

theorem ok_tide_Value {c : api_Cycle} {tick : Int} {r : Int × Int} (hM : tide_Value c tick = some r) : Ct Tryz.prog 22 [(e_api_Cycle c), (V.i tick)] (V.tup [(V.i r.1), (V.i r.2)]) := by
  refine ct_of_gs CC_ok rfl ?_
  unfold tide_Value at hM
  refine GS.seq ?_
  refine GS.region ?_
  refine X.opW rfl rfl rfl rfl ?_
  iterate 2 refine X.opR rfl rfl rfl ?_
  refine GS.opsNil ?_
  iterate 2 refine GS.seq ?_
  obtain ⟨y, h_1, hM⟩ := bind_of hM
  refine GS.region ?_
  refine X.mid [(1, (V.i tick)), (2, (V.ptr 0 0 0)), (13, (V.b ((!y) || (!(tide_minute tick)))))] ?_ ?_
  · intro hg
    refine X.split (!y) (fun h_2 => ?_) (fun h_2 => ?_)
    · refine X.opR rfl rfl rfl ?_
      refine X.call (ok_tide_right h_1) rfl rfl rfl (.cons (.shut (n := 9) rfl) .nil) ?_
      iterate 2 refine X.opR rfl rfl rfl ?_
      iterate 3 refine X.off (X.off_f rfl rfl rfl h_2) rfl ?_
      refine X.opR rfl (X.pickor_t (y := !(tide_minute tick)) rfl h_2 rfl) rfl ?_
      refine GS.opsNil ?_
      exact X.norm _ hg rfl (W.sub_cons rfl (W.sub_cons rfl (W.sub_cons rfl W.sub_nil)))
    · refine X.opR rfl rfl rfl ?_
      refine X.call (ok_tide_right h_1) rfl rfl rfl (.cons (.shut (n := 9) rfl) .nil) ?_
      iterate 2 refine X.opR rfl rfl rfl ?_
      refine X.opR (X.on_f rfl rfl rfl h_2) rfl rfl ?_
      refine X.call (ok_tide_minute tick) (X.on_f rfl rfl rfl h_2) rfl rfl (.cons (.shut (n := 9) rfl) .nil) ?_
      refine X.opR (X.on_f rfl rfl rfl h_2) rfl rfl ?_
      refine X.opR rfl (X.pickor_f (y := !(tide_minute tick)) rfl h_2 rfl) rfl ?_
      refine GS.opsNil ?_
      exact X.norm _ hg rfl (W.sub_cons rfl (W.sub_cons rfl (W.sub_cons rfl W.sub_nil)))
  refine X.cond rfl (fun h_3 => ?_) (fun h_3 => ?_)
  · replace hM := ite_t h_3 hM
    refine GS.seq ?_
    refine GS.region ?_
    iterate 2 refine X.opR rfl rfl rfl ?_
    refine GS.opsNil ?_
    have hE := Option.some.inj hM
    subst hE
    exact GS.ret ⟨_, rfl, ⟨30, rfl⟩⟩
  · replace hM := ite_f h_3 hM
    refine GS.skip ?_
    refine GS.seq ?_
    obtain ⟨y1, h_4, hM⟩ := bind_of hM
    refine GS.region ?_
    iterate 2 refine X.opR rfl rfl rfl ?_
    refine X.call (ok_tide_value h_4) rfl rfl rfl (.cons (.shut (n := 9) rfl) (.cons (.shut (n := 9) rfl) .nil)) ?_
    iterate 2 refine X.opR rfl rfl rfl ?_
    refine GS.opsNil ?_
    have hE := Option.some.inj hM
    subst hE
    exact GS.ret ⟨_, rfl, ⟨30, rfl⟩⟩

theorem ok_tide_Check_1 (x : api_Cycle) (c : api_Cycle) : Ct Tryz.prog 84 [(e_api_Cycle x), (V.fptr [(e_api_Cycle c)] 0 0)] (V.b (tide_Check_1 x c)) := by
  refine ct_of_gs CC_ok rfl ?_
  generalize hM : tide_Check_1 x c = r
  unfold tide_Check_1 at hM
  refine GS.seq ?_
  refine GS.region ?_
  refine X.opW rfl rfl rfl rfl ?_
  refine X.opR rfl rfl rfl ?_
  refine GS.opsNil ?_
  refine GS.seq ?_
  refine GS.region ?_
  iterate 6 refine X.opR rfl rfl rfl ?_
  refine GS.opsNil ?_
  subst hM
  exact GS.ret ⟨_, rfl, ⟨30, rfl⟩⟩

theorem ok_slices_IndexFunc_api_Cycle__tide_Check_1 {s : (List api_Cycle)} {c : api_Cycle} {r : Int} (hM : slices_IndexFunc_api_Cycle__tide_Check_1 s c = some r) : Ct Tryz.prog 118 [(V.sl (List.map e_api_Cycle s)), (V.fn 84 [(V.fptr [(e_api_Cycle c)] 0 0)])] (V.i r) := by
  refine ct_of_gs CC_ok rfl ?_
  unfold slices_IndexFunc_api_Cycle__tide_Check_1 at hM
  refine GS.seq ?_
  refine GS.region ?_
  refine X.opR rfl rfl rfl ?_
  refine GS.opsNil ?_
  iterate 2 refine GS.seq ?_
  refine GS.region ?_
  refine X.opR rfl rfl rfl ?_
  refine X.opR rfl (X.lenF rfl rfl rfl) rfl ?_
  refine X.opR rfl rfl rfl ?_
  refine GS.opsNil ?_
  refine X.join (τ := Unit) (fun v => slices_IndexFunc_api_Cycle__tide_Check_1_j1 = some r) (fun v => ⟨[], [], 0, none, 19⟩) ?_ ?_
  · intro _ hM
    replace hM : slices_IndexFunc_api_Cycle__tide_Check_1_j1 = some r := hM
    unfold slices_IndexFunc_api_Cycle__tide_Check_1_j1 at hM
    refine GS.seq ?_
    refine GS.region ?_
    refine X.opR rfl rfl rfl ?_
    refine GS.opsNil ?_
    have hE := Option.some.inj hM
    subst hE
    exact GS.ret ⟨_, rfl, ⟨30, rfl⟩⟩
  · intro hj_1
    refine GS.block ?_
    refine X.gc [] (X.loop (σ := Int) (fun v => ⟨[(0, (V.sl (List.map e_api_Cycle s))), (1, (V.fn 84 [(V.fptr [(e_api_Cycle c)] 0 0)])), (7, (V.i (s.length : Int))), (8, (V.i v))], [], 0, none, 19⟩) hM ?_ rfl) rfl rfl rfl (gk_cons rfl ⟨9, rfl⟩ (gk_cons rfl ⟨9, rfl⟩ (gk_cons rfl ⟨9, rfl⟩ (gk_cons rfl ⟨9, rfl⟩ gk_nil)))) (gb_nil)
    intro x1 b_1 hM hc_2 hr_1
    rw [slices_IndexFunc_api_Cycle__tide_Check_1_b2] at hM
    refine GS.seq ?_
    refine GS.region ?_
    refine X.opR rfl rfl rfl ?_
    refine GS.opsNil ?_
    refine GS.seq ?_
    refine X.cond rfl (fun h_1 => ?_) (fun h_1 => ?_)
    · replace hM := ite_t h_1 hM
      refine GS.skip ?_
      refine GS.seq ?_
      refine GS.block ?_
      refine GS.seq ?_
      refine GS.region ?_
      iterate 2 refine X.opR rfl rfl rfl ?_
      refine GS.opsNil ?_
      refine GS.seq ?_
      obtain ⟨x, h_2, hM⟩ := bind_of hM
      refine GS.region ?_
      iterate 3 refine X.opR rfl rfl rfl ?_
      refine X.opR rfl (X.indexF (f := e_api_Cycle) h_2 (fun _ => rfl) rfl rfl rfl rfl) rfl ?_
      refine X.opR rfl (X.loadF h_2 rfl rfl rfl) rfl ?_
      refine X.call (ok_tide_Check_1 x c) rfl rfl rfl (.cons (.shut (n := 9) rfl) (.cons (.shut (n := 9) rfl) .nil)) ?_
      refine GS.opsNil ?_
      refine X.cond rfl (fun h_3 => ?_) (fun h_3 => ?_)
      · replace hM := ite_t h_3 hM
        refine GS.seq ?_
        refine GS.region ?_
        iterate 2 refine X.opR rfl rfl rfl ?_
        refine GS.opsNil ?_
        have hE := Option.some.inj hM
        replace hE := hr_1 _ hE.symm
        subst hE
        exact GS.ret ⟨_, rfl, ⟨30, rfl⟩⟩
      · replace hM := ite_f h_3 hM
        refine GS.skip ?_
        refine GS.endB ?_
        refine GS.region ?_
        refine X.opR rfl (X.addE rfl rfl) rfl ?_
        refine X.opR rfl rfl rfl ?_
        refine GS.opsNil ?_
        have hE := Option.some.inj hM
        exact X.gc [] (hc_2 (w64 (x1 + 1)) hE.symm) rfl rfl rfl (gk_cons rfl ⟨9, rfl⟩ (gk_cons rfl ⟨9, rfl⟩ (gk_cons rfl ⟨9, rfl⟩ (gk_cons rfl ⟨9, rfl⟩ gk_nil)))) (gb_nil)
    · replace hM := ite_f h_1 hM
      refine GS.exit rfl ?_
      obtain ⟨y_1, hM, hy⟩ := map_of hM
      rw [hr_1 _ hy.symm] at hM
      exact X.gc [] (hj_1 () hM) rfl rfl rfl (gk_nil) (gb_nil)

theorem ok_slices_ContainsFunc_api_Cycle__tide_Check_1 {s : (List api_Cycle)} {c : api_Cycle} {r : Bool} (hM : slices_ContainsFunc_api_Cycle__tide_Check_1 s c = some r) : Ct Tryz.prog 83 [(V.sl (List.map e_api_Cycle s)), (V.fn 84 [(V.fptr [(e_api_Cycle c)] 0 0)])] (V.b r) := by
  refine ct_of_gs CC_ok rfl ?_
  unfold slices_ContainsFunc_api_Cycle__tide_Check_1 at hM
  refine GS.seq ?_
  refine GS.region ?_
  refine X.opR rfl rfl rfl ?_
  refine GS.opsNil ?_
  refine GS.seq ?_
  obtain ⟨y, h_1, hM⟩ := bind_of hM
  refine GS.region ?_
  iterate 2 refine X.opR rfl rfl rfl ?_
  refine X.call (ok_slices_IndexFunc_api_Cycle__tide_Check_1 h_1) rfl rfl rfl (.cons (.shut (n := 9) rfl) (.cons (.shut (n := 9) rfl) .nil)) ?_
  iterate 2 refine X.opR rfl rfl rfl ?_
  refine GS.opsNil ?_
  have hE := Option.some.inj hM
  subst hE
  exact GS.ret ⟨_, rfl, ⟨30, rfl⟩⟩

set_option maxHeartbeats 4000000 in
theorem ok_tide_Check {w : api_Water} {r : Int} (hM : tide_Check w = some r) : Ct Tryz.prog 57 [(e_api_Water w)] (V.i r) := by
  refine ct_of_gs CC_ok rfl ?_
  unfold tide_Check at hM
  refine GS.seq ?_
  refine GS.region ?_
  refine X.opW rfl rfl rfl rfl ?_
  refine X.opR rfl rfl rfl ?_
  refine GS.opsNil ?_
  refine GS.seq ?_
  refine GS.block ?_
  refine GS.seq ?_
  refine GS.region ?_
  iterate 2 refine X.opR rfl rfl rfl ?_
  refine X.call (ok_tide_level w.Level) rfl rfl rfl (.cons (.shut (n := 9) rfl) .nil) ?_
  iterate 2 refine X.opR rfl rfl rfl ?_
  refine GS.opsNil ?_
  refine X.cond rfl (fun h_1 => ?_) (fun h_1 => ?_)
  · replace hM := ite_t h_1 hM
    refine GS.seq ?_
    refine GS.region ?_
    refine X.opR rfl rfl rfl ?_
    refine GS.opsNil ?_
    have hE := Option.some.inj hM
    subst hE
    exact GS.ret ⟨_, rfl, ⟨30, rfl⟩⟩
  · replace hM := ite_f h_1 hM
    refine GS.seq ?_
    refine GS.region ?_
    refine X.mid [(1, (V.ptr 0 0 0)), (13, (V.b ((decide (6 < (w.Cycles.length : Int))) || (decide (20 < (w.Shifts.length : Int))))))] ?_ ?_
    · intro hg
      refine X.split (decide (6 < (w.Cycles.length : Int))) (fun h_2 => ?_) (fun h_2 => ?_)
      · iterate 2 refine X.opR rfl rfl rfl ?_
        refine X.opR rfl (X.lenF rfl rfl rfl) rfl ?_
        iterate 2 refine X.opR rfl rfl rfl ?_
        iterate 4 refine X.off (X.off_f rfl rfl rfl h_2) rfl ?_
        refine X.opR rfl (X.pickor_t (y := decide (20 < (w.Shifts.length : Int))) rfl h_2 rfl) rfl ?_
        refine X.opR rfl rfl rfl ?_
        refine GS.opsNil ?_
        exact X.norm _ hg rfl (W.sub_cons rfl (W.sub_cons rfl W.sub_nil))
      · iterate 2 refine X.opR rfl rfl rfl ?_
        refine X.opR rfl (X.lenF rfl rfl rfl) rfl ?_
        iterate 2 refine X.opR rfl rfl rfl ?_
        iterate 2 refine X.opR (X.on_f rfl rfl rfl h_2) rfl rfl ?_
        refine X.opR (X.on_f rfl rfl rfl h_2) (X.lenF rfl rfl rfl) rfl ?_
        refine X.opR (X.on_f rfl rfl rfl h_2) rfl rfl ?_
        refine X.opR rfl (X.pickor_f (y := decide (20 < (w.Shifts.length : Int))) rfl h_2 rfl) rfl ?_
        refine X.opR rfl rfl rfl ?_
        refine GS.opsNil ?_
        exact X.norm _ hg rfl (W.sub_cons rfl (W.sub_cons rfl W.sub_nil))
    refine X.cond rfl (fun h_3 => ?_) (fun h_3 => ?_)
    · replace hM := ite_t h_3 hM
      refine GS.seq ?_
      refine GS.region ?_
      refine X.opR rfl rfl rfl ?_
      refine GS.opsNil ?_
      have hE := Option.some.inj hM
      subst hE
      exact GS.ret ⟨_, rfl, ⟨30, rfl⟩⟩
    · replace hM := ite_f h_3 hM
      refine GS.skip ?_
      refine GS.endB ?_
      iterate 2 refine GS.seq ?_
      refine GS.region ?_
      iterate 2 refine X.opR rfl rfl rfl ?_
      refine X.opR rfl (X.lenF rfl rfl rfl) rfl ?_
      refine X.opR rfl rfl rfl ?_
      refine GS.opsNil ?_
      refine X.join (τ := Unit) (fun v => tide_Check_j1 w = some r) (fun v => ⟨[(1, (V.ptr 0 0 0))], [.rows 3 [(e_api_Water w)]], 0, none, 71⟩) ?_ ?_
      · intro _ hM
        replace hM : tide_Check_j1 w = some r := hM
        unfold tide_Check_j1 at hM
        refine GS.seq ?_
        refine GS.region ?_
        refine X.opR rfl rfl rfl ?_
        refine GS.opsNil ?_
        iterate 2 refine GS.seq ?_
        refine GS.region ?_
        iterate 2 refine X.opR rfl rfl rfl ?_
        refine X.opR rfl (X.lenF rfl rfl rfl) rfl ?_
        refine X.opR rfl rfl rfl ?_
        refine GS.opsNil ?_
        refine X.join (τ := Unit) (fun v => tide_Check_j2 = some r) (fun v => ⟨[], [], 0, none, 71⟩) ?_ ?_
        · intro _ hM
          replace hM : tide_Check_j2 = some r := hM
          unfold tide_Check_j2 at hM
          refine GS.seq ?_
          refine GS.region ?_
          refine X.opR rfl rfl rfl ?_
          refine GS.opsNil ?_
          have hE := Option.some.inj hM
          subst hE
          exact GS.ret ⟨_, rfl, ⟨30, rfl⟩⟩
        · intro hj_2
          refine GS.block ?_
          refine X.gc [] (X.loop (σ := (Int × Int)) (fun v => ⟨[(5, (V.i v.1)), (43, (V.sl (List.map e_api_Shift w.Shifts))), (44, (V.i (w.Shifts.length : Int))), (45, (V.i v.2))], [], 0, none, 71⟩) hM ?_ rfl) rfl rfl rfl (gk_cons rfl ⟨9, rfl⟩ (gk_cons rfl ⟨9, rfl⟩ (gk_cons rfl ⟨9, rfl⟩ (gk_cons rfl ⟨9, rfl⟩ gk_nil)))) (gb_nil)
          rintro ⟨last, x1⟩ b_1 hM hc_3 hr_1
          rw [tide_Check_b3] at hM
          refine GS.seq ?_
          refine GS.region ?_
          refine X.opR rfl rfl rfl ?_
          refine GS.opsNil ?_
          refine GS.seq ?_
          refine X.cond rfl (fun h_4 => ?_) (fun h_4 => ?_)
          · replace hM := ite_t h_4 hM
            refine GS.skip ?_
            refine GS.seq ?_
            refine GS.block ?_
            refine GS.seq ?_
            obtain ⟨x, h_5, hM⟩ := bind_of hM
            refine GS.region ?_
            refine X.opR rfl (X.indexF (f := e_api_Shift) h_5 (fun _ => rfl) rfl rfl rfl rfl) rfl ?_
            refine X.opR rfl (X.loadF h_5 rfl rfl rfl) rfl ?_
            refine X.opW rfl rfl rfl rfl ?_
            refine X.op0W rfl rfl rfl ?_
            refine GS.opsNil ?_
            iterate 2 refine GS.seq ?_
            refine GS.region ?_
            refine X.mid [(7, (V.ptr 0 0 0)), (43, (V.sl (List.map e_api_Shift w.Shifts))), (44, (V.i (w.Shifts.length : Int))), (45, (V.i x1)), (67, (V.b (((!(tide_within x.From (w64 (last + 1)) x.To)) || (decide (728 < x.To))) || (!(tide_level x.Add)))))] ?_ ?_
            · intro hg
              refine X.split (!(tide_within x.From (w64 (last + 1)) x.To)) (fun h_6 => ?_) (fun h_6 => ?_)
              · iterate 3 refine X.opR rfl rfl rfl ?_
                refine X.opR rfl (X.addE rfl rfl) rfl ?_
                iterate 2 refine X.opR rfl rfl rfl ?_
                refine X.call (ok_tide_within x.From (w64 (last + 1)) x.To) rfl rfl rfl (.cons (.shut (n := 9) rfl) (.cons (.shut (n := 9) rfl) (.cons (.shut (n := 9) rfl) .nil))) ?_
                iterate 2 refine X.opR rfl rfl rfl ?_
                iterate 3 refine X.off (X.off_f rfl rfl rfl h_6) rfl ?_
                refine X.opR rfl (X.pickor_t (y := decide (728 < x.To)) rfl h_6 rfl) rfl ?_
                refine X.opR rfl rfl rfl ?_
                iterate 4 refine X.off (X.off_f rfl rfl rfl (X.or_tt h_6)) rfl ?_
                refine X.opR rfl (X.pickor_t (y := !(tide_level x.Add)) rfl (X.or_tt h_6) rfl) rfl ?_
                refine GS.opsNil ?_
                exact X.norm _ hg rfl (W.sub_cons rfl (W.sub_cons rfl (W.sub_cons rfl (W.sub_cons rfl (W.sub_cons rfl W.sub_nil)))))
              · refine X.split (((!(tide_within x.From (w64 (last + 1)) x.To)) || (decide (728 < x.To)))) (fun h_7 => ?_) (fun h_7 => ?_)
                · iterate 3 refine X.opR rfl rfl rfl ?_
                  refine X.opR rfl (X.addE rfl rfl) rfl ?_
                  iterate 2 refine X.opR rfl rfl rfl ?_
                  refine X.call (ok_tide_within x.From (w64 (last + 1)) x.To) rfl rfl rfl (.cons (.shut (n := 9) rfl) (.cons (.shut (n := 9) rfl) (.cons (.shut (n := 9) rfl) .nil))) ?_
                  iterate 2 refine X.opR rfl rfl rfl ?_
                  iterate 3 refine X.opR (X.on_f rfl rfl rfl h_6) rfl rfl ?_
                  refine X.opR rfl (X.pickor_f (y := decide (728 < x.To)) rfl h_6 rfl) rfl ?_
                  refine X.opR rfl rfl rfl ?_
                  iterate 4 refine X.off (X.off_f rfl rfl rfl h_7) rfl ?_
                  refine X.opR rfl (X.pickor_t (y := !(tide_level x.Add)) rfl h_7 rfl) rfl ?_
                  refine GS.opsNil ?_
                  exact X.norm _ hg rfl (W.sub_cons rfl (W.sub_cons rfl (W.sub_cons rfl (W.sub_cons rfl (W.sub_cons rfl W.sub_nil)))))
                · iterate 3 refine X.opR rfl rfl rfl ?_
                  refine X.opR rfl (X.addE rfl rfl) rfl ?_
                  iterate 2 refine X.opR rfl rfl rfl ?_
                  refine X.call (ok_tide_within x.From (w64 (last + 1)) x.To) rfl rfl rfl (.cons (.shut (n := 9) rfl) (.cons (.shut (n := 9) rfl) (.cons (.shut (n := 9) rfl) .nil))) ?_
                  iterate 2 refine X.opR rfl rfl rfl ?_
                  iterate 3 refine X.opR (X.on_f rfl rfl rfl h_6) rfl rfl ?_
                  refine X.opR rfl (X.pickor_f (y := decide (728 < x.To)) rfl h_6 rfl) rfl ?_
                  refine X.opR rfl rfl rfl ?_
                  iterate 2 refine X.opR (X.on_f rfl rfl rfl h_7) rfl rfl ?_
                  refine X.call (ok_tide_level x.Add) (X.on_f rfl rfl rfl h_7) rfl rfl (.cons (.shut (n := 9) rfl) .nil) ?_
                  refine X.opR (X.on_f rfl rfl rfl h_7) rfl rfl ?_
                  refine X.opR rfl (X.pickor_f (y := !(tide_level x.Add)) rfl h_7 rfl) rfl ?_
                  refine GS.opsNil ?_
                  exact X.norm _ hg rfl (W.sub_cons rfl (W.sub_cons rfl (W.sub_cons rfl (W.sub_cons rfl (W.sub_cons rfl W.sub_nil)))))
            refine X.cond rfl (fun h_8 => ?_) (fun h_8 => ?_)
            · replace hM := ite_t h_8 hM
              refine GS.seq ?_
              refine GS.region ?_
              refine X.opR rfl rfl rfl ?_
              refine GS.opsNil ?_
              have hE := Option.some.inj hM
              replace hE := hr_1 _ hE.symm
              subst hE
              exact GS.ret ⟨_, rfl, ⟨30, rfl⟩⟩
            · replace hM := ite_f h_8 hM
              refine GS.skip ?_
              refine GS.region ?_
              iterate 3 refine X.opR rfl rfl rfl ?_
              refine GS.opsNil ?_
              refine GS.endB ?_
              refine GS.region ?_
              refine X.opR rfl (X.addE rfl rfl) rfl ?_
              refine X.opR rfl rfl rfl ?_
              refine GS.opsNil ?_
              have hE := Option.some.inj hM
              exact X.gc [] (hc_3 (x.To, w64 (x1 + 1)) hE.symm) rfl rfl rfl (gk_cons rfl ⟨9, rfl⟩ (gk_cons rfl ⟨9, rfl⟩ (gk_cons rfl ⟨9, rfl⟩ (gk_cons rfl ⟨9, rfl⟩ gk_nil)))) (gb_nil)
          · replace hM := ite_f h_4 hM
            refine GS.exit rfl ?_
            obtain ⟨y_1, hM, hy⟩ := map_of hM
            rw [hr_1 _ hy.symm] at hM
            exact X.gc [] (hj_2 () hM) rfl rfl rfl (gk_nil) (gb_nil)
      · intro hj_1
        refine GS.block ?_
        refine X.gc [some 0] (X.loop (σ := Int) (fun v => ⟨[(1, (V.ptr 0 0 0)), (25, (V.sl (List.map e_api_Cycle w.Cycles))), (26, (V.i (w.Cycles.length : Int))), (27, (V.i v))], [.rows 3 [(e_api_Water w)]], 0, none, 71⟩) hM ?_ rfl) rfl rfl rfl (gk_cons rfl ⟨9, rfl⟩ (gk_cons rfl ⟨9, rfl⟩ (gk_cons rfl ⟨9, rfl⟩ (gk_cons rfl ⟨9, rfl⟩ gk_nil)))) (gb_box rfl rfl ⟨9, rfl⟩ gb_nil)
        intro x3 b_1 hM hc_4 hr_1
        rw [tide_Check_b4] at hM
        refine GS.seq ?_
        refine GS.region ?_
        refine X.opR rfl rfl rfl ?_
        refine GS.opsNil ?_
        refine GS.seq ?_
        refine X.cond rfl (fun h_9 => ?_) (fun h_9 => ?_)
        · replace hM := ite_t h_9 hM
          refine GS.skip ?_
          refine GS.seq ?_
          refine GS.block ?_
          refine GS.seq ?_
          obtain ⟨x2, h_10, hM⟩ := bind_of hM
          refine GS.region ?_
          refine X.opR rfl rfl rfl ?_
          refine X.opR rfl (X.indexF (f := e_api_Cycle) h_10 (fun _ => rfl) rfl rfl rfl rfl) rfl ?_
          refine X.opR rfl (X.loadF h_10 rfl rfl rfl) rfl ?_
          refine X.opW rfl rfl rfl rfl ?_
          refine X.opR rfl rfl rfl ?_
          refine X.op0W rfl rfl rfl ?_
          refine GS.opsNil ?_
          iterate 2 refine GS.seq ?_
          obtain ⟨y, h_11, hM⟩ := bind_of hM
          refine GS.region ?_
          refine X.opR rfl rfl rfl ?_
          refine X.call (ok_tide_right h_11) rfl rfl rfl (.cons (.shut (n := 9) rfl) .nil) ?_
          refine X.opR rfl rfl rfl ?_
          refine GS.opsNil ?_
          refine X.cond rfl (fun h_12 => ?_) (fun h_12 => ?_)
          · replace hM := ite_t h_12 hM
            refine GS.seq ?_
            refine GS.region ?_
            refine X.opR rfl rfl rfl ?_
            refine GS.opsNil ?_
            have hE := Option.some.inj hM
            replace hE := hr_1 _ hE.symm
            subst hE
            exact GS.ret ⟨_, rfl, ⟨30, rfl⟩⟩
          · replace hM := ite_f h_12 hM
            refine GS.skip ?_
            refine GS.seq ?_
            obtain ⟨l, h_13, hM⟩ := bind_of hM
            obtain ⟨y1, h_14, hM⟩ := bind_of hM
            refine GS.region ?_
            iterate 3 refine X.opR rfl rfl rfl ?_
            refine X.opR rfl (X.sliceF (f := e_api_Cycle) h_13 (fun _ => rfl) rfl rfl rfl rfl rfl rfl (X.boundA_int rfl)) rfl ?_
            refine X.opR rfl rfl rfl ?_
            refine X.callF (ok_slices_ContainsFunc_api_Cycle__tide_Check_1 h_14) rfl rfl rfl (m := 9) rfl (.cons (.shut (n := 9) rfl) (.cons (FR.arg ⟨30, rfl⟩) .nil)) ?_
            refine GS.opsNil ?_
            refine X.cond rfl (fun h_15 => ?_) (fun h_15 => ?_)
            · replace hM := ite_t h_15 hM
              refine GS.seq ?_
              refine GS.region ?_
              refine X.opR rfl rfl rfl ?_
              refine GS.opsNil ?_
              have hE := Option.some.inj hM
              replace hE := hr_1 _ hE.symm
              subst hE
              exact GS.ret ⟨_, rfl, ⟨30, rfl⟩⟩
            · replace hM := ite_f h_15 hM
              refine GS.skip ?_
              refine GS.endB ?_
              refine GS.region ?_
              refine X.opR rfl (X.addE rfl rfl) rfl ?_
              refine X.opR rfl rfl rfl ?_
              refine GS.opsNil ?_
              have hE := Option.some.inj hM
              exact X.gc [some 0] (hc_4 (w64 (x3 + 1)) hE.symm) rfl rfl rfl (gk_cons rfl ⟨9, rfl⟩ (gk_cons rfl ⟨9, rfl⟩ (gk_cons rfl ⟨9, rfl⟩ (gk_cons rfl ⟨9, rfl⟩ gk_nil)))) (gb_box rfl rfl ⟨9, rfl⟩ gb_nil)
        · replace hM := ite_f h_9 hM
          refine GS.exit rfl ?_
          obtain ⟨y_1, hM, hy⟩ := map_of hM
          rw [hr_1 _ hy.symm] at hM
          exact X.gc [some 0] (hj_1 () hM) rfl rfl rfl (gk_cons rfl ⟨9, rfl⟩ gk_nil) (gb_box rfl rfl ⟨9, rfl⟩ gb_nil)


def partKeys (n : Nat) : List V := V.i (-1) :: (List.range n).map fun i => V.i (i : Nat)
/-- The map of a water's parts. -/
def e_parts (w : api_Water) : V := .fmap (partKeys w.Cycles.length) (.fn 89 [.fptr [e_api_Water w] 0 0] :: w.Cycles.map fun c => .fn 91 [.fptr [e_api_Cycle c] 0 0])

theorem findA_range : ∀ (n a : Nat) (i : Int) (k : Nat), a ≤ i → i < a + n → findA (.i i) ((List.range' a n).map fun i => V.i (i : Nat)) k = some (some (k + (i.toNat - a)))
  | 0, a, i, k, h1, h2 => by omega
  | n + 1, a, i, k, h1, h2 => by
    simp only [List.range'_succ, List.map_cons, findA, keyEq, kindEq, if_true]
    by_cases h : i = a
    · subst h; simp
    · have ih := findA_range n (a + 1) i (k + 1) (by omega) (by omega)
      simp only [h, decide_false, ih]
      congr 2
      omega
theorem findA_none : ∀ (n a : Nat) (i : Int) (k : Nat), (i < a ∨ a + n ≤ i) → findA (.i i) ((List.range' a n).map fun i => V.i (i : Nat)) k = some none
  | 0, a, i, k, h => by simp [findA]
  | n + 1, a, i, k, h => by
    simp only [List.range'_succ, List.map_cons, findA, keyEq, kindEq, if_true]
    have h1 : ¬ i = a := by omega
    simp only [h1, decide_false]
    exact findA_none n (a + 1) i (k + 1) (by omega)
theorem look_parts_m {K : List (Nat × V)} {H : List Blk} {lo nid : Nat} {xo ko : Operand} {w : api_Water} {i : Int} (h : decide (i = -1) = true) (hx : kev K xo = some (e_parts w)) (hk : kev K ko = some (.i i)) : opEff CC K H lo nid (.lookup 115 xo ko false) = some ⟨.fn 89 [.fptr [e_api_Water w] 0 0], [], []⟩ := by
  have h1 : i = -1 := by simpa using h
  subst h1
  simp only [opEff, effLookup, hx, hk]
  rfl
theorem look_parts_i {K : List (Nat × V)} {H : List Blk} {lo nid : Nat} {xo ko : Operand} {w : api_Water} {i : Int} {c : api_Cycle} (h : ix w.Cycles i = some c) (hx : kev K xo = some (e_parts w)) (hk : kev K ko = some (.i i)) : opEff CC K H lo nid (.lookup 115 xo ko false) = some ⟨.fn 91 [.fptr [e_api_Cycle c] 0 0], [], []⟩ := by
  obtain ⟨h0, h1, h2⟩ := ix_of h
  have hf := findA_range w.Cycles.length 0 i 1 (by omega) (by omega)
  have hne : ¬ i = -1 := by omega
  simp only [opEff, effLookup, hx, hk]
  unfold lookA e_parts
  have hm : mapTI CC 115 = some (.int .i64, t92) := rfl
  simp only [hm, keyOK, kindEq, cond_true, lookIn, partKeys, findA, keyEq, if_true, hne, decide_false]
  rw [List.range_eq_range', hf]
  simp only [Nat.sub_zero]
  rw [show 1 + i.toNat = i.toNat + 1 by omega]
  simp only [Am.get]
  rw [get_eq, List.getElem?_map, h2]
  rfl
theorem partKeys_eq (n : Nat) : partKeys n = (((-1 : Int) :: (List.range n).map fun (i : Nat) => (i : Int))).map V.i := by simp [partKeys]
theorem partKeys_succ (n : Nat) : partKeys (n + 1) = partKeys n ++ [V.i (n : Nat)] := by simp [partKeys, List.range_succ]
def partOwn (n : Nat) : List V := .fn 89 [.ptr 0 0 0] :: (List.range n).map fun i => .fn 91 [.ptr (i + 2) 0 0]
theorem partOwn_succ (n : Nat) : partOwn (n + 1) = partOwn n ++ [.fn 91 [.ptr (n + 2) 0 0]] := by simp [partOwn, List.range_succ]
def partRows (w : api_Water) (i : Nat) : List Blk := (w.Cycles.take i).map fun c => .rows 4 [e_api_Cycle c]
def partH (w : api_Water) (i : Nat) : List Blk := .rows 3 [e_api_Water w] :: .map (partKeys i) (partOwn i) :: partRows w i
theorem partH_len (w : api_Water) (i : Nat) (h : i ≤ w.Cycles.length) : (partH w i).length = i + 2 := by simp [partH, partRows]; omega
theorem partH_succ (w : api_Water) (i : Nat) (c : api_Cycle) (h : w.Cycles[i]? = some c) : hput (partH w i ++ [.rows 4 [e_api_Cycle c]]) 1 (.map (partKeys (i + 1)) (partOwn (i + 1))) = partH w (i + 1) := by
  simp only [partH, List.cons_append, hput, partRows, List.take_add_one, h, List.map_append]
  rfl
theorem partRow_get (w : api_Water) (j : Nat) (c : api_Cycle) (h : w.Cycles[j]? = some c) : hget (partH w w.Cycles.length) (j + 2) = .rows 4 [e_api_Cycle c] := by
  simp only [hget, partH, Am.get, partRows, List.take_length]
  rw [get_eq, List.getElem?_map, h]
  rfl
theorem part_frz (w : api_Water) : ∃ n, frz (partH w w.Cycles.length) 0 n (.map 1) = some (e_parts w) := by
  refine ⟨9, ?_⟩
  have h1 : mapO (frz (partH w w.Cycles.length) 0 8) (partKeys w.Cycles.length) = some (partKeys w.Cycles.length) := by
    rw [partKeys_eq]; exact mapO_self (g := frz (partH w w.Cycles.length) 0 8) (f := V.i) (fun _ => rfl) _
  have h2 : ∀ l : List Nat, (∀ j ∈ l, j < w.Cycles.length) → mapO (frz (partH w w.Cycles.length) 0 8) (l.map fun i => .fn 91 [.ptr (i + 2) 0 0]) = some (l.map fun i => .fn 91 [.fptr [e_api_Cycle (w.Cycles.getD i default)] 0 0]) := by
    intro l
    induction l with
    | nil => intro _; rfl
    | cons j r ih =>
      intro h
      have hj := h j List.mem_cons_self
      have hg := partRow_get w j (w.Cycles.getD j default) (by rw [List.getD_eq_getElem?_getD, List.getElem?_eq_getElem hj]; rfl)
      have h3 : frz (partH w w.Cycles.length) 0 8 (.fn 91 [.ptr (j + 2) 0 0]) = some (.fn 91 [.fptr [e_api_Cycle (w.Cycles.getD j default)] 0 0]) := by
        exact X.frzFn (X.mapO1 (X.frzPtr hg rfl))
      simp only [List.map_cons, mapO, h3, ih (fun x hx => h x (List.mem_cons_of_mem _ hx))]
  have h4 := h2 (List.range w.Cycles.length) (fun j hj => List.mem_range.1 hj)
  have h5 : mapO (frz (partH w w.Cycles.length) 0 8) (partOwn w.Cycles.length) = some (.fn 89 [.fptr [e_api_Water w] 0 0] :: w.Cycles.map fun c => .fn 91 [.fptr [e_api_Cycle c] 0 0]) := by
    have h6 : frz (partH w w.Cycles.length) 0 8 (.fn 89 [.ptr 0 0 0]) = some (.fn 89 [.fptr [e_api_Water w] 0 0]) := rfl
    simp only [partOwn, mapO, h6, h4]
    congr 2
    refine List.ext_getElem (by simp) fun i h1 h2 => ?_
    simp only [List.length_map] at h2
    simp [List.getD_eq_getElem?_getD, h2]
  exact X.frzMap rfl h1 h5

theorem ok_tide_parts {w r : api_Water} (hM : tide_parts w = some r) : Ct Tryz.prog 65 [e_api_Water w] (e_parts r) := by
  have hlen : w.Cycles.length ≤ 9223372036854775807 ∧ r = w := by
    unfold tide_parts at hM
    split at hM
    · exact ⟨by assumption, (Option.some.inj hM).symm⟩
    · cases hM
  obtain ⟨hlen, rfl⟩ := hlen
  refine ct_of_gs CC_ok rfl ?_
  refine GS.seq ?_
  refine GS.region ?_
  refine X.opW rfl rfl rfl rfl ?_
  refine X.opR rfl rfl rfl ?_
  refine GS.opsNil ?_
  refine GS.seq ?_
  refine GS.region ?_
  refine X.opW rfl rfl rfl rfl ?_
  refine X.opR rfl rfl rfl ?_
  refine X.op0W rfl rfl rfl ?_
  iterate 2 refine X.opR rfl rfl rfl ?_
  refine GS.opsNil ?_
  iterate 2 refine GS.seq ?_
  refine GS.region ?_
  iterate 2 refine X.opR rfl rfl rfl ?_
  refine X.opR rfl (X.lenF rfl rfl rfl) rfl ?_
  refine X.opR rfl rfl rfl ?_
  refine GS.opsNil ?_
  refine GS.block ?_
  refine X.norm (H' := partH r 0) [(12, V.i (0 : Nat)), (11, V.i (r.Cycles.length : Nat)), (10, V.sl (r.Cycles.map e_api_Cycle)), (3, V.map 1)] ?_ rfl (W.sub_cons rfl (W.sub_cons rfl (W.sub_cons rfl (W.sub_cons rfl W.sub_nil))))
  refine X.loopI (fun i => ⟨[(12, V.i (i : Nat)), (11, V.i (r.Cycles.length : Nat)), (10, V.sl (r.Cycles.map e_api_Cycle)), (3, V.map 1)], partH r i, 0, none, 22⟩) r.Cycles.length (fun i hi IH => ?_) ?_
  · obtain ⟨c, hc⟩ : ∃ c, r.Cycles[i]? = some c := ⟨_, List.getElem?_eq_getElem hi⟩
    have hix : ix r.Cycles (i : Int) = some c := by unfold ix; rw [if_pos (by omega)]; simpa using hc
    refine GS.seq ?_
    refine GS.region ?_
    refine X.opR rfl rfl rfl ?_
    refine GS.opsNil ?_
    refine GS.seq ?_
    refine X.cond rfl (fun h => ?_) (fun h => ?_)
    · refine GS.skip ?_
      refine GS.seq ?_
      refine GS.block ?_
      refine GS.seq ?_
      refine GS.region ?_
      refine X.opR rfl rfl rfl ?_
      refine X.opR rfl (X.indexF (f := e_api_Cycle) hix (fun _ => rfl) rfl rfl rfl rfl) rfl ?_
      refine X.opR rfl (X.loadF hix rfl rfl rfl) rfl ?_
      refine X.opW rfl rfl X.puts_end rfl ?_
      refine X.opR rfl rfl rfl ?_
      refine X.op0W rfl (X.storeEnd (v := e_api_Cycle c) (r := e_api_Cycle c) rfl rfl rfl rfl rfl) X.puts_end' ?_
      refine GS.opsNil ?_
      refine GS.region ?_
      iterate 3 refine X.opR rfl rfl rfl ?_
      refine X.op0W rfl (X.mapPutNew (kd := .int .i64) (kv := V.i (i : Nat)) (vv := .fn 91 [.ptr (partH r i).length 0 0]) (ks := partKeys i) (vs := partOwn i) rfl rfl rfl rfl rfl rfl (by rw [partKeys_eq]; exact X.findA_miss _ _ _ (by simp; omega))) rfl ?_
      refine GS.opsNil ?_
      refine GS.endB ?_
      refine GS.region ?_
      refine X.opR rfl (X.addE rfl rfl) rfl ?_
      refine X.opR rfl rfl rfl ?_
      refine GS.opsNil ?_
      refine X.normH _ IH rfl ?_ (X.sub_eq rfl ?_ (W.sub_cons rfl (W.sub_cons rfl (W.sub_cons rfl W.sub_nil))))
      · rw [← partH_succ r i c hc]
        simp only [puts]
        have e1 : insAt (V.i (i : Nat)) (partKeys i) = (partKeys i).length := by
          rw [partKeys_eq, X.insAt_end _ _ (by simp; omega), List.length_map]
        have e2 : (partKeys i).length = (partOwn i).length := by simp [partKeys, partOwn]
        rw [e1, X.ins_end, e2, X.ins_end, ← partKeys_succ, partH_len r i (by omega), ← partOwn_succ]
        rfl
      · rw [w64_id (by omega) (by omega)]; rfl
    · simp only [decide_eq_false_iff_not] at h
      exact absurd (by omega) h
  · refine GS.seq ?_
    refine GS.region ?_
    refine X.opR rfl rfl rfl ?_
    refine GS.opsNil ?_
    refine GS.seq ?_
    refine X.cond rfl (fun h => ?_) (fun h => ?_)
    · simp at h
    · refine GS.exit rfl ?_
      refine GS.seq ?_
      refine GS.region ?_
      iterate 2 refine X.opR rfl rfl rfl ?_
      refine GS.opsNil ?_
      exact GS.ret ⟨_, rfl, part_frz r⟩

theorem ok_tide_heights {w : api_Water} {r : api_Water × api_Water} (hM : tide_heights w = some r) : Ct Tryz.prog 58 [(e_api_Water w)] (V.fn 85 [(V.fptr [(e_api_Water r.1)] 0 0), (V.fptr [(e_parts r.2)] 0 0)]) := by
  refine ct_of_gs CC_ok rfl ?_
  unfold tide_heights at hM
  refine GS.seq ?_
  refine GS.region ?_
  refine X.opW rfl rfl rfl rfl ?_
  refine X.opR rfl rfl rfl ?_
  refine GS.opsNil ?_
  refine GS.seq ?_
  obtain ⟨y, h_1, hM⟩ := bind_of hM
  refine GS.region ?_
  refine X.opR rfl rfl rfl ?_
  refine X.call (ok_tide_parts h_1) rfl rfl rfl (.cons (.shut (n := 9) rfl) .nil) ?_
  refine X.opW rfl rfl rfl rfl ?_
  refine X.op0W rfl rfl rfl ?_
  refine GS.opsNil ?_
  refine GS.seq ?_
  refine GS.region ?_
  iterate 2 refine X.opR rfl rfl rfl ?_
  refine GS.opsNil ?_
  have hE := Option.some.inj hM
  subst hE
  exact GS.ret ⟨_, rfl, ⟨30, rfl⟩⟩

theorem ok_tide_correction {w : api_Water} {tick : Int} {r : Int} (hM : tide_correction w tick = some r) : Ct Tryz.prog 90 [(e_api_Water w), (V.i tick)] (V.i r) := by
  refine ct_of_gs CC_ok rfl ?_
  unfold tide_correction at hM
  refine GS.seq ?_
  refine GS.region ?_
  refine X.opW rfl rfl rfl rfl ?_
  refine X.opR rfl rfl rfl ?_
  refine GS.opsNil ?_
  iterate 2 refine GS.seq ?_
  refine GS.region ?_
  iterate 2 refine X.opR rfl rfl rfl ?_
  refine X.opR rfl (X.lenF rfl rfl rfl) rfl ?_
  refine X.opR rfl rfl rfl ?_
  refine GS.opsNil ?_
  refine X.join (τ := Unit) (fun v => tide_correction_j1 = some r) (fun v => ⟨[], [], 0, none, 24⟩) ?_ ?_
  · intro _ hM
    replace hM : tide_correction_j1 = some r := hM
    unfold tide_correction_j1 at hM
    refine GS.seq ?_
    refine GS.region ?_
    refine X.opR rfl rfl rfl ?_
    refine GS.opsNil ?_
    have hE := Option.some.inj hM
    subst hE
    exact GS.ret ⟨_, rfl, ⟨30, rfl⟩⟩
  · intro hj_1
    refine GS.block ?_
    refine X.gc [] (X.loop (σ := Int) (fun v => ⟨[(1, (V.i tick)), (8, (V.sl (List.map e_api_Shift w.Shifts))), (9, (V.i (w.Shifts.length : Int))), (10, (V.i v))], [], 0, none, 24⟩) hM ?_ rfl) rfl rfl rfl (gk_cons rfl ⟨9, rfl⟩ (gk_cons rfl ⟨9, rfl⟩ (gk_cons rfl ⟨9, rfl⟩ (gk_cons rfl ⟨9, rfl⟩ gk_nil)))) (gb_nil)
    intro x1 b_1 hM hc_2 hr_1
    rw [tide_correction_b2] at hM
    refine GS.seq ?_
    refine GS.region ?_
    refine X.opR rfl rfl rfl ?_
    refine GS.opsNil ?_
    refine GS.seq ?_
    refine X.cond rfl (fun h_1 => ?_) (fun h_1 => ?_)
    · replace hM := ite_t h_1 hM
      refine GS.skip ?_
      refine GS.seq ?_
      refine GS.block ?_
      refine GS.seq ?_
      obtain ⟨x, h_2, hM⟩ := bind_of hM
      refine GS.region ?_
      refine X.opR rfl (X.indexF (f := e_api_Shift) h_2 (fun _ => rfl) rfl rfl rfl rfl) rfl ?_
      refine X.opR rfl (X.loadF h_2 rfl rfl rfl) rfl ?_
      refine X.opW rfl rfl rfl rfl ?_
      refine X.op0W rfl rfl rfl ?_
      refine GS.opsNil ?_
      refine GS.seq ?_
      obtain ⟨q, h_3, hM⟩ := bind_of hM
      refine GS.region ?_
      refine X.opR rfl rfl rfl ?_
      refine X.opR rfl (X.quoE h_3 rfl rfl) rfl ?_
      iterate 4 refine X.opR rfl rfl rfl ?_
      refine X.call (ok_tide_within q x.From x.To) rfl rfl rfl (.cons (.shut (n := 9) rfl) (.cons (.shut (n := 9) rfl) (.cons (.shut (n := 9) rfl) .nil))) ?_
      refine GS.opsNil ?_
      refine X.cond rfl (fun h_4 => ?_) (fun h_4 => ?_)
      · replace hM := ite_t h_4 hM
        refine GS.seq ?_
        refine GS.region ?_
        iterate 3 refine X.opR rfl rfl rfl ?_
        refine GS.opsNil ?_
        have hE := Option.some.inj hM
        replace hE := hr_1 _ hE.symm
        subst hE
        exact GS.ret ⟨_, rfl, ⟨30, rfl⟩⟩
      · replace hM := ite_f h_4 hM
        refine GS.skip ?_
        refine GS.endB ?_
        refine GS.region ?_
        refine X.opR rfl (X.addE rfl rfl) rfl ?_
        refine X.opR rfl rfl rfl ?_
        refine GS.opsNil ?_
        have hE := Option.some.inj hM
        exact X.gc [] (hc_2 (w64 (x1 + 1)) hE.symm) rfl rfl rfl (gk_cons rfl ⟨9, rfl⟩ (gk_cons rfl ⟨9, rfl⟩ (gk_cons rfl ⟨9, rfl⟩ (gk_cons rfl ⟨9, rfl⟩ gk_nil)))) (gb_nil)
    · replace hM := ite_f h_1 hM
      refine GS.exit rfl ?_
      obtain ⟨y_1, hM, hy⟩ := map_of hM
      rw [hr_1 _ hy.symm] at hM
      exact X.gc [] (hj_1 () hM) rfl rfl rfl (gk_nil) (gb_nil)

theorem ok_tide_parts_1 {tick : Int} {c : api_Water} {r : Int} (hM : tide_parts_1 tick c = some r) : Ct Tryz.prog 89 [(V.i tick), (V.fptr [(e_api_Water c)] 0 0)] (V.i r) := by
  refine ct_of_gs CC_ok rfl ?_
  unfold tide_parts_1 at hM
  refine GS.seq ?_
  refine GS.region ?_
  refine X.opR rfl rfl rfl ?_
  refine GS.opsNil ?_
  refine GS.seq ?_
  obtain ⟨y, h_1, hM⟩ := bind_of hM
  refine GS.region ?_
  iterate 2 refine X.opR rfl rfl rfl ?_
  refine X.call (ok_tide_correction h_1) rfl rfl rfl (.cons (.shut (n := 9) rfl) (.cons (.shut (n := 9) rfl) .nil)) ?_
  refine X.opR rfl rfl rfl ?_
  refine GS.opsNil ?_
  have hE := Option.some.inj hM
  subst hE
  exact GS.ret ⟨_, rfl, ⟨30, rfl⟩⟩

theorem ok_tide_parts_2 {tick : Int} {c : api_Cycle} {r : Int} (hM : tide_parts_2 tick c = some r) : Ct Tryz.prog 91 [(V.i tick), (V.fptr [(e_api_Cycle c)] 0 0)] (V.i r) := by
  refine ct_of_gs CC_ok rfl ?_
  unfold tide_parts_2 at hM
  refine GS.seq ?_
  refine GS.region ?_
  refine X.opR rfl rfl rfl ?_
  refine GS.opsNil ?_
  refine GS.seq ?_
  obtain ⟨y, h_1, hM⟩ := bind_of hM
  refine GS.region ?_
  iterate 2 refine X.opR rfl rfl rfl ?_
  refine X.call (ok_tide_value h_1) rfl rfl rfl (.cons (.shut (n := 9) rfl) (.cons (.shut (n := 9) rfl) .nil)) ?_
  refine X.opR rfl rfl rfl ?_
  refine GS.opsNil ?_
  have hE := Option.some.inj hM
  subst hE
  exact GS.ret ⟨_, rfl, ⟨30, rfl⟩⟩

theorem ok_tide_heights_1 {tick : Int} {c : api_Water} {c1 : api_Water} {r : Int} (hM : tide_heights_1 tick c c1 = some r) : Ct Tryz.prog 85 [(V.i tick), (V.fptr [(e_api_Water c)] 0 0), (V.fptr [(e_parts c1)] 0 0)] (V.i r) := by
  refine ct_of_gs CC_ok rfl ?_
  unfold tide_heights_1 at hM
  refine GS.seq ?_
  refine GS.region ?_
  refine X.opR rfl rfl rfl ?_
  refine GS.opsNil ?_
  refine GS.seq ?_
  refine GS.region ?_
  iterate 3 refine X.opR rfl rfl rfl ?_
  refine GS.opsNil ?_
  iterate 2 refine GS.seq ?_
  refine GS.region ?_
  refine X.opR rfl rfl rfl ?_
  refine GS.opsNil ?_
  refine X.join (τ := Int) (fun v => tide_heights_1_j1 v = some r) (fun v => ⟨[(5, (V.i v))], [], 0, none, 24⟩) ?_ ?_
  · intro h hM
    replace hM : tide_heights_1_j1 h = some r := hM
    unfold tide_heights_1_j1 at hM
    refine GS.seq ?_
    refine GS.region ?_
    iterate 2 refine X.opR rfl rfl rfl ?_
    refine GS.opsNil ?_
    have hE := Option.some.inj hM
    subst hE
    exact GS.ret ⟨_, rfl, ⟨30, rfl⟩⟩
  · intro hj_1
    refine GS.block ?_
    refine X.gc [] (X.loop (σ := (Int × Int)) (fun v => ⟨[(0, (V.i tick)), (1, (V.fptr [(e_api_Water c)] 0 0)), (2, (V.fptr [(e_parts c1)] 0 0)), (5, (V.i v.1)), (6, (V.i v.2))], [], 0, none, 24⟩) hM ?_ rfl) rfl rfl rfl (gk_cons rfl ⟨9, rfl⟩ (gk_cons rfl ⟨9, rfl⟩ (gk_cons rfl ⟨9, rfl⟩ (gk_cons rfl ⟨9, rfl⟩ (gk_cons rfl ⟨9, rfl⟩ gk_nil))))) (gb_nil)
    rintro ⟨h1, i⟩ b_1 hM hc_2 hr_1
    rw [tide_heights_1_b2] at hM
    iterate 2 refine GS.seq ?_
    refine GS.region ?_
    iterate 3 refine X.opR rfl rfl rfl ?_
    refine X.opR rfl (X.lenF rfl rfl rfl) rfl ?_
    refine X.opR rfl rfl rfl ?_
    refine GS.opsNil ?_
    refine X.cond rfl (fun h_1 => ?_) (fun h_1 => ?_)
    · replace hM := ite_t h_1 hM
      refine GS.skip ?_
      refine GS.seq ?_
      refine GS.block ?_
      refine GS.region ?_
      iterate 3 refine X.opR rfl rfl rfl ?_
      refine X.split (decide (i = -1)) (fun h_2 => ?_) (fun h_2 => ?_)
      · replace hM := ite_t h_2 hM
        refine X.opR rfl (look_parts_m h_2 rfl rfl) rfl ?_
        obtain ⟨y, h_4, hM⟩ := bind_of hM
        refine X.opR rfl rfl rfl ?_
        refine X.call (ok_tide_parts_1 h_4) rfl rfl rfl (.cons (.shut (n := 9) rfl) (.cons (.shut (n := 9) rfl) .nil)) ?_
        refine X.opR rfl (X.addE rfl rfl) rfl ?_
        refine X.opR rfl rfl rfl ?_
        refine GS.opsNil ?_
        refine GS.endB ?_
        refine GS.region ?_
        refine X.opR rfl rfl rfl ?_
        refine X.opR rfl (X.addE rfl rfl) rfl ?_
        refine X.opR rfl rfl rfl ?_
        refine GS.opsNil ?_
        have hE := Option.some.inj hM
        exact X.gc [] (hc_2 (w64 (h1 + y), w64 (i + 1)) hE.symm) rfl rfl rfl (gk_cons rfl ⟨9, rfl⟩ (gk_cons rfl ⟨9, rfl⟩ (gk_cons rfl ⟨9, rfl⟩ (gk_cons rfl ⟨9, rfl⟩ (gk_cons rfl ⟨9, rfl⟩ gk_nil))))) (gb_nil)
      · replace hM := ite_f h_2 hM
        obtain ⟨c2, h_3, hM⟩ := bind_of hM
        refine X.opR rfl (look_parts_i h_3 rfl rfl) rfl ?_
        obtain ⟨y1, h_5, hM⟩ := bind_of hM
        refine X.opR rfl rfl rfl ?_
        refine X.call (ok_tide_parts_2 h_5) rfl rfl rfl (.cons (.shut (n := 9) rfl) (.cons (.shut (n := 9) rfl) .nil)) ?_
        refine X.opR rfl (X.addE rfl rfl) rfl ?_
        refine X.opR rfl rfl rfl ?_
        refine GS.opsNil ?_
        refine GS.endB ?_
        refine GS.region ?_
        refine X.opR rfl rfl rfl ?_
        refine X.opR rfl (X.addE rfl rfl) rfl ?_
        refine X.opR rfl rfl rfl ?_
        refine GS.opsNil ?_
        have hE := Option.some.inj hM
        exact X.gc [] (hc_2 (w64 (h1 + y1), w64 (i + 1)) hE.symm) rfl rfl rfl (gk_cons rfl ⟨9, rfl⟩ (gk_cons rfl ⟨9, rfl⟩ (gk_cons rfl ⟨9, rfl⟩ (gk_cons rfl ⟨9, rfl⟩ (gk_cons rfl ⟨9, rfl⟩ gk_nil))))) (gb_nil)
    · replace hM := ite_f h_1 hM
      refine GS.exit rfl ?_
      obtain ⟨y_1, hM, hy⟩ := map_of hM
      rw [hr_1 _ hy.symm] at hM
      exact X.gc [] (hj_1 h1 hM) rfl rfl rfl (gk_cons rfl ⟨9, rfl⟩ gk_nil) (gb_nil)

theorem ok_tide_Height {w : api_Water} {tick : Int} {r : Int × Int} (hM : tide_Height w tick = some r) : Ct Tryz.prog 23 [(e_api_Water w), (V.i tick)] (V.tup [(V.i r.1), (V.i r.2)]) := by
  refine ct_of_gs CC_ok rfl ?_
  unfold tide_Height at hM
  refine GS.seq ?_
  refine GS.region ?_
  refine X.opW rfl rfl rfl rfl ?_
  iterate 2 refine X.opR rfl rfl rfl ?_
  refine GS.opsNil ?_
  iterate 2 refine GS.seq ?_
  obtain ⟨y, h_1, hM⟩ := bind_of hM
  refine GS.region ?_
  refine X.opR rfl rfl rfl ?_
  refine X.call (ok_tide_Check h_1) rfl rfl rfl (.cons (.shut (n := 9) rfl) .nil) ?_
  refine X.opR rfl rfl rfl ?_
  refine GS.opsNil ?_
  refine GS.seq ?_
  refine GS.region ?_
  iterate 2 refine X.opR rfl rfl rfl ?_
  refine GS.opsNil ?_
  refine X.cond rfl (fun h_2 => ?_) (fun h_2 => ?_)
  · replace hM := ite_t h_2 hM
    refine GS.seq ?_
    refine GS.region ?_
    iterate 3 refine X.opR rfl rfl rfl ?_
    refine GS.opsNil ?_
    have hE := Option.some.inj hM
    subst hE
    exact GS.ret ⟨_, rfl, ⟨30, rfl⟩⟩
  · replace hM := ite_f h_2 hM
    refine GS.skip ?_
    iterate 2 refine GS.seq ?_
    refine GS.region ?_
    refine X.opR rfl rfl rfl ?_
    refine X.call (ok_tide_minute tick) rfl rfl rfl (.cons (.shut (n := 9) rfl) .nil) ?_
    refine X.opR rfl rfl rfl ?_
    refine GS.opsNil ?_
    refine X.cond rfl (fun h_3 => ?_) (fun h_3 => ?_)
    · replace hM := ite_t h_3 hM
      refine GS.seq ?_
      refine GS.region ?_
      iterate 2 refine X.opR rfl rfl rfl ?_
      refine GS.opsNil ?_
      have hE := Option.some.inj hM
      subst hE
      exact GS.ret ⟨_, rfl, ⟨30, rfl⟩⟩
    · replace hM := ite_f h_3 hM
      refine GS.skip ?_
      refine GS.seq ?_
      obtain ⟨y1, h_4, hM⟩ := bind_of hM
      obtain ⟨y2, h_5, hM⟩ := bind_of hM
      refine GS.region ?_
      refine X.opR rfl rfl rfl ?_
      refine X.call (ok_tide_heights h_4) rfl rfl rfl (.cons (.shut (n := 9) rfl) .nil) ?_
      refine X.opR rfl rfl rfl ?_
      refine X.call (ok_tide_heights_1 h_5) rfl rfl rfl (.cons (.shut (n := 9) rfl) (.cons (.shut (n := 9) rfl) (.cons (.shut (n := 9) rfl) .nil))) ?_
      iterate 2 refine X.opR rfl rfl rfl ?_
      refine GS.opsNil ?_
      have hE := Option.some.inj hM
      subst hE
      exact GS.ret ⟨_, rfl, ⟨30, rfl⟩⟩

theorem ok_tide_minutes (s : api_Span) : Ct Tryz.prog 86 [(e_api_Span s)] (V.i (tide_minutes s)) := by
  refine ct_of_gs CC_ok rfl ?_
  generalize hM : tide_minutes s = r
  unfold tide_minutes at hM
  refine GS.seq ?_
  refine GS.region ?_
  refine X.opW rfl rfl rfl rfl ?_
  refine X.opR rfl rfl rfl ?_
  refine GS.opsNil ?_
  refine GS.seq ?_
  refine GS.block ?_
  refine GS.seq ?_
  refine GS.region ?_
  refine X.mid [(1, (V.ptr 0 0 0)), (3, (V.b (((decide (s.Lo < 0)) || (decide (s.Hi < s.Lo))) || (decide (1048576 < s.Hi)))))] ?_ ?_
  · intro hg
    refine X.split (decide (s.Lo < 0)) (fun h_1 => ?_) (fun h_1 => ?_)
    · iterate 4 refine X.opR rfl rfl rfl ?_
      iterate 5 refine X.off (X.off_f rfl rfl rfl h_1) rfl ?_
      refine X.opR rfl (X.pickor_t (y := decide (s.Hi < s.Lo)) rfl h_1 rfl) rfl ?_
      refine X.opR rfl rfl rfl ?_
      iterate 3 refine X.off (X.off_f rfl rfl rfl (X.or_tt h_1)) rfl ?_
      refine X.opR rfl (X.pickor_t (y := decide (1048576 < s.Hi)) rfl (X.or_tt h_1) rfl) rfl ?_
      refine X.opR rfl rfl rfl ?_
      refine GS.opsNil ?_
      exact X.norm _ hg rfl (W.sub_cons rfl (W.sub_cons rfl W.sub_nil))
    · refine X.split (((decide (s.Lo < 0)) || (decide (s.Hi < s.Lo)))) (fun h_2 => ?_) (fun h_2 => ?_)
      · iterate 4 refine X.opR rfl rfl rfl ?_
        iterate 5 refine X.opR (X.on_f rfl rfl rfl h_1) rfl rfl ?_
        refine X.opR rfl (X.pickor_f (y := decide (s.Hi < s.Lo)) rfl h_1 rfl) rfl ?_
        refine X.opR rfl rfl rfl ?_
        iterate 3 refine X.off (X.off_f rfl rfl rfl h_2) rfl ?_
        refine X.opR rfl (X.pickor_t (y := decide (1048576 < s.Hi)) rfl h_2 rfl) rfl ?_
        refine X.opR rfl rfl rfl ?_
        refine GS.opsNil ?_
        exact X.norm _ hg rfl (W.sub_cons rfl (W.sub_cons rfl W.sub_nil))
      · iterate 4 refine X.opR rfl rfl rfl ?_
        iterate 5 refine X.opR (X.on_f rfl rfl rfl h_1) rfl rfl ?_
        refine X.opR rfl (X.pickor_f (y := decide (s.Hi < s.Lo)) rfl h_1 rfl) rfl ?_
        refine X.opR rfl rfl rfl ?_
        iterate 3 refine X.opR (X.on_f rfl rfl rfl h_2) rfl rfl ?_
        refine X.opR rfl (X.pickor_f (y := decide (1048576 < s.Hi)) rfl h_2 rfl) rfl ?_
        refine X.opR rfl rfl rfl ?_
        refine GS.opsNil ?_
        exact X.norm _ hg rfl (W.sub_cons rfl (W.sub_cons rfl W.sub_nil))
  refine X.cond rfl (fun h_3 => ?_) (fun h_3 => ?_)
  · replace hM := ite_t h_3 hM
    refine GS.seq ?_
    refine GS.region ?_
    refine X.opR rfl rfl rfl ?_
    refine GS.opsNil ?_
    subst hM
    exact GS.ret ⟨_, rfl, ⟨30, rfl⟩⟩
  · replace hM := ite_f h_3 hM
    refine GS.seq ?_
    refine GS.region ?_
    iterate 4 refine X.opR rfl rfl rfl ?_
    refine X.opR rfl (X.subE rfl rfl) rfl ?_
    iterate 2 refine X.opR rfl rfl rfl ?_
    refine GS.opsNil ?_
    refine X.cond rfl (fun h_4 => ?_) (fun h_4 => ?_)
    · replace hM := ite_t h_4 hM
      refine GS.seq ?_
      refine GS.region ?_
      refine X.opR rfl rfl rfl ?_
      refine GS.opsNil ?_
      subst hM
      exact GS.ret ⟨_, rfl, ⟨30, rfl⟩⟩
    · replace hM := ite_f h_4 hM
      refine GS.skip ?_
      refine GS.endB ?_
      refine GS.seq ?_
      refine GS.region ?_
      refine X.opR rfl rfl rfl ?_
      refine GS.opsNil ?_
      subst hM
      exact GS.ret ⟨_, rfl, ⟨30, rfl⟩⟩

theorem ok_tide_asked {w : api_Water} {s : api_Span} {r : Int} (hM : tide_asked w s = some r) : Ct Tryz.prog 60 [(e_api_Water w), (e_api_Span s)] (V.i r) := by
  refine ct_of_gs CC_ok rfl ?_
  unfold tide_asked at hM
  refine GS.seq ?_
  refine GS.region ?_
  iterate 2 refine X.opW rfl rfl rfl rfl ?_
  refine X.opR rfl rfl rfl ?_
  refine GS.opsNil ?_
  iterate 2 refine GS.seq ?_
  obtain ⟨y, h_1, hM⟩ := bind_of hM
  refine GS.region ?_
  refine X.opR rfl rfl rfl ?_
  refine X.call (ok_tide_Check h_1) rfl rfl rfl (.cons (.shut (n := 9) rfl) .nil) ?_
  refine X.opR rfl rfl rfl ?_
  refine GS.opsNil ?_
  refine GS.seq ?_
  refine GS.region ?_
  iterate 2 refine X.opR rfl rfl rfl ?_
  refine GS.opsNil ?_
  refine X.cond rfl (fun h_2 => ?_) (fun h_2 => ?_)
  · replace hM := ite_t h_2 hM
    refine GS.seq ?_
    refine GS.region ?_
    iterate 2 refine X.opR rfl rfl rfl ?_
    refine GS.opsNil ?_
    have hE := Option.some.inj hM
    subst hE
    exact GS.ret ⟨_, rfl, ⟨30, rfl⟩⟩
  · replace hM := ite_f h_2 hM
    refine GS.skip ?_
    refine GS.seq ?_
    refine GS.region ?_
    refine X.opR rfl rfl rfl ?_
    refine X.call (ok_tide_minutes s) rfl rfl rfl (.cons (.shut (n := 9) rfl) .nil) ?_
    refine X.opR rfl rfl rfl ?_
    refine GS.opsNil ?_
    have hE := Option.some.inj hM
    subst hE
    exact GS.ret ⟨_, rfl, ⟨30, rfl⟩⟩

theorem ok_tide_stands (w : api_Water) (s : api_Span) : Ct Tryz.prog 62 [(e_api_Water w), (e_api_Span s)] (V.fn 88 [(V.fptr [(e_api_Water ((tide_stands w s).1))] 0 0), (V.fptr [(e_api_Span ((tide_stands w s).2))] 0 0)]) := by
  refine ct_of_gs CC_ok rfl ?_
  generalize hM : tide_stands w s = r
  unfold tide_stands at hM
  refine GS.seq ?_
  refine GS.region ?_
  iterate 2 refine X.opW rfl rfl rfl rfl ?_
  refine X.opR rfl rfl rfl ?_
  refine GS.opsNil ?_
  refine GS.seq ?_
  refine GS.region ?_
  iterate 2 refine X.opR rfl rfl rfl ?_
  refine GS.opsNil ?_
  subst hM
  exact GS.ret ⟨_, rfl, ⟨30, rfl⟩⟩

set_option maxHeartbeats 4000000 in
theorem ok_tide_extreme {w : api_Water} {s : api_Span} {sign : Int} {r : Int × Int × Int} (hM : tide_extreme w s sign = some r) : Ct Tryz.prog 59 [(e_api_Water w), (e_api_Span s), (V.i sign)] (V.tup [(V.i r.1), (V.i r.2.1), (V.i r.2.2)]) := by
  refine ct_of_gs CC_ok rfl ?_
  unfold tide_extreme at hM
  refine GS.seq ?_
  refine GS.region ?_
  iterate 3 refine X.opW rfl rfl rfl rfl ?_
  iterate 3 refine X.opR rfl rfl rfl ?_
  refine GS.opsNil ?_
  iterate 2 refine GS.seq ?_
  obtain ⟨y, h_1, hM⟩ := bind_of hM
  refine GS.region ?_
  iterate 2 refine X.opR rfl rfl rfl ?_
  refine X.call (ok_tide_asked h_1) rfl rfl rfl (.cons (.shut (n := 9) rfl) (.cons (.shut (n := 9) rfl) .nil)) ?_
  refine X.opR rfl rfl rfl ?_
  refine GS.opsNil ?_
  refine GS.seq ?_
  refine GS.region ?_
  iterate 2 refine X.opR rfl rfl rfl ?_
  refine GS.opsNil ?_
  refine X.cond rfl (fun h_2 => ?_) (fun h_2 => ?_)
  · replace hM := ite_t h_2 hM
    refine GS.seq ?_
    refine GS.region ?_
    iterate 4 refine X.opR rfl rfl rfl ?_
    refine GS.opsNil ?_
    have hE := Option.some.inj hM
    subst hE
    exact GS.ret ⟨_, rfl, ⟨30, rfl⟩⟩
  · replace hM := ite_f h_2 hM
    refine GS.skip ?_
    refine GS.seq ?_
    refine GS.region ?_
    refine X.opW (H' := [.rows 3 [(e_api_Water w)], .rows 2 [(e_api_Span s)], .rows 1 [(V.i sign)], .rows 3 [(V.agg [(V.i 0), (V.i 0), (V.i 0)])]]) rfl rfl rfl rfl ?_
    refine GS.opsNil ?_
    refine GS.seq ?_
    refine GS.region ?_
    refine X.opW (H' := [.rows 3 [(e_api_Water w)], .rows 2 [(e_api_Span s)], .rows 1 [(V.i sign)], .rows 3 [(V.agg [(V.i 0), (V.i 0), (V.i 0)])], .rows 1 [(V.b false)]]) rfl rfl rfl rfl ?_
    refine X.op0W (H' := [.rows 3 [(e_api_Water w)], .rows 2 [(e_api_Span s)], .rows 1 [(V.i sign)], .rows 3 [(V.agg [(V.i 0), (V.i 0), (V.i 0)])], .rows 1 [(V.b false)]]) rfl rfl rfl ?_
    refine GS.opsNil ?_
    iterate 2 refine GS.seq ?_
    refine GS.region ?_
    iterate 2 refine X.opR rfl rfl rfl ?_
    refine X.call (ok_tide_stands w s) rfl rfl rfl (.cons (.shut (n := 9) rfl) (.cons (.shut (n := 9) rfl) .nil)) ?_
    refine GS.opsNil ?_
    refine GS.block ?_
    refine X.gc [some 2, some 3, some 4] (H' := [.rows 1 [(V.i sign)], .rows 3 [(V.agg [(V.i 0), (V.i 0), (V.i 0)])], .rows 1 [(V.b false)]]) (K' := [(5, (V.ptr 0 0 0)), (10, (V.ptr 1 0 0)), (11, (V.ptr 2 0 0)), (21, (V.fn 88 [(V.fptr [(e_api_Water ((tide_stands w s).1))] 0 0), (V.fptr [(e_api_Span ((tide_stands w s).2))] 0 0)]))]) ?_ rfl rfl rfl (gk_cons rfl ⟨9, rfl⟩ (gk_cons rfl ⟨9, rfl⟩ (gk_cons rfl ⟨9, rfl⟩ (gk_cons rfl ⟨9, rfl⟩ gk_nil)))) (gb_box rfl rfl ⟨9, rfl⟩ (gb_box rfl rfl ⟨9, rfl⟩ (gb_box rfl rfl ⟨9, rfl⟩ gb_nil)))
    refine X.range rfl rfl (lowK_cons ⟨9, rfl⟩ (lowK_cons ⟨9, rfl⟩ (lowK_cons ⟨9, rfl⟩ (lowK_cons ⟨9, rfl⟩ lowK_nil)))) rfl ?_
    intro R_3 hrn_3 hrK_3 hrp_3 hra_3 hrb_3 hlow_3
    refine GS.seq ?_
    obtain ⟨y1, h_4, hM⟩ := bind_of hM
    refine GS.region ?_
    refine X.opR rfl rfl rfl ?_
    refine X.call (ok_tide_heights h_4) rfl rfl rfl (.cons (.shut (n := 9) rfl) .nil) ?_
    refine X.opR rfl rfl rfl ?_
    refine GS.opsNil ?_
    refine GS.seq ?_
    obtain ⟨y2, h_5, hM⟩ := bind_of hM
    refine X.draw (by kernel_rfl) ?_
    iterate 8 refine X.dop rfl rfl rfl rfl (by kernel_rfl) rfl rfl ?_
    refine X.dcall (ok_tide_heights_1 h_5) rfl rfl rfl (by kernel_rfl) rfl (.cons (.shut (n := 9) rfl) (.cons (.shut (n := 9) rfl) (.cons (.shut (n := 9) rfl) .nil))) ?_
    iterate 2 refine X.dop rfl rfl rfl rfl (by kernel_rfl) rfl rfl ?_
    refine X.dop0 rfl rfl rfl rfl (by kernel_rfl) rfl ?_
    refine X.dnil ?_
    refine X.norm [(0, (V.yld 3)), (2, (V.fptr [(e_api_Span ((tide_stands w s).2))] 0 0)), (4, (V.fn 85 [(V.fptr [(e_api_Water y1.1)] 0 0), (V.fptr [(e_parts y1.2)] 0 0)])), (5, (V.ptr 4 0 0))] ?_ rfl (W.sub_cons rfl (W.sub_cons rfl (W.sub_cons rfl (W.sub_cons rfl W.sub_nil))))
    iterate 2 refine GS.seq ?_
    refine GS.region ?_
    iterate 2 refine X.opR rfl rfl rfl ?_
    refine X.opR rfl (X.addE rfl rfl) rfl ?_
    refine X.opR rfl rfl rfl ?_
    refine GS.opsNil ?_
    refine X.join (τ := Int × Int × Int × Int × Int × Int × Bool) (fun v => tide_extreme_j1 sign v.1 v.2.1 v.2.2.1 v.2.2.2.1 v.2.2.2.2.1 v.2.2.2.2.2.1 v.2.2.2.2.2.2 = some r) (fun v => ⟨[(0, (V.yld 3)), (5, (V.ptr 4 0 0))], [.rows 1 [(V.i sign)], .rows 3 [(V.agg [(V.i v.2.2.2.1), (V.i v.2.2.2.2.1), (V.i v.2.2.2.2.2.1)])], .rows 1 [(V.b v.2.2.2.2.2.2)], lr R_3 .ready none, .rows 3 [(V.agg [(V.i v.1), (V.i v.2.1), (V.i v.2.2.1)])]], 0, none, 51⟩) ?_ ?_
    · rintro ⟨Lo, Hi, Height, Lo1, Hi1, Height1, some_⟩ hM
      replace hM : tide_extreme_j1 sign Lo Hi Height Lo1 Hi1 Height1 some_ = some r := hM
      unfold tide_extreme_j1 at hM
      refine GS.region ?_
      iterate 2 refine X.opR rfl rfl rfl ?_
      refine X.yld hrn_3 hrK_3 hrp_3 hra_3 hrb_3 rfl rfl rfl rfl rfl rfl ?_
      refine GS.region ?_
      refine X.opW (H' := [.rows 1 [(V.i sign)], .rows 3 [(V.agg [(V.i Lo1), (V.i Hi1), (V.i Height1)])], .rows 1 [(V.b some_)], lr R_3 .ready none, .rows 3 [(V.agg [(V.i Lo), (V.i Hi), (V.i Height)])], .rows 3 [(V.agg [(V.i 0), (V.i 0), (V.i 0)])]]) rfl rfl rfl rfl ?_
      refine X.op0W (H' := [.rows 1 [(V.i sign)], .rows 3 [(V.agg [(V.i Lo1), (V.i Hi1), (V.i Height1)])], .rows 1 [(V.b some_)], lr R_3 .ready none, .rows 3 [(V.agg [(V.i Lo), (V.i Hi), (V.i Height)])], .rows 3 [(V.agg [(V.i Lo), (V.i Hi), (V.i Height)])]]) rfl rfl rfl ?_
      refine GS.opsNil ?_
      refine GS.nil (X.begin' rfl rfl ?_ rfl)
      refine GS.block ?_
      refine GS.seq ?_
      refine GS.region ?_
      refine X.mid [(10, (V.ptr 1 0 0)), (11, (V.ptr 2 0 0)), (12, (V.ptr 5 0 0)), (35, (V.b ((!some_) || (decide ((w64 (sign * Height1)) < (w64 (sign * Height)))))))] ?_ ?_
      · intro hg
        refine X.split (!some_) (fun h_6 => ?_) (fun h_6 => ?_)
        · iterate 3 refine X.opR rfl rfl rfl ?_
          iterate 9 refine X.off (X.off_f rfl rfl rfl h_6) rfl ?_
          refine X.opR rfl (X.pickor_t (y := decide ((w64 (sign * Height1)) < (w64 (sign * Height)))) rfl h_6 rfl) rfl ?_
          refine GS.opsNil ?_
          exact X.norm _ hg rfl (W.sub_cons rfl (W.sub_cons rfl (W.sub_cons rfl (W.sub_cons rfl W.sub_nil))))
        · iterate 3 refine X.opR rfl rfl rfl ?_
          iterate 3 refine X.opR (X.on_f rfl rfl rfl h_6) rfl rfl ?_
          refine X.opR (X.on_f rfl rfl rfl h_6) (X.mulE rfl rfl) rfl ?_
          iterate 3 refine X.opR (X.on_f rfl rfl rfl h_6) rfl rfl ?_
          refine X.opR (X.on_f rfl rfl rfl h_6) (X.mulE rfl rfl) rfl ?_
          refine X.opR (X.on_f rfl rfl rfl h_6) rfl rfl ?_
          refine X.opR rfl (X.pickor_f (y := decide ((w64 (sign * Height1)) < (w64 (sign * Height)))) rfl h_6 rfl) rfl ?_
          refine GS.opsNil ?_
          exact X.norm _ hg rfl (W.sub_cons rfl (W.sub_cons rfl (W.sub_cons rfl (W.sub_cons rfl W.sub_nil))))
      refine X.join (τ := Int × Int × Int × Bool) (fun v => tide_extreme_j2 v.1 v.2.1 v.2.2.1 v.2.2.2 = some r) (fun v => ⟨[], [.rows 1 [(V.i sign)], .rows 3 [(V.agg [(V.i v.1), (V.i v.2.1), (V.i v.2.2.1)])], .rows 1 [(V.b v.2.2.2)], lr R_3 .busy none, .dead, .dead], 0, (some 3), 42⟩) ?_ ?_
      · rintro ⟨Lo2, Hi2, Height2, some_1⟩ hM
        replace hM : tide_extreme_j2 Lo2 Hi2 Height2 some_1 = some r := hM
        unfold tide_extreme_j2 at hM
        refine GS.endB ?_
        refine GS.nil ⟨_, rfl, ?_⟩
        refine X.norm (H' := [.rows 1 [(V.i sign)], .rows 3 [(V.agg [(V.i Lo2), (V.i Hi2), (V.i Height2)])], .rows 1 [(V.b some_1)], lr R_3 .ready none, .dead, .dead]) [(50, (V.b true))] ?_ rfl (W.sub_cons rfl W.sub_nil)
        refine GS.opsNil ?_
        refine GS.nil ⟨_, _, rfl, rfl, ?_⟩
        refine X.norm (H' := [.rows 1 [(V.i sign)], .rows 3 [(V.agg [(V.i Lo2), (V.i Hi2), (V.i Height2)])], .rows 1 [(V.b some_1)], .dead, .dead, .dead]) [(5, (V.ptr 0 0 0)), (10, (V.ptr 1 0 0)), (11, (V.ptr 2 0 0)), (21, (V.fn 88 [(V.fptr [(e_api_Water ((tide_stands w s).1))] 0 0), (V.fptr [(e_api_Span ((tide_stands w s).2))] 0 0)]))] ?_ rfl (W.sub_cons rfl (W.sub_cons rfl (W.sub_cons rfl (W.sub_cons rfl W.sub_nil))))
        refine GS.endB ?_
        refine GS.seq ?_
        refine X.drawc (by kernel_rfl) rfl ?_
        iterate 8 refine X.cop rfl rfl rfl rfl ?_
        refine X.cnil ?_
        refine X.norm [(6, (V.i Height2)), (7, (V.i Lo2)), (8, (V.i 0))] ?_ rfl (W.sub_cons rfl (W.sub_cons rfl (W.sub_cons rfl W.sub_nil)))
        have hE := Option.some.inj hM
        subst hE
        exact GS.ret ⟨_, rfl, ⟨30, rfl⟩⟩
      · intro hj_2
        refine X.cond rfl (fun h_7 => ?_) (fun h_7 => ?_)
        · replace hM := ite_t h_7 hM
          refine GS.region ?_
          refine X.opR rfl rfl rfl ?_
          refine X.op0W (H' := [.rows 1 [(V.i sign)], .rows 3 [(V.agg [(V.i Lo), (V.i Hi), (V.i Height)])], .rows 1 [(V.b some_)], lr R_3 .busy none, .rows 3 [(V.agg [(V.i Lo), (V.i Hi), (V.i Height)])], .rows 3 [(V.agg [(V.i Lo), (V.i Hi), (V.i Height)])]]) rfl rfl rfl ?_
          refine X.op0W (H' := [.rows 1 [(V.i sign)], .rows 3 [(V.agg [(V.i Lo), (V.i Hi), (V.i Height)])], .rows 1 [(V.b true)], lr R_3 .busy none, .rows 3 [(V.agg [(V.i Lo), (V.i Hi), (V.i Height)])], .rows 3 [(V.agg [(V.i Lo), (V.i Hi), (V.i Height)])]]) rfl rfl rfl ?_
          refine GS.opsNil ?_
          exact X.gc [] (hj_2 (Lo, Hi, Height, true) hM) rfl rfl rfl (gk_nil) (gb_box rfl rfl ⟨9, rfl⟩ (gb_box rfl rfl ⟨9, rfl⟩ (gb_box rfl rfl ⟨9, rfl⟩ (gb_loop hlow_3 rfl rfl rfl (gb_pad (gb_pad gb_nil))))))
        · replace hM := ite_f h_7 hM
          refine GS.skip ?_
          exact X.gc [] (hj_2 (Lo1, Hi1, Height1, some_) hM) rfl rfl rfl (gk_nil) (gb_box rfl rfl ⟨9, rfl⟩ (gb_box rfl rfl ⟨9, rfl⟩ (gb_box rfl rfl ⟨9, rfl⟩ (gb_loop hlow_3 rfl rfl rfl (gb_pad (gb_pad gb_nil))))))
    · intro hj_1
      refine GS.block ?_
      refine X.gc [some 4] (X.loop (σ := (Int × Int × Int × Int × Int × Int × Int × Bool)) (fun v => ⟨[(0, (V.yld 3)), (2, (V.fptr [(e_api_Span ((tide_stands w s).2))] 0 0)), (4, (V.fn 85 [(V.fptr [(e_api_Water y1.1)] 0 0), (V.fptr [(e_parts y1.2)] 0 0)])), (5, (V.ptr 4 0 0)), (6, (V.i v.1))], [.rows 1 [(V.i sign)], .rows 3 [(V.agg [(V.i v.2.2.2.2.1), (V.i v.2.2.2.2.2.1), (V.i v.2.2.2.2.2.2.1)])], .rows 1 [(V.b v.2.2.2.2.2.2.2)], lr R_3 .ready none, .rows 3 [(V.agg [(V.i v.2.1), (V.i v.2.2.1), (V.i v.2.2.2.1)])]], 0, none, 51⟩) hM ?_ rfl) rfl rfl rfl (gk_cons rfl ⟨9, rfl⟩ (gk_cons rfl ⟨9, rfl⟩ (gk_cons rfl ⟨9, rfl⟩ (gk_cons rfl ⟨9, rfl⟩ (gk_cons rfl ⟨9, rfl⟩ gk_nil))))) (gb_box rfl rfl ⟨9, rfl⟩ (gb_box rfl rfl ⟨9, rfl⟩ (gb_box rfl rfl ⟨9, rfl⟩ (gb_loop hlow_3 rfl rfl rfl (gb_box rfl rfl ⟨9, rfl⟩ gb_nil)))))
      rintro ⟨t, Lo5, Hi4, Height5, Lo6, Hi5, Height6, some_3⟩ b_1 hM hc_3 hr_1
      rw [tide_extreme_b3] at hM
      iterate 2 refine GS.seq ?_
      refine GS.region ?_
      iterate 4 refine X.opR rfl rfl rfl ?_
      refine GS.opsNil ?_
      refine X.cond rfl (fun h_8 => ?_) (fun h_8 => ?_)
      · replace hM := ite_t h_8 hM
        refine GS.skip ?_
        refine GS.seq ?_
        refine X.join (τ := Int × Int × Int × Int × Int × Bool) (fun v => tide_extreme_j4 t v.1 v.2.1 v.2.2.1 v.2.2.2.1 v.2.2.2.2.1 v.2.2.2.2.2 = some b_1) (fun v => ⟨[(0, (V.yld 3)), (2, (V.fptr [(e_api_Span ((tide_stands w s).2))] 0 0)), (4, (V.fn 85 [(V.fptr [(e_api_Water y1.1)] 0 0), (V.fptr [(e_parts y1.2)] 0 0)])), (5, (V.ptr 4 0 0)), (6, (V.i t))], [.rows 1 [(V.i sign)], .rows 3 [(V.agg [(V.i v.2.2.1), (V.i v.2.2.2.1), (V.i v.2.2.2.2.1)])], .rows 1 [(V.b v.2.2.2.2.2)], lr R_3 .ready none, .rows 3 [(V.agg [(V.i v.1), (V.i t), (V.i v.2.1)])]], 0, none, 51⟩) ?_ ?_
        · rintro ⟨Lo3, Height3, Lo4, Hi3, Height4, some_2⟩ hM
          replace hM : tide_extreme_j4 t Lo3 Height3 Lo4 Hi3 Height4 some_2 = some b_1 := hM
          unfold tide_extreme_j4 at hM
          refine GS.region ?_
          refine X.opR rfl rfl rfl ?_
          refine X.opR rfl (X.addE rfl rfl) rfl ?_
          refine X.opR rfl rfl rfl ?_
          refine GS.opsNil ?_
          have hE := Option.some.inj hM
          exact X.gc [some 4] (hc_3 (w64 (t + 1), Lo3, t, Height3, Lo4, Hi3, Height4, some_2) hE.symm) rfl rfl rfl (gk_cons rfl ⟨9, rfl⟩ (gk_cons rfl ⟨9, rfl⟩ (gk_cons rfl ⟨9, rfl⟩ (gk_cons rfl ⟨9, rfl⟩ (gk_cons rfl ⟨9, rfl⟩ gk_nil))))) (gb_box rfl rfl ⟨9, rfl⟩ (gb_box rfl rfl ⟨9, rfl⟩ (gb_box rfl rfl ⟨9, rfl⟩ (gb_loop hlow_3 rfl rfl rfl (gb_box rfl rfl ⟨9, rfl⟩ gb_nil)))))
        · intro hj_4
          refine GS.block ?_
          refine GS.seq ?_
          obtain ⟨y3, h_9, hM⟩ := bind_of hM
          refine GS.region ?_
          iterate 2 refine X.opR rfl rfl rfl ?_
          refine X.call (ok_tide_heights_1 h_9) rfl rfl rfl (.cons (.shut (n := 9) rfl) (.cons (.shut (n := 9) rfl) (.cons (.shut (n := 9) rfl) .nil))) ?_
          refine X.opR rfl rfl rfl ?_
          refine GS.opsNil ?_
          iterate 2 refine GS.seq ?_
          refine GS.region ?_
          iterate 4 refine X.opR rfl rfl rfl ?_
          refine GS.opsNil ?_
          refine X.cond rfl (fun h_10 => ?_) (fun h_10 => ?_)
          · replace hM := ite_t h_10 hM
            refine GS.seq ?_
            refine GS.region ?_
            iterate 3 refine X.opR rfl rfl rfl ?_
            refine X.op0W (H' := [.rows 1 [(V.i sign)], .rows 3 [(V.agg [(V.i Lo6), (V.i Hi5), (V.i Height6)])], .rows 1 [(V.b some_3)], lr R_3 .ready none, .rows 3 [(V.agg [(V.i Lo5), (V.i t), (V.i Height5)])]]) rfl rfl rfl ?_
            refine GS.opsNil ?_
            refine GS.exit rfl ?_
            exact X.gc [some 4] (hj_4 (Lo5, Height5, Lo6, Hi5, Height6, some_3) hM) rfl rfl rfl (gk_cons rfl ⟨9, rfl⟩ (gk_cons rfl ⟨9, rfl⟩ (gk_cons rfl ⟨9, rfl⟩ (gk_cons rfl ⟨9, rfl⟩ (gk_cons rfl ⟨9, rfl⟩ gk_nil))))) (gb_box rfl rfl ⟨9, rfl⟩ (gb_box rfl rfl ⟨9, rfl⟩ (gb_box rfl rfl ⟨9, rfl⟩ (gb_loop hlow_3 rfl rfl rfl (gb_box rfl rfl ⟨9, rfl⟩ gb_nil)))))
          · replace hM := ite_f h_10 hM
            refine GS.skip ?_
            iterate 2 refine GS.seq ?_
            refine GS.region ?_
            iterate 2 refine X.opR rfl rfl rfl ?_
            refine X.yld hrn_3 hrK_3 hrp_3 hra_3 hrb_3 rfl rfl rfl rfl rfl rfl ?_
            refine GS.region ?_
            refine X.opW (H' := [.rows 1 [(V.i sign)], .rows 3 [(V.agg [(V.i Lo6), (V.i Hi5), (V.i Height6)])], .rows 1 [(V.b some_3)], lr R_3 .ready none, .rows 3 [(V.agg [(V.i Lo5), (V.i Hi4), (V.i Height5)])], .rows 3 [(V.agg [(V.i 0), (V.i 0), (V.i 0)])]]) rfl rfl rfl rfl ?_
            refine X.op0W (H' := [.rows 1 [(V.i sign)], .rows 3 [(V.agg [(V.i Lo6), (V.i Hi5), (V.i Height6)])], .rows 1 [(V.b some_3)], lr R_3 .ready none, .rows 3 [(V.agg [(V.i Lo5), (V.i Hi4), (V.i Height5)])], .rows 3 [(V.agg [(V.i Lo5), (V.i Hi4), (V.i Height5)])]]) rfl rfl rfl ?_
            refine GS.opsNil ?_
            refine GS.nil (X.begin' rfl rfl ?_ rfl)
            refine GS.block ?_
            refine GS.seq ?_
            refine GS.region ?_
            refine X.mid [(10, (V.ptr 1 0 0)), (11, (V.ptr 2 0 0)), (12, (V.ptr 5 0 0)), (35, (V.b ((!some_3) || (decide ((w64 (sign * Height6)) < (w64 (sign * Height5)))))))] ?_ ?_
            · intro hg
              refine X.split (!some_3) (fun h_11 => ?_) (fun h_11 => ?_)
              · iterate 3 refine X.opR rfl rfl rfl ?_
                iterate 9 refine X.off (X.off_f rfl rfl rfl h_11) rfl ?_
                refine X.opR rfl (X.pickor_t (y := decide ((w64 (sign * Height6)) < (w64 (sign * Height5)))) rfl h_11 rfl) rfl ?_
                refine GS.opsNil ?_
                exact X.norm _ hg rfl (W.sub_cons rfl (W.sub_cons rfl (W.sub_cons rfl (W.sub_cons rfl W.sub_nil))))
              · iterate 3 refine X.opR rfl rfl rfl ?_
                iterate 3 refine X.opR (X.on_f rfl rfl rfl h_11) rfl rfl ?_
                refine X.opR (X.on_f rfl rfl rfl h_11) (X.mulE rfl rfl) rfl ?_
                iterate 3 refine X.opR (X.on_f rfl rfl rfl h_11) rfl rfl ?_
                refine X.opR (X.on_f rfl rfl rfl h_11) (X.mulE rfl rfl) rfl ?_
                refine X.opR (X.on_f rfl rfl rfl h_11) rfl rfl ?_
                refine X.opR rfl (X.pickor_f (y := decide ((w64 (sign * Height6)) < (w64 (sign * Height5)))) rfl h_11 rfl) rfl ?_
                refine GS.opsNil ?_
                exact X.norm _ hg rfl (W.sub_cons rfl (W.sub_cons rfl (W.sub_cons rfl (W.sub_cons rfl W.sub_nil))))
            refine X.join (τ := Int × Int × Int × Bool) (fun v => tide_extreme_j5 t y3 v.1 v.2.1 v.2.2.1 v.2.2.2 = some b_1) (fun v => ⟨[], [.rows 1 [(V.i sign)], .rows 3 [(V.agg [(V.i v.1), (V.i v.2.1), (V.i v.2.2.1)])], .rows 1 [(V.b v.2.2.2)], lr R_3 .busy none, .rows 3 [(V.agg [(V.i Lo5), (V.i Hi4), (V.i Height5)])], .dead], 0, (some 3), 42⟩) ?_ ?_
            · rintro ⟨Lo7, Hi6, Height7, some_4⟩ hM
              replace hM : tide_extreme_j5 t y3 Lo7 Hi6 Height7 some_4 = some b_1 := hM
              unfold tide_extreme_j5 at hM
              refine GS.endB ?_
              refine GS.nil ⟨_, rfl, ?_⟩
              refine X.norm (H' := [.rows 1 [(V.i sign)], .rows 3 [(V.agg [(V.i Lo7), (V.i Hi6), (V.i Height7)])], .rows 1 [(V.b some_4)], lr R_3 .ready none, .rows 3 [(V.agg [(V.i Lo5), (V.i Hi4), (V.i Height5)])], .dead]) [(0, (V.yld 3)), (2, (V.fptr [(e_api_Span ((tide_stands w s).2))] 0 0)), (4, (V.fn 85 [(V.fptr [(e_api_Water y1.1)] 0 0), (V.fptr [(e_parts y1.2)] 0 0)])), (5, (V.ptr 4 0 0)), (6, (V.i t)), (7, (V.i y3)), (41, (V.b true))] ?_ rfl (W.sub_cons rfl (W.sub_cons rfl (W.sub_cons rfl (W.sub_cons rfl (W.sub_cons rfl (W.sub_cons rfl (W.sub_cons rfl W.sub_nil)))))))
              refine X.opR rfl rfl rfl ?_
              refine GS.opsNil ?_
              refine GS.condF rfl ?_
              refine GS.skip ?_
              refine GS.region ?_
              iterate 5 refine X.opR rfl rfl rfl ?_
              refine X.op0W (H' := [.rows 1 [(V.i sign)], .rows 3 [(V.agg [(V.i Lo7), (V.i Hi6), (V.i Height7)])], .rows 1 [(V.b some_4)], lr R_3 .ready none, .rows 3 [(V.agg [(V.i t), (V.i t), (V.i y3)])], .dead]) rfl rfl rfl ?_
              refine GS.opsNil ?_
              refine GS.endB ?_
              exact X.gc [some 4] (hj_4 (t, y3, Lo7, Hi6, Height7, some_4) hM) rfl rfl rfl (gk_cons rfl ⟨9, rfl⟩ (gk_cons rfl ⟨9, rfl⟩ (gk_cons rfl ⟨9, rfl⟩ (gk_cons rfl ⟨9, rfl⟩ (gk_cons rfl ⟨9, rfl⟩ gk_nil))))) (gb_box rfl rfl ⟨9, rfl⟩ (gb_box rfl rfl ⟨9, rfl⟩ (gb_box rfl rfl ⟨9, rfl⟩ (gb_loop hlow_3 rfl rfl rfl (gb_box rfl rfl ⟨9, rfl⟩ gb_nil)))))
            · intro hj_5
              refine X.cond rfl (fun h_12 => ?_) (fun h_12 => ?_)
              · replace hM := ite_t h_12 hM
                refine GS.region ?_
                refine X.opR rfl rfl rfl ?_
                refine X.op0W (H' := [.rows 1 [(V.i sign)], .rows 3 [(V.agg [(V.i Lo5), (V.i Hi4), (V.i Height5)])], .rows 1 [(V.b some_3)], lr R_3 .busy none, .rows 3 [(V.agg [(V.i Lo5), (V.i Hi4), (V.i Height5)])], .rows 3 [(V.agg [(V.i Lo5), (V.i Hi4), (V.i Height5)])]]) rfl rfl rfl ?_
                refine X.op0W (H' := [.rows 1 [(V.i sign)], .rows 3 [(V.agg [(V.i Lo5), (V.i Hi4), (V.i Height5)])], .rows 1 [(V.b true)], lr R_3 .busy none, .rows 3 [(V.agg [(V.i Lo5), (V.i Hi4), (V.i Height5)])], .rows 3 [(V.agg [(V.i Lo5), (V.i Hi4), (V.i Height5)])]]) rfl rfl rfl ?_
                refine GS.opsNil ?_
                exact X.gc [] (hj_5 (Lo5, Hi4, Height5, true) hM) rfl rfl rfl (gk_nil) (gb_box rfl rfl ⟨9, rfl⟩ (gb_box rfl rfl ⟨9, rfl⟩ (gb_box rfl rfl ⟨9, rfl⟩ (gb_loop hlow_3 rfl rfl rfl (gb_box rfl rfl ⟨9, rfl⟩ (gb_pad gb_nil))))))
              · replace hM := ite_f h_12 hM
                refine GS.skip ?_
                exact X.gc [] (hj_5 (Lo6, Hi5, Height6, some_3) hM) rfl rfl rfl (gk_nil) (gb_box rfl rfl ⟨9, rfl⟩ (gb_box rfl rfl ⟨9, rfl⟩ (gb_box rfl rfl ⟨9, rfl⟩ (gb_loop hlow_3 rfl rfl rfl (gb_box rfl rfl ⟨9, rfl⟩ (gb_pad gb_nil))))))
      · replace hM := ite_f h_8 hM
        refine GS.exit rfl ?_
        obtain ⟨y_1, hM, hy⟩ := map_of hM
        rw [hr_1 _ hy.symm] at hM
        exact X.gc [some 4] (hj_1 (Lo5, Hi4, Height5, Lo6, Hi5, Height6, some_3) hM) rfl rfl rfl (gk_cons rfl ⟨9, rfl⟩ (gk_cons rfl ⟨9, rfl⟩ gk_nil)) (gb_box rfl rfl ⟨9, rfl⟩ (gb_box rfl rfl ⟨9, rfl⟩ (gb_box rfl rfl ⟨9, rfl⟩ (gb_loop hlow_3 rfl rfl rfl (gb_box rfl rfl ⟨9, rfl⟩ gb_nil)))))

theorem ok_tide_Highest {w : api_Water} {s : api_Span} {r : Int × Int × Int} (hM : tide_Highest w s = some r) : Ct Tryz.prog 24 [(e_api_Water w), (e_api_Span s)] (V.tup [(V.i r.1), (V.i r.2.1), (V.i r.2.2)]) := by
  refine ct_of_gs CC_ok rfl ?_
  unfold tide_Highest at hM
  refine GS.seq ?_
  refine GS.region ?_
  iterate 2 refine X.opW rfl rfl rfl rfl ?_
  iterate 3 refine X.opR rfl rfl rfl ?_
  refine GS.opsNil ?_
  refine GS.seq ?_
  obtain ⟨y, h_1, hM⟩ := bind_of hM
  refine GS.region ?_
  iterate 2 refine X.opR rfl rfl rfl ?_
  refine X.call (ok_tide_extreme h_1) rfl rfl rfl (.cons (.shut (n := 9) rfl) (.cons (.shut (n := 9) rfl) (.cons (.shut (n := 9) rfl) .nil))) ?_
  iterate 6 refine X.opR rfl rfl rfl ?_
  refine GS.opsNil ?_
  have hE := Option.some.inj hM
  subst hE
  exact GS.ret ⟨_, rfl, ⟨30, rfl⟩⟩

abbrev e_api_Stand (x : api_Stand) : V := .agg [(V.i x.Span.Lo), (V.i x.Span.Hi), (V.i x.Height)]

set_option maxHeartbeats 4000000 in
theorem ok_slices_AppendSeq_api_Stand__tide_stands_1 {c : api_Water} {c1 : api_Span} {r : (List api_Stand)} (hM : slices_AppendSeq_api_Stand__tide_stands_1 c c1 = some r) : Ct Tryz.prog 87 [V.nil, (V.fn 88 [(V.fptr [(e_api_Water c)] 0 0), (V.fptr [(e_api_Span c1)] 0 0)])] (V.sl (List.map e_api_Stand r)) := by
  refine ct_of_gs CC_ok rfl ?_
  unfold slices_AppendSeq_api_Stand__tide_stands_1 at hM
  refine GS.seq ?_
  refine GS.region ?_
  refine X.opW rfl rfl rfl rfl ?_
  refine X.opR rfl rfl rfl ?_
  refine GS.opsNil ?_
  iterate 2 refine GS.seq ?_
  refine GS.region ?_
  refine X.opR rfl rfl rfl ?_
  refine GS.opsNil ?_
  refine GS.block ?_
  refine X.gc [some 0] (H' := [.rows 1 [V.nil]]) (K' := [(2, (V.ptr 0 0 0)), (6, (V.fn 88 [(V.fptr [(e_api_Water c)] 0 0), (V.fptr [(e_api_Span c1)] 0 0)]))]) ?_ rfl rfl rfl (gk_cons rfl ⟨9, rfl⟩ (gk_cons rfl ⟨9, rfl⟩ gk_nil)) (gb_box rfl rfl ⟨9, rfl⟩ gb_nil)
  refine X.range rfl rfl (lowK_cons ⟨9, rfl⟩ (lowK_cons ⟨9, rfl⟩ lowK_nil)) rfl ?_
  intro R_1 hrn_1 hrK_1 hrp_1 hra_1 hrb_1 hlow_1
  refine GS.seq ?_
  obtain ⟨y, h_2, hM⟩ := bind_of hM
  refine GS.region ?_
  refine X.opR rfl rfl rfl ?_
  refine X.call (ok_tide_heights h_2) rfl rfl rfl (.cons (.shut (n := 9) rfl) .nil) ?_
  refine X.opR rfl rfl rfl ?_
  refine GS.opsNil ?_
  refine GS.seq ?_
  obtain ⟨y1, h_3, hM⟩ := bind_of hM
  refine X.draw (by kernel_rfl) ?_
  iterate 8 refine X.dop rfl rfl rfl rfl (by kernel_rfl) rfl rfl ?_
  refine X.dcall (ok_tide_heights_1 h_3) rfl rfl rfl (by kernel_rfl) rfl (.cons (.shut (n := 9) rfl) (.cons (.shut (n := 9) rfl) (.cons (.shut (n := 9) rfl) .nil))) ?_
  iterate 2 refine X.dop rfl rfl rfl rfl (by kernel_rfl) rfl rfl ?_
  refine X.dop0 rfl rfl rfl rfl (by kernel_rfl) rfl ?_
  refine X.dnil ?_
  refine X.norm [(0, (V.yld 1)), (2, (V.fptr [(e_api_Span c1)] 0 0)), (4, (V.fn 85 [(V.fptr [(e_api_Water y.1)] 0 0), (V.fptr [(e_parts y.2)] 0 0)])), (5, (V.ptr 2 0 0))] ?_ rfl (W.sub_cons rfl (W.sub_cons rfl (W.sub_cons rfl (W.sub_cons rfl W.sub_nil))))
  iterate 2 refine GS.seq ?_
  refine GS.region ?_
  iterate 2 refine X.opR rfl rfl rfl ?_
  refine X.opR rfl (X.addE rfl rfl) rfl ?_
  refine X.opR rfl rfl rfl ?_
  refine GS.opsNil ?_
  refine X.join (τ := Int × Int × Int × (List api_Stand)) (fun v => slices_AppendSeq_api_Stand__tide_stands_1_j1 v.1 v.2.1 v.2.2.1 v.2.2.2 = some r) (fun v => ⟨[(0, (V.yld 1)), (5, (V.ptr 2 0 0))], [.rows 1 [(ovl 3 v.2.2.2)], lr R_1 .ready none, .rows 3 [(V.agg [(V.i v.1), (V.i v.2.1), (V.i v.2.2.1)])], obl 3 e_api_Stand v.2.2.2], 0, none, 51⟩) ?_ ?_
  · rintro ⟨Lo, Hi, Height, l⟩ hM
    replace hM : slices_AppendSeq_api_Stand__tide_stands_1_j1 Lo Hi Height l = some r := hM
    unfold slices_AppendSeq_api_Stand__tide_stands_1_j1 at hM
    refine GS.region ?_
    iterate 2 refine X.opR rfl rfl rfl ?_
    refine X.yld hrn_1 hrK_1 hrp_1 hra_1 hrb_1 rfl rfl rfl rfl rfl rfl ?_
    refine GS.region ?_
    refine X.opW (H' := [.rows 1 [(ovl 3 l)], lr R_1 .ready none, .rows 3 [(V.agg [(V.i Lo), (V.i Hi), (V.i Height)])], obl 3 e_api_Stand l, .rows 3 [(V.agg [(V.i 0), (V.i 0), (V.i 0)])]]) rfl rfl rfl rfl ?_
    refine X.op0W (H' := [.rows 1 [(ovl 3 l)], lr R_1 .ready none, .rows 3 [(V.agg [(V.i Lo), (V.i Hi), (V.i Height)])], obl 3 e_api_Stand l, .rows 3 [(V.agg [(V.i Lo), (V.i Hi), (V.i Height)])]]) rfl rfl rfl ?_
    refine GS.opsNil ?_
    refine GS.nil (X.begin' rfl rfl ?_ rfl)
    refine GS.block ?_
    obtain ⟨l1, h_4, hM⟩ := bind_of hM
    refine GS.region ?_
    refine X.opR rfl (v := (ovl 3 l)) (by rcases X.ovl_or (z := true) 3 l with h0 | ⟨n0, h0⟩ <;> simp only [h0] <;> rfl) rfl ?_
    refine X.opR rfl rfl rfl ?_
    refine X.opW (H' := [.rows 1 [(ovl 3 l)], lr R_1 .busy none, .rows 3 [(V.agg [(V.i Lo), (V.i Hi), (V.i Height)])], obl 3 e_api_Stand l, .rows 3 [(V.agg [(V.i Lo), (V.i Hi), (V.i Height)])], .rows 3 (List.map e_api_Stand ([(⟨(⟨Lo, Hi⟩ : api_Span), Height⟩ : api_Stand)]))]) rfl rfl rfl rfl ?_
    refine X.appN (f := e_api_Stand) h_4 (fun _ => rfl) (by rfl) (by rfl) (by rfl) (by rfl) (by rfl) (by rfl) (by rfl) (by rfl) (by rfl) (by rfl) (by rfl) (by exact rfl) (by rfl) (by rfl) ?_
    refine X.op0W (H' := [.rows 1 [(V.osl 6 0 (List.length l1))], lr R_1 .busy none, .rows 3 [(V.agg [(V.i Lo), (V.i Hi), (V.i Height)])], .dead, .rows 3 [(V.agg [(V.i Lo), (V.i Hi), (V.i Height)])], .rows 3 (List.map e_api_Stand ([(⟨(⟨Lo, Hi⟩ : api_Span), Height⟩ : api_Stand)])), .rows 3 (List.map e_api_Stand l1)]) rfl (v := undefV) (wr := [(0, .rows 1 [(V.osl 6 0 (List.length l1))])]) (by rcases X.ovl_or (z := true) 3 l with h0 | ⟨n0, h0⟩ <;> simp only [h0] <;> rfl) rfl ?_
    refine GS.opsNil ?_
    refine GS.endB ?_
    refine GS.nil ⟨_, rfl, ?_⟩
    refine X.norm (H' := [.rows 1 [(V.osl 6 0 (List.length l1))], lr R_1 .ready none, .rows 3 [(V.agg [(V.i Lo), (V.i Hi), (V.i Height)])], .dead, .rows 3 [(V.agg [(V.i Lo), (V.i Hi), (V.i Height)])], .rows 3 (List.map e_api_Stand ([(⟨(⟨Lo, Hi⟩ : api_Span), Height⟩ : api_Stand)])), .rows 3 (List.map e_api_Stand l1)]) [(50, (V.b true))] ?_ rfl (W.sub_cons rfl W.sub_nil)
    refine GS.opsNil ?_
    refine GS.nil ⟨_, _, rfl, rfl, ?_⟩
    refine X.norm (H' := [.rows 1 [(V.osl 6 0 (List.length l1))], .dead, .rows 3 [(V.agg [(V.i Lo), (V.i Hi), (V.i Height)])], .dead, .rows 3 [(V.agg [(V.i Lo), (V.i Hi), (V.i Height)])], .rows 3 (List.map e_api_Stand ([(⟨(⟨Lo, Hi⟩ : api_Span), Height⟩ : api_Stand)])), .rows 3 (List.map e_api_Stand l1)]) [(2, (V.ptr 0 0 0)), (6, (V.fn 88 [(V.fptr [(e_api_Water c)] 0 0), (V.fptr [(e_api_Span c1)] 0 0)]))] ?_ rfl (W.sub_cons rfl (W.sub_cons rfl W.sub_nil))
    refine GS.endB ?_
    refine GS.seq ?_
    refine GS.region ?_
    iterate 2 refine X.opR rfl rfl rfl ?_
    refine GS.opsNil ?_
    have hE := Option.some.inj hM
    subst hE
    exact GS.ret ⟨_, rfl, FR.osl (f := e_api_Stand) (l := l1) 9 rfl rfl (fun _ => rfl)⟩
  · intro hj_1
    refine GS.block ?_
    refine X.gc [some 2, none] (X.loop (σ := (Int × Int × Int × Int × (List api_Stand))) (fun v => ⟨[(0, (V.yld 1)), (2, (V.fptr [(e_api_Span c1)] 0 0)), (4, (V.fn 85 [(V.fptr [(e_api_Water y.1)] 0 0), (V.fptr [(e_parts y.2)] 0 0)])), (5, (V.ptr 2 0 0)), (6, (V.i v.1))], [.rows 1 [(ovl 3 v.2.2.2.2)], lr R_1 .ready none, .rows 3 [(V.agg [(V.i v.2.1), (V.i v.2.2.1), (V.i v.2.2.2.1)])], obl 3 e_api_Stand v.2.2.2.2], 0, none, 51⟩) hM ?_ rfl) rfl rfl rfl (gk_cons rfl ⟨9, rfl⟩ (gk_cons rfl ⟨9, rfl⟩ (gk_cons rfl ⟨9, rfl⟩ (gk_cons rfl ⟨9, rfl⟩ (gk_cons rfl ⟨9, rfl⟩ gk_nil))))) (gb_box rfl rfl ⟨9, rfl⟩ (gb_loop hlow_1 rfl rfl rfl (gb_box rfl rfl ⟨9, rfl⟩ (gb_pad' rfl gb_nil))))
    rintro ⟨t, Lo2, Hi1, Height2, l4⟩ b_1 hM hc_2 hr_1
    rw [slices_AppendSeq_api_Stand__tide_stands_1_b2] at hM
    iterate 2 refine GS.seq ?_
    refine GS.region ?_
    iterate 4 refine X.opR rfl rfl rfl ?_
    refine GS.opsNil ?_
    refine X.cond rfl (fun h_5 => ?_) (fun h_5 => ?_)
    · replace hM := ite_t h_5 hM
      refine GS.skip ?_
      refine GS.seq ?_
      refine X.join (τ := Int × Int × (List api_Stand)) (fun v => slices_AppendSeq_api_Stand__tide_stands_1_j3 t v.1 v.2.1 v.2.2 = some b_1) (fun v => ⟨[(0, (V.yld 1)), (2, (V.fptr [(e_api_Span c1)] 0 0)), (4, (V.fn 85 [(V.fptr [(e_api_Water y.1)] 0 0), (V.fptr [(e_parts y.2)] 0 0)])), (5, (V.ptr 2 0 0)), (6, (V.i t))], [.rows 1 [(ovl 3 v.2.2)], lr R_1 .ready none, .rows 3 [(V.agg [(V.i v.1), (V.i t), (V.i v.2.1)])], obl 3 e_api_Stand v.2.2], 0, none, 51⟩) ?_ ?_
      · rintro ⟨Lo1, Height1, l2⟩ hM
        replace hM : slices_AppendSeq_api_Stand__tide_stands_1_j3 t Lo1 Height1 l2 = some b_1 := hM
        unfold slices_AppendSeq_api_Stand__tide_stands_1_j3 at hM
        refine GS.region ?_
        refine X.opR rfl rfl rfl ?_
        refine X.opR rfl (X.addE rfl rfl) rfl ?_
        refine X.opR rfl rfl rfl ?_
        refine GS.opsNil ?_
        have hE := Option.some.inj hM
        exact X.gc [some 2, some 3] (hc_2 (w64 (t + 1), Lo1, t, Height1, l2) hE.symm) rfl rfl rfl (gk_cons rfl ⟨9, rfl⟩ (gk_cons rfl ⟨9, rfl⟩ (gk_cons rfl ⟨9, rfl⟩ (gk_cons rfl ⟨9, rfl⟩ (gk_cons rfl ⟨9, rfl⟩ gk_nil))))) (gb_box rfl rfl (rn_ovl rfl) (gb_loop hlow_1 rfl rfl rfl (gb_box rfl rfl ⟨9, rfl⟩ (gb_obl 9 rfl rfl (fun _ => rfl) gb_nil))))
      · intro hj_3
        refine GS.block ?_
        refine GS.seq ?_
        obtain ⟨y2, h_6, hM⟩ := bind_of hM
        refine GS.region ?_
        iterate 2 refine X.opR rfl rfl rfl ?_
        refine X.call (ok_tide_heights_1 h_6) rfl rfl rfl (.cons (.shut (n := 9) rfl) (.cons (.shut (n := 9) rfl) (.cons (.shut (n := 9) rfl) .nil))) ?_
        refine X.opR rfl rfl rfl ?_
        refine GS.opsNil ?_
        iterate 2 refine GS.seq ?_
        refine GS.region ?_
        iterate 4 refine X.opR rfl rfl rfl ?_
        refine GS.opsNil ?_
        refine X.cond rfl (fun h_7 => ?_) (fun h_7 => ?_)
        · replace hM := ite_t h_7 hM
          refine GS.seq ?_
          refine GS.region ?_
          iterate 3 refine X.opR rfl rfl rfl ?_
          refine X.op0W (H' := [.rows 1 [(ovl 3 l4)], lr R_1 .ready none, .rows 3 [(V.agg [(V.i Lo2), (V.i t), (V.i Height2)])], obl 3 e_api_Stand l4]) rfl rfl rfl ?_
          refine GS.opsNil ?_
          refine GS.exit rfl ?_
          exact X.gc [some 2, some 3] (hj_3 (Lo2, Height2, l4) hM) rfl rfl rfl (gk_cons rfl ⟨9, rfl⟩ (gk_cons rfl ⟨9, rfl⟩ (gk_cons rfl ⟨9, rfl⟩ (gk_cons rfl ⟨9, rfl⟩ (gk_cons rfl ⟨9, rfl⟩ gk_nil))))) (gb_box rfl rfl (rn_ovl rfl) (gb_loop hlow_1 rfl rfl rfl (gb_box rfl rfl ⟨9, rfl⟩ (gb_obl 9 rfl rfl (fun _ => rfl) gb_nil))))
        · replace hM := ite_f h_7 hM
          refine GS.skip ?_
          iterate 2 refine GS.seq ?_
          refine GS.region ?_
          iterate 2 refine X.opR rfl rfl rfl ?_
          refine X.yld hrn_1 hrK_1 hrp_1 hra_1 hrb_1 rfl rfl rfl rfl rfl rfl ?_
          refine GS.region ?_
          refine X.opW (H' := [.rows 1 [(ovl 3 l4)], lr R_1 .ready none, .rows 3 [(V.agg [(V.i Lo2), (V.i Hi1), (V.i Height2)])], obl 3 e_api_Stand l4, .rows 3 [(V.agg [(V.i 0), (V.i 0), (V.i 0)])]]) rfl rfl rfl rfl ?_
          refine X.op0W (H' := [.rows 1 [(ovl 3 l4)], lr R_1 .ready none, .rows 3 [(V.agg [(V.i Lo2), (V.i Hi1), (V.i Height2)])], obl 3 e_api_Stand l4, .rows 3 [(V.agg [(V.i Lo2), (V.i Hi1), (V.i Height2)])]]) rfl rfl rfl ?_
          refine GS.opsNil ?_
          refine GS.nil (X.begin' rfl rfl ?_ rfl)
          refine GS.block ?_
          obtain ⟨l3, h_8, hM⟩ := bind_of hM
          refine GS.region ?_
          refine X.opR rfl (v := (ovl 3 l4)) (by rcases X.ovl_or (z := true) 3 l4 with h0 | ⟨n0, h0⟩ <;> simp only [h0] <;> rfl) rfl ?_
          refine X.opR rfl rfl rfl ?_
          refine X.opW (H' := [.rows 1 [(ovl 3 l4)], lr R_1 .busy none, .rows 3 [(V.agg [(V.i Lo2), (V.i Hi1), (V.i Height2)])], obl 3 e_api_Stand l4, .rows 3 [(V.agg [(V.i Lo2), (V.i Hi1), (V.i Height2)])], .rows 3 (List.map e_api_Stand ([(⟨(⟨Lo2, Hi1⟩ : api_Span), Height2⟩ : api_Stand)]))]) rfl rfl rfl rfl ?_
          refine X.appN (f := e_api_Stand) h_8 (fun _ => rfl) (by rfl) (by rfl) (by rfl) (by rfl) (by rfl) (by rfl) (by rfl) (by rfl) (by rfl) (by rfl) (by rfl) (by exact rfl) (by rfl) (by rfl) ?_
          refine X.op0W (H' := [.rows 1 [(V.osl 6 0 (List.length l3))], lr R_1 .busy none, .rows 3 [(V.agg [(V.i Lo2), (V.i Hi1), (V.i Height2)])], .dead, .rows 3 [(V.agg [(V.i Lo2), (V.i Hi1), (V.i Height2)])], .rows 3 (List.map e_api_Stand ([(⟨(⟨Lo2, Hi1⟩ : api_Span), Height2⟩ : api_Stand)])), .rows 3 (List.map e_api_Stand l3)]) rfl (v := undefV) (wr := [(0, .rows 1 [(V.osl 6 0 (List.length l3))])]) (by rcases X.ovl_or (z := true) 3 l4 with h0 | ⟨n0, h0⟩ <;> simp only [h0] <;> rfl) rfl ?_
          refine GS.opsNil ?_
          refine GS.endB ?_
          refine GS.nil ⟨_, rfl, ?_⟩
          refine X.norm (H' := [.rows 1 [(V.osl 6 0 (List.length l3))], lr R_1 .ready none, .rows 3 [(V.agg [(V.i Lo2), (V.i Hi1), (V.i Height2)])], .dead, .rows 3 [(V.agg [(V.i Lo2), (V.i Hi1), (V.i Height2)])], .rows 3 (List.map e_api_Stand ([(⟨(⟨Lo2, Hi1⟩ : api_Span), Height2⟩ : api_Stand)])), .rows 3 (List.map e_api_Stand l3)]) [(0, (V.yld 1)), (2, (V.fptr [(e_api_Span c1)] 0 0)), (4, (V.fn 85 [(V.fptr [(e_api_Water y.1)] 0 0), (V.fptr [(e_parts y.2)] 0 0)])), (5, (V.ptr 2 0 0)), (6, (V.i t)), (7, (V.i y2)), (41, (V.b true))] ?_ rfl (W.sub_cons rfl (W.sub_cons rfl (W.sub_cons rfl (W.sub_cons rfl (W.sub_cons rfl (W.sub_cons rfl (W.sub_cons rfl W.sub_nil)))))))
          refine X.opR rfl rfl rfl ?_
          refine GS.opsNil ?_
          refine GS.condF rfl ?_
          refine GS.skip ?_
          refine GS.region ?_
          iterate 5 refine X.opR rfl rfl rfl ?_
          refine X.op0W (H' := [.rows 1 [(V.osl 6 0 (List.length l3))], lr R_1 .ready none, .rows 3 [(V.agg [(V.i t), (V.i t), (V.i y2)])], .dead, .rows 3 [(V.agg [(V.i Lo2), (V.i Hi1), (V.i Height2)])], .rows 3 (List.map e_api_Stand ([(⟨(⟨Lo2, Hi1⟩ : api_Span), Height2⟩ : api_Stand)])), .rows 3 (List.map e_api_Stand l3)]) rfl rfl rfl ?_
          refine GS.opsNil ?_
          refine GS.endB ?_
          exact X.gc [some 2, some 6] (hj_3 (t, y2, l3) hM) rfl rfl rfl (gk_cons rfl ⟨9, rfl⟩ (gk_cons rfl ⟨9, rfl⟩ (gk_cons rfl ⟨9, rfl⟩ (gk_cons rfl ⟨9, rfl⟩ (gk_cons rfl ⟨9, rfl⟩ gk_nil))))) (gb_box rfl rfl (rv_ne (app_ne h_8) rfl) (gb_loop hlow_1 rfl rfl rfl (gb_box rfl rfl ⟨9, rfl⟩ (gb_obl' 9 (app_ne h_8) rfl rfl (fun _ => rfl) gb_nil))))
    · replace hM := ite_f h_5 hM
      refine GS.exit rfl ?_
      obtain ⟨y_1, hM, hy⟩ := map_of hM
      rw [hr_1 _ hy.symm] at hM
      exact X.gc [some 2, some 3] (hj_1 (Lo2, Hi1, Height2, l4) hM) rfl rfl rfl (gk_cons rfl ⟨9, rfl⟩ (gk_cons rfl ⟨9, rfl⟩ gk_nil)) (gb_box rfl rfl (rn_ovl rfl) (gb_loop hlow_1 rfl rfl rfl (gb_box rfl rfl ⟨9, rfl⟩ (gb_obl 9 rfl rfl (fun _ => rfl) gb_nil))))

theorem ok_slices_Collect_api_Stand__tide_stands_1 {c : api_Water} {c1 : api_Span} {r : (List api_Stand)} (hM : slices_Collect_api_Stand__tide_stands_1 c c1 = some r) : Ct Tryz.prog 61 [(V.fn 88 [(V.fptr [(e_api_Water c)] 0 0), (V.fptr [(e_api_Span c1)] 0 0)])] (V.sl (List.map e_api_Stand r)) := by
  refine ct_of_gs CC_ok rfl ?_
  unfold slices_Collect_api_Stand__tide_stands_1 at hM
  refine GS.seq ?_
  refine GS.region ?_
  refine X.opR rfl rfl rfl ?_
  refine GS.opsNil ?_
  refine GS.seq ?_
  obtain ⟨y, h_1, hM⟩ := bind_of hM
  refine GS.region ?_
  refine X.opR rfl rfl rfl ?_
  refine X.call (ok_slices_AppendSeq_api_Stand__tide_stands_1 h_1) rfl rfl rfl (.cons (.shut (n := 9) rfl) (.cons (.shut (n := 9) rfl) .nil)) ?_
  refine X.opR rfl rfl rfl ?_
  refine GS.opsNil ?_
  have hE := Option.some.inj hM
  subst hE
  exact GS.ret ⟨_, rfl, ⟨30, rfl⟩⟩

theorem ok_tide_Stands {w : api_Water} {s : api_Span} {r : (List api_Stand) × Int} (hM : tide_Stands w s = some r) : Ct Tryz.prog 25 [(e_api_Water w), (e_api_Span s)] (V.tup [(V.sl (List.map e_api_Stand r.1)), (V.i r.2)]) := by
  refine ct_of_gs CC_ok rfl ?_
  unfold tide_Stands at hM
  refine GS.seq ?_
  refine GS.region ?_
  iterate 2 refine X.opW rfl rfl rfl rfl ?_
  iterate 2 refine X.opR rfl rfl rfl ?_
  refine GS.opsNil ?_
  iterate 2 refine GS.seq ?_
  obtain ⟨y, h_1, hM⟩ := bind_of hM
  refine GS.region ?_
  iterate 2 refine X.opR rfl rfl rfl ?_
  refine X.call (ok_tide_asked h_1) rfl rfl rfl (.cons (.shut (n := 9) rfl) (.cons (.shut (n := 9) rfl) .nil)) ?_
  refine X.opR rfl rfl rfl ?_
  refine GS.opsNil ?_
  refine GS.seq ?_
  refine GS.region ?_
  iterate 2 refine X.opR rfl rfl rfl ?_
  refine GS.opsNil ?_
  refine X.cond rfl (fun h_2 => ?_) (fun h_2 => ?_)
  · replace hM := ite_t h_2 hM
    refine GS.seq ?_
    refine GS.region ?_
    iterate 3 refine X.opR rfl rfl rfl ?_
    refine GS.opsNil ?_
    have hE := Option.some.inj hM
    subst hE
    exact GS.ret ⟨_, rfl, ⟨30, rfl⟩⟩
  · replace hM := ite_f h_2 hM
    refine GS.skip ?_
    refine GS.seq ?_
    obtain ⟨y1, h_3, hM⟩ := bind_of hM
    refine GS.region ?_
    iterate 2 refine X.opR rfl rfl rfl ?_
    refine X.call (ok_tide_stands w s) rfl rfl rfl (.cons (.shut (n := 9) rfl) (.cons (.shut (n := 9) rfl) .nil)) ?_
    refine X.call (ok_slices_Collect_api_Stand__tide_stands_1 h_3) rfl rfl rfl (.cons (.shut (n := 9) rfl) .nil) ?_
    iterate 2 refine X.opR rfl rfl rfl ?_
    refine GS.opsNil ?_
    have hE := Option.some.inj hM
    subst hE
    exact GS.ret ⟨_, rfl, ⟨30, rfl⟩⟩

theorem ok_tide_turns {w : api_Water} {s : api_Span} {sign : Int} {r : (List api_Stand) × Int} (hM : tide_turns w s sign = some r) : Ct Tryz.prog 63 [(e_api_Water w), (e_api_Span s), (V.i sign)] (V.tup [(V.sl (List.map e_api_Stand r.1)), (V.i r.2)]) := by
  refine ct_of_gs CC_ok rfl ?_
  unfold tide_turns at hM
  refine GS.seq ?_
  refine GS.region ?_
  iterate 2 refine X.opW rfl rfl rfl rfl ?_
  iterate 2 refine X.opR rfl rfl rfl ?_
  refine GS.opsNil ?_
  refine GS.seq ?_
  obtain ⟨y, h_1, hM⟩ := bind_of hM
  refine GS.region ?_
  iterate 2 refine X.opR rfl rfl rfl ?_
  refine X.call (ok_tide_Stands h_1) rfl rfl rfl (.cons (.shut (n := 9) rfl) (.cons (.shut (n := 9) rfl) .nil)) ?_
  iterate 5 refine X.opR rfl rfl rfl ?_
  refine GS.opsNil ?_
  refine GS.seq ?_
  refine GS.region ?_
  refine X.opR rfl rfl rfl ?_
  refine GS.opsNil ?_
  iterate 2 refine GS.seq ?_
  refine GS.region ?_
  refine X.opR rfl rfl rfl ?_
  refine GS.opsNil ?_
  refine X.join (τ := (List api_Stand)) (fun v => tide_turns_j1 y v = some r) (fun v => ⟨[(9, (V.i y.2)), (10, (ovl 0 v))], [obl 3 e_api_Stand v], 0, none, 68⟩) ?_ ?_
  · intro l hM
    replace hM : tide_turns_j1 y l = some r := hM
    unfold tide_turns_j1 at hM
    refine GS.seq ?_
    refine GS.region ?_
    iterate 4 refine X.opR rfl rfl rfl ?_
    refine GS.opsNil ?_
    have hE := Option.some.inj hM
    subst hE
    exact GS.ret ⟨_, rfl, FR.tup (.cons (FR.ovl (f := e_api_Stand) (l := l) 9 rfl rfl (fun _ => rfl)) (.cons ⟨30, rfl⟩ .nil))⟩
  · intro hj_1
    refine GS.block ?_
    refine X.gc [none] (X.loop (σ := (Int × (List api_Stand))) (fun v => ⟨[(2, (V.i sign)), (8, (V.sl (List.map e_api_Stand y.1))), (9, (V.i y.2)), (10, (ovl 0 v.2)), (11, (V.i v.1))], [obl 3 e_api_Stand v.2], 0, none, 68⟩) hM ?_ rfl) rfl rfl rfl (gk_cons rfl ⟨9, rfl⟩ (gk_cons rfl ⟨9, rfl⟩ (gk_cons rfl ⟨9, rfl⟩ (gk_cons rfl ⟨9, rfl⟩ (gk_cons rfl ⟨9, rfl⟩ gk_nil))))) (gb_pad' rfl gb_nil)
    rintro ⟨i, l3⟩ b_1 hM hc_2 hr_1
    rw [tide_turns_b2] at hM
    iterate 2 refine GS.seq ?_
    refine GS.region ?_
    refine X.opR rfl rfl rfl ?_
    refine X.opR rfl (X.addE rfl rfl) rfl ?_
    refine X.opR rfl rfl rfl ?_
    refine X.opR rfl (X.lenF rfl rfl rfl) rfl ?_
    refine X.opR rfl rfl rfl ?_
    refine GS.opsNil ?_
    refine X.cond rfl (fun h_2 => ?_) (fun h_2 => ?_)
    · replace hM := ite_t h_2 hM
      refine GS.skip ?_
      refine GS.seq ?_
      refine X.join (τ := (List api_Stand)) (fun v => tide_turns_j3 i v = some b_1) (fun v => ⟨[(2, (V.i sign)), (8, (V.sl (List.map e_api_Stand y.1))), (9, (V.i y.2)), (10, (ovl 0 v)), (11, (V.i i))], [obl 3 e_api_Stand v], 0, none, 68⟩) ?_ ?_
      · intro l1 hM
        replace hM : tide_turns_j3 i l1 = some b_1 := hM
        unfold tide_turns_j3 at hM
        refine GS.region ?_
        refine X.opR rfl rfl rfl ?_
        refine X.opR rfl (X.addE rfl rfl) rfl ?_
        refine X.opR rfl rfl rfl ?_
        refine GS.opsNil ?_
        have hE := Option.some.inj hM
        exact X.gc [some 0] (hc_2 (w64 (i + 1), l1) hE.symm) rfl rfl rfl (gk_cons rfl ⟨9, rfl⟩ (gk_cons rfl ⟨9, rfl⟩ (gk_cons rfl ⟨9, rfl⟩ (gk_cons rfl (rn_ovl rfl) (gk_cons rfl ⟨9, rfl⟩ gk_nil))))) (gb_obl 9 rfl rfl (fun _ => rfl) gb_nil)
      · intro hj_3
        refine GS.block ?_
        refine GS.seq ?_
        obtain ⟨x, h_3, hM⟩ := bind_of hM
        obtain ⟨x1, h_4, hM⟩ := bind_of hM
        obtain ⟨x2, h_5, hM⟩ := gb_of hM
        obtain ⟨x3, h_6, hM⟩ := gb_of hM
        refine X.mid [(2, (V.i sign)), (8, (V.sl (List.map e_api_Stand y.1))), (9, (V.i y.2)), (10, (ovl 0 l3)), (11, (V.i i)), (58, (V.b ((decide ((w64 (sign * x1.Height)) < (w64 (sign * x.Height)))) && (decide ((w64 (sign * x3.Height)) < (w64 (sign * x2.Height)))))))] ?_ ?_
        · intro hg
          refine X.split (decide ((w64 (sign * x1.Height)) < (w64 (sign * x.Height)))) (fun h_7 => ?_) (fun h_7 => ?_)
          · refine X.drawc (by kernel_rfl) rfl ?_
            iterate 3 refine X.cop rfl rfl rfl rfl ?_
            refine X.cop rfl (X.indexF (f := e_api_Stand) h_3 (fun _ => rfl) rfl rfl rfl rfl) rfl rfl ?_
            refine X.cop rfl rfl rfl rfl ?_
            refine X.cop rfl (X.loadF h_3 rfl rfl rfl) rfl rfl ?_
            refine X.cop rfl (X.mulE rfl rfl) rfl rfl ?_
            iterate 3 refine X.cop rfl rfl rfl rfl ?_
            refine X.cop rfl (X.subE rfl rfl) rfl rfl ?_
            refine X.cop rfl (X.indexF (f := e_api_Stand) h_4 (fun _ => rfl) rfl rfl rfl rfl) rfl rfl ?_
            refine X.cop rfl rfl rfl rfl ?_
            refine X.cop rfl (X.loadF h_4 rfl rfl rfl) rfl rfl ?_
            refine X.cop rfl (X.mulE rfl rfl) rfl rfl ?_
            iterate 2 refine X.cop rfl rfl rfl rfl ?_
            iterate 3 refine X.cop (X.on_t rfl rfl rfl h_7) rfl rfl rfl ?_
            refine X.cop (X.on_t rfl rfl rfl h_7) (X.indexF (f := e_api_Stand) (h_5 h_7) (fun _ => rfl) rfl rfl rfl rfl) rfl rfl ?_
            refine X.cop (X.on_t rfl rfl rfl h_7) rfl rfl rfl ?_
            refine X.cop (X.on_t rfl rfl rfl h_7) (X.loadF (h_5 h_7) rfl rfl rfl) rfl rfl ?_
            refine X.cop (X.on_t rfl rfl rfl h_7) (X.mulE rfl rfl) rfl rfl ?_
            iterate 3 refine X.cop (X.on_t rfl rfl rfl h_7) rfl rfl rfl ?_
            refine X.cop (X.on_t rfl rfl rfl h_7) (X.addE rfl rfl) rfl rfl ?_
            refine X.cop (X.on_t rfl rfl rfl h_7) (X.indexF (f := e_api_Stand) (h_6 h_7) (fun _ => rfl) rfl rfl rfl rfl) rfl rfl ?_
            refine X.cop (X.on_t rfl rfl rfl h_7) rfl rfl rfl ?_
            refine X.cop (X.on_t rfl rfl rfl h_7) (X.loadF (h_6 h_7) rfl rfl rfl) rfl rfl ?_
            refine X.cop (X.on_t rfl rfl rfl h_7) (X.mulE rfl rfl) rfl rfl ?_
            refine X.cop (X.on_t rfl rfl rfl h_7) rfl rfl rfl ?_
            refine X.cop rfl (X.pickand_t (y := decide ((w64 (sign * x3.Height)) < (w64 (sign * x2.Height)))) rfl h_7 rfl) rfl rfl ?_
            refine X.cnil ?_
            exact X.norm _ hg rfl (W.sub_cons rfl (W.sub_cons rfl (W.sub_cons rfl (W.sub_cons rfl (W.sub_cons rfl (W.sub_cons rfl W.sub_nil))))))
          · refine X.drawc (by kernel_rfl) rfl ?_
            iterate 3 refine X.cop rfl rfl rfl rfl ?_
            refine X.cop rfl (X.indexF (f := e_api_Stand) h_3 (fun _ => rfl) rfl rfl rfl rfl) rfl rfl ?_
            refine X.cop rfl rfl rfl rfl ?_
            refine X.cop rfl (X.loadF h_3 rfl rfl rfl) rfl rfl ?_
            refine X.cop rfl (X.mulE rfl rfl) rfl rfl ?_
            iterate 3 refine X.cop rfl rfl rfl rfl ?_
            refine X.cop rfl (X.subE rfl rfl) rfl rfl ?_
            refine X.cop rfl (X.indexF (f := e_api_Stand) h_4 (fun _ => rfl) rfl rfl rfl rfl) rfl rfl ?_
            refine X.cop rfl rfl rfl rfl ?_
            refine X.cop rfl (X.loadF h_4 rfl rfl rfl) rfl rfl ?_
            refine X.cop rfl (X.mulE rfl rfl) rfl rfl ?_
            iterate 2 refine X.cop rfl rfl rfl rfl ?_
            iterate 16 refine X.coff (X.off_t rfl rfl rfl h_7) rfl rfl ?_
            refine X.cop rfl (X.pickand_f (y := decide ((w64 (sign * x3.Height)) < (w64 (sign * x2.Height)))) rfl h_7 rfl) rfl rfl ?_
            refine X.cnil ?_
            exact X.norm _ hg rfl (W.sub_cons rfl (W.sub_cons rfl (W.sub_cons rfl (W.sub_cons rfl (W.sub_cons rfl (W.sub_cons rfl W.sub_nil))))))
        refine X.cond rfl (fun h_8 => ?_) (fun h_8 => ?_)
        · replace hM := ite_t h_8 hM
          obtain ⟨x4, h_9, hM⟩ := bind_of hM
          obtain ⟨l2, h_10, hM⟩ := bind_of hM
          refine GS.region ?_
          iterate 3 refine X.opR rfl rfl rfl ?_
          refine X.opR rfl (X.indexF (f := e_api_Stand) h_9 (fun _ => rfl) rfl rfl rfl rfl) rfl ?_
          refine X.opR rfl (X.loadF h_9 rfl rfl rfl) rfl ?_
          refine X.opW rfl rfl rfl rfl ?_
          refine X.appN (f := e_api_Stand) h_10 (fun _ => rfl) (by rfl) (by rfl) (by rfl) (by rfl) (by rfl) (by rfl) (by rfl) (by rfl) (by rfl) (by rfl) (by rfl) (by exact rfl) (by rfl) (by rfl) ?_
          refine X.opR rfl rfl rfl ?_
          refine GS.opsNil ?_
          refine GS.endB ?_
          exact X.gc [some 2] (hj_3 l2 hM) rfl rfl rfl (gk_cons rfl ⟨9, rfl⟩ (gk_cons rfl ⟨9, rfl⟩ (gk_cons rfl ⟨9, rfl⟩ (gk_cons rfl (rv_ne (app_ne h_10) rfl) (gk_cons rfl ⟨9, rfl⟩ gk_nil))))) (gb_obl' 9 (app_ne h_10) rfl rfl (fun _ => rfl) gb_nil)
        · replace hM := ite_f h_8 hM
          refine GS.skip ?_
          refine GS.endB ?_
          exact X.gc [some 0] (hj_3 l3 hM) rfl rfl rfl (gk_cons rfl ⟨9, rfl⟩ (gk_cons rfl ⟨9, rfl⟩ (gk_cons rfl ⟨9, rfl⟩ (gk_cons rfl (rn_ovl rfl) (gk_cons rfl ⟨9, rfl⟩ gk_nil))))) (gb_obl 9 rfl rfl (fun _ => rfl) gb_nil)
    · replace hM := ite_f h_2 hM
      refine GS.exit rfl ?_
      obtain ⟨y_1, hM, hy⟩ := map_of hM
      rw [hr_1 _ hy.symm] at hM
      exact X.gc [some 0] (hj_1 l3 hM) rfl rfl rfl (gk_cons rfl ⟨9, rfl⟩ (gk_cons rfl (rn_ovl rfl) gk_nil)) (gb_obl 9 rfl rfl (fun _ => rfl) gb_nil)

theorem ok_tide_LowWaters {w : api_Water} {s : api_Span} {r : (List api_Stand) × Int} (hM : tide_LowWaters w s = some r) : Ct Tryz.prog 26 [(e_api_Water w), (e_api_Span s)] (V.tup [(V.sl (List.map e_api_Stand r.1)), (V.i r.2)]) := by
  refine ct_of_gs CC_ok rfl ?_
  unfold tide_LowWaters at hM
  refine GS.seq ?_
  refine GS.region ?_
  iterate 2 refine X.opW rfl rfl rfl rfl ?_
  iterate 2 refine X.opR rfl rfl rfl ?_
  refine GS.opsNil ?_
  refine GS.seq ?_
  obtain ⟨y, h_1, hM⟩ := bind_of hM
  refine GS.region ?_
  iterate 2 refine X.opR rfl rfl rfl ?_
  refine X.call (ok_tide_turns h_1) rfl rfl rfl (.cons (.shut (n := 9) rfl) (.cons (.shut (n := 9) rfl) (.cons (.shut (n := 9) rfl) .nil))) ?_
  iterate 4 refine X.opR rfl rfl rfl ?_
  refine GS.opsNil ?_
  have hE := Option.some.inj hM
  subst hE
  exact GS.ret ⟨_, rfl, ⟨30, rfl⟩⟩

set_option maxHeartbeats 4000000 in
theorem ok_tide_Windows {w : api_Water} {s : api_Span} {height : Int} {r : (List api_Span) × Int} (hM : tide_Windows w s height = some r) : Ct Tryz.prog 27 [(e_api_Water w), (e_api_Span s), (V.i height)] (V.tup [(V.sl (List.map e_api_Span r.1)), (V.i r.2)]) := by
  refine ct_of_gs CC_ok rfl ?_
  unfold tide_Windows at hM
  refine GS.seq ?_
  refine GS.region ?_
  iterate 3 refine X.opW rfl rfl rfl rfl ?_
  iterate 2 refine X.opR rfl rfl rfl ?_
  refine GS.opsNil ?_
  iterate 2 refine GS.seq ?_
  obtain ⟨y, h_1, hM⟩ := bind_of hM
  refine GS.region ?_
  iterate 2 refine X.opR rfl rfl rfl ?_
  refine X.call (ok_tide_asked h_1) rfl rfl rfl (.cons (.shut (n := 9) rfl) (.cons (.shut (n := 9) rfl) .nil)) ?_
  refine X.opR rfl rfl rfl ?_
  refine GS.opsNil ?_
  refine GS.seq ?_
  refine GS.region ?_
  iterate 2 refine X.opR rfl rfl rfl ?_
  refine GS.opsNil ?_
  refine X.cond rfl (fun h_2 => ?_) (fun h_2 => ?_)
  · replace hM := ite_t h_2 hM
    refine GS.seq ?_
    refine GS.region ?_
    iterate 3 refine X.opR rfl rfl rfl ?_
    refine GS.opsNil ?_
    have hE := Option.some.inj hM
    subst hE
    exact GS.ret ⟨_, rfl, ⟨30, rfl⟩⟩
  · replace hM := ite_f h_2 hM
    refine GS.skip ?_
    refine GS.seq ?_
    refine GS.region ?_
    refine X.opW (H' := [.rows 3 [(e_api_Water w)], .rows 2 [(e_api_Span s)], .rows 1 [(V.i height)], .rows 1 [V.nil]]) rfl rfl rfl rfl ?_
    refine GS.opsNil ?_
    iterate 2 refine GS.seq ?_
    refine GS.region ?_
    iterate 2 refine X.opR rfl rfl rfl ?_
    refine X.call (ok_tide_stands w s) rfl rfl rfl (.cons (.shut (n := 9) rfl) (.cons (.shut (n := 9) rfl) .nil)) ?_
    refine GS.opsNil ?_
    refine GS.block ?_
    refine X.gc [some 2, some 3] (H' := [.rows 1 [(V.i height)], .rows 1 [V.nil]]) (K' := [(5, (V.ptr 0 0 0)), (9, (V.ptr 1 0 0)), (20, (V.fn 88 [(V.fptr [(e_api_Water ((tide_stands w s).1))] 0 0), (V.fptr [(e_api_Span ((tide_stands w s).2))] 0 0)]))]) ?_ rfl rfl rfl (gk_cons rfl ⟨9, rfl⟩ (gk_cons rfl ⟨9, rfl⟩ (gk_cons rfl ⟨9, rfl⟩ gk_nil))) (gb_box rfl rfl ⟨9, rfl⟩ (gb_box rfl rfl ⟨9, rfl⟩ gb_nil))
    refine X.range rfl rfl (lowK_cons ⟨9, rfl⟩ (lowK_cons ⟨9, rfl⟩ (lowK_cons ⟨9, rfl⟩ lowK_nil))) rfl ?_
    intro R_3 hrn_3 hrK_3 hrp_3 hra_3 hrb_3 hlow_3
    refine GS.seq ?_
    obtain ⟨y1, h_4, hM⟩ := bind_of hM
    refine GS.region ?_
    refine X.opR rfl rfl rfl ?_
    refine X.call (ok_tide_heights h_4) rfl rfl rfl (.cons (.shut (n := 9) rfl) .nil) ?_
    refine X.opR rfl rfl rfl ?_
    refine GS.opsNil ?_
    refine GS.seq ?_
    obtain ⟨y2, h_5, hM⟩ := bind_of hM
    refine X.draw (by kernel_rfl) ?_
    iterate 8 refine X.dop rfl rfl rfl rfl (by kernel_rfl) rfl rfl ?_
    refine X.dcall (ok_tide_heights_1 h_5) rfl rfl rfl (by kernel_rfl) rfl (.cons (.shut (n := 9) rfl) (.cons (.shut (n := 9) rfl) (.cons (.shut (n := 9) rfl) .nil))) ?_
    iterate 2 refine X.dop rfl rfl rfl rfl (by kernel_rfl) rfl rfl ?_
    refine X.dop0 rfl rfl rfl rfl (by kernel_rfl) rfl ?_
    refine X.dnil ?_
    refine X.norm [(0, (V.yld 2)), (2, (V.fptr [(e_api_Span ((tide_stands w s).2))] 0 0)), (4, (V.fn 85 [(V.fptr [(e_api_Water y1.1)] 0 0), (V.fptr [(e_parts y1.2)] 0 0)])), (5, (V.ptr 3 0 0))] ?_ rfl (W.sub_cons rfl (W.sub_cons rfl (W.sub_cons rfl (W.sub_cons rfl W.sub_nil))))
    iterate 2 refine GS.seq ?_
    refine GS.region ?_
    iterate 2 refine X.opR rfl rfl rfl ?_
    refine X.opR rfl (X.addE rfl rfl) rfl ?_
    refine X.opR rfl rfl rfl ?_
    refine GS.opsNil ?_
    refine X.join (τ := Int × Int × Int × (List api_Span)) (fun v => tide_Windows_j1 height v.1 v.2.1 v.2.2.1 v.2.2.2 = some r) (fun v => ⟨[(0, (V.yld 2)), (5, (V.ptr 3 0 0))], [.rows 1 [(V.i height)], .rows 1 [(ovl 4 v.2.2.2)], lr R_3 .ready none, .rows 3 [(V.agg [(V.i v.1), (V.i v.2.1), (V.i v.2.2.1)])], obl 2 e_api_Span v.2.2.2], 0, none, 51⟩) ?_ ?_
    · rintro ⟨Lo, Hi, Height, l⟩ hM
      replace hM : tide_Windows_j1 height Lo Hi Height l = some r := hM
      unfold tide_Windows_j1 at hM
      refine GS.region ?_
      iterate 2 refine X.opR rfl rfl rfl ?_
      refine X.yld hrn_3 hrK_3 hrp_3 hra_3 hrb_3 rfl rfl rfl rfl rfl rfl ?_
      refine GS.region ?_
      refine X.opW (H' := [.rows 1 [(V.i height)], .rows 1 [(ovl 4 l)], lr R_3 .ready none, .rows 3 [(V.agg [(V.i Lo), (V.i Hi), (V.i Height)])], obl 2 e_api_Span l, .rows 3 [(V.agg [(V.i 0), (V.i 0), (V.i 0)])]]) rfl rfl rfl rfl ?_
      refine X.op0W (H' := [.rows 1 [(V.i height)], .rows 1 [(ovl 4 l)], lr R_3 .ready none, .rows 3 [(V.agg [(V.i Lo), (V.i Hi), (V.i Height)])], obl 2 e_api_Span l, .rows 3 [(V.agg [(V.i Lo), (V.i Hi), (V.i Height)])]]) rfl rfl rfl ?_
      refine GS.opsNil ?_
      refine GS.nil (X.begin' rfl rfl ?_ rfl)
      refine GS.block ?_
      iterate 2 refine GS.seq ?_
      refine GS.region ?_
      iterate 4 refine X.opR rfl rfl rfl ?_
      refine GS.opsNil ?_
      refine X.cond rfl (fun h_6 => ?_) (fun h_6 => ?_)
      · replace hM := ite_t h_6 hM
        refine GS.exit rfl ?_
        refine GS.nil ⟨_, rfl, ?_⟩
        refine X.norm (H' := [.rows 1 [(V.i height)], .rows 1 [(ovl 4 l)], lr R_3 .ready none, .rows 3 [(V.agg [(V.i Lo), (V.i Hi), (V.i Height)])], obl 2 e_api_Span l, .rows 3 [(V.agg [(V.i Lo), (V.i Hi), (V.i Height)])]]) [(50, (V.b true))] ?_ rfl (W.sub_cons rfl W.sub_nil)
        refine GS.opsNil ?_
        refine GS.nil ⟨_, _, rfl, rfl, ?_⟩
        refine X.norm (H' := [.rows 1 [(V.i height)], .rows 1 [(ovl 4 l)], .dead, .rows 3 [(V.agg [(V.i Lo), (V.i Hi), (V.i Height)])], obl 2 e_api_Span l, .rows 3 [(V.agg [(V.i Lo), (V.i Hi), (V.i Height)])]]) [(5, (V.ptr 0 0 0)), (9, (V.ptr 1 0 0)), (20, (V.fn 88 [(V.fptr [(e_api_Water ((tide_stands w s).1))] 0 0), (V.fptr [(e_api_Span ((tide_stands w s).2))] 0 0)]))] ?_ rfl (W.sub_cons rfl (W.sub_cons rfl (W.sub_cons rfl W.sub_nil)))
        refine GS.endB ?_
        refine GS.seq ?_
        refine GS.region ?_
        refine X.opR rfl (v := (ovl 4 l)) (by rcases X.ovl_or (z := true) 4 l with h0 | ⟨n0, h0⟩ <;> simp only [h0] <;> rfl) rfl ?_
        iterate 2 refine X.opR rfl rfl rfl ?_
        refine GS.opsNil ?_
        have hE := Option.some.inj hM
        subst hE
        exact GS.ret ⟨_, rfl, FR.tup (.cons (FR.ovl (f := e_api_Span) (l := l) 9 rfl rfl (fun _ => rfl)) (.cons ⟨30, rfl⟩ .nil))⟩
      · replace hM := ite_f h_6 hM
        refine GS.skip ?_
        refine GS.seq ?_
        refine GS.region ?_
        refine X.opR rfl (v := (ovl 4 l)) (by rcases X.ovl_or (z := true) 4 l with h0 | ⟨n0, h0⟩ <;> simp only [h0] <;> rfl) rfl ?_
        refine X.opR rfl (X.lenN (l := l) rfl rfl rfl) rfl ?_
        refine X.opR rfl rfl rfl ?_
        refine GS.opsNil ?_
        refine GS.seq ?_
        obtain ⟨x, h_7, hM⟩ := gb_of hM
        refine X.mid [(9, (V.ptr 1 0 0)), (10, (V.ptr 5 0 0)), (11, (V.i (l.length : Int))), (42, (V.b ((decide (0 < (l.length : Int))) && (decide ((w64 (x.Hi + 1)) = Lo)))))] ?_ ?_
        · intro hg
          refine X.split (decide (0 < (l.length : Int))) (fun h_8 => ?_) (fun h_8 => ?_)
          · refine X.drawc (by kernel_rfl) rfl ?_
            iterate 3 refine X.cop rfl rfl rfl rfl ?_
            refine X.cop (X.on_t rfl rfl rfl h_8) (v := (ovl 4 l)) (by rcases X.ovl_or (z := true) 4 l with h0 | ⟨n0, h0⟩ <;> simp only [h0] <;> rfl) rfl rfl ?_
            refine X.cop (X.on_t rfl rfl rfl h_8) rfl rfl rfl ?_
            refine X.cop (X.on_t rfl rfl rfl h_8) (X.subE rfl rfl) rfl rfl ?_
            refine X.cop (X.on_t rfl rfl rfl h_8) (X.indexN (h_7 h_8) rfl rfl rfl rfl rfl) rfl rfl ?_
            refine X.cop (X.on_t rfl rfl rfl h_8) rfl rfl rfl ?_
            refine X.cop (X.on_t rfl rfl rfl h_8) (X.loadN (h_7 h_8) rfl rfl rfl rfl) rfl rfl ?_
            refine X.cop (X.on_t rfl rfl rfl h_8) (X.addE rfl rfl) rfl rfl ?_
            iterate 4 refine X.cop (X.on_t rfl rfl rfl h_8) rfl rfl rfl ?_
            refine X.cop rfl (X.pickand_t (y := decide ((w64 (x.Hi + 1)) = Lo)) rfl h_8 rfl) rfl rfl ?_
            refine X.cnil ?_
            exact X.norm _ hg rfl (W.sub_cons rfl (W.sub_cons rfl (W.sub_cons rfl (W.sub_cons rfl W.sub_nil))))
          · refine X.drawc (by kernel_rfl) rfl ?_
            iterate 3 refine X.cop rfl rfl rfl rfl ?_
            iterate 11 refine X.coff (X.off_t rfl rfl rfl h_8) rfl rfl ?_
            refine X.cop rfl (X.pickand_f (y := decide ((w64 (x.Hi + 1)) = Lo)) rfl h_8 rfl) rfl rfl ?_
            refine X.cnil ?_
            exact X.norm _ hg rfl (W.sub_cons rfl (W.sub_cons rfl (W.sub_cons rfl (W.sub_cons rfl W.sub_nil))))
        refine X.cond rfl (fun h_9 => ?_) (fun h_9 => ?_)
        · replace hM := ite_t h_9 hM
          obtain ⟨x1, h_10, hM⟩ := bind_of hM
          refine GS.region ?_
          refine X.opR rfl (v := (ovl 4 l)) (by rcases X.ovl_or (z := true) 4 l with h0 | ⟨n0, h0⟩ <;> simp only [h0] <;> rfl) rfl ?_
          refine X.opR rfl rfl rfl ?_
          refine X.opR rfl (X.subE rfl rfl) rfl ?_
          iterate 3 refine X.opR rfl rfl rfl ?_
          refine X.opR rfl (X.indexN h_10 rfl rfl rfl rfl rfl) rfl ?_
          refine X.opR rfl rfl rfl ?_
          refine X.op0W (H' := [.rows 1 [(V.i height)], .rows 1 [(ovl 4 l)], lr R_3 .busy none, .rows 3 [(V.agg [(V.i Lo), (V.i Hi), (V.i Height)])], obl 2 e_api_Span (put l (w64 ((l.length : Int) - 1)) (⟨x1.Lo, Hi⟩ : api_Span)), .rows 3 [(V.agg [(V.i Lo), (V.i Hi), (V.i Height)])]]) rfl (X.storeN (b := (⟨x1.Lo, Hi⟩ : api_Span)) h_10 rfl rfl rfl rfl rfl rfl rfl) rfl ?_
          refine GS.opsNil ?_
          refine GS.endB ?_
          refine GS.nil ⟨_, rfl, ?_⟩
          refine X.norm (H' := [.rows 1 [(V.i height)], .rows 1 [(ovl 4 l)], lr R_3 .ready none, .rows 3 [(V.agg [(V.i Lo), (V.i Hi), (V.i Height)])], obl 2 e_api_Span (put l (w64 ((l.length : Int) - 1)) (⟨x1.Lo, Hi⟩ : api_Span)), .rows 3 [(V.agg [(V.i Lo), (V.i Hi), (V.i Height)])]]) [(50, (V.b true))] ?_ rfl (W.sub_cons rfl W.sub_nil)
          refine GS.opsNil ?_
          refine GS.nil ⟨_, _, rfl, rfl, ?_⟩
          refine X.norm (H' := [.rows 1 [(V.i height)], .rows 1 [(ovl 4 l)], .dead, .rows 3 [(V.agg [(V.i Lo), (V.i Hi), (V.i Height)])], obl 2 e_api_Span (put l (w64 ((l.length : Int) - 1)) (⟨x1.Lo, Hi⟩ : api_Span)), .rows 3 [(V.agg [(V.i Lo), (V.i Hi), (V.i Height)])]]) [(5, (V.ptr 0 0 0)), (9, (V.ptr 1 0 0)), (20, (V.fn 88 [(V.fptr [(e_api_Water ((tide_stands w s).1))] 0 0), (V.fptr [(e_api_Span ((tide_stands w s).2))] 0 0)]))] ?_ rfl (W.sub_cons rfl (W.sub_cons rfl (W.sub_cons rfl W.sub_nil)))
          refine GS.endB ?_
          refine GS.seq ?_
          refine GS.region ?_
          refine X.opR rfl (v := (ovl 4 l)) (by rcases X.ovl_or (z := true) 4 l with h0 | ⟨n0, h0⟩ <;> simp only [h0] <;> rfl) rfl ?_
          iterate 2 refine X.opR rfl rfl rfl ?_
          refine GS.opsNil ?_
          have hE := Option.some.inj hM
          subst hE
          exact GS.ret ⟨_, rfl, FR.tup (.cons (FR.eq X.ovl_put (FR.ovl (f := e_api_Span) (l := (put l (w64 ((l.length : Int) - 1)) (⟨x1.Lo, Hi⟩ : api_Span))) 9 rfl rfl (fun _ => rfl))) (.cons ⟨30, rfl⟩ .nil))⟩
        · replace hM := ite_f h_9 hM
          obtain ⟨l1, h_11, hM⟩ := bind_of hM
          refine GS.region ?_
          refine X.opR rfl (v := (ovl 4 l)) (by rcases X.ovl_or (z := true) 4 l with h0 | ⟨n0, h0⟩ <;> simp only [h0] <;> rfl) rfl ?_
          iterate 2 refine X.opR rfl rfl rfl ?_
          refine X.opW (H' := [.rows 1 [(V.i height)], .rows 1 [(ovl 4 l)], lr R_3 .busy none, .rows 3 [(V.agg [(V.i Lo), (V.i Hi), (V.i Height)])], obl 2 e_api_Span l, .rows 3 [(V.agg [(V.i Lo), (V.i Hi), (V.i Height)])], .rows 2 (List.map e_api_Span ([(⟨Lo, Hi⟩ : api_Span)]))]) rfl rfl rfl rfl ?_
          refine X.appN (f := e_api_Span) h_11 (fun _ => rfl) (by rfl) (by rfl) (by rfl) (by rfl) (by rfl) (by rfl) (by rfl) (by rfl) (by rfl) (by rfl) (by rfl) (by exact rfl) (by rfl) (by rfl) ?_
          refine X.op0W (H' := [.rows 1 [(V.i height)], .rows 1 [(V.osl 7 0 (List.length l1))], lr R_3 .busy none, .rows 3 [(V.agg [(V.i Lo), (V.i Hi), (V.i Height)])], .dead, .rows 3 [(V.agg [(V.i Lo), (V.i Hi), (V.i Height)])], .rows 2 (List.map e_api_Span ([(⟨Lo, Hi⟩ : api_Span)])), .rows 2 (List.map e_api_Span l1)]) rfl (v := undefV) (wr := [(1, .rows 1 [(V.osl 7 0 (List.length l1))])]) (by rcases X.ovl_or (z := true) 4 l with h0 | ⟨n0, h0⟩ <;> simp only [h0] <;> rfl) rfl ?_
          refine GS.opsNil ?_
          refine GS.endB ?_
          refine GS.nil ⟨_, rfl, ?_⟩
          refine X.norm (H' := [.rows 1 [(V.i height)], .rows 1 [(V.osl 7 0 (List.length l1))], lr R_3 .ready none, .rows 3 [(V.agg [(V.i Lo), (V.i Hi), (V.i Height)])], .dead, .rows 3 [(V.agg [(V.i Lo), (V.i Hi), (V.i Height)])], .rows 2 (List.map e_api_Span ([(⟨Lo, Hi⟩ : api_Span)])), .rows 2 (List.map e_api_Span l1)]) [(50, (V.b true))] ?_ rfl (W.sub_cons rfl W.sub_nil)
          refine GS.opsNil ?_
          refine GS.nil ⟨_, _, rfl, rfl, ?_⟩
          refine X.norm (H' := [.rows 1 [(V.i height)], .rows 1 [(V.osl 7 0 (List.length l1))], .dead, .rows 3 [(V.agg [(V.i Lo), (V.i Hi), (V.i Height)])], .dead, .rows 3 [(V.agg [(V.i Lo), (V.i Hi), (V.i Height)])], .rows 2 (List.map e_api_Span ([(⟨Lo, Hi⟩ : api_Span)])), .rows 2 (List.map e_api_Span l1)]) [(5, (V.ptr 0 0 0)), (9, (V.ptr 1 0 0)), (20, (V.fn 88 [(V.fptr [(e_api_Water ((tide_stands w s).1))] 0 0), (V.fptr [(e_api_Span ((tide_stands w s).2))] 0 0)]))] ?_ rfl (W.sub_cons rfl (W.sub_cons rfl (W.sub_cons rfl W.sub_nil)))
          refine GS.endB ?_
          refine GS.seq ?_
          refine GS.region ?_
          iterate 3 refine X.opR rfl rfl rfl ?_
          refine GS.opsNil ?_
          have hE := Option.some.inj hM
          subst hE
          exact GS.ret ⟨_, rfl, FR.tup (.cons (FR.osl (f := e_api_Span) (l := l1) 9 rfl rfl (fun _ => rfl)) (.cons ⟨30, rfl⟩ .nil))⟩
    · intro hj_1
      refine GS.block ?_
      refine X.gc [some 3, none] (X.loop (σ := (Int × Int × Int × Int × (List api_Span))) (fun v => ⟨[(0, (V.yld 2)), (2, (V.fptr [(e_api_Span ((tide_stands w s).2))] 0 0)), (4, (V.fn 85 [(V.fptr [(e_api_Water y1.1)] 0 0), (V.fptr [(e_parts y1.2)] 0 0)])), (5, (V.ptr 3 0 0)), (6, (V.i v.1))], [.rows 1 [(V.i height)], .rows 1 [(ovl 4 v.2.2.2.2)], lr R_3 .ready none, .rows 3 [(V.agg [(V.i v.2.1), (V.i v.2.2.1), (V.i v.2.2.2.1)])], obl 2 e_api_Span v.2.2.2.2], 0, none, 51⟩) hM ?_ rfl) rfl rfl rfl (gk_cons rfl ⟨9, rfl⟩ (gk_cons rfl ⟨9, rfl⟩ (gk_cons rfl ⟨9, rfl⟩ (gk_cons rfl ⟨9, rfl⟩ (gk_cons rfl ⟨9, rfl⟩ gk_nil))))) (gb_box rfl rfl ⟨9, rfl⟩ (gb_box rfl rfl ⟨9, rfl⟩ (gb_loop hlow_3 rfl rfl rfl (gb_box rfl rfl ⟨9, rfl⟩ (gb_pad' rfl gb_nil)))))
      rintro ⟨t, Lo2, Hi1, Height2, l5⟩ b_1 hM hc_2 hr_1
      rw [tide_Windows_b2] at hM
      iterate 2 refine GS.seq ?_
      refine GS.region ?_
      iterate 4 refine X.opR rfl rfl rfl ?_
      refine GS.opsNil ?_
      refine X.cond rfl (fun h_12 => ?_) (fun h_12 => ?_)
      · replace hM := ite_t h_12 hM
        refine GS.skip ?_
        refine GS.seq ?_
        refine X.join (τ := Int × Int × (List api_Span)) (fun v => tide_Windows_j3 t v.1 v.2.1 v.2.2 = some b_1) (fun v => ⟨[(0, (V.yld 2)), (2, (V.fptr [(e_api_Span ((tide_stands w s).2))] 0 0)), (4, (V.fn 85 [(V.fptr [(e_api_Water y1.1)] 0 0), (V.fptr [(e_parts y1.2)] 0 0)])), (5, (V.ptr 3 0 0)), (6, (V.i t))], [.rows 1 [(V.i height)], .rows 1 [(ovl 4 v.2.2)], lr R_3 .ready none, .rows 3 [(V.agg [(V.i v.1), (V.i t), (V.i v.2.1)])], obl 2 e_api_Span v.2.2], 0, none, 51⟩) ?_ ?_
        · rintro ⟨Lo1, Height1, l2⟩ hM
          replace hM : tide_Windows_j3 t Lo1 Height1 l2 = some b_1 := hM
          unfold tide_Windows_j3 at hM
          refine GS.region ?_
          refine X.opR rfl rfl rfl ?_
          refine X.opR rfl (X.addE rfl rfl) rfl ?_
          refine X.opR rfl rfl rfl ?_
          refine GS.opsNil ?_
          have hE := Option.some.inj hM
          exact X.gc [some 3, some 4] (hc_2 (w64 (t + 1), Lo1, t, Height1, l2) hE.symm) rfl rfl rfl (gk_cons rfl ⟨9, rfl⟩ (gk_cons rfl ⟨9, rfl⟩ (gk_cons rfl ⟨9, rfl⟩ (gk_cons rfl ⟨9, rfl⟩ (gk_cons rfl ⟨9, rfl⟩ gk_nil))))) (gb_box rfl rfl ⟨9, rfl⟩ (gb_box rfl rfl (rn_ovl rfl) (gb_loop hlow_3 rfl rfl rfl (gb_box rfl rfl ⟨9, rfl⟩ (gb_obl 9 rfl rfl (fun _ => rfl) gb_nil)))))
        · intro hj_3
          refine GS.block ?_
          refine GS.seq ?_
          obtain ⟨y3, h_13, hM⟩ := bind_of hM
          refine GS.region ?_
          iterate 2 refine X.opR rfl rfl rfl ?_
          refine X.call (ok_tide_heights_1 h_13) rfl rfl rfl (.cons (.shut (n := 9) rfl) (.cons (.shut (n := 9) rfl) (.cons (.shut (n := 9) rfl) .nil))) ?_
          refine X.opR rfl rfl rfl ?_
          refine GS.opsNil ?_
          iterate 2 refine GS.seq ?_
          refine GS.region ?_
          iterate 4 refine X.opR rfl rfl rfl ?_
          refine GS.opsNil ?_
          refine X.cond rfl (fun h_14 => ?_) (fun h_14 => ?_)
          · replace hM := ite_t h_14 hM
            refine GS.seq ?_
            refine GS.region ?_
            iterate 3 refine X.opR rfl rfl rfl ?_
            refine X.op0W (H' := [.rows 1 [(V.i height)], .rows 1 [(ovl 4 l5)], lr R_3 .ready none, .rows 3 [(V.agg [(V.i Lo2), (V.i t), (V.i Height2)])], obl 2 e_api_Span l5]) rfl rfl rfl ?_
            refine GS.opsNil ?_
            refine GS.exit rfl ?_
            exact X.gc [some 3, some 4] (hj_3 (Lo2, Height2, l5) hM) rfl rfl rfl (gk_cons rfl ⟨9, rfl⟩ (gk_cons rfl ⟨9, rfl⟩ (gk_cons rfl ⟨9, rfl⟩ (gk_cons rfl ⟨9, rfl⟩ (gk_cons rfl ⟨9, rfl⟩ gk_nil))))) (gb_box rfl rfl ⟨9, rfl⟩ (gb_box rfl rfl (rn_ovl rfl) (gb_loop hlow_3 rfl rfl rfl (gb_box rfl rfl ⟨9, rfl⟩ (gb_obl 9 rfl rfl (fun _ => rfl) gb_nil)))))
          · replace hM := ite_f h_14 hM
            refine GS.skip ?_
            iterate 2 refine GS.seq ?_
            refine GS.region ?_
            iterate 2 refine X.opR rfl rfl rfl ?_
            refine X.yld hrn_3 hrK_3 hrp_3 hra_3 hrb_3 rfl rfl rfl rfl rfl rfl ?_
            refine GS.region ?_
            refine X.opW (H' := [.rows 1 [(V.i height)], .rows 1 [(ovl 4 l5)], lr R_3 .ready none, .rows 3 [(V.agg [(V.i Lo2), (V.i Hi1), (V.i Height2)])], obl 2 e_api_Span l5, .rows 3 [(V.agg [(V.i 0), (V.i 0), (V.i 0)])]]) rfl rfl rfl rfl ?_
            refine X.op0W (H' := [.rows 1 [(V.i height)], .rows 1 [(ovl 4 l5)], lr R_3 .ready none, .rows 3 [(V.agg [(V.i Lo2), (V.i Hi1), (V.i Height2)])], obl 2 e_api_Span l5, .rows 3 [(V.agg [(V.i Lo2), (V.i Hi1), (V.i Height2)])]]) rfl rfl rfl ?_
            refine GS.opsNil ?_
            refine GS.nil (X.begin' rfl rfl ?_ rfl)
            refine GS.block ?_
            iterate 2 refine GS.seq ?_
            refine GS.region ?_
            iterate 4 refine X.opR rfl rfl rfl ?_
            refine GS.opsNil ?_
            refine X.cond rfl (fun h_15 => ?_) (fun h_15 => ?_)
            · replace hM := ite_t h_15 hM
              refine GS.exit rfl ?_
              refine GS.nil ⟨_, rfl, ?_⟩
              refine X.norm (H' := [.rows 1 [(V.i height)], .rows 1 [(ovl 4 l5)], lr R_3 .ready none, .rows 3 [(V.agg [(V.i Lo2), (V.i Hi1), (V.i Height2)])], obl 2 e_api_Span l5, .rows 3 [(V.agg [(V.i Lo2), (V.i Hi1), (V.i Height2)])]]) [(0, (V.yld 2)), (2, (V.fptr [(e_api_Span ((tide_stands w s).2))] 0 0)), (4, (V.fn 85 [(V.fptr [(e_api_Water y1.1)] 0 0), (V.fptr [(e_parts y1.2)] 0 0)])), (5, (V.ptr 3 0 0)), (6, (V.i t)), (7, (V.i y3)), (41, (V.b true))] ?_ rfl (W.sub_cons rfl (W.sub_cons rfl (W.sub_cons rfl (W.sub_cons rfl (W.sub_cons rfl (W.sub_cons rfl (W.sub_cons rfl W.sub_nil)))))))
              refine X.opR rfl rfl rfl ?_
              refine GS.opsNil ?_
              refine GS.condF rfl ?_
              refine GS.skip ?_
              refine GS.region ?_
              iterate 5 refine X.opR rfl rfl rfl ?_
              refine X.op0W (H' := [.rows 1 [(V.i height)], .rows 1 [(ovl 4 l5)], lr R_3 .ready none, .rows 3 [(V.agg [(V.i t), (V.i t), (V.i y3)])], obl 2 e_api_Span l5, .rows 3 [(V.agg [(V.i Lo2), (V.i Hi1), (V.i Height2)])]]) rfl rfl rfl ?_
              refine GS.opsNil ?_
              refine GS.endB ?_
              exact X.gc [some 3, some 4] (hj_3 (t, y3, l5) hM) rfl rfl rfl (gk_cons rfl ⟨9, rfl⟩ (gk_cons rfl ⟨9, rfl⟩ (gk_cons rfl ⟨9, rfl⟩ (gk_cons rfl ⟨9, rfl⟩ (gk_cons rfl ⟨9, rfl⟩ gk_nil))))) (gb_box rfl rfl ⟨9, rfl⟩ (gb_box rfl rfl (rn_ovl rfl) (gb_loop hlow_3 rfl rfl rfl (gb_box rfl rfl ⟨9, rfl⟩ (gb_obl 9 rfl rfl (fun _ => rfl) gb_nil)))))
            · replace hM := ite_f h_15 hM
              refine GS.skip ?_
              refine GS.seq ?_
              refine GS.region ?_
              refine X.opR rfl (v := (ovl 4 l5)) (by rcases X.ovl_or (z := true) 4 l5 with h0 | ⟨n0, h0⟩ <;> simp only [h0] <;> rfl) rfl ?_
              refine X.opR rfl (X.lenN (l := l5) rfl rfl rfl) rfl ?_
              refine X.opR rfl rfl rfl ?_
              refine GS.opsNil ?_
              refine GS.seq ?_
              obtain ⟨x2, h_16, hM⟩ := gb_of hM
              refine X.mid [(9, (V.ptr 1 0 0)), (10, (V.ptr 5 0 0)), (11, (V.i (l5.length : Int))), (42, (V.b ((decide (0 < (l5.length : Int))) && (decide ((w64 (x2.Hi + 1)) = Lo2)))))] ?_ ?_
              · intro hg
                refine X.split (decide (0 < (l5.length : Int))) (fun h_17 => ?_) (fun h_17 => ?_)
                · refine X.drawc (by kernel_rfl) rfl ?_
                  iterate 3 refine X.cop rfl rfl rfl rfl ?_
                  refine X.cop (X.on_t rfl rfl rfl h_17) (v := (ovl 4 l5)) (by rcases X.ovl_or (z := true) 4 l5 with h0 | ⟨n0, h0⟩ <;> simp only [h0] <;> rfl) rfl rfl ?_
                  refine X.cop (X.on_t rfl rfl rfl h_17) rfl rfl rfl ?_
                  refine X.cop (X.on_t rfl rfl rfl h_17) (X.subE rfl rfl) rfl rfl ?_
                  refine X.cop (X.on_t rfl rfl rfl h_17) (X.indexN (h_16 h_17) rfl rfl rfl rfl rfl) rfl rfl ?_
                  refine X.cop (X.on_t rfl rfl rfl h_17) rfl rfl rfl ?_
                  refine X.cop (X.on_t rfl rfl rfl h_17) (X.loadN (h_16 h_17) rfl rfl rfl rfl) rfl rfl ?_
                  refine X.cop (X.on_t rfl rfl rfl h_17) (X.addE rfl rfl) rfl rfl ?_
                  iterate 4 refine X.cop (X.on_t rfl rfl rfl h_17) rfl rfl rfl ?_
                  refine X.cop rfl (X.pickand_t (y := decide ((w64 (x2.Hi + 1)) = Lo2)) rfl h_17 rfl) rfl rfl ?_
                  refine X.cnil ?_
                  exact X.norm _ hg rfl (W.sub_cons rfl (W.sub_cons rfl (W.sub_cons rfl (W.sub_cons rfl W.sub_nil))))
                · refine X.drawc (by kernel_rfl) rfl ?_
                  iterate 3 refine X.cop rfl rfl rfl rfl ?_
                  iterate 11 refine X.coff (X.off_t rfl rfl rfl h_17) rfl rfl ?_
                  refine X.cop rfl (X.pickand_f (y := decide ((w64 (x2.Hi + 1)) = Lo2)) rfl h_17 rfl) rfl rfl ?_
                  refine X.cnil ?_
                  exact X.norm _ hg rfl (W.sub_cons rfl (W.sub_cons rfl (W.sub_cons rfl (W.sub_cons rfl W.sub_nil))))
              refine X.cond rfl (fun h_18 => ?_) (fun h_18 => ?_)
              · replace hM := ite_t h_18 hM
                obtain ⟨x3, h_19, hM⟩ := bind_of hM
                refine GS.region ?_
                refine X.opR rfl (v := (ovl 4 l5)) (by rcases X.ovl_or (z := true) 4 l5 with h0 | ⟨n0, h0⟩ <;> simp only [h0] <;> rfl) rfl ?_
                refine X.opR rfl rfl rfl ?_
                refine X.opR rfl (X.subE rfl rfl) rfl ?_
                iterate 3 refine X.opR rfl rfl rfl ?_
                refine X.opR rfl (X.indexN h_19 rfl rfl rfl rfl rfl) rfl ?_
                refine X.opR rfl rfl rfl ?_
                refine X.op0W (H' := [.rows 1 [(V.i height)], .rows 1 [(ovl 4 l5)], lr R_3 .busy none, .rows 3 [(V.agg [(V.i Lo2), (V.i Hi1), (V.i Height2)])], obl 2 e_api_Span (put l5 (w64 ((l5.length : Int) - 1)) (⟨x3.Lo, Hi1⟩ : api_Span)), .rows 3 [(V.agg [(V.i Lo2), (V.i Hi1), (V.i Height2)])]]) rfl (X.storeN (b := (⟨x3.Lo, Hi1⟩ : api_Span)) h_19 rfl rfl rfl rfl rfl rfl rfl) rfl ?_
                refine GS.opsNil ?_
                refine GS.endB ?_
                refine GS.nil ⟨_, rfl, ?_⟩
                refine X.norm (H' := [.rows 1 [(V.i height)], .rows 1 [(ovl 4 l5)], lr R_3 .ready none, .rows 3 [(V.agg [(V.i Lo2), (V.i Hi1), (V.i Height2)])], obl 2 e_api_Span (put l5 (w64 ((l5.length : Int) - 1)) (⟨x3.Lo, Hi1⟩ : api_Span)), .rows 3 [(V.agg [(V.i Lo2), (V.i Hi1), (V.i Height2)])]]) [(0, (V.yld 2)), (2, (V.fptr [(e_api_Span ((tide_stands w s).2))] 0 0)), (4, (V.fn 85 [(V.fptr [(e_api_Water y1.1)] 0 0), (V.fptr [(e_parts y1.2)] 0 0)])), (5, (V.ptr 3 0 0)), (6, (V.i t)), (7, (V.i y3)), (41, (V.b true))] ?_ rfl (W.sub_cons rfl (W.sub_cons rfl (W.sub_cons rfl (W.sub_cons rfl (W.sub_cons rfl (W.sub_cons rfl (W.sub_cons rfl W.sub_nil)))))))
                refine X.opR rfl rfl rfl ?_
                refine GS.opsNil ?_
                refine GS.condF rfl ?_
                refine GS.skip ?_
                refine GS.region ?_
                iterate 5 refine X.opR rfl rfl rfl ?_
                refine X.op0W (H' := [.rows 1 [(V.i height)], .rows 1 [(ovl 4 l5)], lr R_3 .ready none, .rows 3 [(V.agg [(V.i t), (V.i t), (V.i y3)])], obl 2 e_api_Span (put l5 (w64 ((l5.length : Int) - 1)) (⟨x3.Lo, Hi1⟩ : api_Span)), .rows 3 [(V.agg [(V.i Lo2), (V.i Hi1), (V.i Height2)])]]) rfl rfl rfl ?_
                refine GS.opsNil ?_
                refine GS.endB ?_
                exact X.gc [some 3, some 4] (hj_3 (t, y3, (put l5 (w64 ((l5.length : Int) - 1)) (⟨x3.Lo, Hi1⟩ : api_Span))) hM) rfl rfl rfl (gk_cons rfl ⟨9, rfl⟩ (gk_cons rfl ⟨9, rfl⟩ (gk_cons rfl ⟨9, rfl⟩ (gk_cons rfl ⟨9, rfl⟩ (gk_cons rfl ⟨9, rfl⟩ gk_nil))))) (gb_box rfl rfl ⟨9, rfl⟩ (gb_box rfl rfl (rv_eq X.ovl_put (rn_ovl rfl)) (gb_loop hlow_3 rfl rfl rfl (gb_box rfl rfl ⟨9, rfl⟩ (gb_obl 9 rfl rfl (fun _ => rfl) gb_nil)))))
              · replace hM := ite_f h_18 hM
                obtain ⟨l3, h_20, hM⟩ := bind_of hM
                refine GS.region ?_
                refine X.opR rfl (v := (ovl 4 l5)) (by rcases X.ovl_or (z := true) 4 l5 with h0 | ⟨n0, h0⟩ <;> simp only [h0] <;> rfl) rfl ?_
                iterate 2 refine X.opR rfl rfl rfl ?_
                refine X.opW (H' := [.rows 1 [(V.i height)], .rows 1 [(ovl 4 l5)], lr R_3 .busy none, .rows 3 [(V.agg [(V.i Lo2), (V.i Hi1), (V.i Height2)])], obl 2 e_api_Span l5, .rows 3 [(V.agg [(V.i Lo2), (V.i Hi1), (V.i Height2)])], .rows 2 (List.map e_api_Span ([(⟨Lo2, Hi1⟩ : api_Span)]))]) rfl rfl rfl rfl ?_
                refine X.appN (f := e_api_Span) h_20 (fun _ => rfl) (by rfl) (by rfl) (by rfl) (by rfl) (by rfl) (by rfl) (by rfl) (by rfl) (by rfl) (by rfl) (by rfl) (by exact rfl) (by rfl) (by rfl) ?_
                refine X.op0W (H' := [.rows 1 [(V.i height)], .rows 1 [(V.osl 7 0 (List.length l3))], lr R_3 .busy none, .rows 3 [(V.agg [(V.i Lo2), (V.i Hi1), (V.i Height2)])], .dead, .rows 3 [(V.agg [(V.i Lo2), (V.i Hi1), (V.i Height2)])], .rows 2 (List.map e_api_Span ([(⟨Lo2, Hi1⟩ : api_Span)])), .rows 2 (List.map e_api_Span l3)]) rfl (v := undefV) (wr := [(1, .rows 1 [(V.osl 7 0 (List.length l3))])]) (by rcases X.ovl_or (z := true) 4 l5 with h0 | ⟨n0, h0⟩ <;> simp only [h0] <;> rfl) rfl ?_
                refine GS.opsNil ?_
                refine GS.endB ?_
                refine GS.nil ⟨_, rfl, ?_⟩
                refine X.norm (H' := [.rows 1 [(V.i height)], .rows 1 [(V.osl 7 0 (List.length l3))], lr R_3 .ready none, .rows 3 [(V.agg [(V.i Lo2), (V.i Hi1), (V.i Height2)])], .dead, .rows 3 [(V.agg [(V.i Lo2), (V.i Hi1), (V.i Height2)])], .rows 2 (List.map e_api_Span ([(⟨Lo2, Hi1⟩ : api_Span)])), .rows 2 (List.map e_api_Span l3)]) [(0, (V.yld 2)), (2, (V.fptr [(e_api_Span ((tide_stands w s).2))] 0 0)), (4, (V.fn 85 [(V.fptr [(e_api_Water y1.1)] 0 0), (V.fptr [(e_parts y1.2)] 0 0)])), (5, (V.ptr 3 0 0)), (6, (V.i t)), (7, (V.i y3)), (41, (V.b true))] ?_ rfl (W.sub_cons rfl (W.sub_cons rfl (W.sub_cons rfl (W.sub_cons rfl (W.sub_cons rfl (W.sub_cons rfl (W.sub_cons rfl W.sub_nil)))))))
                refine X.opR rfl rfl rfl ?_
                refine GS.opsNil ?_
                refine GS.condF rfl ?_
                refine GS.skip ?_
                refine GS.region ?_
                iterate 5 refine X.opR rfl rfl rfl ?_
                refine X.op0W (H' := [.rows 1 [(V.i height)], .rows 1 [(V.osl 7 0 (List.length l3))], lr R_3 .ready none, .rows 3 [(V.agg [(V.i t), (V.i t), (V.i y3)])], .dead, .rows 3 [(V.agg [(V.i Lo2), (V.i Hi1), (V.i Height2)])], .rows 2 (List.map e_api_Span ([(⟨Lo2, Hi1⟩ : api_Span)])), .rows 2 (List.map e_api_Span l3)]) rfl rfl rfl ?_
                refine GS.opsNil ?_
                refine GS.endB ?_
                exact X.gc [some 3, some 7] (hj_3 (t, y3, l3) hM) rfl rfl rfl (gk_cons rfl ⟨9, rfl⟩ (gk_cons rfl ⟨9, rfl⟩ (gk_cons rfl ⟨9, rfl⟩ (gk_cons rfl ⟨9, rfl⟩ (gk_cons rfl ⟨9, rfl⟩ gk_nil))))) (gb_box rfl rfl ⟨9, rfl⟩ (gb_box rfl rfl (rv_ne (app_ne h_20) rfl) (gb_loop hlow_3 rfl rfl rfl (gb_box rfl rfl ⟨9, rfl⟩ (gb_obl' 9 (app_ne h_20) rfl rfl (fun _ => rfl) gb_nil)))))
      · replace hM := ite_f h_12 hM
        refine GS.exit rfl ?_
        obtain ⟨y_1, hM, hy⟩ := map_of hM
        rw [hr_1 _ hy.symm] at hM
        exact X.gc [some 3, some 4] (hj_1 (Lo2, Hi1, Height2, l5) hM) rfl rfl rfl (gk_cons rfl ⟨9, rfl⟩ (gk_cons rfl ⟨9, rfl⟩ gk_nil)) (gb_box rfl rfl ⟨9, rfl⟩ (gb_box rfl rfl (rn_ovl rfl) (gb_loop hlow_3 rfl rfl rfl (gb_box rfl rfl ⟨9, rfl⟩ (gb_obl 9 rfl rfl (fun _ => rfl) gb_nil)))))

theorem ok_tide_Lowest {w : api_Water} {s : api_Span} {r : Int × Int × Int} (hM : tide_Lowest w s = some r) : Ct Tryz.prog 64 [(e_api_Water w), (e_api_Span s)] (V.tup [(V.i r.1), (V.i r.2.1), (V.i r.2.2)]) := by
  refine ct_of_gs CC_ok rfl ?_
  unfold tide_Lowest at hM
  refine GS.seq ?_
  refine GS.region ?_
  iterate 2 refine X.opW rfl rfl rfl rfl ?_
  iterate 3 refine X.opR rfl rfl rfl ?_
  refine GS.opsNil ?_
  refine GS.seq ?_
  obtain ⟨y, h_1, hM⟩ := bind_of hM
  refine GS.region ?_
  iterate 2 refine X.opR rfl rfl rfl ?_
  refine X.call (ok_tide_extreme h_1) rfl rfl rfl (.cons (.shut (n := 9) rfl) (.cons (.shut (n := 9) rfl) (.cons (.shut (n := 9) rfl) .nil))) ?_
  iterate 6 refine X.opR rfl rfl rfl ?_
  refine GS.opsNil ?_
  have hE := Option.some.inj hM
  subst hE
  exact GS.ret ⟨_, rfl, ⟨30, rfl⟩⟩

theorem ok_tide_least {first : Int} {l : (List Int)} {r : Int} (hM : tide_least first l = some r) : Ct Tryz.prog 92 [(V.i first), (V.sl (List.map V.i l))] (V.i r) := by
  refine ct_of_gs CC_ok rfl ?_
  unfold tide_least at hM
  refine GS.seq ?_
  refine GS.region ?_
  refine X.opR rfl rfl rfl ?_
  refine GS.opsNil ?_
  iterate 2 refine GS.seq ?_
  refine GS.region ?_
  refine X.opR rfl rfl rfl ?_
  refine X.opR rfl (X.lenF rfl rfl rfl) rfl ?_
  refine X.opR rfl rfl rfl ?_
  refine GS.opsNil ?_
  refine X.join (τ := Int) (fun v => tide_least_j1 v = some r) (fun v => ⟨[(0, (V.i v))], [], 0, none, 18⟩) ?_ ?_
  · intro first1 hM
    replace hM : tide_least_j1 first1 = some r := hM
    unfold tide_least_j1 at hM
    refine GS.seq ?_
    refine GS.region ?_
    iterate 2 refine X.opR rfl rfl rfl ?_
    refine GS.opsNil ?_
    have hE := Option.some.inj hM
    subst hE
    exact GS.ret ⟨_, rfl, ⟨30, rfl⟩⟩
  · intro hj_1
    refine GS.block ?_
    refine X.gc [] (X.loop (σ := (Int × Int)) (fun v => ⟨[(0, (V.i v.1)), (7, (V.sl (List.map V.i l))), (8, (V.i (l.length : Int))), (9, (V.i v.2))], [], 0, none, 18⟩) hM ?_ rfl) rfl rfl rfl (gk_cons rfl ⟨9, rfl⟩ (gk_cons rfl ⟨9, rfl⟩ (gk_cons rfl ⟨9, rfl⟩ (gk_cons rfl ⟨9, rfl⟩ gk_nil)))) (gb_nil)
    rintro ⟨first2, x1⟩ b_1 hM hc_2 hr_1
    rw [tide_least_b2] at hM
    refine GS.seq ?_
    refine GS.region ?_
    refine X.opR rfl rfl rfl ?_
    refine GS.opsNil ?_
    refine GS.seq ?_
    refine X.cond rfl (fun h_1 => ?_) (fun h_1 => ?_)
    · replace hM := ite_t h_1 hM
      refine GS.skip ?_
      refine GS.seq ?_
      refine GS.block ?_
      refine GS.seq ?_
      obtain ⟨x, h_2, hM⟩ := bind_of hM
      refine GS.region ?_
      refine X.opR rfl (X.indexF (f := V.i) h_2 (fun _ => rfl) rfl rfl rfl rfl) rfl ?_
      refine X.opR rfl (X.loadF h_2 rfl rfl rfl) rfl ?_
      refine X.opR rfl rfl rfl ?_
      refine GS.opsNil ?_
      refine GS.region ?_
      iterate 2 refine X.opR rfl rfl rfl ?_
      refine X.opR rfl (X.minE rfl rfl) rfl ?_
      refine X.opR rfl rfl rfl ?_
      refine GS.opsNil ?_
      refine GS.endB ?_
      refine GS.region ?_
      refine X.opR rfl (X.addE rfl rfl) rfl ?_
      refine X.opR rfl rfl rfl ?_
      refine GS.opsNil ?_
      have hE := Option.some.inj hM
      exact X.gc [] (hc_2 (min first2 x, w64 (x1 + 1)) hE.symm) rfl rfl rfl (gk_cons rfl ⟨9, rfl⟩ (gk_cons rfl ⟨9, rfl⟩ (gk_cons rfl ⟨9, rfl⟩ (gk_cons rfl ⟨9, rfl⟩ gk_nil)))) (gb_nil)
    · replace hM := ite_f h_1 hM
      refine GS.exit rfl ?_
      obtain ⟨y_1, hM, hy⟩ := map_of hM
      rw [hr_1 _ hy.symm] at hM
      exact X.gc [] (hj_1 first2 hM) rfl rfl rfl (gk_cons rfl ⟨9, rfl⟩ gk_nil) (gb_nil)

abbrev e_tide_floor (x : tide_floor) : V := .agg [(V.i x.w.Level), (V.sl (List.map e_api_Cycle x.w.Cycles)), (V.sl (List.map e_api_Shift x.w.Shifts)), (e_parts x.parts), (e_mi x.lowest)]

theorem part_call {w : api_Water} {tick n : Int} {j : Nat} {vv : V} (hj : j < w.Cycles.length + 1) (h : tide_part w ((j : Int) - 1) tick = some n) (hv : Am.get (.fn 89 [.fptr [e_api_Water w] 0 0] :: w.Cycles.map fun c => .fn 91 [.fptr [e_api_Cycle c] 0 0]) j = some vv) : ∃ g caps, vv = .fn g caps ∧ Ct Tryz.prog g (.i tick :: caps) (.i n) ∧ caps.all (shut 9) = true := by
  unfold tide_part at h
  cases j with
  | zero =>
    simp only [Am.get, Option.some.injEq] at hv
    subst hv
    simp only [show ((0 : Nat) : Int) - 1 = -1 by omega, if_true] at h
    exact ⟨_, _, rfl, ok_tide_parts_1 h, rfl⟩
  | succ j =>
    simp only [Am.get] at hv
    rw [get_eq, List.getElem?_map] at hv
    rw [if_neg (by omega)] at h
    obtain ⟨c, h1, h2⟩ := bind_of h
    obtain ⟨_, _, h3⟩ := ix_of h1
    rw [show (((j + 1 : Nat) : Int) - 1).toNat = j by omega] at h3
    rw [h3] at hv
    simp only [Option.map_some, Option.some.injEq] at hv
    subst hv
    exact ⟨_, _, rfl, ok_tide_parts_2 h2, rfl⟩
def lookO (l : Option (List (Int × Int))) (i : Int) : Option Int := Option.bind l (lookI · i)
theorem findA_look : ∀ (l : List (Int × Int)) (i : Int) (k : Nat), match lookI l i with
    | some v => ∃ j, findA (.i i) (l.map fun p => V.i p.1) k = some (some (k + j)) ∧ Am.get (l.map fun p => V.i p.2) j = some (V.i v)
    | none => findA (.i i) (l.map fun p => V.i p.1) k = some none
  | [], i, k => rfl
  | (a, b) :: r, i, k => by
    simp only [lookI]
    by_cases h : i = a
    · simp only [h, if_true]
      exact ⟨0, by simp [findA, keyEq, kindEq], rfl⟩
    · simp only [h, if_false]
      have ih := findA_look r i (k + 1)
      cases hl : lookI r i with
      | none =>
        rw [hl] at ih
        simp only [List.map_cons, findA, keyEq, kindEq, if_true, h, decide_false]
        exact ih
      | some v =>
        rw [hl] at ih
        obtain ⟨j, h1, h2⟩ := ih
        refine ⟨j + 1, ?_, by simpa [Am.get] using h2⟩
        simp only [List.map_cons, findA, keyEq, kindEq, if_true, h, decide_false, h1]
        congr 2; omega
theorem look_mi {K : List (Nat × V)} {H : List Blk} {lo nid : Nat} {xo ko : Operand} {l : Option (List (Int × Int))} {i : Int} (hx : kev K xo = some (e_mi l)) (hk : kev K ko = some (.i i)) : opEff CC K H lo nid (.lookup 117 xo ko true) = some ⟨.tup [V.i ((lookO l i).getD 0), V.b (lookO l i).isSome], [], []⟩ := by
  have hm : mapTI CC 117 = some (.int .i64, t3) := rfl
  cases l with
  | none =>
    simp only [opEff, effLookup, hx, hk, e_mi, lookA, hm, keyOK, kindEq, cond_true, lookIn, findA, lookO]
    rfl
  | some l =>
    simp only [opEff, effLookup, hx, hk, e_mi, lookA, hm, keyOK, kindEq, cond_true, lookIn, lookO, Option.bind_some]
    have := findA_look l i 0
    cases hl : lookI l i with
    | none =>
      rw [hl] at this
      simp only [this, Option.getD_none, Option.isSome_none]
      rfl
    | some v =>
      rw [hl] at this
      obtain ⟨j, h1, h2⟩ := this
      rw [Nat.zero_add] at h1
      simp only [h1, h2, Option.getD_some, Option.isSome_some, cond_true]

/-- What is done, and what it says. -/
def gDone (m : Nat) (left : List Nat) : List Nat := (List.range m).filter fun j => decide (j ∉ left)
def gKeys (m : Nat) (left : List Nat) : List Int := (gDone m left).map fun (j : Nat) => (j : Int) - 1
def gVals (ns : List Int) (m : Nat) (left : List Nat) : List Int := (gDone m left).map fun j => ns.getD j 0
theorem gDone_split {m j : Nat} (left : List Nat) (hj : j < m) (hl : j ∈ left) : ∃ A B : List Nat, gDone m left = A ++ B ∧ gDone m (left.filter (· ≠ j)) = A ++ j :: B ∧ (∀ a ∈ A, a < j) ∧ (∀ b ∈ B, j < b) := by
  have e : List.range m = List.range j ++ j :: (List.range' (j + 1) (m - j - 1)) := by
    rw [List.range_eq_range', List.range_eq_range']
    have := List.range'_append (s := 0) (m := j) (n := m - j) (step := 1)
    rw [show j + (m - j) = m by omega] at this
    rw [← this, show m - j = (m - j - 1) + 1 by omega, List.range'_succ]
    simp
  have key : ∀ i, i ≠ j → (decide (i ∉ left.filter (· ≠ j))) = decide (i ∉ left) := by
    intro i hi
    simp [List.mem_filter, hi]
  refine ⟨(List.range j).filter fun i => decide (i ∉ left), (List.range' (j + 1) (m - j - 1)).filter fun i => decide (i ∉ left), ?_, ?_, fun a ha => ?_, fun b hb => ?_⟩
  · unfold gDone
    rw [e, List.filter_append, List.filter_cons]
    simp [hl]
  · unfold gDone
    rw [e, List.filter_append, List.filter_cons]
    have h1 : decide (j ∉ left.filter (· ≠ j)) = true := by simp [List.mem_filter]
    rw [h1, if_pos rfl]
    congr 1
    · exact List.filter_congr fun i hi => key i (by have := List.mem_range.1 hi; omega)
    · congr 1
      exact List.filter_congr fun i hi => key i (by have := List.mem_range'_1.1 hi; omega)
  · have := List.mem_range.1 (List.mem_filter.1 ha).1; omega
  · have := List.mem_range'_1.1 (List.mem_filter.1 hb).1; omega
theorem gDone_all (m : Nat) : gDone m [] = List.range m := by unfold gDone; simp
theorem gDone_none (m : Nat) : gDone m (idxs 0 m) = [] := by
  unfold gDone
  rw [List.filter_eq_nil_iff]
  intro j hj
  have := List.mem_range.1 hj
  simp [idxs_mem]; omega

def sumW (L : Int) : List Int → Int
  | [] => L
  | x :: r => w64 (L + (x :: r).sum)
theorem sumW_ne {L : Int} {l : List Int} (h : l ≠ []) : sumW L l = w64 (L + l.sum) := by
  cases l with
  | nil => exact absurd rfl h
  | cons => rfl
theorem sumW_step {L n : Int} {A B : List Int} : w64 (sumW L (A ++ B) + n) = sumW L (A ++ n :: B) := by
  rw [sumW_ne (l := A ++ n :: B) (by simp)]
  have e : (A ++ n :: B).sum = (A ++ B).sum + n := by simp; omega
  rw [e]
  cases h : A ++ B with
  | nil => simp [sumW]
  | cons x r =>
    rw [sumW_ne (by simp), w64_add]
    congr 1; omega
theorem ok_tide_floor_grown {f : tide_floor} {tick : Int} {r : Int × Option (List (Int × Int))} (hM : tide_floor_grown f tick = some r) : Ct Tryz.prog 66 [e_tide_floor f, V.i tick] (V.tup [V.i r.1, e_mi r.2]) := by
  unfold tide_floor_grown at hM
  obtain ⟨ns, hns, hM⟩ := bind_of hM
  have hE := Option.some.inj hM
  subst hE
  obtain ⟨hlen, hget⟩ := mapOpt_get hns
  have hm : (tide_partKeys f.parts).length = f.parts.Cycles.length + 1 := by simp [tide_partKeys]
  rw [hm] at hlen
  have hkey : ∀ j, j < f.parts.Cycles.length + 1 → tide_grown1 f tick ((j : Int) - 1) = some (ns.getD j 0) := by
    intro j hj
    obtain ⟨y, h1, h2⟩ := hget j ((j : Int) - 1) (by simp [tide_partKeys, hj])
    rw [h2, List.getD_eq_getElem?_getD, h1]; rfl
  generalize hmm : f.parts.Cycles.length + 1 = m at *
  refine ct_of_gs CC_ok rfl ?_
  refine GS.seq ?_
  refine GS.region ?_
  refine X.opW rfl rfl rfl rfl ?_
  iterate 2 refine X.opR rfl rfl rfl ?_
  refine GS.opsNil ?_
  refine GS.seq ?_
  refine GS.region ?_
  refine X.opW rfl rfl rfl rfl ?_
  refine X.opR rfl rfl rfl ?_
  refine GS.opsNil ?_
  refine GS.seq ?_
  refine GS.region ?_
  iterate 4 refine X.opR rfl rfl rfl ?_
  refine GS.opsNil ?_
  iterate 2 refine GS.seq ?_
  refine GS.region ?_
  iterate 2 refine X.opR rfl rfl rfl ?_
  refine X.opW rfl (v := .ptr 2 0 0) (wr := [(2, .iter (partKeys f.parts.Cycles.length) (.fn 89 [.fptr [e_api_Water f.parts] 0 0] :: f.parts.Cycles.map fun c => .fn 91 [.fptr [e_api_Cycle c] 0 0]) (idxs 0 (partKeys f.parts.Cycles.length).length) none)]) rfl rfl rfl ?_
  refine GS.opsNil ?_
  refine GS.block ?_
  have hkl : (partKeys f.parts.Cycles.length).length = m := by simp [partKeys]; omega
  rw [hkl]
  let ST : List Nat × Option Nat → St := fun a => ⟨[(19, V.ptr 2 0 0), (6, V.map 1), (7, V.i (sumW f.w.Level (gVals ns m a.1))), (1, V.i tick), (2, V.ptr 0 0 0)], [.rows 5 [e_tide_floor f], .map ((gKeys m a.1).map V.i) ((gVals ns m a.1).map V.i), .iter (partKeys f.parts.Cycles.length) (.fn 89 [.fptr [e_api_Water f.parts] 0 0] :: f.parts.Cycles.map fun c => .fn 91 [.fptr [e_api_Cycle c] 0 0]) a.1 a.2], 0, none, 48⟩
  have h0 : gKeys m (idxs 0 m) = [] ∧ gVals ns m (idxs 0 m) = [] := by simp [gKeys, gVals, gDone_none]
  refine X.normH (H' := (ST (idxs 0 m, none)).H) [(19, V.ptr 2 0 0), (6, V.map 1), (7, V.i (sumW f.w.Level (gVals ns m (idxs 0 m)))), (1, V.i tick), (2, V.ptr 0 0 0)] ?_ rfl ?_ (W.sub_cons rfl (W.sub_cons rfl (X.sub_eq rfl ?_ (W.sub_cons rfl (W.sub_cons rfl W.sub_nil)))))
  rotate_left
  · simp only [ST, h0]; rfl
  · rw [h0.2]; rfl
  refine X.loopR (s0 := ST (idxs 0 m, none)) ST (fun a => ∀ j ∈ a.1, j < m) (fun a => a.1.length) (fun a ha IH => ?_) (idxs 0 m, none) (fun j hj => by have := (idxs_mem m 0 j).1 hj; omega)
  obtain ⟨left, last⟩ := a
  simp only at ha IH
  refine GS.seq ?_
  refine GS.region ?_
  refine X.next (id := 2) rfl rfl rfl rfl rfl (fun hl => ?_) (fun j kv vv hj hk hv => ?_)
  · subst hl
    refine X.opR rfl rfl rfl ?_
    refine GS.opsNil ?_
    refine GS.seq ?_
    refine GS.condF rfl ?_
    refine GS.exit rfl ?_
    refine GS.seq ?_
    refine GS.region ?_
    iterate 4 refine X.opR rfl rfl rfl ?_
    refine GS.opsNil ?_
    have e1 : gVals ns m [] = ns := by
      unfold gVals
      rw [gDone_all]
      refine List.ext_getElem (by simp [hlen]) fun i h1 h2 => ?_
      simp [List.getD_eq_getElem?_getD, h2]
    have e2 : gKeys m [] = tide_partKeys f.parts := by unfold gKeys tide_partKeys; rw [gDone_all, hmm]
    have e3 : e_mi (some ((tide_partKeys f.parts).zip ns)) = .fmap ((gKeys m []).map V.i) ((gVals ns m []).map V.i) := by
      rw [e1, e2]
      show V.fmap (((tide_partKeys f.parts).zip ns).map fun p => V.i p.1) (((tide_partKeys f.parts).zip ns).map fun p => V.i p.2) = _
      congr 1
      · rw [show (fun p : Int × Int => V.i p.1) = V.i ∘ Prod.fst from rfl, ← List.map_map, List.map_fst_zip (by omega)]
      · rw [show (fun p : Int × Int => V.i p.2) = V.i ∘ Prod.snd from rfl, ← List.map_map, List.map_snd_zip (by omega)]
    refine GS.ret ⟨_, rfl, ?_⟩
    simp only [e3]
    refine FR.tup (.cons ⟨1, ?_⟩ (.cons ⟨2, X.frzMap rfl (mapO_self (g := frz _ 0 1) (f := V.i) (fun _ => rfl) _) (mapO_self (g := frz _ 0 1) (f := V.i) (fun _ => rfl) _)⟩ .nil))
    rw [e1, sumW_ne (by intro h; rw [h] at hlen; simp at hlen; omega)]; rfl
  · have hjm := ha j hj
    have hg := hkey j hjm
    unfold tide_grown1 at hg
    obtain ⟨pn, hp, hg⟩ := bind_of hg
    have hkv : kv = V.i ((j : Int) - 1) := by
      rw [partKeys_eq, get_eq, List.getElem?_map] at hk
      cases j with
      | zero => simpa using hk.symm
      | succ j =>
        simp only [List.getElem?_cons_succ, List.getElem?_map] at hk
        rw [List.getElem?_range (by omega)] at hk
        simp only [Option.map_some, Option.some.injEq] at hk
        rw [← hk]; congr 1; omega
    subst hkv
    obtain ⟨g, caps, rfl, hct, hcs⟩ := part_call (by omega) hp hv
    obtain ⟨A, B, hA, hB, hA2, hB2⟩ := gDone_split left hjm hj
    refine X.opR rfl rfl rfl ?_
    refine GS.opsNil ?_
    refine GS.seq ?_
    refine GS.condT rfl ?_
    refine GS.skip ?_
    refine GS.block ?_
    refine GS.seq ?_
    refine GS.region ?_
    refine X.entry (id := 2) rfl rfl rfl hk hv rfl ?_
    iterate 4 refine X.opR rfl rfl rfl ?_
    refine GS.opsNil ?_
    refine GS.seq ?_
    refine GS.region ?_
    iterate 2 refine X.opR rfl rfl rfl ?_
    refine X.call hct rfl rfl rfl (.cons (.shut (n := 9) rfl) (cloArgs_shut hcs)) ?_
    refine X.opR rfl rfl rfl ?_
    refine GS.opsNil ?_
    refine GS.seq ?_
    refine GS.seq ?_
    refine GS.region ?_
    iterate 3 refine X.opR rfl rfl rfl ?_
    refine X.opR rfl (look_mi rfl rfl) rfl ?_
    iterate 5 refine X.opR rfl rfl rfl ?_
    refine GS.opsNil ?_
    refine GS.seq ?_
    refine GS.region ?_
    refine X.opR rfl rfl rfl ?_
    refine GS.opsNil ?_
    let H2 : List Blk := [.rows 5 [e_tide_floor f], .map ((gKeys m left).map V.i) ((gVals ns m left).map V.i), .iter (partKeys f.parts.Cycles.length) (.fn 89 [.fptr [e_api_Water f.parts] 0 0] :: f.parts.Cycles.map fun c => .fn 91 [.fptr [e_api_Cycle c] 0 0]) (left.filter (· ≠ j)) (some j)]
    have rvf : ∀ {keep : List (Option Nat)}, Rv 0 keep (e_tide_floor f) (e_tide_floor f) := rn_agg (.cons ⟨1, rfl⟩ (.cons ⟨1, rfl⟩ (.cons ⟨1, rfl⟩ (.cons ⟨1, rfl⟩ (.cons rv_mi .nil)))))
    refine X.midS ⟨[(10, V.i (ns.getD j 0)), (8, V.i ((j : Int) - 1)), (19, V.ptr 2 0 0), (6, V.map 1), (7, V.i (sumW f.w.Level (gVals ns m left))), (1, V.i tick), (2, V.ptr 0 0 0)], H2, 0, none, 48⟩ (fun hk => X.cond rfl (fun h => ?_) (fun h => ?_)) ?_
    · obtain ⟨old, ho⟩ := Option.isSome_iff_exists.1 h
      have ho' : Option.bind f.lowest (lookI · ((j : Int) - 1)) = some old := ho
      rw [ho'] at hg
      simp only at hg
      have ho2 : old = (lookO f.lowest ((j : Int) - 1)).getD 0 := by rw [ho]; rfl
      rw [ho2] at hg
      refine GS.region ?_
      iterate 2 refine X.opR rfl rfl rfl ?_
      refine X.opW rfl rfl rfl rfl ?_
      refine X.callF (ok_tide_least hg) rfl rfl rfl (m := 9) rfl (.cons (.shut (n := 9) rfl) (.cons (FR.arg (FR.osl (f := V.i) (l := [(lookO f.lowest ((j : Int) - 1)).getD 0]) 9 rfl rfl (fun _ => rfl))) .nil)) ?_
      refine X.opR rfl rfl rfl ?_
      refine GS.opsNil ?_
      exact X.gc [some 0, some 1, some 2] hk rfl rfl rfl (gk_cons rfl ⟨9, rfl⟩ (gk_cons rfl ⟨9, rfl⟩ (gk_cons rfl ⟨9, rfl⟩ (gk_cons rfl ⟨9, rfl⟩ (gk_cons rfl ⟨9, rfl⟩ (gk_cons rfl ⟨9, rfl⟩ (gk_cons rfl ⟨9, rfl⟩ gk_nil))))))) (gb_box rfl rfl rvf (X.gb_map rfl rfl (X.gb_iter rfl rfl gb_nil)))
    · have ho' : Option.bind f.lowest (lookI · ((j : Int) - 1)) = none := by simpa [lookO] using h
      rw [ho'] at hg
      simp only [Option.some.injEq] at hg
      subst hg
      refine GS.skip ?_
      exact X.norm _ hk rfl (W.sub_cons rfl (W.sub_cons rfl (W.sub_cons rfl (W.sub_cons rfl (W.sub_cons rfl (W.sub_cons rfl (W.sub_cons rfl W.sub_nil)))))))
    · have eK : gKeys m left = A.map (fun (j : Nat) => (j : Int) - 1) ++ B.map (fun (j : Nat) => (j : Int) - 1) := by unfold gKeys; rw [hA, List.map_append]
      have eK2 : gKeys m (left.filter (· ≠ j)) = A.map (fun (j : Nat) => (j : Int) - 1) ++ ((j : Int) - 1) :: B.map (fun (j : Nat) => (j : Int) - 1) := by unfold gKeys; rw [hB, List.map_append, List.map_cons]
      have eV : gVals ns m left = A.map (fun j => ns.getD j 0) ++ B.map (fun j => ns.getD j 0) := by unfold gVals; rw [hA, List.map_append]
      have eV2 : gVals ns m (left.filter (· ≠ j)) = A.map (fun j => ns.getD j 0) ++ ns.getD j 0 :: B.map (fun j => ns.getD j 0) := by unfold gVals; rw [hB, List.map_append, List.map_cons]
      have hlt1 : ∀ x ∈ A.map (fun (j : Nat) => (j : Int) - 1), x < (j : Int) - 1 := by
        intro x hx
        obtain ⟨a, h1, rfl⟩ := List.mem_map.1 hx
        have := hA2 a h1
        omega
      have hlt2 : ∀ x ∈ B.map (fun (j : Nat) => (j : Int) - 1), (j : Int) - 1 < x := by
        intro x hx
        obtain ⟨a, h1, rfl⟩ := List.mem_map.1 hx
        have := hB2 a h1
        omega
      have hno : (j : Int) - 1 ∉ gKeys m left := by
        rw [eK, List.mem_append]
        rintro (h | h)
        · have := hlt1 _ h; omega
        · have := hlt2 _ h; omega
      refine GS.seq ?_
      refine GS.region ?_
      iterate 3 refine X.opR rfl rfl rfl ?_
      refine X.op0W rfl (X.mapPutNew (kd := .int .i64) (kv := V.i ((j : Int) - 1)) (vv := V.i (ns.getD j 0)) (ks := (gKeys m left).map V.i) (vs := (gVals ns m left).map V.i) rfl rfl rfl rfl rfl rfl (X.findA_miss _ _ _ hno)) (H' := (ST (left.filter (· ≠ j), some j)).H) ?_ ?_
      · have e1 : insAt (V.i ((j : Int) - 1)) ((gKeys m left).map V.i) = (A.map fun (j : Nat) => (j : Int) - 1).length := by
          rw [eK]; exact X.insAt_app _ _ _ hlt1 (fun x hx => by have := hlt2 x hx; omega)
        have e2 : (A.map fun (j : Nat) => (j : Int) - 1).length = ((A.map fun j => ns.getD j 0).map V.i).length := by simp
        rw [e1]
        simp only [puts, ST, H2]
        rw [eK2, eV2, eK, eV]
        simp only [List.map_append, List.map_cons]
        have q1 : ∀ l r : List Int, (l.map V.i).length = l.length := fun l r => List.length_map ..
        rw [show (A.map fun (j : Nat) => (j : Int) - 1).length = ((A.map fun (j : Nat) => (j : Int) - 1).map V.i).length by simp, X.ins_app]
        rw [show ((A.map fun (j : Nat) => (j : Int) - 1).map V.i).length = ((A.map fun j => ns.getD j 0).map V.i).length by simp, X.ins_app]
        rfl
      refine GS.opsNil ?_
      refine GS.region ?_
      iterate 2 refine X.opR rfl rfl rfl ?_
      refine X.opR rfl (X.addE rfl rfl) rfl ?_
      refine X.opR rfl rfl rfl ?_
      refine GS.opsNil ?_
      refine GS.endB ?_
      have hs : w64 (sumW f.w.Level (gVals ns m left) + ns.getD j 0) = sumW f.w.Level (gVals ns m (left.filter (· ≠ j))) := by rw [eV, eV2]; exact sumW_step
      have hmu : (left.filter (· ≠ j)).length < left.length := by
        refine Nat.lt_of_le_of_ne (List.length_filter_le ..) fun e => ?_
        have := List.length_filter_eq_length_iff.1 e j hj
        simp at this
      exact X.gc [some 0, some 1, some 2] (IH (left.filter (· ≠ j), some j) (fun i hi => ha i (List.mem_filter.1 hi).1) hmu) rfl rfl rfl (gk_cons rfl ⟨9, rfl⟩ (gk_cons rfl ⟨9, rfl⟩ (gk_eq rfl (congrArg V.i hs) ⟨9, rfl⟩ (gk_cons rfl ⟨9, rfl⟩ (gk_cons rfl ⟨9, rfl⟩ gk_nil))))) (gb_box rfl rfl rvf (X.gb_map rfl rfl (X.gb_iter rfl rfl gb_nil)))

set_option maxHeartbeats 4000000 in
theorem ok_tide_Prove {w : api_Water} {s : api_Span} {height : Int} {r : (List Int) × Int} (hM : tide_Prove w s height = some r) : Ct Tryz.prog 28 [(e_api_Water w), (e_api_Span s), (V.i height)] (V.tup [(V.sl (List.map V.i r.1)), (V.i r.2)]) := by
  refine ct_of_gs CC_ok rfl ?_
  unfold tide_Prove at hM
  refine GS.seq ?_
  refine GS.region ?_
  iterate 2 refine X.opW rfl rfl rfl rfl ?_
  iterate 2 refine X.opR rfl rfl rfl ?_
  refine GS.opsNil ?_
  refine GS.seq ?_
  obtain ⟨y, h_1, hM⟩ := bind_of hM
  refine GS.region ?_
  iterate 2 refine X.opR rfl rfl rfl ?_
  refine X.call (ok_tide_Lowest h_1) rfl rfl rfl (.cons (.shut (n := 9) rfl) (.cons (.shut (n := 9) rfl) .nil)) ?_
  iterate 7 refine X.opR rfl rfl rfl ?_
  refine GS.opsNil ?_
  iterate 2 refine GS.seq ?_
  refine GS.region ?_
  iterate 2 refine X.opR rfl rfl rfl ?_
  refine GS.opsNil ?_
  refine X.cond rfl (fun h_2 => ?_) (fun h_2 => ?_)
  · replace hM := ite_t h_2 hM
    refine GS.seq ?_
    refine GS.region ?_
    iterate 3 refine X.opR rfl rfl rfl ?_
    refine GS.opsNil ?_
    have hE := Option.some.inj hM
    subst hE
    exact GS.ret ⟨_, rfl, ⟨30, rfl⟩⟩
  · replace hM := ite_f h_2 hM
    refine GS.skip ?_
    iterate 2 refine GS.seq ?_
    refine GS.region ?_
    iterate 3 refine X.opR rfl rfl rfl ?_
    refine GS.opsNil ?_
    refine X.cond rfl (fun h_3 => ?_) (fun h_3 => ?_)
    · replace hM := ite_t h_3 hM
      refine GS.seq ?_
      refine GS.region ?_
      iterate 2 refine X.opR rfl rfl rfl ?_
      refine GS.opsNil ?_
      have hE := Option.some.inj hM
      subst hE
      exact GS.ret ⟨_, rfl, ⟨30, rfl⟩⟩
    · replace hM := ite_f h_3 hM
      refine GS.skip ?_
      refine GS.seq ?_
      refine GS.region ?_
      refine X.opR rfl rfl rfl ?_
      refine GS.opsNil ?_
      refine GS.seq ?_
      obtain ⟨y1, h_4, hM⟩ := bind_of hM
      refine X.draw (by kernel_rfl) ?_
      iterate 2 refine X.dop rfl rfl rfl rfl (by kernel_rfl) rfl rfl ?_
      refine X.dcall (ok_tide_parts h_4) rfl rfl rfl (by kernel_rfl) rfl (.cons (.shut (n := 9) rfl) .nil) ?_
      iterate 2 refine X.dop rfl rfl rfl rfl (by kernel_rfl) rfl rfl ?_
      refine X.dop0 rfl rfl rfl rfl (by kernel_rfl) rfl ?_
      refine X.dnil ?_
      refine X.norm [(2, (V.i height)), (4, (V.ptr 1 0 0)), (11, V.nil), (12, (V.ptr 2 0 0))] ?_ rfl (W.sub_cons rfl (W.sub_cons rfl (W.sub_cons rfl (W.sub_cons rfl W.sub_nil))))
      iterate 2 refine GS.seq ?_
      refine GS.region ?_
      iterate 3 refine X.opR rfl rfl rfl ?_
      refine GS.opsNil ?_
      refine X.join (τ := (List Int)) (fun v => tide_Prove_j1 v = some r) (fun v => ⟨[(11, (ovl 0 v))], [obl 1 V.i v], 0, none, 67⟩) ?_ ?_
      · intro l hM
        replace hM : tide_Prove_j1 l = some r := hM
        unfold tide_Prove_j1 at hM
        iterate 2 refine GS.seq ?_
        refine GS.region ?_
        refine X.opR rfl rfl rfl ?_
        refine X.opR rfl (X.lenN (l := l) rfl rfl rfl) rfl ?_
        refine X.opR rfl rfl rfl ?_
        refine GS.opsNil ?_
        refine X.cond rfl (fun h_5 => ?_) (fun h_5 => ?_)
        · replace hM := ite_t h_5 hM
          refine GS.seq ?_
          refine GS.region ?_
          iterate 2 refine X.opR rfl rfl rfl ?_
          refine GS.opsNil ?_
          have hE := Option.some.inj hM
          subst hE
          exact GS.ret ⟨_, rfl, ⟨30, rfl⟩⟩
        · replace hM := ite_f h_5 hM
          refine GS.skip ?_
          refine GS.seq ?_
          refine GS.region ?_
          iterate 3 refine X.opR rfl rfl rfl ?_
          refine GS.opsNil ?_
          have hE := Option.some.inj hM
          subst hE
          exact GS.ret ⟨_, rfl, FR.tup (.cons (FR.ovl (f := V.i) (l := l) 9 rfl rfl (fun _ => rfl)) (.cons ⟨30, rfl⟩ .nil))⟩
      · intro hj_1
        refine GS.block ?_
        refine X.gc [some 1, none, some 2] (X.loop (σ := (Int × (List Int) × (Option (List (Int × Int))))) (fun v => ⟨[(2, (V.i height)), (4, (V.ptr 0 0 0)), (11, (ovl 1 v.2.1)), (12, (V.ptr 2 0 0)), (13, (V.i v.1))], [.rows 2 [(e_api_Span s)], obl 1 V.i v.2.1, .rows 5 [(V.agg [(V.i w.Level), (V.sl (List.map e_api_Cycle w.Cycles)), (V.sl (List.map e_api_Shift w.Shifts)), (e_parts y1), (e_mi v.2.2)])]], 0, none, 67⟩) hM ?_ rfl) rfl rfl rfl (gk_cons rfl ⟨9, rfl⟩ (gk_cons rfl ⟨9, rfl⟩ (gk_cons rfl ⟨9, rfl⟩ (gk_cons rfl ⟨9, rfl⟩ (gk_cons rfl ⟨9, rfl⟩ gk_nil))))) (gb_box rfl rfl ⟨9, rfl⟩ (gb_pad' rfl (gb_box rfl rfl (rn_agg (.cons ⟨9, rfl⟩ (.cons ⟨9, rfl⟩ (.cons ⟨9, rfl⟩ (.cons ⟨9, rfl⟩ (.cons (rv_mi) .nil)))))) gb_nil)))
        rintro ⟨t, l3, lowest1⟩ b_1 hM hc_2 hr_1
        rw [tide_Prove_b2] at hM
        iterate 2 refine GS.seq ?_
        refine GS.region ?_
        iterate 4 refine X.opR rfl rfl rfl ?_
        refine GS.opsNil ?_
        refine X.cond rfl (fun h_6 => ?_) (fun h_6 => ?_)
        · replace hM := ite_t h_6 hM
          refine GS.skip ?_
          refine GS.seq ?_
          refine GS.block ?_
          refine GS.seq ?_
          obtain ⟨y2, h_7, hM⟩ := bind_of hM
          refine GS.region ?_
          iterate 2 refine X.opR rfl rfl rfl ?_
          refine X.call (ok_tide_floor_grown h_7) rfl rfl rfl (.cons (.shut (n := 9) (by rcases lowest1 with _ | _ <;> rfl)) (.cons (.shut (n := 9) rfl) .nil)) ?_
          iterate 5 refine X.opR rfl rfl rfl ?_
          refine GS.opsNil ?_
          iterate 2 refine GS.seq ?_
          refine GS.region ?_
          iterate 3 refine X.opR rfl rfl rfl ?_
          refine GS.opsNil ?_
          refine X.join (τ := (Option (List (Int × Int))) × (List Int) × (Option (List (Int × Int)))) (fun v => tide_Prove_j3 t v.1 v.2.1 v.2.2 = some b_1) (fun v => ⟨[(2, (V.i height)), (4, (V.ptr 0 0 0)), (11, (ovl 1 v.2.1)), (12, (V.ptr 2 0 0)), (13, (V.i t)), (15, (e_mi v.1))], [.rows 2 [(e_api_Span s)], obl 1 V.i v.2.1, .rows 5 [(V.agg [(V.i w.Level), (V.sl (List.map e_api_Cycle w.Cycles)), (V.sl (List.map e_api_Shift w.Shifts)), (e_parts y1), (e_mi v.2.2)])]], 0, none, 67⟩) ?_ ?_
          · rintro ⟨lowest, l1, lowest2⟩ hM
            replace hM : tide_Prove_j3 t lowest l1 lowest2 = some b_1 := hM
            unfold tide_Prove_j3 at hM
            refine GS.region ?_
            iterate 2 refine X.opR rfl rfl rfl ?_
            refine X.op0W rfl (v := undefV) (wr := [(2, .rows 5 [(V.agg [(V.i w.Level), (V.sl (List.map e_api_Cycle w.Cycles)), (V.sl (List.map e_api_Shift w.Shifts)), (e_parts y1), (e_mi lowest)])])]) (by rcases lowest with _ | _ <;> rfl) rfl ?_
            refine GS.opsNil ?_
            refine GS.endB ?_
            refine GS.region ?_
            refine X.opR rfl rfl rfl ?_
            refine X.opR rfl (X.addE rfl rfl) rfl ?_
            refine X.opR rfl rfl rfl ?_
            refine GS.opsNil ?_
            have hE := Option.some.inj hM
            exact X.gc [some 0, some 1, some 2] (hc_2 (w64 (t + 1), l1, lowest) hE.symm) rfl rfl rfl (gk_cons rfl ⟨9, rfl⟩ (gk_cons rfl ⟨9, rfl⟩ (gk_cons rfl (rn_ovl rfl) (gk_cons rfl ⟨9, rfl⟩ (gk_cons rfl ⟨9, rfl⟩ gk_nil))))) (gb_box rfl rfl ⟨9, rfl⟩ (gb_obl 9 rfl rfl (fun _ => rfl) (gb_box rfl rfl (rn_agg (.cons ⟨9, rfl⟩ (.cons ⟨9, rfl⟩ (.cons ⟨9, rfl⟩ (.cons ⟨9, rfl⟩ (.cons (rv_mi) .nil)))))) gb_nil)))
          · intro hj_3
            refine X.cond rfl (fun h_8 => ?_) (fun h_8 => ?_)
            · replace hM := ite_t h_8 hM
              refine GS.seq ?_
              obtain ⟨l2, h_9, hM⟩ := bind_of hM
              refine GS.region ?_
              iterate 2 refine X.opR rfl rfl rfl ?_
              refine X.opW (H' := [.rows 2 [(e_api_Span s)], obl 1 V.i l3, .rows 5 [(V.agg [(V.i w.Level), (V.sl (List.map e_api_Cycle w.Cycles)), (V.sl (List.map e_api_Shift w.Shifts)), (e_parts y1), (e_mi lowest1)])], .rows 1 (List.map V.i ([t]))]) rfl rfl rfl rfl ?_
              refine X.appN (f := V.i) h_9 (fun _ => rfl) (by rfl) (by rfl) (by rfl) (by rfl) (by rfl) (by rfl) (by rfl) (by rfl) (by rfl) (by rfl) (by rfl) (by exact rfl) (by rfl) (by rfl) ?_
              refine X.opR rfl rfl rfl ?_
              refine GS.opsNil ?_
              refine GS.seq ?_
              refine GS.region ?_
              refine X.opR rfl rfl rfl ?_
              refine X.op0W (H' := [.rows 2 [(e_api_Span s)], .dead, .rows 5 [(V.agg [(V.i w.Level), (V.sl (List.map e_api_Cycle w.Cycles)), (V.sl (List.map e_api_Shift w.Shifts)), (e_parts y1), (e_mi none)])], .rows 1 (List.map V.i ([t])), .rows 1 (List.map V.i l2)]) rfl rfl rfl ?_
              refine GS.opsNil ?_
              obtain ⟨y3, h_10, hM⟩ := bind_of hM
              refine GS.region ?_
              iterate 2 refine X.opR rfl rfl rfl ?_
              refine X.call (ok_tide_floor_grown h_10) rfl rfl rfl (.cons (.shut (n := 9) rfl) (.cons (.shut (n := 9) rfl) .nil)) ?_
              iterate 4 refine X.opR rfl rfl rfl ?_
              refine GS.opsNil ?_
              exact X.gc [some 0, some 4, some 2] (hj_3 (y3.2, l2, none) hM) rfl rfl rfl (gk_cons rfl ⟨9, rfl⟩ (gk_cons rfl ⟨9, rfl⟩ (gk_cons rfl (rv_ne (app_ne h_9) rfl) (gk_cons rfl ⟨9, rfl⟩ (gk_cons rfl ⟨9, rfl⟩ (gk_cons rfl rv_mi gk_nil)))))) (gb_box rfl rfl ⟨9, rfl⟩ (gb_obl' 9 (app_ne h_9) rfl rfl (fun _ => rfl) (gb_box rfl rfl (rn_agg (.cons ⟨9, rfl⟩ (.cons ⟨9, rfl⟩ (.cons ⟨9, rfl⟩ (.cons ⟨9, rfl⟩ (.cons (rv_mi) .nil)))))) gb_nil)))
            · replace hM := ite_f h_8 hM
              refine GS.skip ?_
              exact X.gc [some 0, some 1, some 2] (hj_3 (y2.2, l3, lowest1) hM) rfl rfl rfl (gk_cons rfl ⟨9, rfl⟩ (gk_cons rfl ⟨9, rfl⟩ (gk_cons rfl (rn_ovl rfl) (gk_cons rfl ⟨9, rfl⟩ (gk_cons rfl ⟨9, rfl⟩ (gk_cons rfl rv_mi gk_nil)))))) (gb_box rfl rfl ⟨9, rfl⟩ (gb_obl 9 rfl rfl (fun _ => rfl) (gb_box rfl rfl (rn_agg (.cons ⟨9, rfl⟩ (.cons ⟨9, rfl⟩ (.cons ⟨9, rfl⟩ (.cons ⟨9, rfl⟩ (.cons (rv_mi) .nil)))))) gb_nil)))
        · replace hM := ite_f h_6 hM
          refine GS.exit rfl ?_
          obtain ⟨y_1, hM, hy⟩ := map_of hM
          rw [hr_1 _ hy.symm] at hM
          exact X.gc [some 1] (hj_1 l3 hM) rfl rfl rfl (gk_cons rfl (rn_ovl rfl) gk_nil) (gb_obl 9 rfl rfl (fun _ => rfl) gb_nil)

theorem eq_api_Stand (a b : api_Stand) : eqA CC.ty 70 (e_api_Stand a) (e_api_Stand b) = some (decide (a = b)) := by
  refine (X.eqa rfl rfl (X.eqp rfl rfl (X.eqs rfl rfl (X.eqp rfl rfl rfl (X.eqp rfl rfl rfl X.eqn'))) (X.eqp rfl rfl rfl X.eqn'))).trans ?_
  congr 1
  rw [Bool.eq_iff_iff]
  simp only [Bool.and_eq_true, decide_eq_true_eq, beq_iff_eq, and_true]
  constructor
  · intro h
    obtain ⟨⟨a1, a2⟩, a3⟩ := a
    obtain ⟨⟨b4, b5⟩, b6⟩ := b
    simp at h
    simp [h]
  · rintro rfl
    simp

theorem ok_ref02_SameStands {a : (List api_Stand)} {b : (List api_Stand)} {r : Bool} (hM : ref02_SameStands a b = some r) : Ct Tryz.prog 29 [(V.sl (List.map e_api_Stand a)), (V.sl (List.map e_api_Stand b))] (V.b r) := by
  refine ct_of_gs CC_ok rfl ?_
  unfold ref02_SameStands at hM
  refine GS.seq ?_
  refine GS.region ?_
  refine X.opR rfl rfl rfl ?_
  refine GS.opsNil ?_
  iterate 2 refine GS.seq ?_
  refine GS.region ?_
  refine X.opR rfl rfl rfl ?_
  refine X.opR rfl (X.lenF rfl rfl rfl) rfl ?_
  refine X.opR rfl rfl rfl ?_
  refine X.opR rfl (X.lenF rfl rfl rfl) rfl ?_
  refine X.opR rfl rfl rfl ?_
  refine GS.opsNil ?_
  refine X.cond rfl (fun h_1 => ?_) (fun h_1 => ?_)
  · replace hM := ite_t h_1 hM
    refine GS.seq ?_
    refine GS.region ?_
    refine X.opR rfl rfl rfl ?_
    refine GS.opsNil ?_
    have hE := Option.some.inj hM
    subst hE
    exact GS.ret ⟨_, rfl, ⟨30, rfl⟩⟩
  · replace hM := ite_f h_1 hM
    refine GS.skip ?_
    iterate 2 refine GS.seq ?_
    refine GS.region ?_
    refine X.opR rfl rfl rfl ?_
    refine GS.opsNil ?_
    refine X.join (τ := Unit) (fun v => ref02_SameStands_j1 = some r) (fun v => ⟨[], [], 0, none, 26⟩) ?_ ?_
    · intro _ hM
      replace hM : ref02_SameStands_j1 = some r := hM
      unfold ref02_SameStands_j1 at hM
      refine GS.seq ?_
      refine GS.region ?_
      refine X.opR rfl rfl rfl ?_
      refine GS.opsNil ?_
      have hE := Option.some.inj hM
      subst hE
      exact GS.ret ⟨_, rfl, ⟨30, rfl⟩⟩
    · intro hj_1
      refine GS.block ?_
      refine X.gc [] (X.loop (σ := Int) (fun v => ⟨[(0, (V.sl (List.map e_api_Stand a))), (1, (V.sl (List.map e_api_Stand b))), (5, (V.i v))], [], 0, none, 26⟩) hM ?_ rfl) rfl rfl rfl (gk_cons rfl ⟨9, rfl⟩ (gk_cons rfl ⟨9, rfl⟩ (gk_cons rfl ⟨9, rfl⟩ gk_nil))) (gb_nil)
      intro i b_1 hM hc_2 hr_1
      rw [ref02_SameStands_b2] at hM
      iterate 2 refine GS.seq ?_
      refine GS.region ?_
      iterate 2 refine X.opR rfl rfl rfl ?_
      refine X.opR rfl (X.lenF rfl rfl rfl) rfl ?_
      refine X.opR rfl rfl rfl ?_
      refine GS.opsNil ?_
      refine X.cond rfl (fun h_2 => ?_) (fun h_2 => ?_)
      · replace hM := ite_t h_2 hM
        refine GS.skip ?_
        refine GS.seq ?_
        refine GS.block ?_
        refine GS.seq ?_
        obtain ⟨x, h_3, hM⟩ := bind_of hM
        obtain ⟨x1, h_4, hM⟩ := bind_of hM
        refine X.drawc (by kernel_rfl) rfl ?_
        iterate 2 refine X.cop rfl rfl rfl rfl ?_
        refine X.cop rfl (X.indexF (f := e_api_Stand) h_3 (fun _ => rfl) rfl rfl rfl rfl) rfl rfl ?_
        refine X.cop rfl (X.loadF h_3 rfl rfl rfl) rfl rfl ?_
        iterate 2 refine X.cop rfl rfl rfl rfl ?_
        refine X.cop rfl (X.indexF (f := e_api_Stand) h_4 (fun _ => rfl) rfl rfl rfl rfl) rfl rfl ?_
        refine X.cop rfl (X.loadF h_4 rfl rfl rfl) rfl rfl ?_
        refine X.cop rfl (X.neqE (eq_api_Stand x x1) rfl rfl) rfl rfl ?_
        refine X.cnil ?_
        refine X.norm [(0, (V.sl (List.map e_api_Stand a))), (1, (V.sl (List.map e_api_Stand b))), (5, (V.i i)), (25, (V.b (!decide (x = x1))))] ?_ rfl (W.sub_cons rfl (W.sub_cons rfl (W.sub_cons rfl (W.sub_cons rfl W.sub_nil))))
        refine X.cond rfl (fun h_5 => ?_) (fun h_5 => ?_)
        · replace hM := ite_t h_5 hM
          refine GS.seq ?_
          refine GS.region ?_
          refine X.opR rfl rfl rfl ?_
          refine GS.opsNil ?_
          have hE := Option.some.inj hM
          replace hE := hr_1 _ hE.symm
          subst hE
          exact GS.ret ⟨_, rfl, ⟨30, rfl⟩⟩
        · replace hM := ite_f h_5 hM
          refine GS.skip ?_
          refine GS.endB ?_
          refine GS.region ?_
          refine X.opR rfl rfl rfl ?_
          refine X.opR rfl (X.addE rfl rfl) rfl ?_
          refine X.opR rfl rfl rfl ?_
          refine GS.opsNil ?_
          have hE := Option.some.inj hM
          exact X.gc [] (hc_2 (w64 (i + 1)) hE.symm) rfl rfl rfl (gk_cons rfl ⟨9, rfl⟩ (gk_cons rfl ⟨9, rfl⟩ (gk_cons rfl ⟨9, rfl⟩ gk_nil))) (gb_nil)
      · replace hM := ite_f h_2 hM
        refine GS.exit rfl ?_
        obtain ⟨y_1, hM, hy⟩ := map_of hM
        rw [hr_1 _ hy.symm] at hM
        exact X.gc [] (hj_1 () hM) rfl rfl rfl (gk_nil) (gb_nil)

theorem eq_api_Span (a b : api_Span) : eqA CC.ty 39 (e_api_Span a) (e_api_Span b) = some (decide (a = b)) := by
  refine (X.eqa rfl rfl (X.eqp rfl rfl rfl (X.eqp rfl rfl rfl X.eqn'))).trans ?_
  congr 1
  rw [Bool.eq_iff_iff]
  simp only [Bool.and_eq_true, decide_eq_true_eq, beq_iff_eq, and_true]
  constructor
  · intro h
    obtain ⟨a1, a2⟩ := a
    obtain ⟨b3, b4⟩ := b
    simp at h
    simp [h]
  · rintro rfl
    simp

theorem ok_ref02_SameSpans {a : (List api_Span)} {b : (List api_Span)} {r : Bool} (hM : ref02_SameSpans a b = some r) : Ct Tryz.prog 30 [(V.sl (List.map e_api_Span a)), (V.sl (List.map e_api_Span b))] (V.b r) := by
  refine ct_of_gs CC_ok rfl ?_
  unfold ref02_SameSpans at hM
  refine GS.seq ?_
  refine GS.region ?_
  refine X.opR rfl rfl rfl ?_
  refine GS.opsNil ?_
  iterate 2 refine GS.seq ?_
  refine GS.region ?_
  refine X.opR rfl rfl rfl ?_
  refine X.opR rfl (X.lenF rfl rfl rfl) rfl ?_
  refine X.opR rfl rfl rfl ?_
  refine X.opR rfl (X.lenF rfl rfl rfl) rfl ?_
  refine X.opR rfl rfl rfl ?_
  refine GS.opsNil ?_
  refine X.cond rfl (fun h_1 => ?_) (fun h_1 => ?_)
  · replace hM := ite_t h_1 hM
    refine GS.seq ?_
    refine GS.region ?_
    refine X.opR rfl rfl rfl ?_
    refine GS.opsNil ?_
    have hE := Option.some.inj hM
    subst hE
    exact GS.ret ⟨_, rfl, ⟨30, rfl⟩⟩
  · replace hM := ite_f h_1 hM
    refine GS.skip ?_
    iterate 2 refine GS.seq ?_
    refine GS.region ?_
    refine X.opR rfl rfl rfl ?_
    refine GS.opsNil ?_
    refine X.join (τ := Unit) (fun v => ref02_SameSpans_j1 = some r) (fun v => ⟨[], [], 0, none, 26⟩) ?_ ?_
    · intro _ hM
      replace hM : ref02_SameSpans_j1 = some r := hM
      unfold ref02_SameSpans_j1 at hM
      refine GS.seq ?_
      refine GS.region ?_
      refine X.opR rfl rfl rfl ?_
      refine GS.opsNil ?_
      have hE := Option.some.inj hM
      subst hE
      exact GS.ret ⟨_, rfl, ⟨30, rfl⟩⟩
    · intro hj_1
      refine GS.block ?_
      refine X.gc [] (X.loop (σ := Int) (fun v => ⟨[(0, (V.sl (List.map e_api_Span a))), (1, (V.sl (List.map e_api_Span b))), (5, (V.i v))], [], 0, none, 26⟩) hM ?_ rfl) rfl rfl rfl (gk_cons rfl ⟨9, rfl⟩ (gk_cons rfl ⟨9, rfl⟩ (gk_cons rfl ⟨9, rfl⟩ gk_nil))) (gb_nil)
      intro i b_1 hM hc_2 hr_1
      rw [ref02_SameSpans_b2] at hM
      iterate 2 refine GS.seq ?_
      refine GS.region ?_
      iterate 2 refine X.opR rfl rfl rfl ?_
      refine X.opR rfl (X.lenF rfl rfl rfl) rfl ?_
      refine X.opR rfl rfl rfl ?_
      refine GS.opsNil ?_
      refine X.cond rfl (fun h_2 => ?_) (fun h_2 => ?_)
      · replace hM := ite_t h_2 hM
        refine GS.skip ?_
        refine GS.seq ?_
        refine GS.block ?_
        refine GS.seq ?_
        obtain ⟨x, h_3, hM⟩ := bind_of hM
        obtain ⟨x1, h_4, hM⟩ := bind_of hM
        refine X.drawc (by kernel_rfl) rfl ?_
        iterate 2 refine X.cop rfl rfl rfl rfl ?_
        refine X.cop rfl (X.indexF (f := e_api_Span) h_3 (fun _ => rfl) rfl rfl rfl rfl) rfl rfl ?_
        refine X.cop rfl (X.loadF h_3 rfl rfl rfl) rfl rfl ?_
        iterate 2 refine X.cop rfl rfl rfl rfl ?_
        refine X.cop rfl (X.indexF (f := e_api_Span) h_4 (fun _ => rfl) rfl rfl rfl rfl) rfl rfl ?_
        refine X.cop rfl (X.loadF h_4 rfl rfl rfl) rfl rfl ?_
        refine X.cop rfl (X.neqE (eq_api_Span x x1) rfl rfl) rfl rfl ?_
        refine X.cnil ?_
        refine X.norm [(0, (V.sl (List.map e_api_Span a))), (1, (V.sl (List.map e_api_Span b))), (5, (V.i i)), (25, (V.b (!decide (x = x1))))] ?_ rfl (W.sub_cons rfl (W.sub_cons rfl (W.sub_cons rfl (W.sub_cons rfl W.sub_nil))))
        refine X.cond rfl (fun h_5 => ?_) (fun h_5 => ?_)
        · replace hM := ite_t h_5 hM
          refine GS.seq ?_
          refine GS.region ?_
          refine X.opR rfl rfl rfl ?_
          refine GS.opsNil ?_
          have hE := Option.some.inj hM
          replace hE := hr_1 _ hE.symm
          subst hE
          exact GS.ret ⟨_, rfl, ⟨30, rfl⟩⟩
        · replace hM := ite_f h_5 hM
          refine GS.skip ?_
          refine GS.endB ?_
          refine GS.region ?_
          refine X.opR rfl rfl rfl ?_
          refine X.opR rfl (X.addE rfl rfl) rfl ?_
          refine X.opR rfl rfl rfl ?_
          refine GS.opsNil ?_
          have hE := Option.some.inj hM
          exact X.gc [] (hc_2 (w64 (i + 1)) hE.symm) rfl rfl rfl (gk_cons rfl ⟨9, rfl⟩ (gk_cons rfl ⟨9, rfl⟩ (gk_cons rfl ⟨9, rfl⟩ gk_nil))) (gb_nil)
      · replace hM := ite_f h_2 hM
        refine GS.exit rfl ?_
        obtain ⟨y_1, hM, hy⟩ := map_of hM
        rw [hr_1 _ hy.symm] at hM
        exact X.gc [] (hj_1 () hM) rfl rfl rfl (gk_nil) (gb_nil)

theorem ok_tide_gcd {l : (List Int)} {r : Int} (hM : tide_gcd l = some r) : Ct Tryz.prog 67 [(V.sl (List.map V.i l))] (V.i r) := by
  refine ct_of_gs CC_ok rfl ?_
  unfold tide_gcd at hM
  refine GS.seq ?_
  refine GS.region ?_
  refine X.opR rfl rfl rfl ?_
  refine GS.opsNil ?_
  refine GS.seq ?_
  refine GS.region ?_
  refine X.opR rfl rfl rfl ?_
  refine GS.opsNil ?_
  iterate 2 refine GS.seq ?_
  refine GS.region ?_
  refine X.opR rfl rfl rfl ?_
  refine X.opR rfl (X.lenF rfl rfl rfl) rfl ?_
  refine X.opR rfl rfl rfl ?_
  refine GS.opsNil ?_
  refine X.join (τ := Int) (fun v => tide_gcd_j1 v = some r) (fun v => ⟨[(3, (V.i v))], [], 0, none, 20⟩) ?_ ?_
  · intro g hM
    replace hM : tide_gcd_j1 g = some r := hM
    unfold tide_gcd_j1 at hM
    refine GS.seq ?_
    refine GS.region ?_
    iterate 2 refine X.opR rfl rfl rfl ?_
    refine GS.opsNil ?_
    have hE := Option.some.inj hM
    subst hE
    exact GS.ret ⟨_, rfl, ⟨30, rfl⟩⟩
  · intro hj_1
    refine GS.block ?_
    refine X.gc [] (X.loop (σ := (Int × Int)) (fun v => ⟨[(3, (V.i v.1)), (6, (V.sl (List.map V.i l))), (7, (V.i (l.length : Int))), (8, (V.i v.2))], [], 0, none, 20⟩) hM ?_ rfl) rfl rfl rfl (gk_cons rfl ⟨9, rfl⟩ (gk_cons rfl ⟨9, rfl⟩ (gk_cons rfl ⟨9, rfl⟩ (gk_cons rfl ⟨9, rfl⟩ gk_nil)))) (gb_nil)
    rintro ⟨g3, x1⟩ b_1 hM hc_2 hr_1
    rw [tide_gcd_b2] at hM
    refine GS.seq ?_
    refine GS.region ?_
    refine X.opR rfl rfl rfl ?_
    refine GS.opsNil ?_
    refine GS.seq ?_
    refine X.cond rfl (fun h_1 => ?_) (fun h_1 => ?_)
    · replace hM := ite_t h_1 hM
      refine GS.skip ?_
      refine GS.seq ?_
      refine GS.block ?_
      refine GS.seq ?_
      obtain ⟨x, h_2, hM⟩ := bind_of hM
      refine GS.region ?_
      refine X.opR rfl (X.indexF (f := V.i) h_2 (fun _ => rfl) rfl rfl rfl rfl) rfl ?_
      refine X.opR rfl (X.loadF h_2 rfl rfl rfl) rfl ?_
      refine X.opR rfl rfl rfl ?_
      refine GS.opsNil ?_
      refine X.join (τ := Int) (fun v => tide_gcd_j3 x1 v = some b_1) (fun v => ⟨[(3, (V.i v)), (6, (V.sl (List.map V.i l))), (7, (V.i (l.length : Int))), (8, (V.i x1))], [], 0, none, 20⟩) ?_ ?_
      · intro g1 hM
        replace hM : tide_gcd_j3 x1 g1 = some b_1 := hM
        unfold tide_gcd_j3 at hM
        refine GS.endB ?_
        refine GS.region ?_
        refine X.opR rfl (X.addE rfl rfl) rfl ?_
        refine X.opR rfl rfl rfl ?_
        refine GS.opsNil ?_
        have hE := Option.some.inj hM
        exact X.gc [] (hc_2 (g1, w64 (x1 + 1)) hE.symm) rfl rfl rfl (gk_cons rfl ⟨9, rfl⟩ (gk_cons rfl ⟨9, rfl⟩ (gk_cons rfl ⟨9, rfl⟩ (gk_cons rfl ⟨9, rfl⟩ gk_nil)))) (gb_nil)
      · intro hj_3
        refine GS.block ?_
        refine X.gc [] (X.loop (σ := (Int × Int)) (fun v => ⟨[(3, (V.i v.1)), (5, (V.i v.2)), (6, (V.sl (List.map V.i l))), (7, (V.i (l.length : Int))), (8, (V.i x1))], [], 0, none, 20⟩) hM ?_ rfl) rfl rfl rfl (gk_cons rfl ⟨9, rfl⟩ (gk_cons rfl ⟨9, rfl⟩ (gk_cons rfl ⟨9, rfl⟩ (gk_cons rfl ⟨9, rfl⟩ (gk_cons rfl ⟨9, rfl⟩ gk_nil))))) (gb_nil)
        rintro ⟨g2, n⟩ b_2 hM hc_4 hr_2
        rw [tide_gcd_b4] at hM
        iterate 2 refine GS.seq ?_
        refine GS.region ?_
        iterate 2 refine X.opR rfl rfl rfl ?_
        refine GS.opsNil ?_
        refine X.cond rfl (fun h_3 => ?_) (fun h_3 => ?_)
        · replace hM := ite_t h_3 hM
          refine GS.skip ?_
          refine GS.block ?_
          obtain ⟨q, h_4, hM⟩ := bind_of hM
          refine X.drawc (by kernel_rfl) rfl ?_
          iterate 3 refine X.cop rfl rfl rfl rfl ?_
          refine X.cop rfl (X.remE h_4 rfl rfl) rfl rfl ?_
          iterate 2 refine X.cop rfl rfl rfl rfl ?_
          refine X.cnil ?_
          refine X.norm [(3, (V.i n)), (5, (V.i q)), (6, (V.sl (List.map V.i l))), (7, (V.i (l.length : Int))), (8, (V.i x1))] ?_ rfl (W.sub_cons rfl (W.sub_cons rfl (W.sub_cons rfl (W.sub_cons rfl (W.sub_cons rfl W.sub_nil)))))
          refine GS.endB ?_
          have hE := Option.some.inj hM
          exact X.gc [] (hc_4 (n, q) hE.symm) rfl rfl rfl (gk_cons rfl ⟨9, rfl⟩ (gk_cons rfl ⟨9, rfl⟩ (gk_cons rfl ⟨9, rfl⟩ (gk_cons rfl ⟨9, rfl⟩ (gk_cons rfl ⟨9, rfl⟩ gk_nil))))) (gb_nil)
        · replace hM := ite_f h_3 hM
          refine GS.exit rfl ?_
          obtain ⟨y_2, hM, hy⟩ := map_of hM
          rw [hr_2 _ hy.symm] at hM
          exact X.gc [] (hj_3 g2 hM) rfl rfl rfl (gk_cons rfl ⟨9, rfl⟩ (gk_cons rfl ⟨9, rfl⟩ (gk_cons rfl ⟨9, rfl⟩ (gk_cons rfl ⟨9, rfl⟩ gk_nil)))) (gb_nil)
    · replace hM := ite_f h_1 hM
      refine GS.exit rfl ?_
      obtain ⟨y_1, hM, hy⟩ := map_of hM
      rw [hr_1 _ hy.symm] at hM
      exact X.gc [] (hj_1 g3 hM) rfl rfl rfl (gk_cons rfl ⟨9, rfl⟩ gk_nil) (gb_nil)

set_option maxHeartbeats 4000000 in
theorem ok_tide_Together {a : api_Cycle} {b : api_Cycle} {r : api_Cycle × Int} (hM : tide_Together a b = some r) : Ct Tryz.prog 31 [(e_api_Cycle a), (e_api_Cycle b)] (V.tup [(e_api_Cycle r.1), (V.i r.2)]) := by
  refine ct_of_gs CC_ok rfl ?_
  unfold tide_Together at hM
  refine GS.seq ?_
  refine GS.region ?_
  iterate 3 refine X.opW rfl rfl rfl rfl ?_
  refine X.opR rfl rfl rfl ?_
  refine GS.opsNil ?_
  iterate 2 refine GS.seq ?_
  obtain ⟨y, h_1, hM⟩ := bind_of hM
  obtain ⟨y1, h_2, hM⟩ := gb_of hM
  refine GS.region ?_
  refine X.mid [(2, (V.ptr 0 0 0)), (3, (V.ptr 1 0 0)), (4, (V.ptr 2 0 0)), (21, (V.b ((!y) || (!y1))))] ?_ ?_
  · intro hg
    refine X.split (!y) (fun h_3 => ?_) (fun h_3 => ?_)
    · refine X.opR rfl rfl rfl ?_
      refine X.call (ok_tide_right h_1) rfl rfl rfl (.cons (.shut (n := 9) rfl) .nil) ?_
      iterate 2 refine X.opR rfl rfl rfl ?_
      iterate 3 refine X.off (X.off_f rfl rfl rfl h_3) rfl ?_
      refine X.opR rfl (X.pickor_t (y := !y1) rfl h_3 rfl) rfl ?_
      refine GS.opsNil ?_
      exact X.norm _ hg rfl (W.sub_cons rfl (W.sub_cons rfl (W.sub_cons rfl (W.sub_cons rfl W.sub_nil))))
    · refine X.opR rfl rfl rfl ?_
      refine X.call (ok_tide_right h_1) rfl rfl rfl (.cons (.shut (n := 9) rfl) .nil) ?_
      iterate 2 refine X.opR rfl rfl rfl ?_
      refine X.opR (X.on_f rfl rfl rfl h_3) rfl rfl ?_
      refine X.call (ok_tide_right (h_2 (X.nt h_3))) (X.on_f rfl rfl rfl h_3) rfl rfl (.cons (.shut (n := 9) rfl) .nil) ?_
      refine X.opR (X.on_f rfl rfl rfl h_3) rfl rfl ?_
      refine X.opR rfl (X.pickor_f (y := !y1) rfl h_3 rfl) rfl ?_
      refine GS.opsNil ?_
      exact X.norm _ hg rfl (W.sub_cons rfl (W.sub_cons rfl (W.sub_cons rfl (W.sub_cons rfl W.sub_nil))))
  refine X.cond rfl (fun h_4 => ?_) (fun h_4 => ?_)
  · replace hM := ite_t h_4 hM
    refine GS.seq ?_
    refine GS.region ?_
    refine X.opR rfl rfl rfl ?_
    refine X.op0W rfl rfl rfl ?_
    refine X.opR rfl rfl rfl ?_
    refine GS.opsNil ?_
    have hE := Option.some.inj hM
    subst hE
    exact GS.ret ⟨_, rfl, ⟨30, rfl⟩⟩
  · replace hM := ite_f h_4 hM
    refine GS.skip ?_
    refine GS.seq ?_
    obtain ⟨y2, h_5, hM⟩ := bind_of hM
    refine GS.region ?_
    iterate 8 refine X.opR rfl rfl rfl ?_
    refine X.opR rfl (X.subE rfl rfl) rfl ?_
    iterate 4 refine X.opR rfl rfl rfl ?_
    refine X.opR rfl (X.subE rfl rfl) rfl ?_
    refine X.opR rfl (X.maxE rfl rfl) rfl ?_
    refine X.opW (H' := [.rows 4 [(e_api_Cycle a)], .rows 4 [(e_api_Cycle b)], .rows 4 [(V.agg [(V.i 0), (V.i 0), (V.i 0), V.nil])], .rows 1 (List.map V.i ([a.Every, b.Every, max (w64 (a.Begin - b.Begin)) (w64 (b.Begin - a.Begin))]))]) rfl rfl rfl rfl ?_
    refine X.callF (ok_tide_gcd h_5) rfl rfl rfl (m := 9) rfl (.cons (FR.arg ⟨30, rfl⟩) .nil) ?_
    refine X.opR rfl rfl rfl ?_
    refine GS.opsNil ?_
    refine GS.seq ?_
    refine X.drawc (by kernel_rfl) rfl ?_
    iterate 4 refine X.cop rfl rfl rfl rfl ?_
    refine X.cop rfl (X.lenF rfl rfl rfl) rfl rfl ?_
    refine X.cop rfl (X.mulE rfl rfl) rfl rfl ?_
    iterate 4 refine X.cop rfl rfl rfl rfl ?_
    refine X.cop rfl (X.lenF rfl rfl rfl) rfl rfl ?_
    refine X.cop rfl (X.mulE rfl rfl) rfl rfl ?_
    iterate 2 refine X.cop rfl rfl rfl rfl ?_
    refine X.cnil ?_
    refine X.norm [(2, (V.ptr 0 0 0)), (3, (V.ptr 1 0 0)), (4, (V.ptr 2 0 0)), (6, (V.i y2)), (7, (V.i (w64 (a.Every * (a.Heights.length : Int))))), (8, (V.i (w64 (b.Every * (b.Heights.length : Int)))))] ?_ rfl (W.sub_cons rfl (W.sub_cons rfl (W.sub_cons rfl (W.sub_cons rfl (W.sub_cons rfl (W.sub_cons rfl W.sub_nil))))))
    refine GS.seq ?_
    obtain ⟨y3, h_6, hM⟩ := bind_of hM
    obtain ⟨q, h_7, hM⟩ := bind_of hM
    obtain ⟨q1, h_8, hM⟩ := bind_of hM
    refine GS.region ?_
    iterate 3 refine X.opR rfl rfl rfl ?_
    refine X.opW (H' := [.rows 4 [(e_api_Cycle a)], .rows 4 [(e_api_Cycle b)], .rows 4 [(V.agg [(V.i 0), (V.i 0), (V.i 0), V.nil])], .rows 1 (List.map V.i ([a.Every, b.Every, max (w64 (a.Begin - b.Begin)) (w64 (b.Begin - a.Begin))])), .rows 1 (List.map V.i ([w64 (a.Every * (a.Heights.length : Int)), w64 (b.Every * (b.Heights.length : Int))]))]) rfl rfl rfl rfl ?_
    refine X.callF (ok_tide_gcd h_6) rfl rfl rfl (m := 9) rfl (.cons (FR.arg ⟨30, rfl⟩) .nil) ?_
    refine X.opR rfl (X.quoE h_7 rfl rfl) rfl ?_
    refine X.opR rfl rfl rfl ?_
    refine X.opR rfl (X.mulE rfl rfl) rfl ?_
    refine X.opR rfl rfl rfl ?_
    refine X.opR rfl (X.quoE h_8 rfl rfl) rfl ?_
    refine X.opR rfl rfl rfl ?_
    refine GS.opsNil ?_
    iterate 2 refine GS.seq ?_
    refine GS.region ?_
    iterate 2 refine X.opR rfl rfl rfl ?_
    refine GS.opsNil ?_
    refine X.cond rfl (fun h_9 => ?_) (fun h_9 => ?_)
    · replace hM := ite_t h_9 hM
      refine GS.seq ?_
      refine GS.region ?_
      refine X.opR rfl rfl rfl ?_
      refine X.op0W (H' := [.rows 4 [(e_api_Cycle a)], .rows 4 [(e_api_Cycle b)], .rows 4 [(V.agg [(V.i 0), (V.i 0), (V.i 0), V.nil])], .rows 1 (List.map V.i ([a.Every, b.Every, max (w64 (a.Begin - b.Begin)) (w64 (b.Begin - a.Begin))])), .rows 1 (List.map V.i ([w64 (a.Every * (a.Heights.length : Int)), w64 (b.Every * (b.Heights.length : Int))]))]) rfl rfl rfl ?_
      refine X.opR rfl rfl rfl ?_
      refine GS.opsNil ?_
      have hE := Option.some.inj hM
      subst hE
      exact GS.ret ⟨_, rfl, ⟨30, rfl⟩⟩
    · replace hM := ite_f h_9 hM
      refine GS.skip ?_
      refine GS.seq ?_
      refine GS.region ?_
      iterate 6 refine X.opR rfl rfl rfl ?_
      refine X.opW (H' := [.rows 4 [(e_api_Cycle a)], .rows 4 [(e_api_Cycle b)], .rows 4 [(V.agg [(V.i 0), (V.i 0), (V.i 0), V.nil])], .rows 1 (List.map V.i ([a.Every, b.Every, max (w64 (a.Begin - b.Begin)) (w64 (b.Begin - a.Begin))])), .rows 1 (List.map V.i ([w64 (a.Every * (a.Heights.length : Int)), w64 (b.Every * (b.Heights.length : Int))])), .rows 4 [(V.agg [(V.i 0), (V.i 0), (V.i 0), V.nil])]]) rfl rfl rfl rfl ?_
      refine X.op0W (H' := [.rows 4 [(e_api_Cycle a)], .rows 4 [(e_api_Cycle b)], .rows 4 [(V.agg [(V.i 0), (V.i 0), (V.i 0), V.nil])], .rows 1 (List.map V.i ([a.Every, b.Every, max (w64 (a.Begin - b.Begin)) (w64 (b.Begin - a.Begin))])), .rows 1 (List.map V.i ([w64 (a.Every * (a.Heights.length : Int)), w64 (b.Every * (b.Heights.length : Int))])), .rows 4 [(V.agg [(V.i a.ID), (V.i a.Begin), (V.i y2), V.nil])]]) rfl rfl rfl ?_
      refine GS.opsNil ?_
      iterate 2 refine GS.seq ?_
      refine GS.region ?_
      iterate 2 refine X.opR rfl rfl rfl ?_
      refine GS.opsNil ?_
      refine X.join (τ := (List Int)) (fun v => tide_Together_j1 a y2 v = some r) (fun v => ⟨[(4, (V.ptr 0 0 0)), (10, (V.ptr 1 0 0))], [.rows 4 [(V.agg [(V.i 0), (V.i 0), (V.i 0), V.nil])], .rows 4 [(V.agg [(V.i a.ID), (V.i a.Begin), (V.i y2), (ovl 2 v)])], obl 1 V.i v], 0, none, 100⟩) ?_ ?_
      · intro l hM
        replace hM : tide_Together_j1 a y2 l = some r := hM
        unfold tide_Together_j1 at hM
        refine GS.seq ?_
        refine GS.region ?_
        refine X.opR rfl rfl rfl ?_
        refine X.op0W rfl (v := undefV) (wr := [(0, .rows 4 [(V.agg [(V.i a.ID), (V.i a.Begin), (V.i y2), (ovl 2 l)])])]) (by rcases X.ovl_or (z := true) 2 l with h0 | ⟨n0, h0⟩ <;> simp only [h0] <;> rfl) rfl ?_
        refine X.opR rfl rfl rfl ?_
        refine GS.opsNil ?_
        have hE := Option.some.inj hM
        subst hE
        exact GS.ret ⟨_, rfl, FR.tup (.cons (FR.agg (.cons ⟨30, rfl⟩ (.cons ⟨30, rfl⟩ (.cons ⟨30, rfl⟩ (.cons (FR.ovl (f := V.i) (l := l) 9 rfl rfl (fun _ => rfl)) .nil))))) (.cons ⟨30, rfl⟩ .nil))⟩
      · intro hj_1
        refine GS.block ?_
        refine X.gc [some 0, some 1, some 2, some 5, none] (X.loop (σ := (Int × (List Int))) (fun v => ⟨[(2, (V.ptr 0 0 0)), (3, (V.ptr 1 0 0)), (4, (V.ptr 2 0 0)), (6, (V.i y2)), (10, (V.ptr 3 0 0)), (71, (V.i q1)), (72, (V.i v.1))], [.rows 4 [(e_api_Cycle a)], .rows 4 [(e_api_Cycle b)], .rows 4 [(V.agg [(V.i 0), (V.i 0), (V.i 0), V.nil])], .rows 4 [(V.agg [(V.i a.ID), (V.i a.Begin), (V.i y2), (ovl 4 v.2)])], obl 1 V.i v.2], 0, none, 100⟩) hM ?_ rfl) rfl rfl rfl (gk_cons rfl ⟨9, rfl⟩ (gk_cons rfl ⟨9, rfl⟩ (gk_cons rfl ⟨9, rfl⟩ (gk_cons rfl ⟨9, rfl⟩ (gk_cons rfl ⟨9, rfl⟩ (gk_cons rfl ⟨9, rfl⟩ (gk_cons rfl ⟨9, rfl⟩ gk_nil))))))) (gb_box rfl rfl ⟨9, rfl⟩ (gb_box rfl rfl ⟨9, rfl⟩ (gb_box rfl rfl ⟨9, rfl⟩ (gb_box rfl rfl ⟨9, rfl⟩ (gb_pad' rfl gb_nil)))))
        rintro ⟨x, l2⟩ b_1 hM hc_2 hr_1
        rw [tide_Together_b2] at hM
        refine GS.seq ?_
        refine GS.region ?_
        refine X.opR rfl rfl rfl ?_
        refine GS.opsNil ?_
        refine GS.seq ?_
        refine X.cond rfl (fun h_10 => ?_) (fun h_10 => ?_)
        · replace hM := ite_t h_10 hM
          refine GS.skip ?_
          refine GS.seq ?_
          refine GS.block ?_
          refine GS.seq ?_
          refine GS.region ?_
          iterate 2 refine X.opR rfl rfl rfl ?_
          refine GS.opsNil ?_
          refine GS.seq ?_
          refine GS.region ?_
          iterate 4 refine X.opR rfl rfl rfl ?_
          refine X.opR rfl (X.mulE rfl rfl) rfl ?_
          refine X.opR rfl (X.addE rfl rfl) rfl ?_
          refine X.opR rfl rfl rfl ?_
          refine GS.opsNil ?_
          refine GS.seq ?_
          obtain ⟨y4, h_11, hM⟩ := bind_of hM
          obtain ⟨y5, h_12, hM⟩ := bind_of hM
          refine X.drawc (by kernel_rfl) rfl ?_
          iterate 2 refine X.cop rfl rfl rfl rfl ?_
          refine X.ccall (ok_tide_value h_11) rfl rfl rfl rfl (.cons (.shut (n := 9) rfl) (.cons (.shut (n := 9) rfl) .nil)) ?_
          iterate 2 refine X.cop rfl rfl rfl rfl ?_
          refine X.ccall (ok_tide_value h_12) rfl rfl rfl rfl (.cons (.shut (n := 9) rfl) (.cons (.shut (n := 9) rfl) .nil)) ?_
          refine X.cop rfl (X.addE rfl rfl) rfl rfl ?_
          refine X.cop rfl rfl rfl rfl ?_
          refine X.cnil ?_
          refine X.norm [(2, (V.ptr 0 0 0)), (3, (V.ptr 1 0 0)), (4, (V.ptr 2 0 0)), (6, (V.i y2)), (10, (V.ptr 3 0 0)), (13, (V.i (w64 (y4 + y5)))), (71, (V.i q1)), (72, (V.i x))] ?_ rfl (W.sub_cons rfl (W.sub_cons rfl (W.sub_cons rfl (W.sub_cons rfl (W.sub_cons rfl (W.sub_cons rfl (W.sub_cons rfl (W.sub_cons rfl W.sub_nil))))))))
          iterate 2 refine GS.seq ?_
          refine GS.region ?_
          refine X.opR rfl rfl rfl ?_
          refine X.call (ok_tide_level (w64 (y4 + y5))) rfl rfl rfl (.cons (.shut (n := 9) rfl) .nil) ?_
          refine X.opR rfl rfl rfl ?_
          refine GS.opsNil ?_
          refine X.cond rfl (fun h_13 => ?_) (fun h_13 => ?_)
          · replace hM := ite_t h_13 hM
            refine GS.seq ?_
            refine GS.region ?_
            refine X.opR rfl rfl rfl ?_
            refine X.op0W (H' := [.rows 4 [(e_api_Cycle a)], .rows 4 [(e_api_Cycle b)], .rows 4 [(V.agg [(V.i 0), (V.i 0), (V.i 0), V.nil])], .rows 4 [(V.agg [(V.i a.ID), (V.i a.Begin), (V.i y2), (ovl 4 l2)])], obl 1 V.i l2]) rfl rfl rfl ?_
            refine X.opR rfl rfl rfl ?_
            refine GS.opsNil ?_
            have hE := Option.some.inj hM
            replace hE := hr_1 _ hE.symm
            subst hE
            exact GS.ret ⟨_, rfl, ⟨30, rfl⟩⟩
          · replace hM := ite_f h_13 hM
            refine GS.skip ?_
            obtain ⟨l1, h_14, hM⟩ := bind_of hM
            refine GS.region ?_
            iterate 3 refine X.opR rfl rfl rfl ?_
            refine X.opW (H' := [.rows 4 [(e_api_Cycle a)], .rows 4 [(e_api_Cycle b)], .rows 4 [(V.agg [(V.i 0), (V.i 0), (V.i 0), V.nil])], .rows 4 [(V.agg [(V.i a.ID), (V.i a.Begin), (V.i y2), (ovl 4 l2)])], obl 1 V.i l2, .rows 1 (List.map V.i ([w64 (y4 + y5)]))]) rfl rfl rfl rfl ?_
            refine X.appN (f := V.i) h_14 (fun _ => rfl) (by rfl) (by rfl) (by rfl) (by rfl) (by rfl) (by rfl) (by rfl) (by rfl) (by rfl) (by rfl) (by rfl) (by exact rfl) (by rfl) (by rfl) ?_
            refine X.opR rfl rfl rfl ?_
            refine X.op0W (H' := [.rows 4 [(e_api_Cycle a)], .rows 4 [(e_api_Cycle b)], .rows 4 [(V.agg [(V.i 0), (V.i 0), (V.i 0), V.nil])], .rows 4 [(V.agg [(V.i a.ID), (V.i a.Begin), (V.i y2), (V.osl 6 0 (List.length l1))])], .dead, .rows 1 (List.map V.i ([w64 (y4 + y5)])), .rows 1 (List.map V.i l1)]) rfl rfl rfl ?_
            refine GS.opsNil ?_
            refine GS.endB ?_
            refine GS.region ?_
            refine X.opR rfl (X.addE rfl rfl) rfl ?_
            refine X.opR rfl rfl rfl ?_
            refine GS.opsNil ?_
            have hE := Option.some.inj hM
            exact X.gc [some 0, some 1, some 2, some 3, some 6] (hc_2 (w64 (x + 1), l1) hE.symm) rfl rfl rfl (gk_cons rfl ⟨9, rfl⟩ (gk_cons rfl ⟨9, rfl⟩ (gk_cons rfl ⟨9, rfl⟩ (gk_cons rfl ⟨9, rfl⟩ (gk_cons rfl ⟨9, rfl⟩ (gk_cons rfl ⟨9, rfl⟩ (gk_cons rfl ⟨9, rfl⟩ gk_nil))))))) (gb_box rfl rfl ⟨9, rfl⟩ (gb_box rfl rfl ⟨9, rfl⟩ (gb_box rfl rfl ⟨9, rfl⟩ (gb_box rfl rfl (rn_agg (.cons ⟨9, rfl⟩ (.cons ⟨9, rfl⟩ (.cons ⟨9, rfl⟩ (.cons (rv_ne (app_ne h_14) rfl) .nil))))) (gb_obl' 9 (app_ne h_14) rfl rfl (fun _ => rfl) gb_nil)))))
        · replace hM := ite_f h_10 hM
          refine GS.exit rfl ?_
          obtain ⟨y_1, hM, hy⟩ := map_of hM
          rw [hr_1 _ hy.symm] at hM
          exact X.gc [some 2, some 3, some 4] (hj_1 l2 hM) rfl rfl rfl (gk_cons rfl ⟨9, rfl⟩ (gk_cons rfl ⟨9, rfl⟩ gk_nil)) (gb_box rfl rfl ⟨9, rfl⟩ (gb_box rfl rfl (rn_agg (.cons ⟨9, rfl⟩ (.cons ⟨9, rfl⟩ (.cons ⟨9, rfl⟩ (.cons (rn_ovl rfl) .nil))))) (gb_obl 9 rfl rfl (fun _ => rfl) gb_nil)))

abbrev e_tide_known (x : tide_known) : V := .agg [(V.i x.Gauge.ID), (V.i x.Gauge.Tick), (V.i x.Gauge.Read.Lo), (V.i x.Gauge.Read.Hi), (V.i x.levels.Lo), (V.i x.levels.Hi)]

theorem ok_tide_read_1 (x : api_Gauge) (c : api_Gauge) : Ct Tryz.prog 71 [(e_api_Gauge x), (V.fptr [(e_api_Gauge c)] 0 0)] (V.b (tide_read_1 x c)) := by
  refine ct_of_gs CC_ok rfl ?_
  generalize hM : tide_read_1 x c = r
  unfold tide_read_1 at hM
  refine GS.seq ?_
  refine GS.region ?_
  refine X.opW rfl rfl rfl rfl ?_
  refine X.opR rfl rfl rfl ?_
  refine GS.opsNil ?_
  refine GS.seq ?_
  refine GS.region ?_
  iterate 6 refine X.opR rfl rfl rfl ?_
  refine GS.opsNil ?_
  subst hM
  exact GS.ret ⟨_, rfl, ⟨30, rfl⟩⟩

theorem ok_slices_IndexFunc_api_Gauge__tide_read_1 {s : (List api_Gauge)} {c : api_Gauge} {r : Int} (hM : slices_IndexFunc_api_Gauge__tide_read_1 s c = some r) : Ct Tryz.prog 93 [(V.sl (List.map e_api_Gauge s)), (V.fn 71 [(V.fptr [(e_api_Gauge c)] 0 0)])] (V.i r) := by
  refine ct_of_gs CC_ok rfl ?_
  unfold slices_IndexFunc_api_Gauge__tide_read_1 at hM
  refine GS.seq ?_
  refine GS.region ?_
  refine X.opR rfl rfl rfl ?_
  refine GS.opsNil ?_
  iterate 2 refine GS.seq ?_
  refine GS.region ?_
  refine X.opR rfl rfl rfl ?_
  refine X.opR rfl (X.lenF rfl rfl rfl) rfl ?_
  refine X.opR rfl rfl rfl ?_
  refine GS.opsNil ?_
  refine X.join (τ := Unit) (fun v => slices_IndexFunc_api_Gauge__tide_read_1_j1 = some r) (fun v => ⟨[], [], 0, none, 19⟩) ?_ ?_
  · intro _ hM
    replace hM : slices_IndexFunc_api_Gauge__tide_read_1_j1 = some r := hM
    unfold slices_IndexFunc_api_Gauge__tide_read_1_j1 at hM
    refine GS.seq ?_
    refine GS.region ?_
    refine X.opR rfl rfl rfl ?_
    refine GS.opsNil ?_
    have hE := Option.some.inj hM
    subst hE
    exact GS.ret ⟨_, rfl, ⟨30, rfl⟩⟩
  · intro hj_1
    refine GS.block ?_
    refine X.gc [] (X.loop (σ := Int) (fun v => ⟨[(0, (V.sl (List.map e_api_Gauge s))), (1, (V.fn 71 [(V.fptr [(e_api_Gauge c)] 0 0)])), (7, (V.i (s.length : Int))), (8, (V.i v))], [], 0, none, 19⟩) hM ?_ rfl) rfl rfl rfl (gk_cons rfl ⟨9, rfl⟩ (gk_cons rfl ⟨9, rfl⟩ (gk_cons rfl ⟨9, rfl⟩ (gk_cons rfl ⟨9, rfl⟩ gk_nil)))) (gb_nil)
    intro x1 b_1 hM hc_2 hr_1
    rw [slices_IndexFunc_api_Gauge__tide_read_1_b2] at hM
    refine GS.seq ?_
    refine GS.region ?_
    refine X.opR rfl rfl rfl ?_
    refine GS.opsNil ?_
    refine GS.seq ?_
    refine X.cond rfl (fun h_1 => ?_) (fun h_1 => ?_)
    · replace hM := ite_t h_1 hM
      refine GS.skip ?_
      refine GS.seq ?_
      refine GS.block ?_
      refine GS.seq ?_
      refine GS.region ?_
      iterate 2 refine X.opR rfl rfl rfl ?_
      refine GS.opsNil ?_
      refine GS.seq ?_
      obtain ⟨x, h_2, hM⟩ := bind_of hM
      refine GS.region ?_
      iterate 3 refine X.opR rfl rfl rfl ?_
      refine X.opR rfl (X.indexF (f := e_api_Gauge) h_2 (fun _ => rfl) rfl rfl rfl rfl) rfl ?_
      refine X.opR rfl (X.loadF h_2 rfl rfl rfl) rfl ?_
      refine X.call (ok_tide_read_1 x c) rfl rfl rfl (.cons (.shut (n := 9) rfl) (.cons (.shut (n := 9) rfl) .nil)) ?_
      refine GS.opsNil ?_
      refine X.cond rfl (fun h_3 => ?_) (fun h_3 => ?_)
      · replace hM := ite_t h_3 hM
        refine GS.seq ?_
        refine GS.region ?_
        iterate 2 refine X.opR rfl rfl rfl ?_
        refine GS.opsNil ?_
        have hE := Option.some.inj hM
        replace hE := hr_1 _ hE.symm
        subst hE
        exact GS.ret ⟨_, rfl, ⟨30, rfl⟩⟩
      · replace hM := ite_f h_3 hM
        refine GS.skip ?_
        refine GS.endB ?_
        refine GS.region ?_
        refine X.opR rfl (X.addE rfl rfl) rfl ?_
        refine X.opR rfl rfl rfl ?_
        refine GS.opsNil ?_
        have hE := Option.some.inj hM
        exact X.gc [] (hc_2 (w64 (x1 + 1)) hE.symm) rfl rfl rfl (gk_cons rfl ⟨9, rfl⟩ (gk_cons rfl ⟨9, rfl⟩ (gk_cons rfl ⟨9, rfl⟩ (gk_cons rfl ⟨9, rfl⟩ gk_nil)))) (gb_nil)
    · replace hM := ite_f h_1 hM
      refine GS.exit rfl ?_
      obtain ⟨y_1, hM, hy⟩ := map_of hM
      rw [hr_1 _ hy.symm] at hM
      exact X.gc [] (hj_1 () hM) rfl rfl rfl (gk_nil) (gb_nil)

theorem ok_slices_ContainsFunc_api_Gauge__tide_read_1 {s : (List api_Gauge)} {c : api_Gauge} {r : Bool} (hM : slices_ContainsFunc_api_Gauge__tide_read_1 s c = some r) : Ct Tryz.prog 70 [(V.sl (List.map e_api_Gauge s)), (V.fn 71 [(V.fptr [(e_api_Gauge c)] 0 0)])] (V.b r) := by
  refine ct_of_gs CC_ok rfl ?_
  unfold slices_ContainsFunc_api_Gauge__tide_read_1 at hM
  refine GS.seq ?_
  refine GS.region ?_
  refine X.opR rfl rfl rfl ?_
  refine GS.opsNil ?_
  refine GS.seq ?_
  obtain ⟨y, h_1, hM⟩ := bind_of hM
  refine GS.region ?_
  iterate 2 refine X.opR rfl rfl rfl ?_
  refine X.call (ok_slices_IndexFunc_api_Gauge__tide_read_1 h_1) rfl rfl rfl (.cons (.shut (n := 9) rfl) (.cons (.shut (n := 9) rfl) .nil)) ?_
  iterate 2 refine X.opR rfl rfl rfl ?_
  refine GS.opsNil ?_
  have hE := Option.some.inj hM
  subst hE
  exact GS.ret ⟨_, rfl, ⟨30, rfl⟩⟩

theorem ok_tide_every : Ct Tryz.prog 72 [] (e_api_Span (tide_every)) := by
  refine ct_of_gs CC_ok rfl ?_
  generalize hM : tide_every = r
  unfold tide_every at hM
  refine GS.seq ?_
  refine GS.region ?_
  refine X.opW rfl rfl rfl rfl ?_
  refine GS.opsNil ?_
  refine GS.seq ?_
  refine GS.region ?_
  refine X.opR rfl rfl rfl ?_
  refine X.op0W rfl rfl rfl ?_
  refine GS.opsNil ?_
  subst hM
  exact GS.ret ⟨_, rfl, ⟨30, rfl⟩⟩

theorem ok_tide_both (a : api_Span) (b : api_Span) : Ct Tryz.prog 50 [(e_api_Span a), (e_api_Span b)] (e_api_Span (tide_both a b)) := by
  refine ct_of_gs CC_ok rfl ?_
  generalize hM : tide_both a b = r
  unfold tide_both at hM
  refine GS.seq ?_
  refine GS.region ?_
  iterate 3 refine X.opW rfl rfl rfl rfl ?_
  refine GS.opsNil ?_
  refine GS.seq ?_
  refine GS.region ?_
  iterate 4 refine X.opR rfl rfl rfl ?_
  refine X.opR rfl (X.maxE rfl rfl) rfl ?_
  iterate 4 refine X.opR rfl rfl rfl ?_
  refine X.opR rfl (X.minE rfl rfl) rfl ?_
  refine X.opR rfl rfl rfl ?_
  refine X.op0W rfl rfl rfl ?_
  refine GS.opsNil ?_
  subst hM
  exact GS.ret ⟨_, rfl, ⟨30, rfl⟩⟩

theorem ok_tide_knowns {w : api_Water} {l : (List api_Gauge)} {r : (List tide_known)} (hM : tide_knowns w l = some r) : Ct Tryz.prog 42 [(e_api_Water w), (V.sl (List.map e_api_Gauge l))] (V.sl (List.map e_tide_known r)) := by
  refine ct_of_gs CC_ok rfl ?_
  unfold tide_knowns at hM
  refine GS.seq ?_
  refine GS.region ?_
  refine X.opW rfl rfl rfl rfl ?_
  refine X.opR rfl rfl rfl ?_
  refine GS.opsNil ?_
  refine GS.seq ?_
  refine GS.region ?_
  refine X.opR rfl rfl rfl ?_
  refine X.op0W rfl rfl rfl ?_
  refine GS.opsNil ?_
  refine GS.seq ?_
  obtain ⟨y, h_1, hM⟩ := bind_of hM
  refine GS.region ?_
  refine X.opR rfl rfl rfl ?_
  refine X.call (ok_tide_heights h_1) rfl rfl rfl (.cons (.shut (n := 9) rfl) .nil) ?_
  refine X.opR rfl rfl rfl ?_
  refine GS.opsNil ?_
  refine GS.seq ?_
  refine GS.region ?_
  refine X.opR rfl rfl rfl ?_
  refine GS.opsNil ?_
  iterate 2 refine GS.seq ?_
  refine GS.region ?_
  refine X.opR rfl rfl rfl ?_
  refine X.opR rfl (X.lenF rfl rfl rfl) rfl ?_
  refine X.opR rfl rfl rfl ?_
  refine GS.opsNil ?_
  refine X.join (τ := (List tide_known)) (fun v => tide_knowns_j1 v = some r) (fun v => ⟨[(6, (ovl 0 v))], [obl 6 e_tide_known v], 0, none, 43⟩) ?_ ?_
  · intro l1 hM
    replace hM : tide_knowns_j1 l1 = some r := hM
    unfold tide_knowns_j1 at hM
    refine GS.seq ?_
    refine GS.region ?_
    iterate 2 refine X.opR rfl rfl rfl ?_
    refine GS.opsNil ?_
    have hE := Option.some.inj hM
    subst hE
    exact GS.ret ⟨_, rfl, FR.ovl (f := e_tide_known) (l := l1) 9 rfl rfl (fun _ => rfl)⟩
  · intro hj_1
    refine GS.block ?_
    refine X.gc [none] (X.loop (σ := (Int × (List tide_known))) (fun v => ⟨[(5, (V.fn 85 [(V.fptr [(e_api_Water y.1)] 0 0), (V.fptr [(e_parts y.2)] 0 0)])), (6, (ovl 0 v.2)), (13, (V.sl (List.map e_api_Gauge l))), (14, (V.i (l.length : Int))), (15, (V.i v.1))], [obl 6 e_tide_known v.2], 0, none, 43⟩) hM ?_ rfl) rfl rfl rfl (gk_cons rfl ⟨9, rfl⟩ (gk_cons rfl ⟨9, rfl⟩ (gk_cons rfl ⟨9, rfl⟩ (gk_cons rfl ⟨9, rfl⟩ (gk_cons rfl ⟨9, rfl⟩ gk_nil))))) (gb_pad' rfl gb_nil)
    rintro ⟨x1, l3⟩ b_1 hM hc_2 hr_1
    rw [tide_knowns_b2] at hM
    refine GS.seq ?_
    refine GS.region ?_
    refine X.opR rfl rfl rfl ?_
    refine GS.opsNil ?_
    refine GS.seq ?_
    refine X.cond rfl (fun h_2 => ?_) (fun h_2 => ?_)
    · replace hM := ite_t h_2 hM
      refine GS.skip ?_
      refine GS.seq ?_
      refine GS.block ?_
      refine GS.seq ?_
      obtain ⟨x, h_3, hM⟩ := bind_of hM
      refine GS.region ?_
      refine X.opR rfl (X.indexF (f := e_api_Gauge) h_3 (fun _ => rfl) rfl rfl rfl rfl) rfl ?_
      refine X.opR rfl (X.loadF h_3 rfl rfl rfl) rfl ?_
      refine X.opW rfl rfl rfl rfl ?_
      refine X.op0W rfl rfl rfl ?_
      refine GS.opsNil ?_
      refine GS.seq ?_
      obtain ⟨y1, h_4, hM⟩ := bind_of hM
      refine GS.region ?_
      iterate 3 refine X.opR rfl rfl rfl ?_
      refine X.call (ok_tide_heights_1 h_4) rfl rfl rfl (.cons (.shut (n := 9) rfl) (.cons (.shut (n := 9) rfl) (.cons (.shut (n := 9) rfl) .nil))) ?_
      refine X.opR rfl rfl rfl ?_
      refine GS.opsNil ?_
      obtain ⟨l2, h_5, hM⟩ := bind_of hM
      refine X.draw (by kernel_rfl) ?_
      iterate 2 refine X.dop rfl rfl rfl rfl (by kernel_rfl) rfl rfl ?_
      refine X.dcall ok_tide_every rfl rfl rfl (by kernel_rfl) rfl .nil ?_
      iterate 4 refine X.dop rfl rfl rfl rfl (by kernel_rfl) rfl rfl ?_
      refine X.dop rfl (X.subE rfl rfl) rfl rfl (by kernel_rfl) rfl rfl ?_
      iterate 4 refine X.dop rfl rfl rfl rfl (by kernel_rfl) rfl rfl ?_
      refine X.dop rfl (X.subE rfl rfl) rfl rfl (by kernel_rfl) rfl rfl ?_
      refine X.dop rfl rfl rfl rfl (by kernel_rfl) rfl rfl ?_
      refine X.dcall (ok_tide_both (tide_every) (⟨w64 (x.Read.Lo - y1), w64 (x.Read.Hi - y1)⟩ : api_Span)) rfl rfl rfl (by kernel_rfl) rfl (.cons (.shut (n := 9) rfl) (.cons (.shut (n := 9) rfl) .nil)) ?_
      iterate 2 refine X.dop rfl rfl rfl rfl (by kernel_rfl) rfl rfl ?_
      refine X.dappN (f := e_tide_known) h_5 (fun _ => rfl) (by rfl) (by rfl) (by rfl) (by rfl) (by rfl) (by rfl) (by rfl) (by rfl) (by rfl) (by rfl) (by rfl) (by exact rfl) (by rfl) (by rfl) (by kernel_rfl) (by rfl) (by rfl) ?_
      refine X.dop rfl rfl rfl rfl (by kernel_rfl) rfl rfl ?_
      refine X.dnil ?_
      refine X.norm [(5, (V.fn 85 [(V.fptr [(e_api_Water y.1)] 0 0), (V.fptr [(e_parts y.2)] 0 0)])), (6, (V.osl 3 0 (List.length l2))), (13, (V.sl (List.map e_api_Gauge l))), (14, (V.i (l.length : Int))), (15, (V.i x1))] ?_ rfl (W.sub_cons rfl (W.sub_cons rfl (W.sub_cons rfl (W.sub_cons rfl (W.sub_cons rfl W.sub_nil)))))
      refine GS.endB ?_
      refine GS.region ?_
      refine X.opR rfl (X.addE rfl rfl) rfl ?_
      refine X.opR rfl rfl rfl ?_
      refine GS.opsNil ?_
      have hE := Option.some.inj hM
      exact X.gc [some 3] (hc_2 (w64 (x1 + 1), l2) hE.symm) rfl rfl rfl (gk_cons rfl ⟨9, rfl⟩ (gk_cons rfl (rv_ne (app_ne h_5) rfl) (gk_cons rfl ⟨9, rfl⟩ (gk_cons rfl ⟨9, rfl⟩ (gk_cons rfl ⟨9, rfl⟩ gk_nil))))) (gb_obl' 9 (app_ne h_5) rfl rfl (fun _ => rfl) gb_nil)
    · replace hM := ite_f h_2 hM
      refine GS.exit rfl ?_
      obtain ⟨y_1, hM, hy⟩ := map_of hM
      rw [hr_1 _ hy.symm] at hM
      exact X.gc [some 0] (hj_1 l3 hM) rfl rfl rfl (gk_cons rfl (rn_ovl rfl) gk_nil) (gb_obl 9 rfl rfl (fun _ => rfl) gb_nil)

end Go.Proofs.YtphmekpaalfliaaGreat
