/- TideExcludes: the plain law. Conditions: none. -/
import Derived.Test.YtphmekpaalfliaaGreatLawK
set_option linter.unusedVariables false
namespace Go.Mx

/-- A water without one of its cycles. -/
def wo (w : api_Water) (k : Nat) : api_Water := ⟨w.Level, w.Cycles.eraseIdx k, w.Shifts⟩
theorem wo_good {w : api_Water} (hw : GoodW w) (k : Nat) : GoodW (wo w k) :=
  ⟨hw.l0, hw.l1, Nat.le_trans (List.eraseIdx_sublist w.Cycles k).length_le hw.nc, hw.ns, fun c hc => hw.cs c ((List.eraseIdx_sublist w.Cycles k).subset hc), hw.ss⟩
/-- Whether no level is left without a cycle. -/
def noneB (w : api_Water) (l : List api_Gauge) (k : Nat) : Bool := tide_none (allLev (wo w k) tide_every l)
/-- The cycles without which it is otherwise. -/
def exL (w : api_Water) (l : List api_Gauge) (agree : Bool) : Nat → List api_Cycle → List Int
  | _, [] => []
  | k, c :: r => (if noneB w l k = agree then [] else [c.ID]) ++ exL w l agree (k + 1) r
theorem exL_len (w : api_Water) (l : List api_Gauge) (agree : Bool) : ∀ (r : List api_Cycle) (k : Nat), (exL w l agree k r).length ≤ r.length
  | [], k => by simp [exL]
  | c :: r, k => by
    have := exL_len w l agree r (k + 1)
    simp only [exL, List.length_append, List.length_cons]
    split <;> simp <;> omega
theorem cut_eq {α : Type} {l : List α} {i : Nat} (h : i < l.length) : delO l (i : Int) ((i + 1 : Nat) : Int) = some (l.eraseIdx i) := by
  unfold delO
  rw [if_pos ⟨by omega, by omega, by omega⟩, List.eraseIdx_eq_take_drop_succ]
  rfl

theorem without_eq {w : api_Water} (hw : GoodW w) (l : List api_Gauge) (hl : l.length ≤ 1000) (hg : ∀ g ∈ l, gok g = true) (agree : Bool) : tide_without w l agree = some (srtI (exL w l agree 0 w.Cycles)) := by
  have hn := hw.nc
  unfold tide_without
  refine (lp_list w.Cycles (by omega) (fun (acc : List Int) i => (i, acc)) (fun acc r => srtI (acc ++ exL w l agree (w.Cycles.length - r.length) r)) (fun i acc => acc.length ≤ i) (a := []) rfl (by simp) (fun acc i hi hJ => ?_) (fun acc hJ => ?_)).trans (by simp)
  · left
    unfold tide_without_b2
    simp only
    rw [if_pos (by simpa using hi), ix_lt hi, Option.bind_some, app2 (by simp; omega), Option.bind_some, w64s' hi (by omega), List.nil_append, cut_eq hi, Option.bind_some]
    have e1 : tide_knowns ⟨w.Level, w.Cycles.eraseIdx i, w.Shifts⟩ l = _ := knowns_eq (wo_good hw i) l hl hg
    rw [e1, Option.bind_some, levels_eq (wo w i) l hl, Option.bind_some]
    have ek : w.Cycles.length - (w.Cycles[i] :: w.Cycles.drop (i + 1)).length = i := by simp; omega
    have ek2 : w.Cycles.length - (w.Cycles.drop (i + 1)).length = i + 1 := by simp; omega
    rw [ek, ek2]
    unfold tide_without_j3
    rw [w64s' hi (by omega)]
    have en : tide_none (allLev (wo w i) tide_every l) = noneB w l i := rfl
    rw [en]
    by_cases h : noneB w l i = agree
    · rw [if_neg (by simp [h])]
      refine ⟨acc, rfl, ?_, by omega⟩
      simp only [exL, h, if_true, List.nil_append]
    · rw [if_pos (by simpa using h), app_one (by omega), Option.bind_some]
      refine ⟨_, rfl, ?_, by simp; omega⟩
      simp only [exL, h, if_false, List.append_assoc]
  · unfold tide_without_b2
    simp only
    rw [if_neg (by simp)]
    unfold tide_without_j1 srtO
    rw [if_pos (by omega)]
    simp [exL]

theorem less_eq {w : api_Water} (hw : GoodW w) {i : Nat} (hi : i < w.Cycles.length) : ref02_less w (i : Int) = some (wo w i) := by
  have hn := hw.nc
  unfold ref02_less
  rw [sub_to (by omega), Option.bind_some, app2 (by simp; omega), Option.bind_some, w64s' hi (by omega), sub_from (by omega), Option.bind_some, app2 (by simp; omega), Option.bind_some, List.nil_append]
  unfold wo
  rw [List.eraseIdx_eq_take_drop_succ]
theorem some_eq {w : api_Water} (hw : GoodW w) (l : List api_Gauge) (hl : l.length ≤ 1000) (hg : ∀ g ∈ l, gok g = true) : ref02_some w l = some (!tide_none (allLev w tide_every l)) := by
  unfold ref02_some
  rw [agreedAll_eq hw l hl hg, Option.bind_some]
  unfold tide_none
  congr 1
  rw [Bool.eq_iff_iff]
  simp

theorem RShown_loop {w : api_Water} (hw : GoodW w) (l : List api_Gauge) (hl : l.length ≤ 1000) (hg : ∀ g ∈ l, gok g = true) : Lp (ref02_Shown_b2 w l) fuel ([], 0) = some ⟨srtI (exL w l false 0 w.Cycles), 0⟩ := by
  have hn := hw.nc
  refine (lp_list w.Cycles (by omega) (fun (acc : List Int) i => (acc, i)) (fun acc r => (⟨foldA acc (exL w l false (w.Cycles.length - r.length) r), 0⟩ : ref02_Ints)) (fun i acc => acc.length ≤ i) (a := []) rfl (by simp) (fun acc i hi hJ => ?_) (fun acc hJ => ?_)).trans (by rw [foldA_srt]; simp)
  · left
    unfold ref02_Shown_b2
    simp only
    rw [if_pos (by simpa using hi), less_eq hw hi, Option.bind_some, some_eq (wo_good hw i) l hl hg, Option.bind_some]
    have ek : w.Cycles.length - (w.Cycles[i] :: w.Cycles.drop (i + 1)).length = i := by simp; omega
    have ek2 : w.Cycles.length - (w.Cycles.drop (i + 1)).length = i + 1 := by simp; omega
    rw [ek, ek2]
    unfold ref02_Shown_j3
    rw [w64s' hi (by omega)]
    have en : tide_none (allLev (wo w i) tide_every l) = noneB w l i := rfl
    rw [en]
    cases h : noneB w l i with
    | false =>
      rw [if_neg (by simp)]
      refine ⟨acc, rfl, ?_, by omega⟩
      simp only [exL, h, if_true, List.nil_append]
    | true =>
      rw [if_pos (by simp), ix_lt hi, Option.bind_some, add_eq acc (by omega), Option.bind_some]
      refine ⟨_, rfl, ?_, ?_⟩
      · simp only [exL, h, Bool.true_eq_false, if_false, List.cons_append, List.nil_append, foldA]
      · rw [(insB_perm _ _ _).length_eq]; simp; omega
  · unfold ref02_Shown_b2
    simp only
    rw [if_neg (by simp)]
    unfold ref02_Shown_j1
    simp [exL, foldA]
theorem RExcluded_loop {w : api_Water} (hw : GoodW w) (l : List api_Gauge) (hl : l.length ≤ 1000) (hg : ∀ g ∈ l, gok g = true) : Lp (ref02_Excluded_b2 w l false) fuel ([], 0) = some ⟨srtI (exL w l true 0 w.Cycles), 0⟩ := by
  have hn := hw.nc
  refine (lp_list w.Cycles (by omega) (fun (acc : List Int) i => (acc, i)) (fun acc r => (⟨foldA acc (exL w l true (w.Cycles.length - r.length) r), 0⟩ : ref02_Ints)) (fun i acc => acc.length ≤ i) (a := []) rfl (by simp) (fun acc i hi hJ => ?_) (fun acc hJ => ?_)).trans (by rw [foldA_srt]; simp)
  · left
    unfold ref02_Excluded_b2
    simp only
    have d : ((decide ((i : Int) < (w.Cycles.length : Int))) && (!false)) = true := by simpa using hi
    rw [if_pos d, less_eq hw hi, Option.bind_some, some_eq (wo_good hw i) l hl hg, Option.bind_some]
    have ek : w.Cycles.length - (w.Cycles[i] :: w.Cycles.drop (i + 1)).length = i := by simp; omega
    have ek2 : w.Cycles.length - (w.Cycles.drop (i + 1)).length = i + 1 := by simp; omega
    rw [ek, ek2]
    unfold ref02_Excluded_j3
    rw [w64s' hi (by omega)]
    have en : tide_none (allLev (wo w i) tide_every l) = noneB w l i := rfl
    rw [en]
    cases h : noneB w l i with
    | true =>
      rw [if_neg (by simp)]
      refine ⟨acc, rfl, ?_, by omega⟩
      simp only [exL, h, if_true, List.nil_append]
    | false =>
      rw [if_pos (by simp), ix_lt hi, Option.bind_some, add_eq acc (by omega), Option.bind_some]
      refine ⟨_, rfl, ?_, ?_⟩
      · simp only [exL, h, Bool.false_eq_true, if_false, List.cons_append, List.nil_append, foldA]
      · rw [(insB_perm _ _ _).length_eq]; simp; omega
  · unfold ref02_Excluded_b2
    simp only
    rw [if_neg (by simp)]
    unfold ref02_Excluded_j1
    simp [exL, foldA]
theorem RExcluded_off (w : api_Water) (l : List api_Gauge) : Lp (ref02_Excluded_b2 w l true) fuel ([], 0) = some ⟨[], 0⟩ := by
  suffices h : ∃ r, Lp (ref02_Excluded_b2 w l true) fuel ([], 0) = some r ∧ r = (⟨[], 0⟩ : ref02_Ints) by obtain ⟨r, h, rfl⟩ := h; exact h
  refine lp_inv' (fun (i : Nat) (s : List Int × Int) => s = ([], 0)) _ 0 (by omega) rfl fun i s hi hI => ?_
  subst hI
  right
  unfold ref02_Excluded_b2
  simp only [Bool.not_true, Bool.and_false, Bool.false_eq_true, if_false]
  exact ⟨_, rfl, rfl⟩

/-- What is shown. -/
def shownS (w : api_Water) (l : List api_Gauge) : List Int := if (levelsS w l).2 = 0 then srtI (exL w l false 0 w.Cycles) else []
/-- What is excluded. -/
def exclS (w : api_Water) (l : List api_Gauge) : List Int := if gaugedS w l = 0 ∧ tide_none (allLev w tide_every l) = true then srtI (exL w l true 0 w.Cycles) else []
theorem levelsS_gauged {w : api_Water} {l : List api_Gauge} (h : (levelsS w l).2 = 0) : gaugedS w l = 0 := by
  by_cases hq : gaugedS w l = 0
  · exact hq
  · unfold levelsS at h; rw [if_neg hq] at h; exact h

theorem Shown_eq (w : api_Water) (hw : LenW w) (l : List api_Gauge) : tide_Shown w l = some (shownS w l, (levelsS w l).2) := by
  unfold tide_Shown shownS
  rw [Levels_eq w hw, Option.bind_some]
  by_cases h : (levelsS w l).2 = 0
  · obtain ⟨g0, g1, g2⟩ := gaugedS_len (levelsS_gauged h)
    rw [if_neg (by simp [h]), without_eq (checkS_good hw g1) l (by omega) ((gaugeS_zero l []).1 g2).1, Option.bind_some, if_pos h, h]
  · rw [if_pos (by simp [h]), if_neg h]
theorem RShown_eq (w : api_Water) (hw : LenW w) (l : List api_Gauge) (hl : Len l) : ref02_Shown w l = some ⟨shownS w l, (levelsS w l).2⟩ := by
  unfold ref02_Shown shownS
  rw [RLevels_eq w hw l hl, Option.bind_some]
  simp only
  by_cases h : (levelsS w l).2 = 0
  · obtain ⟨g0, g1, g2⟩ := gaugedS_len (levelsS_gauged h)
    rw [if_neg (by simp [h]), RShown_loop (checkS_good hw g1) l (by omega) ((gaugeS_zero l []).1 g2).1, if_pos h, h]
  · rw [if_pos (by simp [h]), if_neg h]
theorem Excluded_eq (w : api_Water) (hw : LenW w) (l : List api_Gauge) : tide_Excluded w l = some (exclS w l, gaugedS w l) := by
  unfold tide_Excluded exclS
  rw [read_eq w hw l, Option.bind_some]
  by_cases h : gaugedS w l = 0
  · obtain ⟨g0, g1, g2⟩ := gaugedS_len h
    simp only [h, decide_true, Bool.not_true, Bool.not_false, gb, if_true, Bool.false_or, true_and]
    rw [levels_eq w l (by omega), Option.bind_some]
    cases hn : tide_none (allLev w tide_every l) with
    | false => simp
    | true =>
      rw [without_eq (checkS_good hw g1) l (by omega) ((gaugeS_zero l []).1 g2).1]
      simp
  · simp [h, gb]
theorem RExcluded_eq (w : api_Water) (hw : LenW w) (l : List api_Gauge) (hl : Len l) : ref02_Excluded w l = some ⟨exclS w l, gaugedS w l⟩ := by
  unfold ref02_Excluded exclS
  rw [RGauged_eq w hw l hl, Option.bind_some]
  by_cases h : gaugedS w l = 0
  · obtain ⟨g0, g1, g2⟩ := gaugedS_len h
    have hg := checkS_good hw g1
    have hgk := ((gaugeS_zero l []).1 g2).1
    rw [if_neg (by simp [h]), some_eq hg l (by omega) hgk, Option.bind_some]
    cases hn : tide_none (allLev w tide_every l) with
    | false =>
      rw [Bool.not_false, RExcluded_off]
      simp [h]
    | true =>
      rw [Bool.not_true, RExcluded_loop hg l (by omega) hgk]
      simp [h]
  · rw [if_pos (by simp [h])]
    simp [h]

theorem holds_TideExcludes {w : api_Water} {l : List api_Gauge} (h0 : ok_api_Water w) (h1 : ok_26 l) : law02_TideExcludes w l = some true := by
  have hl : Len l := h1.1
  have hw := LenW.of h0
  unfold law02_TideExcludes
  obtain ⟨b, hb, _⟩ := few_spec w hw.c
  rw [hb, Option.bind_some]
  split
  · rw [sanity_true]; rfl
  · rw [Shown_eq w hw, Option.bind_some, RShown_eq w hw l hl, Option.bind_some, Excluded_eq w hw, Option.bind_some, RExcluded_eq w hw l hl, Option.bind_some, sanity_true, Option.bind_some]
    have hex : ∀ agree, gaugedS w l = 0 → Len (srtI (exL w l agree 0 w.Cycles)) := by
      intro agree hq
      obtain ⟨_, g1, _⟩ := gaugedS_len hq
      unfold Len
      rw [(srtI_spec _).1.length_eq]
      have := exL_len w l agree w.Cycles 0
      have := (checkS_good hw g1).nc
      omega
    have hs1 : Len (shownS w l) := by
      unfold shownS
      split
      · exact hex _ (levelsS_gauged (by assumption))
      · unfold Len; simp
    have hs2 : Len (exclS w l) := by
      unfold exclS
      split
      · rename_i h; exact hex _ h.1
      · unfold Len; simp
    rw [SameInts_same _ hs1, SameInts_same _ hs2]
    simp [gb]
end Go.Mx
