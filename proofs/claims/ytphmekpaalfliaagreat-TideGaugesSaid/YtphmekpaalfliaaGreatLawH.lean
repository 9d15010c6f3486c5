/- Plain laws of water: gauges that clash, suspects. Conditions: none. -/
import Derived.Test.YtphmekpaalfliaaGreatLawG
set_option linter.unusedVariables false
namespace Go.Mx

/-- What is known of a gauge. -/
def kn (w : api_Water) (g : api_Gauge) : tide_known := ⟨g, lev w g⟩
theorem kn_map (w : api_Water) (l : List api_Gauge) : l.map (fun g => (⟨g, lev w g⟩ : tide_known)) = l.map (kn w) := rfl
/-- The clashes of a list, in its order. -/
def cl : List tide_known → List Arr_2_int
  | [] => []
  | a :: r => (if tide_none a.levels = true then [⟨a.Gauge.ID, a.Gauge.ID⟩] else (r.filter fun b => !tide_none b.levels && tide_none (tide_both a.levels b.levels)).map fun b => ⟨a.Gauge.ID, b.Gauge.ID⟩) ++ cl r

theorem cl_len : ∀ (l : List tide_known), (cl l).length ≤ l.length * (l.length + 1)
  | [] => by simp [cl]
  | a :: r => by
    have ih := cl_len r
    simp only [cl, List.length_append, List.length_cons]
    have h1 : (if tide_none a.levels = true then [(⟨a.Gauge.ID, a.Gauge.ID⟩ : Arr_2_int)] else (r.filter fun b => !tide_none b.levels && tide_none (tide_both a.levels b.levels)).map fun b => ⟨a.Gauge.ID, b.Gauge.ID⟩).length ≤ r.length + 1 := by
      split
      · simp
      · rw [List.length_map]
        have := List.length_filter_le (fun b : tide_known => !tide_none b.levels && tide_none (tide_both a.levels b.levels)) r
        omega
    have e : (r.length + 1) * (r.length + 1 + 1) = r.length * (r.length + 1) + 2 * (r.length + 1) := by
      rw [Nat.add_mul, Nat.mul_add, Nat.mul_add]; omega
    omega

/-! ### All agree -/

/-! ### But for one -/

theorem levels_but (w : api_Water) (l : List api_Gauge) (hl : l.length ≤ 1000) (k : Nat) (hk : k < l.length) : tide_levels (l.map (kn w)) (k : Int) = some (allLev w tide_every (l.eraseIdx k)) := by
  unfold tide_levels
  refine (lp_list (l.map (kn w)) (by simp; omega) (fun (s : api_Span × Nat) i => (i, s.1.Lo, s.1.Hi)) (fun s r => allLev w s.1 (l.eraseIdx k |>.drop (if s.2 ≤ k then s.2 else s.2 - 1))) (fun i s => s.2 = i) (a := (tide_every, 0)) rfl rfl (fun s i hi hJ => ?_) (fun s hJ => ?_)).trans (by simp)
  · obtain ⟨s, j⟩ := s
    simp only at hJ
    subst hJ
    have hi' : j < l.length := by simpa using hi
    unfold tide_levels_b2
    simp only
    rw [if_pos (by simpa using hi'), ix_lt hi, Option.bind_some, List.getElem_map]
    left
    have hlen : (l.eraseIdx k).length = l.length - 1 := List.length_eraseIdx_of_lt hk
    by_cases e : j = k
    · subst e
      rw [if_neg (by simp)]
      unfold tide_levels_j3
      rw [w64s' hi' (by omega)]
      refine ⟨(s, j + 1), rfl, ?_, rfl⟩
      simp only [Nat.le_refl, if_true]
      rw [if_neg (by omega)]
      simp
    · rw [if_pos (by simp; omega)]
      unfold tide_levels_j3
      rw [w64s' hi' (by omega)]
      refine ⟨(tide_both s (lev w l[j]), j + 1), rfl, ?_, rfl⟩
      simp only
      by_cases hjk : j < k
      · rw [if_pos (by omega), if_pos (by omega), List.drop_eq_getElem_cons (by omega)]
        have : (l.eraseIdx k)[j]'(by omega) = l[j] := by rw [List.getElem_eraseIdx_of_lt _ hjk]
        rw [this]; rfl
      · rw [if_neg (by omega), if_neg (by omega), List.drop_eq_getElem_cons (by omega)]
        have : (l.eraseIdx k)[j - 1]'(by omega) = l[j] := by
          rw [List.getElem_eraseIdx_of_ge _ (by omega)]; congr 1; omega
        rw [this, show j - 1 + 1 = j + 1 - 1 by omega]; rfl
  · obtain ⟨s, j⟩ := s
    simp only at hJ
    subst hJ
    unfold tide_levels_b2
    simp only
    rw [if_neg (by simp)]
    unfold tide_levels_j1
    have hlen : (l.eraseIdx k).length = l.length - 1 := List.length_eraseIdx_of_lt hk
    have : (l.eraseIdx k).drop (if (l.map (kn w)).length ≤ k then (l.map (kn w)).length else (l.map (kn w)).length - 1) = [] := by
      refine List.drop_eq_nil_of_le ?_
      rw [List.length_map]
      split <;> omega
    rw [this]; rfl

/-! ### Clashes, suspects -/

theorem lt_swo : Go.Sort.SWO lt_known := ⟨fun x => by unfold lt_known; simp, fun x y z h1 h2 => by unfold lt_known at *; simp at *; omega, fun x y z h1 h2 => by unfold lt_known at *; simp at *; omega⟩

theorem app_list {α : Type} {l : List α} {x : α} (h : l.length ≤ 1000000) : app l [x] = some (l ++ [x]) := by unfold app; rw [if_pos (by simp; omega)]

theorem clashes_eq (w : api_Water) (hw : LenW w) (l : List api_Gauge) : tide_Clashes w l = some (if gaugedS w l = 0 then cl (srtF lt_known (l.map (kn w))) else [], gaugedS w l) := by
  unfold tide_Clashes
  rw [read_eq w hw l, Option.bind_some]
  by_cases hq : gaugedS w l = 0
  · obtain ⟨g0, g1, g2⟩ := gaugedS_len hq
    simp only [hq, decide_true, Bool.not_true, Bool.false_eq_true, if_false, if_true]
    rw [kn_map]
    have hs : srtFO lt_known (l.map (kn w)) = some (srtF lt_known (l.map (kn w))) := by unfold srtFO; rw [if_pos (by simp; omega)]
    rw [hs, Option.bind_some]
    have hlen : (srtF lt_known (l.map (kn w))).length ≤ 40 := by rw [(srtF_spec lt_swo _).1.length_eq]; simpa using g0
    generalize srtF lt_known (l.map (kn w)) = L at hlen
    have bnd : ∀ k : Nat, k ≤ 40 → k * (k + 1) ≤ 1640 := fun k hk => Nat.le_trans (Nat.mul_le_mul hk (Nat.succ_le_succ hk)) (by decide)
    refine (lp_list L (by omega) (fun (acc : List Arr_2_int) i => (i, acc)) (fun acc r => (acc ++ cl r, (0 : Int))) (fun i acc => acc.length ≤ 41 * i) (a := []) rfl (by simp) (fun acc i hi hJ => ?_) (fun acc hJ => ?_)).trans (by simp)
    · left
      unfold tide_Clashes_b2
      simp only
      rw [if_pos (by simpa using hi), ix_lt hi, Option.bind_some]
      cases hn : tide_none L[i].levels with
      | true =>
        rw [if_pos rfl, app_list (by omega), Option.bind_some]
        unfold tide_Clashes_j3
        rw [w64s' hi (by omega)]
        refine ⟨_, rfl, ?_, by simp; omega⟩
        simp only [cl, hn, if_true, List.append_assoc]
      | false =>
        rw [if_neg (by simp), w64s' hi (by omega)]
        have hsub : sub L ((i + 1 : Nat) : Int) (L.length : Int) = some (L.drop (i + 1)) := by
          unfold sub
          rw [if_pos ⟨by omega, by omega, by omega⟩]
          simp
        rw [hsub, Option.bind_some]
        have hdl : (L.drop (i + 1)).length ≤ 40 := by simp; omega
        have inner : Lp (tide_Clashes_b4 (i : Int) L[i] (L.drop (i + 1))) fuel (0, acc) = some (.inl (((i + 1 : Nat) : Int), acc ++ ((L.drop (i + 1)).filter fun b => !tide_none b.levels && tide_none (tide_both L[i].levels b.levels)).map fun b => ⟨L[i].Gauge.ID, b.Gauge.ID⟩)) := by
          refine lp_list (L.drop (i + 1)) (by omega) (fun (a : List Arr_2_int) j => (j, a)) (fun a r => (.inl (((i + 1 : Nat) : Int), a ++ (r.filter fun b => !tide_none b.levels && tide_none (tide_both L[i].levels b.levels)).map fun b => ⟨L[i].Gauge.ID, b.Gauge.ID⟩) : (Int × List Arr_2_int) ⊕ (List Arr_2_int × Int))) (fun j a => a.length ≤ 41 * i + j) (a := acc) rfl (by omega) (fun a j hj hJ2 => ?_) (fun a hJ2 => ?_)
          · left
            unfold tide_Clashes_b4
            simp only
            rw [if_pos (by simpa using hj), ix_lt hj, Option.bind_some]
            by_cases hc : ((!tide_none (L.drop (i + 1))[j].levels) && tide_none (tide_both L[i].levels (L.drop (i + 1))[j].levels)) = true
            · rw [if_pos hc, app_list (by omega), Option.bind_some]
              unfold tide_Clashes_j5
              rw [w64s' hj (by omega)]
              refine ⟨_, rfl, ?_, by simp; omega⟩
              rw [List.filter_cons, if_pos hc]
              simp
            · rw [if_neg hc]
              unfold tide_Clashes_j5
              rw [w64s' hj (by omega)]
              refine ⟨a, rfl, ?_, by omega⟩
              rw [List.filter_cons, if_neg hc]
          · unfold tide_Clashes_b4
            simp only
            rw [if_neg (by simp)]
            unfold tide_Clashes_j3
            rw [w64s' hi (by omega)]
            simp
        rw [inner]
        refine ⟨_, rfl, ?_, ?_⟩
        · simp only [cl, hn, Bool.false_eq_true, if_false, List.append_assoc]
        · rw [List.length_append, List.length_map]
          have := List.length_filter_le (fun b : tide_known => !tide_none b.levels && tide_none (tide_both L[i].levels b.levels)) (L.drop (i + 1))
          omega
    · unfold tide_Clashes_b2
      simp only
      rw [if_neg (by simp)]
      unfold tide_Clashes_j1
      simp [cl]
  · simp only [hq, decide_false, Bool.not_false, if_true, if_false]

/-- Whether all others agree. -/
def okBut (w : api_Water) (l : List api_Gauge) (k : Nat) : Bool := !tide_none (allLev w tide_every (l.eraseIdx k))
def susL (w : api_Water) (l : List api_Gauge) : Nat → List api_Gauge → List Int
  | _, [] => []
  | k, g :: r => (if okBut w l k = true then [g.ID] else []) ++ susL w l (k + 1) r
theorem susL_len (w : api_Water) (l : List api_Gauge) : ∀ (r : List api_Gauge) (k : Nat), (susL w l k r).length ≤ r.length
  | [], _ => by simp [susL]
  | g :: r, k => by
    have := susL_len w l r (k + 1)
    simp only [susL, List.length_append, List.length_cons]
    split <;> simp <;> omega
def suspS (w : api_Water) (l : List api_Gauge) : List Int := if tide_none (allLev w tide_every l) = true then srtI (susL w l 0 l) else []
theorem suspects_eq (w : api_Water) (hw : LenW w) (l : List api_Gauge) : tide_Suspects w l = some (if gaugedS w l = 0 then suspS w l else [], gaugedS w l) := by
  unfold tide_Suspects
  rw [read_eq w hw l, Option.bind_some]
  by_cases hq : gaugedS w l = 0
  · obtain ⟨g0, g1, g2⟩ := gaugedS_len hq
    simp only [hq, decide_true, Bool.not_true, Bool.not_false, if_true, Bool.false_or, gb]
    rw [levels_eq w l (by omega), Option.bind_some]
    unfold suspS
    cases hn : tide_none (allLev w tide_every l) with
    | false => simp
    | true =>
      simp only [Bool.not_true, Bool.false_eq_true, if_false, if_true]
      rw [kn_map]
      refine (lp_list l (by omega) (fun (acc : List Int) i => (i, acc)) (fun acc r => (srtI (acc ++ susL w l (l.length - r.length) r), (0 : Int))) (fun i acc => acc.length ≤ i) (a := []) rfl (by simp) (fun acc i hi hJ => ?_) (fun acc hJ => ?_)).trans (by simp)
      · left
        unfold tide_Suspects_b2
        simp only
        have e : ix (l.map (kn w)) (i : Int) = some (kn w l[i]) := by rw [ix_lt (by simpa using hi)]; simp
        rw [if_pos (by simpa using hi), e, Option.bind_some, levels_but w l (by omega) i hi, Option.bind_some]
        have ek : l.length - (l[i] :: l.drop (i + 1)).length = i := by simp; omega
        have ek2 : l.length - (l.drop (i + 1)).length = i + 1 := by simp; omega
        have eo : (!tide_none (allLev w tide_every (l.eraseIdx i))) = okBut w l i := rfl
        rw [ek, ek2, eo]
        by_cases ho : okBut w l i = true
        · rw [if_pos ho, app_list (by omega), Option.bind_some]
          unfold tide_Suspects_j3
          rw [w64s' hi (by omega)]
          refine ⟨_, rfl, ?_, by simp; omega⟩
          simp only [susL, ho, if_true, List.append_assoc]; rfl
        · rw [if_neg ho]
          unfold tide_Suspects_j3
          rw [w64s' hi (by omega)]
          refine ⟨acc, rfl, ?_, by omega⟩
          simp only [susL, ho, Bool.false_eq_true, if_false, List.nil_append]
      · unfold tide_Suspects_b2
        simp only
        rw [if_neg (by simp)]
        unfold tide_Suspects_j1
        have : srtO acc = some (srtI acc) := by unfold srtO; rw [if_pos (by omega)]
        rw [this]
        simp [susL]
  · simp only [hq, decide_false, Bool.not_false, Bool.not_true, gb, Bool.false_eq_true, if_false, Option.bind_some, Bool.true_or, if_true]

end Go.Mx
