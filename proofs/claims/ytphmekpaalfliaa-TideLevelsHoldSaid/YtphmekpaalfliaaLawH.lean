/- Plain laws of water: gauges that clash, suspects. Conditions: none. -/
import Derived.Test.YtphmekpaalfliaaLawG
set_option linter.unusedVariables false
namespace Go.Mx

/-- What is known of a gauge. -/
def kn (w : api_Water) (g : api_Gauge) : tide_known := ⟨g, lev w g⟩
theorem kn_map (w : api_Water) (l : List api_Gauge) : l.map (fun g => (⟨g, lev w g⟩ : tide_known)) = l.map (kn w) := rfl
def fitB (a b : tide_known) : Bool := decide (a.levels.Lo ≤ a.levels.Hi ∧ b.levels.Lo ≤ b.levels.Hi ∧ a.levels.Lo ≤ b.levels.Hi ∧ b.levels.Lo ≤ a.levels.Hi)
theorem fitB_comm (a b : tide_known) : fitB a b = fitB b a := by unfold fitB; congr 1; apply propext; omega
theorem fit_self (a : tide_known) : fitB a a = !tide_none a.levels := by
  unfold fitB tide_none
  by_cases h : a.levels.Lo ≤ a.levels.Hi
  · rw [decide_eq_true (by omega), decide_eq_false (by omega)]; rfl
  · rw [decide_eq_false (by omega), decide_eq_true (by omega)]; rfl
theorem fit_other {a b : tide_known} (ha : tide_none a.levels = false) : (!tide_none b.levels && tide_none (tide_both a.levels b.levels)) = true → fitB a b = false := by
  intro h
  rw [Bool.and_eq_true] at h
  have h0 : ¬ a.levels.Hi < a.levels.Lo := of_decide_eq_false ha
  have h1 : ¬ b.levels.Hi < b.levels.Lo := of_decide_eq_false (by simpa using h.1 : tide_none b.levels = false)
  have h2 : min a.levels.Hi b.levels.Hi < max a.levels.Lo b.levels.Lo := of_decide_eq_true h.2
  unfold fitB
  rw [decide_eq_false_iff_not]; omega
theorem other_fit {a b : tide_known} (ha : tide_none a.levels = false) (hb : tide_none b.levels = false) (h : fitB a b = false) : (!tide_none b.levels && tide_none (tide_both a.levels b.levels)) = true := by
  have h0 : ¬ a.levels.Hi < a.levels.Lo := of_decide_eq_false ha
  have h1 : ¬ b.levels.Hi < b.levels.Lo := of_decide_eq_false hb
  unfold fitB at h
  rw [decide_eq_false_iff_not] at h
  rw [hb, Bool.not_false, Bool.true_and]
  have : min a.levels.Hi b.levels.Hi < max a.levels.Lo b.levels.Lo := by omega
  exact decide_eq_true this

/-- The clashes of a list, in its order. -/
def cl : List tide_known → List Arr_2_int
  | [] => []
  | a :: r => (if tide_none a.levels = true then [⟨a.Gauge.ID, a.Gauge.ID⟩] else (r.filter fun b => !tide_none b.levels && tide_none (tide_both a.levels b.levels)).map fun b => ⟨a.Gauge.ID, b.Gauge.ID⟩) ++ cl r

theorem cl_len : ∀ (l : List tide_known), (cl l).length ≤ l.length * (l.length + 1)
  | [] => by simp [cl]
  | a :: r => by
    have ih := cl_len r
    simp only [cl, List.length_append, List.length_cons]
    have h1 : (if tide_none a.levels = true then [(⟨a.Gauge.ID, a.Gauge.ID⟩ : Arr_2_int)] else (r.filter fun b => !tide_none b.levels && tide_none (tide_both a.levels b.levels)).map fun b => ⟨a.Gauge.ID, b.Gauge.ID⟩).length ≤ r.length + 1 := by
      split
      · simp
      · rw [List.length_map]
        have := List.length_filter_le (fun b : tide_known => !tide_none b.levels && tide_none (tide_both a.levels b.levels)) r
        omega
    have e : (r.length + 1) * (r.length + 1 + 1) = r.length * (r.length + 1) + 2 * (r.length + 1) := by
      rw [Nat.add_mul, Nat.mul_add, Nat.mul_add]; omega
    omega

theorem cl_mem : ∀ {l : List tide_known} {q : Arr_2_int}, q ∈ cl l → ∃ a ∈ l, ∃ b ∈ l, fitB a b = false ∧ q = ⟨a.Gauge.ID, b.Gauge.ID⟩
  | [], q, h => by cases h
  | a :: r, q, h => by
    simp only [cl, List.mem_append] at h
    rcases h with h | h
    · split at h
      · rename_i hn
        simp only [List.mem_singleton] at h
        exact ⟨a, List.mem_cons_self, a, List.mem_cons_self, by rw [fit_self, hn]; rfl, h⟩
      · rename_i hn
        obtain ⟨b, hb, rfl⟩ := List.mem_map.1 h
        obtain ⟨hb1, hb2⟩ := List.mem_filter.1 hb
        exact ⟨a, List.mem_cons_self, b, List.mem_cons_of_mem _ hb1, fit_other (by simpa using hn) hb2, rfl⟩
    · obtain ⟨x, hx, y, hy, h1, h2⟩ := cl_mem h
      exact ⟨x, List.mem_cons_of_mem _ hx, y, List.mem_cons_of_mem _ hy, h1, h2⟩

theorem cl_self : ∀ {l : List tide_known} {a : tide_known}, a ∈ l → tide_none a.levels = true → (⟨a.Gauge.ID, a.Gauge.ID⟩ : Arr_2_int) ∈ cl l
  | c :: r, a, h, hn => by
    simp only [cl, List.mem_append]
    rcases List.mem_cons.1 h with rfl | h
    · left; rw [if_pos hn]; simp
    · right; exact cl_self h hn

theorem two_mem {α : Type} : ∀ {l : List α} {a b : α}, a ∈ l → b ∈ l → a = b ∨ [a, b].Sublist l ∨ [b, a].Sublist l
  | c :: r, a, b, ha, hb => by
    rcases List.mem_cons.1 ha with rfl | ha'
    · rcases List.mem_cons.1 hb with rfl | hb'
      · exact .inl rfl
      · exact .inr (.inl (List.Sublist.cons_cons _ (List.singleton_sublist.2 hb')))
    · rcases List.mem_cons.1 hb with rfl | hb'
      · exact .inr (.inr (List.Sublist.cons_cons _ (List.singleton_sublist.2 ha')))
      · rcases two_mem ha' hb' with h | h | h
        · exact .inl h
        · exact .inr (.inl (h.cons _))
        · exact .inr (.inr (h.cons _))

theorem cl_pair : ∀ {l : List tide_known} {a b : tide_known}, [a, b].Sublist l → tide_none a.levels = false → tide_none b.levels = false → fitB a b = false → (⟨a.Gauge.ID, b.Gauge.ID⟩ : Arr_2_int) ∈ cl l
  | [], a, b, h, _, _, _ => by cases h
  | c :: r, a, b, h, ha, hb, hf => by
    simp only [cl, List.mem_append]
    cases h with
    | cons _ h => exact .inr (cl_pair h ha hb hf)
    | cons_cons _ h =>
      left
      rw [if_neg (by rw [ha]; decide)]
      exact List.mem_map.2 ⟨b, List.mem_filter.2 ⟨List.singleton_sublist.1 h, other_fit ha hb hf⟩, rfl⟩

/-- Two that do not fit stand among the clashes, one way or the other. -/
theorem cl_has {l : List tide_known} {a b : tide_known} (ha : a ∈ l) (hb : b ∈ l) (hf : fitB a b = false) : ∃ q ∈ cl l, (q.a0 = a.Gauge.ID ∨ q.a0 = b.Gauge.ID) ∧ (q.a1 = a.Gauge.ID ∨ q.a1 = b.Gauge.ID) := by
  cases hna : tide_none a.levels with
  | true => exact ⟨_, cl_self ha hna, .inl rfl, .inl rfl⟩
  | false =>
    cases hnb : tide_none b.levels with
    | true => exact ⟨_, cl_self hb hnb, .inr rfl, .inr rfl⟩
    | false =>
      rcases two_mem ha hb with rfl | h | h
      · rw [fit_self, hna] at hf; cases hf
      · exact ⟨_, cl_pair h hna hnb hf, .inl rfl, .inr rfl⟩
      · exact ⟨_, cl_pair h hnb hna (by rw [fitB_comm]; exact hf), .inr rfl, .inl rfl⟩

theorem cl_nil {l : List tide_known} : cl l = [] ↔ ∀ a ∈ l, ∀ b ∈ l, fitB a b = true := by
  constructor
  · intro h a ha b hb
    cases hf : fitB a b with
    | true => rfl
    | false => obtain ⟨q, hq, _⟩ := cl_has ha hb hf; rw [h] at hq; cases hq
  · intro h
    cases hq : cl l with
    | nil => rfl
    | cons q r =>
      obtain ⟨a, ha, b, hb, hf, _⟩ := cl_mem (l := l) (q := q) (by rw [hq]; simp)
      rw [h a ha b hb] at hf; cases hf

theorem cl_hit {l : List tide_known} (i : Int) : (∀ q ∈ cl l, q.a0 = i ∨ q.a1 = i) ↔ ∀ a ∈ l, ∀ b ∈ l, a.Gauge.ID ≠ i → b.Gauge.ID ≠ i → fitB a b = true := by
  constructor
  · intro h a ha b hb h1 h2
    cases hf : fitB a b with
    | true => rfl
    | false =>
      obtain ⟨q, hq, q0, q1⟩ := cl_has ha hb hf
      rcases h q hq with e | e
      · rcases q0 with q0 | q0
        · exact absurd (q0.symm.trans e) h1
        · exact absurd (q0.symm.trans e) h2
      · rcases q1 with q1 | q1
        · exact absurd (q1.symm.trans e) h1
        · exact absurd (q1.symm.trans e) h2
  · intro h q hq
    obtain ⟨a, ha, b, hb, hf, rfl⟩ := cl_mem hq
    by_cases h1 : a.Gauge.ID = i
    · exact .inl h1
    · by_cases h2 : b.Gauge.ID = i
      · exact .inr h2
      · rw [h a ha b hb h1 h2] at hf; cases hf

/-! ### All agree -/

theorem allLev_fit (w : api_Water) (l : List api_Gauge) : (allLev w tide_every l).Lo ≤ (allLev w tide_every l).Hi ↔ ∀ a ∈ l.map (kn w), ∀ b ∈ l.map (kn w), fitB a b = true := by
  rw [allLev_lo, ]
  have hlev : ∀ g, -4000 ≤ (lev w g).Lo ∧ (lev w g).Hi ≤ 4000 := fun g => by unfold lev; simp only; omega
  have hf : ∀ g h, fitB (kn w g) (kn w h) = true ↔ (lev w g).Lo ≤ (lev w g).Hi ∧ (lev w h).Lo ≤ (lev w h).Hi ∧ (lev w g).Lo ≤ (lev w h).Hi ∧ (lev w h).Lo ≤ (lev w g).Hi := fun g h => by unfold fitB kn; rw [decide_eq_true_eq]
  have ev : tide_every = ⟨-4000, 4000⟩ := rfl
  constructor
  · rintro ⟨h1, h2⟩ a ha b hb
    obtain ⟨g, hg, rfl⟩ := List.mem_map.1 ha
    obtain ⟨h, hh, rfl⟩ := List.mem_map.1 hb
    rw [hf]
    have q1 := ((allLev_hi w _ l tide_every).1 (h2 g hg)).2
    have q2 := ((allLev_hi w _ l tide_every).1 (h2 h hh)).2
    exact ⟨q1 g hg, q2 h hh, q1 h hh, q2 g hg⟩
  · intro h
    have key : ∀ g ∈ l, ∀ k ∈ l, (lev w g).Lo ≤ (lev w g).Hi ∧ (lev w g).Lo ≤ (lev w k).Hi := fun g hg k hk => by
      have := (hf g k).1 (h _ (List.mem_map.2 ⟨g, hg, rfl⟩) _ (List.mem_map.2 ⟨k, hk, rfl⟩))
      exact ⟨this.1, this.2.2.1⟩
    refine ⟨(allLev_hi w _ l tide_every).2 ⟨by rw [ev]; simp, fun g hg => ?_⟩, fun g hg => (allLev_hi w _ l tide_every).2 ⟨?_, fun k hk => (key g hg k hk).2⟩⟩
    · have := (key g hg g hg).1; have := hlev g; rw [ev]; simp only; omega
    · have := (key g hg g hg).1; have := hlev g; rw [ev]; simp only; omega

theorem none_iff (s : api_Span) : tide_none s = false ↔ s.Lo ≤ s.Hi := by unfold tide_none; rw [decide_eq_false_iff_not]; omega

/-! ### But for one -/

theorem levels_but (w : api_Water) (l : List api_Gauge) (hl : l.length ≤ 1000) (k : Nat) (hk : k < l.length) : tide_levels (l.map (kn w)) (k : Int) = some (allLev w tide_every (l.eraseIdx k)) := by
  unfold tide_levels
  refine (lp_list (l.map (kn w)) (by simp; omega) (fun (s : api_Span × Nat) i => (i, s.1.Lo, s.1.Hi)) (fun s r => allLev w s.1 (l.eraseIdx k |>.drop (if s.2 ≤ k then s.2 else s.2 - 1))) (fun i s => s.2 = i) (a := (tide_every, 0)) rfl rfl (fun s i hi hJ => ?_) (fun s hJ => ?_)).trans (by simp)
  · obtain ⟨s, j⟩ := s
    simp only at hJ
    subst hJ
    have hi' : j < l.length := by simpa using hi
    unfold tide_levels_b2
    simp only
    rw [if_pos (by simpa using hi'), ix_lt hi, Option.bind_some, List.getElem_map]
    left
    have hlen : (l.eraseIdx k).length = l.length - 1 := List.length_eraseIdx_of_lt hk
    by_cases e : j = k
    · subst e
      rw [if_neg (by simp)]
      unfold tide_levels_j3
      rw [w64s' hi' (by omega)]
      refine ⟨(s, j + 1), rfl, ?_, rfl⟩
      simp only [Nat.le_refl, if_true]
      rw [if_neg (by omega)]
      simp
    · rw [if_pos (by simp; omega)]
      unfold tide_levels_j3
      rw [w64s' hi' (by omega)]
      refine ⟨(tide_both s (lev w l[j]), j + 1), rfl, ?_, rfl⟩
      simp only
      by_cases hjk : j < k
      · rw [if_pos (by omega), if_pos (by omega), List.drop_eq_getElem_cons (by omega)]
        have : (l.eraseIdx k)[j]'(by omega) = l[j] := by rw [List.getElem_eraseIdx_of_lt _ hjk]
        rw [this]; rfl
      · rw [if_neg (by omega), if_neg (by omega), List.drop_eq_getElem_cons (by omega)]
        have : (l.eraseIdx k)[j - 1]'(by omega) = l[j] := by
          rw [List.getElem_eraseIdx_of_ge _ (by omega)]; congr 1; omega
        rw [this, show j - 1 + 1 = j + 1 - 1 by omega]; rfl
  · obtain ⟨s, j⟩ := s
    simp only at hJ
    subst hJ
    unfold tide_levels_b2
    simp only
    rw [if_neg (by simp)]
    unfold tide_levels_j1
    have hlen : (l.eraseIdx k).length = l.length - 1 := List.length_eraseIdx_of_lt hk
    have : (l.eraseIdx k).drop (if (l.map (kn w)).length ≤ k then (l.map (kn w)).length else (l.map (kn w)).length - 1) = [] := by
      refine List.drop_eq_nil_of_le ?_
      rw [List.length_map]
      split <;> omega
    rw [this]; rfl

/-! ### Clashes, suspects -/

theorem lt_swo : Go.Sort.SWO lt_known := ⟨fun x => by unfold lt_known; simp, fun x y z h1 h2 => by unfold lt_known at *; simp at *; omega, fun x y z h1 h2 => by unfold lt_known at *; simp at *; omega⟩

theorem app_list {α : Type} {l : List α} {x : α} (h : l.length ≤ 1000000) : app l [x] = some (l ++ [x]) := by unfold app; rw [if_pos (by simp; omega)]

theorem clashes_eq (w : api_Water) (hw : LenW w) (l : List api_Gauge) : tide_Clashes w l = some (if gaugedS w l = 0 then cl (srtF lt_known (l.map (kn w))) else [], gaugedS w l) := by
  unfold tide_Clashes
  rw [read_eq w hw l, Option.bind_some]
  by_cases hq : gaugedS w l = 0
  · obtain ⟨g0, g1, g2⟩ := gaugedS_len hq
    simp only [hq, decide_true, Bool.not_true, Bool.false_eq_true, if_false, if_true]
    rw [kn_map]
    have hs : srtFO lt_known (l.map (kn w)) = some (srtF lt_known (l.map (kn w))) := by unfold srtFO; rw [if_pos (by simp; omega)]
    rw [hs, Option.bind_some]
    have hlen : (srtF lt_known (l.map (kn w))).length ≤ 40 := by rw [(srtF_spec lt_swo _).1.length_eq]; simpa using g0
    generalize srtF lt_known (l.map (kn w)) = L at hlen
    have bnd : ∀ k : Nat, k ≤ 40 → k * (k + 1) ≤ 1640 := fun k hk => Nat.le_trans (Nat.mul_le_mul hk (Nat.succ_le_succ hk)) (by decide)
    refine (lp_list L (by omega) (fun (acc : List Arr_2_int) i => (i, acc)) (fun acc r => (acc ++ cl r, (0 : Int))) (fun i acc => acc.length ≤ 41 * i) (a := []) rfl (by simp) (fun acc i hi hJ => ?_) (fun acc hJ => ?_)).trans (by simp)
    · left
      unfold tide_Clashes_b2
      simp only
      rw [if_pos (by simpa using hi), ix_lt hi, Option.bind_some]
      cases hn : tide_none L[i].levels with
      | true =>
        rw [if_pos rfl, app_list (by omega), Option.bind_some]
        unfold tide_Clashes_j3
        rw [w64s' hi (by omega)]
        refine ⟨_, rfl, ?_, by simp; omega⟩
        simp only [cl, hn, if_true, List.append_assoc]
      | false =>
        rw [if_neg (by simp), w64s' hi (by omega)]
        have hsub : sub L ((i + 1 : Nat) : Int) (L.length : Int) = some (L.drop (i + 1)) := by
          unfold sub
          rw [if_pos ⟨by omega, by omega, by omega⟩]
          simp
        rw [hsub, Option.bind_some]
        have hdl : (L.drop (i + 1)).length ≤ 40 := by simp; omega
        have inner : Lp (tide_Clashes_b4 (i : Int) L[i] (L.drop (i + 1))) fuel (0, acc) = some (.inl (((i + 1 : Nat) : Int), acc ++ ((L.drop (i + 1)).filter fun b => !tide_none b.levels && tide_none (tide_both L[i].levels b.levels)).map fun b => ⟨L[i].Gauge.ID, b.Gauge.ID⟩)) := by
          refine lp_list (L.drop (i + 1)) (by omega) (fun (a : List Arr_2_int) j => (j, a)) (fun a r => (.inl (((i + 1 : Nat) : Int), a ++ (r.filter fun b => !tide_none b.levels && tide_none (tide_both L[i].levels b.levels)).map fun b => ⟨L[i].Gauge.ID, b.Gauge.ID⟩) : (Int × List Arr_2_int) ⊕ (List Arr_2_int × Int))) (fun j a => a.length ≤ 41 * i + j) (a := acc) rfl (by omega) (fun a j hj hJ2 => ?_) (fun a hJ2 => ?_)
          · left
            unfold tide_Clashes_b4
            simp only
            rw [if_pos (by simpa using hj), ix_lt hj, Option.bind_some]
            by_cases hc : ((!tide_none (L.drop (i + 1))[j].levels) && tide_none (tide_both L[i].levels (L.drop (i + 1))[j].levels)) = true
            · rw [if_pos hc, app_list (by omega), Option.bind_some]
              unfold tide_Clashes_j5
              rw [w64s' hj (by omega)]
              refine ⟨_, rfl, ?_, by simp; omega⟩
              rw [List.filter_cons, if_pos hc]
              simp
            · rw [if_neg hc]
              unfold tide_Clashes_j5
              rw [w64s' hj (by omega)]
              refine ⟨a, rfl, ?_, by omega⟩
              rw [List.filter_cons, if_neg hc]
          · unfold tide_Clashes_b4
            simp only
            rw [if_neg (by simp)]
            unfold tide_Clashes_j3
            rw [w64s' hi (by omega)]
            simp
        rw [inner]
        refine ⟨_, rfl, ?_, ?_⟩
        · simp only [cl, hn, Bool.false_eq_true, if_false, List.append_assoc]
        · rw [List.length_append, List.length_map]
          have := List.length_filter_le (fun b : tide_known => !tide_none b.levels && tide_none (tide_both L[i].levels b.levels)) (L.drop (i + 1))
          omega
    · unfold tide_Clashes_b2
      simp only
      rw [if_neg (by simp)]
      unfold tide_Clashes_j1
      simp [cl]
  · simp only [hq, decide_false, Bool.not_false, if_true, if_false]

/-- Whether all others agree. -/
def okBut (w : api_Water) (l : List api_Gauge) (k : Nat) : Bool := !tide_none (allLev w tide_every (l.eraseIdx k))
def susL (w : api_Water) (l : List api_Gauge) : Nat → List api_Gauge → List Int
  | _, [] => []
  | k, g :: r => (if okBut w l k = true then [g.ID] else []) ++ susL w l (k + 1) r
theorem susL_len (w : api_Water) (l : List api_Gauge) : ∀ (r : List api_Gauge) (k : Nat), (susL w l k r).length ≤ r.length
  | [], _ => by simp [susL]
  | g :: r, k => by
    have := susL_len w l r (k + 1)
    simp only [susL, List.length_append, List.length_cons]
    split <;> simp <;> omega
theorem susL_mem (w : api_Water) (l : List api_Gauge) (x : Int) : ∀ (r : List api_Gauge) (k : Nat), x ∈ susL w l k r ↔ ∃ j g, r[j]? = some g ∧ g.ID = x ∧ okBut w l (k + j) = true
  | [], k => by simp [susL]
  | g :: r, k => by
    simp only [susL, List.mem_append]
    rw [susL_mem w l x r (k + 1)]
    constructor
    · rintro (h | ⟨j, g', h1, h2, h3⟩)
      · split at h
        · rename_i hk
          simp only [List.mem_singleton] at h
          exact ⟨0, g, rfl, h.symm, hk⟩
        · cases h
      · exact ⟨j + 1, g', by simpa using h1, h2, by rw [show k + (j + 1) = k + 1 + j by omega]; exact h3⟩
    · rintro ⟨j, g', h1, h2, h3⟩
      cases j with
      | zero =>
        simp only [List.getElem?_cons_zero, Option.some.injEq] at h1
        subst h1
        left
        rw [if_pos (by simpa using h3)]
        simp [h2]
      | succ j => exact .inr ⟨j, g', by simpa using h1, h2, by rw [show k + 1 + j = k + (j + 1) by omega]; exact h3⟩

def suspS (w : api_Water) (l : List api_Gauge) : List Int := if tide_none (allLev w tide_every l) = true then srtI (susL w l 0 l) else []
theorem suspects_eq (w : api_Water) (hw : LenW w) (l : List api_Gauge) : tide_Suspects w l = some (if gaugedS w l = 0 then suspS w l else [], gaugedS w l) := by
  unfold tide_Suspects
  rw [read_eq w hw l, Option.bind_some]
  by_cases hq : gaugedS w l = 0
  · obtain ⟨g0, g1, g2⟩ := gaugedS_len hq
    simp only [hq, decide_true, Bool.not_true, Bool.not_false, if_true, Bool.false_or, gb]
    rw [levels_eq w l (by omega), Option.bind_some]
    unfold suspS
    cases hn : tide_none (allLev w tide_every l) with
    | false => simp
    | true =>
      simp only [Bool.not_true, Bool.false_eq_true, if_false, if_true]
      rw [kn_map]
      refine (lp_list l (by omega) (fun (acc : List Int) i => (i, acc)) (fun acc r => (srtI (acc ++ susL w l (l.length - r.length) r), (0 : Int))) (fun i acc => acc.length ≤ i) (a := []) rfl (by simp) (fun acc i hi hJ => ?_) (fun acc hJ => ?_)).trans (by simp)
      · left
        unfold tide_Suspects_b2
        simp only
        have e : ix (l.map (kn w)) (i : Int) = some (kn w l[i]) := by rw [ix_lt (by simpa using hi)]; simp
        rw [if_pos (by simpa using hi), e, Option.bind_some, levels_but w l (by omega) i hi, Option.bind_some]
        have ek : l.length - (l[i] :: l.drop (i + 1)).length = i := by simp; omega
        have ek2 : l.length - (l.drop (i + 1)).length = i + 1 := by simp; omega
        have eo : (!tide_none (allLev w tide_every (l.eraseIdx i))) = okBut w l i := rfl
        rw [ek, ek2, eo]
        by_cases ho : okBut w l i = true
        · rw [if_pos ho, app_list (by omega), Option.bind_some]
          unfold tide_Suspects_j3
          rw [w64s' hi (by omega)]
          refine ⟨_, rfl, ?_, by simp; omega⟩
          simp only [susL, ho, if_true, List.append_assoc]; rfl
        · rw [if_neg ho]
          unfold tide_Suspects_j3
          rw [w64s' hi (by omega)]
          refine ⟨acc, rfl, ?_, by omega⟩
          simp only [susL, ho, Bool.false_eq_true, if_false, List.nil_append]
      · unfold tide_Suspects_b2
        simp only
        rw [if_neg (by simp)]
        unfold tide_Suspects_j1
        have : srtO acc = some (srtI acc) := by unfold srtO; rw [if_pos (by omega)]
        rw [this]
        simp [susL]
  · simp only [hq, decide_false, Bool.not_false, Bool.not_true, gb, Bool.false_eq_true, if_false, Option.bind_some, Bool.true_or, if_true]

end Go.Mx
