/- HullDeepIn: the plain law. Conditions: none. -/
import Derived.Test.YthfnbjoecocfaaaLawHr
set_option linter.unusedVariables false
set_option linter.unusedSimpArgs false
namespace Go.Mx
def aloneL (x : List Int) : api_Load := ⟨x.map fun n => ⟨n, n⟩, ⟨x.sum, x.sum⟩⟩
theorem alone_sums (x : List Int) : loSum (aloneL x).Holds = x.sum ∧ hiSum (aloneL x).Holds = x.sum := by
  have h : ∀ x : List Int, loSum (x.map fun n => ⟨n, n⟩) = x.sum ∧ hiSum (x.map fun n => ⟨n, n⟩) = x.sum := by
    intro x
    induction x with
    | nil => exact ⟨rfl, rfl⟩
    | cons a r ih => simp only [loSum, hiSum, List.map_cons, List.sum_cons] at *; omega
  exact h x
theorem alone_spans {rest : Int} : ∀ (hs : List api_Hold) (x : List Int), x.length = hs.length → (∀ i, i < hs.length → 0 ≤ gI x i ∧ gI x i ≤ (gH hs i).Room) → spansE rest hs (x.map fun n => ⟨n, n⟩) = rest
  | [], [], _, _ => rfl
  | [], _ :: _, h, _ => by simp at h
  | _ :: _, [], h, _ => by simp at h
  | h :: hs, x :: xs, e, hh => by
    have h0 : 0 ≤ x ∧ x ≤ h.Room := hh 0 (by simp)
    simp only [List.map_cons, spansE]
    rw [if_pos (by simp [spanB]; omega)]
    exact alone_spans hs xs (by simpa using e) fun i hi => hh (i + 1) (by simpa using hi)
theorem alone_chk {s : api_Ship} (hc : chk s = 0) {x : List Int} (h : Rms s x) : chkL s (aloneL x) = 0 ∧ LoadW (aloneL x) := by
  have hs := GoodS.of hc
  have hm := h.mass hs
  have hlt := hs.light
  have hsum := h.sum
  obtain ⟨a1, a2⟩ := alone_sums x
  constructor
  · unfold chkL loadE
    rw [if_pos hc, if_pos (by simp [aloneL, h.len])]
    have : spansE (allE (aloneL x)) s.Holds (aloneL x).Holds = allE (aloneL x) := alone_spans _ _ h.len h.b
    rw [this]
    unfold allE
    rw [a1, a2, if_neg (by show ¬ (x.sum < 0 ∨ x.sum < x.sum ∨ 65536 < x.sum); omega), if_neg (by show ¬ 4000 ≤ x.sum - x.sum; omega), if_neg (by show ¬ min x.sum x.sum < max x.sum x.sum; omega)]
  · unfold LoadW aloneL
    simp only
    rw [w64_u (by omega)]; exact ⟨rfl, rfl⟩
theorem alone_fit {x y : List Int} (h : Fit (aloneL x) y) : y = x := by
  have hl : y.length = x.length := by rw [h.len]; simp [aloneL]
  refine List.ext_getElem hl fun i h1 h2 => ?_
  have := h.span i h1 (by simpa [aloneL] using h2)
  simp only [aloneL, List.getElem_map] at this
  omega
theorem alone_self {s : api_Ship} (hc : chk s = 0) {x : List Int} (h : Rms s x) : Fit (aloneL x) x := ⟨by simp [aloneL], fun i h1 h2 => by simp only [aloneL, List.getElem_map]; omega, by simp only [aloneL]; omega⟩
theorem clear_eq {s : api_Ship} {l : api_Load} {n : Int} {x : List Int} (h : hull_Deepest s l = some (n, x, 0)) (hb : -30000000000000000 ≤ n ∧ n ≤ 30000000000000000) (depth keel : Int) : hull_Clear s l depth keel = some (if hull_within depth 0 65536 = true ∧ hull_within keel 0 5000 = true then (decide (n + keel ≤ depth), 0) else (false, 1)) := by
  unfold hull_Clear
  rw [h, Option.bind_some, if_neg (by simp)]
  by_cases hc : hull_within depth 0 65536 = true ∧ hull_within keel 0 5000 = true
  · rw [if_neg (by simp [hc]), if_pos hc]
    have := hc.2
    simp only [hull_within, Bool.and_eq_true, decide_eq_true_eq] at this
    simp only
    rw [w64_u (by omega)]
  · rw [if_pos, if_neg hc]
    simp only [Bool.or_eq_true, Bool.not_eq_true', Bool.eq_false_iff]
    by_cases h1 : hull_within depth 0 65536 = true
    · exact .inr fun h2 => hc ⟨h1, h2⟩
    · exact .inl h1
theorem holds_HullDeepIn {s : api_Ship} {l : api_Load} {by_ : List Int} {depth keel : Int} (h0 : ok_api_Ship s) (h1 : ok_api_Load l) (h2 : ok_50 by_) (h3 : OkI .i64 depth) (h4 : OkI .i64 keel) : law03_HullDeepIn s l by_ depth keel = some true := by
  have hl : Len s.Holds := h0.2.2.2.2.1.1
  have hw := LoadW.ok h1
  unfold law03_HullDeepIn
  rw [hload_eq s l hl hw]
  cases law03_short s l with
  | false => simp [gb, sanity3_true]
  | true =>
    simp only [Bool.not_true, Bool.not_false, gb, if_true, Option.bind_some, Bool.false_or]
    by_cases hk : chkL s l = 0
    · rw [if_neg (by simp [hk])]
      have hg := GoodL.of hk
      have hcs : chk s = 0 := by unfold chkL at hk; split at hk; · assumption
                                 · assumption
      obtain ⟨x, x1, x2⟩ := inside_spec hg by_ h2
      have hr := x2.rms hg
      obtain ⟨ak, aw⟩ := alone_chk hcs hr
      have ag := GoodL.of ak
      have af := alone_self hcs hr
      have hn := hg.lenL
      have hxl := x2.len
      have hxs := x2.sum hg
      have htt := hg.tot
      rw [x1, Option.bind_some, if_neg (by simp)]
      obtain ⟨n, z, d1, d2, d3, d4, _⟩ := Deepest_ok hl hw hk
      obtain ⟨m, y, e1, e2, e3, e4, _⟩ := Deepest_ok hl aw ak
      have hyx := alone_fit e2
      subst hyx
      have hmn : deepV s y ≤ n := d4 y x2
      have hnb := deepV_bd hg.ship (d2.rms hg)
      have hmb := deepV_bd hg.ship hr
      have hj : law03_HullDeepIn_j1 s l depth keel (y, true) y.sum (y.map fun n => ⟨n, n⟩) = some true := by
        unfold law03_HullDeepIn_j1
        have ea : (⟨y.map fun n => ⟨n, n⟩, ⟨y.sum, y.sum⟩⟩ : api_Load) = aloneL y := rfl
        rw [ea, d1, Option.bind_some, e1, Option.bind_some, hAfloat_eq hcs hr, Option.bind_some]
        have hdm : m = max (afloatV s y).Fore.Hi (afloatV s y).Aft.Hi := e3.symm
        rw [sameInts_eq y y (by unfold Len; omega)]
        have c1 : decide (n < m) = false := by rw [decide_eq_false_iff_not]; omega
        have c2 : decide (m = max (afloatV s y).Fore.Hi (afloatV s y).Aft.Hi) = true := by rw [decide_eq_true_eq]; exact hdm
        simp only [c1, c2, Bool.not_false, gb, if_true, Option.bind_some, decide_true, Bool.not_true, Bool.false_or, Bool.or_false, Bool.false_eq_true, if_false]
        rw [clear_eq d1 (by omega), clear_eq e1 (by omega), sanity3_true, steadyIn_eq hcs hr, Steady_eq s l hl hw, if_pos hk, Steady_eq s (aloneL y) hl aw, if_pos ak]
        obtain ⟨r, r1, r2⟩ := shaky_spec hg
        obtain ⟨q, q1, q2⟩ := shaky_spec ag
        rw [r1, q1]
        simp only [Option.map_some, Option.bind_some]
        have hone : (!q.2) = steadyB s y := by
          rcases q2 with ⟨rfl, ha⟩ | ⟨ht, hst, t, t1, t2, g, _⟩
          · rw [AllSteady.fit ag ha af]; rfl
          · have hf := Fit.of_greedy ag g t1 t2
            rw [alone_fit hf] at hst
            rw [ht, hst]; rfl
        have hwhole : r.2 = true ∨ steadyB s y = true := by
          rcases r2 with ⟨rfl, ha⟩ | ⟨ht, _⟩
          · exact .inr (AllSteady.fit hg ha x2)
          · exact .inl ht
        rw [hone]
        have hcl : ∀ b : Bool, ((!decide (n + keel ≤ depth)) || decide (m + keel ≤ depth)) = true := fun _ => by
          simp only [Bool.or_eq_true, Bool.not_eq_true', decide_eq_false_iff_not, decide_eq_true_eq]; omega
        by_cases hc : hull_within depth 0 65536 = true ∧ hull_within keel 0 5000 = true
        · simp only [if_pos hc, hcl true]
          rcases hwhole with h | h <;> simp [h]
        · simp only [if_neg hc]
          rcases hwhole with h | h <;> simp [h]
      refine (lp_list (body := law03_HullDeepIn_b2 s l depth keel (y, true)) (s0 := (0, 0, [])) y (by omega) (fun (a : Int × List api_Span) i => (a.1, i, a.2)) (fun _ _ => true) (fun i a => a.1 = (y.take i).sum ∧ a.2 = (y.take i).map fun n => ⟨n, n⟩) (a := (0, [])) rfl ⟨rfl, rfl⟩ (fun a i hi hJ => ?_) (fun a hJ => ?_)).trans rfl
      · left
        obtain ⟨a1, a2⟩ := a
        obtain ⟨j1, j2⟩ := hJ
        simp only at j1 j2
        subst j1 j2
        have hrb := hr.x65 hg.ship
        have hb : ∀ v ∈ y, 0 ≤ v ∧ v ≤ 65536 := fun v hv => by
          obtain ⟨j, hj, rfl⟩ := List.getElem_of_mem hv
          have := hrb j (by rw [← hr.len]; exact hj)
          rw [gI_get hj] at this; exact this
        have hsb := sum_bd8 (y.take i) i (by rw [List.length_take]; omega) fun v hv => hb v (List.mem_of_mem_take hv)
        have hyi := hb _ (List.getElem_mem hi)
        unfold law03_HullDeepIn_b2
        simp only
        rw [if_pos (by simpa using hi), ix_lt hi, Option.bind_some, app_ok (by simp; omega), Option.bind_some, w64s' hi (by omega), w64_u (by omega)]
        refine ⟨(_, _), rfl, trivial, ?_, ?_⟩
        · show _ = (y.take (i + 1)).sum
          rw [← List.take_append_getElem hi, List.sum_append]; simp
        · show _ = (y.take (i + 1)).map fun n => (⟨n, n⟩ : api_Span)
          rw [← List.take_append_getElem hi, List.map_append]; simp
      · obtain ⟨a1, a2⟩ := a
        obtain ⟨j1, j2⟩ := hJ
        simp only at j1 j2
        rw [List.take_length] at j1 j2
        subst j1 j2
        unfold law03_HullDeepIn_b2
        simp only
        rw [if_neg (by simp), hj]; rfl
    · rw [if_pos (by simp [hk]), sanity3_true]; rfl
end Go.Mx
