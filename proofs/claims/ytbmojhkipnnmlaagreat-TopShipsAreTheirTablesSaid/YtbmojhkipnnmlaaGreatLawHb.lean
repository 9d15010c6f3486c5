/- Plain laws of ships, second part: curves and ships are checked. Conditions: none. -/
import Derived.Test.YtbmojhkipnnmlaaGreatLawHa
set_option linter.unusedVariables false
set_option linter.unusedSimpArgs false
namespace Go.Mx
def knotB (last : Int) (k : api_Knot) : Bool := decide (last + 1 ≤ k.X) && decide (k.X ≤ 2000) && (decide (-65536 ≤ k.Y) && decide (k.Y ≤ 65536))
def knotsE : Int → List api_Knot → Int
 | _, [] => 0
 | last, k :: r => if knotB last k = true then knotsE k.X r else 1
def cchk (c : api_Curve) : Int := if 40 < (c.Knots.length : Int) then 2 else if (c.Knots.length : Int) = 0 ∨ c.Err < 0 ∨ 4000 < c.Err then 1 else knotsE (-1) c.Knots
theorem curveCheck_eq (c : api_Curve) : curve_Check c = some (cchk c) := by
 unfold curve_Check cchk
 by_cases h1 : 40 < (c.Knots.length : Int)
 ·rw [if_pos (by simpa using h1), if_pos h1]
 ·rw [if_neg (by simpa using h1), if_neg h1]
  by_cases h2 : (c.Knots.length : Int) = 0 ∨ c.Err < 0 ∨ 4000 < c.Err
  ·rw [if_pos, if_pos h2]
   simp only [curve_within, Bool.or_eq_true, decide_eq_true_eq, Bool.not_eq_true', Bool.and_eq_false_iff, decide_eq_false_iff_not]
   omega
  ·rw [if_neg, if_neg h2]
   ·have hl : c.Knots.length ≤ 9223372036854775807 := by omega
    refine lp_list (body := curve_Check_b2 c) c.Knots hl (fun last i => (last, i)) knotsE (fun _ last => -1 ≤ last ∧ last ≤ 2000) rfl ⟨by omega, by omega⟩ (fun a i hi hJ => ?_) (fun a hJ => ?_)
    ·unfold curve_Check_b2
     simp only
     rw [if_pos (by simpa using hi), ix_lt hi, Option.bind_some, w64s' hi hl, w64_id (n := a + 1) (by omega) (by omega)]
     simp only [knotsE]
     by_cases hk : knotB a c.Knots[i] = true
     ·left
      have hk2 := hk
      simp only [knotB, Bool.and_eq_true, decide_eq_true_eq] at hk2
      rw [if_neg (by simp [curve_within]; omega), if_pos hk]
      exact ⟨_, rfl, rfl, by omega, by omega⟩
     ·right
      have hk2 := hk
      simp only [knotB, Bool.and_eq_true, decide_eq_true_eq] at hk2
      rw [if_pos (by simp [curve_within]; omega), if_neg hk]
    ·unfold curve_Check_b2; simp only; rw [if_neg (by simp)]; rfl
   ·simp only [curve_within, Bool.or_eq_true, decide_eq_true_eq, Bool.not_eq_true', Bool.and_eq_false_iff, decide_eq_false_iff_not]
    omega
structure GoodC (c : api_Curve) : Prop where
 n0 : 0 < c.Knots.length
 n1 : c.Knots.length ≤ 40
 e0 : 0 ≤ c.Err
 e1 : c.Err ≤ 4000
 xy : ∀ i (h : i < c.Knots.length), 0 ≤ c.Knots[i].X ∧ c.Knots[i].X ≤ 2000 ∧ -65536 ≤ c.Knots[i].Y ∧ c.Knots[i].Y ≤ 65536
 up : ∀ i (h : i + 1 < c.Knots.length), c.Knots[i].X < c.Knots[i + 1].X
theorem knotsE_zero : ∀ (l : List api_Knot) (last : Int), -1 ≤ last → knotsE last l = 0 → (∀ i (h : i < l.length), last < l[i].X ∧ l[i].X ≤ 2000 ∧ -65536 ≤ l[i].Y ∧ l[i].Y ≤ 65536) ∧ ∀ i (h : i + 1 < l.length), l[i].X < l[i + 1].X
 | [], last, h0, _ => ⟨fun i h => by simp at h, fun i h => by simp at h⟩
 | k :: r, last, h0, h => by
  unfold knotsE at h
  split at h
  ·rename_i hk
   simp only [knotB, Bool.and_eq_true, decide_eq_true_eq] at hk
   obtain ⟨q1, q2⟩ := knotsE_zero r k.X (by omega) h
   refine ⟨fun i hi => ?_, fun i hi => ?_⟩
   ·cases i with
    | zero => simp only [List.getElem_cons_zero]; omega
    | succ i => have := q1 i (by simpa using hi); simp only [List.getElem_cons_succ]; omega
   ·cases i with
    | zero => have := q1 0 (by simpa using hi); simp only [List.getElem_cons_zero, List.getElem_cons_succ]; omega
    | succ i => simpa using q2 i (by simpa using hi)
  ·omega
theorem cchk_good {c : api_Curve} (h : cchk c = 0) : GoodC c := by
 unfold cchk at h
 split at h
 ·omega
 ·split at h
  ·omega
  ·rename_i h1 h2
   obtain ⟨q1, q2⟩ := knotsE_zero _ _ (by omega) h
   exact ⟨by omega, by omega, by omega, by omega, fun i hi => by have := q1 i hi; omega, q2⟩
def risesB : List api_Knot → Bool
 | a :: b :: r => decide (a.Y < b.Y) && risesB (b :: r)
 | _ => true
theorem rising_one (c : api_Curve) (hg : GoodC c) : ∃ n, curve_rising c = some n ∧ (n = 1 ↔ risesB c.Knots = true) := by
 unfold curve_rising
 have hn := hg.n1
 have h0 := hg.n0
 have htl : c.Knots.tail.length = c.Knots.length - 1 := by simp
 have hd0 : c.Knots = c.Knots[0] :: c.Knots.tail := by
  have : ∀ (l : List api_Knot) (h : 0 < l.length), l = l[0] :: l.tail := fun l h => by
   cases l with
   | nil => simp at h
   | cons a r => rfl
  exact this _ h0
 have h := lp_list (body := curve_rising_b1 c) (s0 := (1, true, true)) c.Knots.tail (by omega) (fun (s : api_Knot × Bool × Bool) i => (i + 1, s.2.1, s.2.2)) (fun s l => if (s.2.1 && risesB (s.1 :: l)) = true then (1 : Int) else (if (s.2.2 && risesB ((s.1 :: l).map fun k => ⟨k.X, -k.Y⟩)) = true then -1 else 0)) (fun i s => s.1 = c.Knots.getD i default) (a := (c.Knots[0], true, true)) rfl (by simp [List.getD_eq_getElem?_getD, h0]) (fun a i hi hJ => ?_) (fun a hJ => ?_)
 ·refine ⟨_, h, ?_⟩
  simp only [Bool.true_and]
  rw [← hd0]
  split
  ·rename_i h; simp [h]
  ·rename_i h
   split <;> simp [h]
 ·left
  have hi1 : i + 1 < c.Knots.length := by omega
  have hi0 : i < c.Knots.length := by omega
  have ht : c.Knots.tail[i] = c.Knots[i + 1] := by simp
  have b1 := hg.xy i hi0
  have b2 := hg.xy (i + 1) hi1
  have ea : a.1 = c.Knots[i] := by rw [hJ]; simp [List.getD_eq_getElem?_getD, hi0]
  have er : curve_piece_rise ⟨c.Knots[i], c.Knots[i + 1]⟩ = c.Knots[i + 1].Y - c.Knots[i].Y := by unfold curve_piece_rise; exact w64_id (by simp only; omega) (by simp only; omega)
  refine ⟨(c.Knots[i + 1], (a.2.1 && decide (c.Knots[i].Y < c.Knots[i + 1].Y)), (a.2.2 && decide (c.Knots[i + 1].Y < c.Knots[i].Y))), ?_, ?_, ?_⟩
  ·unfold curve_rising_b1 curve_pieces
   simp only
   rw [if_pos (by rw [decide_eq_true_eq]; omega), show w64 ((i : Int) + 1 - 1) = (i : Int) by rw [w64_id (by omega) (by omega)]; omega, ix_lt hi0, Option.bind_some, show (i : Int) + 1 = ((i + 1 : Nat) : Int) by omega, ix_lt hi1, Option.bind_some, er, w64s' hi1 (by omega)]
   have e1 : decide (0 < c.Knots[i + 1].Y - c.Knots[i].Y) = decide (c.Knots[i].Y < c.Knots[i + 1].Y) := by simp only [decide_eq_decide]; omega
   have e2 : decide (c.Knots[i + 1].Y - c.Knots[i].Y < 0) = decide (c.Knots[i + 1].Y < c.Knots[i].Y) := by simp only [decide_eq_decide]; omega
   rw [e1, e2]
   rfl
  ·rw [ht, ea]
   simp only [risesB, List.map_cons, Bool.and_assoc]
   have e3 : decide (-c.Knots[i].Y < -c.Knots[i + 1].Y) = decide (c.Knots[i + 1].Y < c.Knots[i].Y) := by simp only [decide_eq_decide]; omega
   rw [e3]
  ·simp [List.getD_eq_getElem?_getD, hi1]
 ·unfold curve_rising_b1 curve_pieces
  simp only
  rw [if_neg (by rw [decide_eq_true_eq]; omega)]
  obtain ⟨k, up, down⟩ := a
  simp only [risesB, Bool.and_true, List.map_cons, List.map_nil]
  cases up <;> cases down <;> rfl
theorem Rising_one (c : api_Curve) (hg : cchk c = 0) : ∃ n, curve_Rising c = some (n, 0) ∧ (n = 1 ↔ risesB c.Knots = true) := by
 obtain ⟨n, h1, h2⟩ := rising_one c (cchk_good hg)
 refine ⟨n, ?_, h2⟩
 unfold curve_Rising
 rw [curveCheck_eq, Option.bind_some, if_neg (by simp [hg]), h1]
 rfl
theorem index_tabled (l : List api_Knot) (hl : Len l) : ∃ b, slices_ContainsFunc_api_Knot__hull_tabled_1 l = some b ∧ b = l.any fun k => decide (k.Y < 0) := by
 have h : ∃ r, slices_IndexFunc_api_Knot__hull_tabled_1 l = some r ∧ (if 0 ≤ r then (l.any fun k => decide (k.Y < 0)) = true else (l.any fun k => decide (k.Y < 0)) = false) := by
  unfold slices_IndexFunc_api_Knot__hull_tabled_1
  unfold Len at hl
  refine lp_inv' (fun i s => s = (i : Int) ∧ ∀ j (hj : j < l.length), j < i → ¬ l[j].Y < 0) _ l.length (by omega) ⟨rfl, fun j _ h => by omega⟩ fun i s hi hI => ?_
  obtain ⟨rfl, hI⟩ := hI
  unfold slices_IndexFunc_api_Knot__hull_tabled_1_b2
  by_cases h : i < l.length
  ·rw [if_pos (by simpa using h), ix_lt h]
   simp only [Option.bind_some]
   by_cases hr : l[i].Y < 0
   ·rw [if_pos (by simpa [hull_tabled_1] using hr)]
    refine .inr ⟨_, rfl, ?_⟩
    rw [if_pos (by omega), List.any_eq_true]
    exact ⟨_, List.getElem_mem h, by simpa using hr⟩
   ·rw [if_neg (by simpa [hull_tabled_1] using hr)]
    refine .inl ⟨h, _, rfl, w64s i (by omega), fun j hj hji => ?_⟩
    by_cases hj' : j = i
    ·subst hj'; exact hr
    ·exact hI j hj (by omega)
  ·rw [if_neg (by simpa using h)]
   refine .inr ⟨-1, rfl, ?_⟩
   rw [if_neg (by omega), List.any_eq_false]
   intro x hx
   obtain ⟨j, hj, rfl⟩ := List.getElem_of_mem hx
   simpa using hI j hj (by omega)
 obtain ⟨r, h1, h2⟩ := h
 refine ⟨decide (0 ≤ r), by unfold slices_ContainsFunc_api_Knot__hull_tabled_1; rw [h1]; rfl, ?_⟩
 split at h2
 ·rename_i h; rw [h2]; simpa using h
 ·rename_i h; rw [h2]; simpa using h
def tabB (s : api_Ship) (c : api_Curve) : Bool := decide ((c.Knots.getD 0 default).X * 40 ≤ s.Light) && decide (w64 (s.Light + roomSum s.Holds) ≤ (c.Knots.getD (c.Knots.length - 1) default).X * 40) && !(c.Knots.any fun k => decide (k.Y < 0))
end Go.Mx
