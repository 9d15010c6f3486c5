/- Plain laws of ships, twelfth part: curves at masses, loadings within rooms, rises, fractions in lowest terms. Conditions: none. -/
import Derived.Test.YthfnbjoecocfaaaLawHn
set_option linter.unusedVariables false
set_option linter.unusedSimpArgs false
namespace Go.Mx

/-! Curves at masses. -/
def gK (l : List api_Knot) (i : Nat) : api_Knot := l.getD i default
theorem gK_get {l : List api_Knot} {i : Nat} (h : i < l.length) : gK l i = l[i] := by simp [gK, List.getD_eq_getElem?_getD, h]
theorem ix_gK {l : List api_Knot} {i : Nat} (h : i < l.length) : ix l (i : Int) = some (gK l i) := by rw [ix_lt h, gK_get h]
/-- A curve that has all masses of a ship. -/
structure Cov (s : api_Ship) (c : api_Curve) : Prop where
  n0 : 0 < c.Knots.length
  n1 : c.Knots.length ≤ 40
  xy : ∀ i, i < c.Knots.length → 0 ≤ (gK c.Knots i).X ∧ (gK c.Knots i).X ≤ 2000 ∧ 0 ≤ (gK c.Knots i).Y ∧ (gK c.Knots i).Y ≤ 65536
  up : ∀ i, i + 1 < c.Knots.length → (gK c.Knots i).X < (gK c.Knots (i + 1)).X
  lo : (gK c.Knots 0).X * 40 ≤ s.Light
  hi : s.Light + roomSum s.Holds ≤ (gK c.Knots (c.Knots.length - 1)).X * 40
  err : 0 ≤ c.Err ∧ c.Err ≤ 4000
theorem GoodS.rooms {s : api_Ship} (h : GoodS s) : 0 ≤ roomSum s.Holds ∧ s.Light + roomSum s.Holds ≤ 65536 := ⟨(roomSum_bd s.Holds fun x hx => (h.hold x hx).1).1, h.total⟩
theorem Cov.of {s : api_Ship} {c : api_Curve} (hs : GoodS s) (hg : GoodC c) (ht : tabB s c = true) : Cov s c := by
  unfold tabB at ht
  simp only [Bool.and_eq_true, decide_eq_true_eq, Bool.not_eq_true', List.any_eq_false, decide_eq_true_eq] at ht
  have hr := hs.rooms
  have hl := hs.light
  refine ⟨hg.n0, hg.n1, fun i hi => ?_, fun i hi => ?_, ht.1.1, ?_, ⟨hg.e0, hg.e1⟩⟩
  · rw [gK_get hi]
    have h1 := hg.xy i hi
    have h2 := ht.2 _ (List.getElem_mem hi)
    omega
  · rw [gK_get hi, gK_get (by omega)]; exact hg.up i hi
  · have := ht.1.2
    rw [w64_u (by omega)] at this
    exact this
theorem GoodS.cmeta {s : api_Ship} (h : GoodS s) : Cov s s.Mtac := Cov.of h h.meta_ h.tmeta
/-- What a curve has at a mass. -/
def atP (c : api_Curve) (m : Int) : Int × Int := (hull_table_at ⟨c⟩ m).getD (0, 1)
theorem at_spec {s : api_Ship} {c : api_Curve} (h : Cov s c) {m : Int} (h1 : s.Light ≤ m) (h2 : m ≤ s.Light + roomSum s.Holds) : hull_table_at ⟨c⟩ m = some (atP c m) ∧ 1 ≤ (atP c m).2 ∧ (atP c m).2 ≤ 80000 ∧ 0 ≤ (atP c m).1 ∧ (atP c m).1 ≤ 65536 * (atP c m).2 ∧ ∃ k, k < c.Knots.length ∧ (∀ j, j < k → (gK c.Knots j).X * 40 < m) ∧ m ≤ (gK c.Knots k).X * 40 ∧ (((gK c.Knots k).X * 40 = m ∧ atP c m = ((gK c.Knots k).Y, 1)) ∨ (0 < k ∧ m < (gK c.Knots k).X * 40 ∧ atP c m = ((gK c.Knots (k - 1)).Y * (((gK c.Knots k).X - (gK c.Knots (k - 1)).X) * 40) + ((gK c.Knots k).Y - (gK c.Knots (k - 1)).Y) * (m - (gK c.Knots (k - 1)).X * 40), ((gK c.Knots k).X - (gK c.Knots (k - 1)).X) * 40))) := by
  have hn := h.n1
  have hx : ∃ r, slices_IndexFunc_api_Knot__hull_table_at_1 c.Knots m = some r ∧ ∃ k : Nat, r = (k : Int) ∧ k < c.Knots.length ∧ (∀ j, j < k → (gK c.Knots j).X * 40 < m) ∧ m ≤ (gK c.Knots k).X * 40 := by
    unfold slices_IndexFunc_api_Knot__hull_table_at_1
    refine lp_inv' (fun i s => s = (i : Int) ∧ ∀ j, j < i → (gK c.Knots j).X * 40 < m) _ c.Knots.length (by omega) ⟨rfl, fun j h => by omega⟩ fun i s hi hI => ?_
    obtain ⟨rfl, hI⟩ := hI
    unfold slices_IndexFunc_api_Knot__hull_table_at_1_b2
    by_cases hc : i < c.Knots.length
    · have hb := h.xy i hc
      rw [if_pos (by simpa using hc), ix_gK hc, Option.bind_some]
      have e : hull_table_at_1 (gK c.Knots i) m = decide (m ≤ (gK c.Knots i).X * 40) := by unfold hull_table_at_1; rw [w64_u (by omega)]
      rw [e]
      by_cases hm : m ≤ (gK c.Knots i).X * 40
      · rw [if_pos (by simpa using hm)]; exact .inr ⟨_, rfl, i, rfl, hc, hI, hm⟩
      · rw [if_neg (by simpa using hm)]
        refine .inl ⟨hc, _, rfl, w64s i (by omega), fun j hj => ?_⟩
        by_cases e : j = i
        · subst e; omega
        · exact hI j (by omega)
    · exfalso
      have := hI (c.Knots.length - 1) (by have := h.n0; omega)
      have := h.hi
      omega
  obtain ⟨r, r1, k, rfl, k1, k2, k3⟩ := hx
  have hk := h.xy k k1
  have main : ∃ p, hull_table_at ⟨c⟩ m = some p ∧ 1 ≤ p.2 ∧ p.2 ≤ 80000 ∧ 0 ≤ p.1 ∧ p.1 ≤ 65536 * p.2 ∧ (((gK c.Knots k).X * 40 = m ∧ p = ((gK c.Knots k).Y, 1)) ∨ (0 < k ∧ m < (gK c.Knots k).X * 40 ∧ p = ((gK c.Knots (k - 1)).Y * (((gK c.Knots k).X - (gK c.Knots (k - 1)).X) * 40) + ((gK c.Knots k).Y - (gK c.Knots (k - 1)).Y) * (m - (gK c.Knots (k - 1)).X * 40), ((gK c.Knots k).X - (gK c.Knots (k - 1)).X) * 40))) := by
    unfold hull_table_at
    simp only
    rw [r1, Option.bind_some, ix_gK k1, Option.bind_some, w64_u (a := (gK c.Knots k).X * 40) (by omega)]
    by_cases hm : (gK c.Knots k).X * 40 = m
    · rw [if_pos (by simpa using hm)]
      exact ⟨_, rfl, by simp only; omega, by simp only; omega, hk.2.2.1, by simp only; omega, .inl ⟨hm, rfl⟩⟩
    · have hk0 : 0 < k := by
        rcases Nat.eq_zero_or_pos k with e | e
        · subst e; have := h.lo; omega
        · exact e
      have kp : k - 1 < c.Knots.length := by omega
      have hp := h.xy (k - 1) kp
      have hup := h.up (k - 1) (by omega)
      rw [Nat.sub_add_cancel hk0] at hup
      have hlt := k2 (k - 1) (by omega)
      rw [if_neg (by simpa using hm), w64_u (a := (k : Int) - 1) (by omega), show (k : Int) - 1 = ((k - 1 : Nat) : Int) by omega, ix_gK kp, Option.bind_some]
      generalize gK c.Knots k = q at *
      generalize gK c.Knots (k - 1) = p at *
      rw [w64_u (a := q.X - p.X) (by omega), w64_u (a := (q.X - p.X) * 40) (by omega), w64_u (a := p.X * 40) (by omega), w64_u (a := m - p.X * 40) (by omega), w64_u (a := q.Y - p.Y) (by omega), w64_add, w64_add']
      generalize hD : (q.X - p.X) * 40 = D
      generalize hE : m - p.X * 40 = E
      have f1 : p.Y * D + (q.Y - p.Y) * E = p.Y * (D - E) + q.Y * E := by rw [Int.sub_mul, Int.mul_sub]; omega
      have g1 : 0 ≤ p.Y * (D - E) := Int.mul_nonneg hp.2.2.1 (by omega)
      have g2 : 0 ≤ q.Y * E := Int.mul_nonneg hk.2.2.1 (by omega)
      have g3 : p.Y * (D - E) ≤ 65536 * (D - E) := Int.mul_le_mul_of_nonneg_right hp.2.2.2 (by omega)
      have g4 : q.Y * E ≤ 65536 * E := Int.mul_le_mul_of_nonneg_right hk.2.2.2 (by omega)
      have hb : 0 ≤ p.Y * D + (q.Y - p.Y) * E ∧ p.Y * D + (q.Y - p.Y) * E ≤ 65536 * D := by omega
      rw [w64_u (by omega)]
      exact ⟨_, rfl, by simp only; omega, by simp only; omega, hb.1, hb.2, .inr ⟨hk0, by omega, rfl⟩⟩
  obtain ⟨p, p1, p2, p3, p4, p5, p6⟩ := main
  have e : atP c m = p := by unfold atP; rw [p1]; rfl
  rw [e]
  exact ⟨p1, p2, p3, p4, p5, k, k1, k2, k3, p6⟩
/-! Loadings within rooms. -/
def gH (l : List api_Hold) (i : Nat) : api_Hold := l.getD i default
theorem gH_get {l : List api_Hold} {i : Nat} (h : i < l.length) : gH l i = l[i] := by simp [gH, List.getD_eq_getElem?_getD, h]
structure Rms (s : api_Ship) (x : List Int) : Prop where
  len : x.length = s.Holds.length
  b : ∀ i, i < s.Holds.length → 0 ≤ gI x i ∧ gI x i ≤ (gH s.Holds i).Room
theorem rms_sum : ∀ (l : List api_Hold) (x : List Int), x.length = l.length → (∀ i, i < l.length → 0 ≤ gI x i ∧ gI x i ≤ (gH l i).Room) → 0 ≤ x.sum ∧ x.sum ≤ roomSum l
  | [], [], _, _ => by simp [roomSum]
  | [], _ :: _, h, _ => by simp at h
  | _ :: _, [], h, _ => by simp at h
  | h :: hs, x :: xs, e, hh => by
    have ih := rms_sum hs xs (by simpa using e) fun i hi => hh (i + 1) (by simpa using hi)
    have h0 : 0 ≤ x ∧ x ≤ h.Room := hh 0 (by simp)
    simp only [roomSum, List.map_cons, List.sum_cons] at *
    omega
theorem Rms.sum {s : api_Ship} {x : List Int} (h : Rms s x) : 0 ≤ x.sum ∧ x.sum ≤ roomSum s.Holds := rms_sum _ _ h.len h.b
theorem Rms.mass {s : api_Ship} (hs : GoodS s) {x : List Int} (h : Rms s x) : s.Light ≤ s.Light + x.sum ∧ s.Light + x.sum ≤ s.Light + roomSum s.Holds ∧ s.Light + x.sum ≤ 65536 := by
  have h1 := h.sum
  have h2 := hs.rooms
  omega
theorem Fit.rms {s : api_Ship} {l : api_Load} (hg : GoodL s l) {x : List Int} (h : Fit l x) : Rms s x := ⟨by rw [h.len, hg.len], fun i hi => by
  have h1 := h.ins.g i (by rw [hg.len]; exact hi)
  have h2 := hg.spans i (by rw [hg.len]; exact hi) _ _ (List.getElem?_eq_getElem (by rw [hg.len]; exact hi)) (List.getElem?_eq_getElem hi)
  rw [gS_get (by rw [hg.len]; exact hi)] at h1
  rw [gH_get hi]
  omega⟩
/-- The total of a load is a mass of the ship. -/
theorem GoodL.mass {s : api_Ship} {l : api_Load} (hg : GoodL s l) {t : Int} (h1 : totLo l ≤ t) (h2 : t ≤ totHi l) : s.Light ≤ s.Light + t ∧ s.Light + t ≤ s.Light + roomSum s.Holds ∧ s.Light + t ≤ 65536 := by
  have ht := hg.tot
  have h3 : hiSum l.Holds ≤ roomSum s.Holds := by
    have e2 : (l.Holds.map (·.Hi)).sum = hiSum l.Holds := rfl
    have := rms_sum s.Holds (l.Holds.map (·.Hi)) (by simp [hg.len]) fun i hi => by
      have hil : i < l.Holds.length := by rw [hg.len]; exact hi
      have e : gI (l.Holds.map (·.Hi)) i = (gS l.Holds i).Hi := by rw [gI_get (by simpa using hil), gS_get hil, List.getElem_map]
      rw [e, gS_get hil, gH_get hi]
      have h2 := hg.spans i hil _ _ (List.getElem?_eq_getElem hil) (List.getElem?_eq_getElem hi)
      omega
    omega
  have := hg.ship.rooms
  omega
def hts (s : api_Ship) : List Int := s.Holds.map (·.Height)
theorem heights_eq (s : api_Ship) (hl : s.Holds.length ≤ 8) : hull_heights s = some (hts s) := by
  unfold hull_heights
  refine lp_app (body := hull_heights_b2 s) s.Holds (by omega) (·.Height) (fun acc i => (i, acc)) (fun acc => acc) rfl (fun acc i hi hJ => ?_) ?_
  · unfold hull_heights_b2; simp only; rw [if_pos (by simpa using hi), ix_lt hi, Option.bind_some, app_ok (by rw [hJ]; simp; omega), Option.bind_some, w64s' hi (by omega)]
  · unfold hull_heights_b2; simp only; rw [if_neg (by simp)]; rfl
theorem hts_len (s : api_Ship) : (hts s).length = s.Holds.length := by simp [hts]
theorem hts_wts {s : api_Ship} (hs : GoodS s) : Wts (hts s) := fun i hi => by
  rw [gI_get hi]
  simp only [hts, List.getElem_map]
  have := (hs.hold _ (List.getElem_mem (show i < s.Holds.length by simpa [hts] using hi))).2.2
  omega
theorem dot_rng : ∀ (w : List Int) (x : List Int) (A : Int), w.length = x.length → (∀ i, i < w.length → -A ≤ gI w i ∧ gI w i ≤ A) → (∀ i, i < x.length → 0 ≤ gI x i) → -(A * x.sum) ≤ dot w x ∧ dot w x ≤ A * x.sum
  | [], [], A, _, _, _ => by simp [dot]
  | [], _ :: _, A, h, _, _ => by simp at h
  | _ :: _, [], A, h, _, _ => by simp at h
  | w :: ws, x :: xs, A, h, hw, hx => by
    have ih := dot_rng ws xs A (by simpa using h) (fun i hi => hw (i + 1) (by simpa using hi)) (fun i hi => hx (i + 1) (by simpa using hi))
    have h3 : -A ≤ w ∧ w ≤ A := hw 0 (by simp)
    have h4 : 0 ≤ x := hx 0 (by simp)
    have e1 : w * x ≤ A * x := Int.mul_le_mul_of_nonneg_right h3.2 h4
    have e2 : -A * x ≤ w * x := Int.mul_le_mul_of_nonneg_right h3.1 h4
    rw [Int.neg_mul] at e2
    simp only [dot, List.sum_cons, Int.mul_add]
    omega
/-- The rise of a loading. -/
def riseV (s : api_Ship) (x : List Int) : Int := s.Light * s.Height + dot (hts s) x
theorem lh_bd {s : api_Ship} (hs : GoodS s) : 0 ≤ s.Light * s.Height ∧ s.Light * s.Height ≤ 327680000 := by
  have h1 := hs.light
  have h2 := hs.height
  have := mul_bd (a := s.Light) (b := s.Height) (A := 65536) (B := 5000) (by omega) h1.2 (by omega) h2.2
  exact ⟨Int.mul_nonneg (by omega) h2.1, by omega⟩
theorem riseV_bd {s : api_Ship} (hs : GoodS s) {x : List Int} (h : Rms s x) : -655360000 ≤ riseV s x ∧ riseV s x ≤ 655360000 := by
  have h1 := lh_bd hs
  have h2 := dot_rng (hts s) x 5000 (by rw [hts_len, h.len]) (fun i hi => by
    rw [gI_get hi]
    simp only [hts, List.getElem_map]
    have := (hs.hold _ (List.getElem_mem (show i < s.Holds.length by simpa [hts] using hi))).2.2
    omega) fun i hi => (h.b i (by rw [← h.len]; exact hi)).1
  have h3 := h.mass hs
  have h4 := hs.light
  unfold riseV
  omega
theorem hrise_eq {s : api_Ship} (hs : GoodS s) {x : List Int} (h : Rms s x) : hull_rise s x = some (riseV s x) := by
  have hn := hs.nh
  have hb := riseV_bd hs h
  unfold hull_rise
  rw [heights_eq s hn, Option.bind_some, hvalue_eq _ _ (by rw [hts_len, h.len]) (by unfold Len; rw [hts_len]; omega), Option.bind_some, w64_add, w64_add', show s.Light * s.Height + dot (hts s) x = riseV s x from rfl, w64_u (by omega)]
theorem sumx_eq {s : api_Ship} (hs : GoodS s) {x : List Int} (h : Rms s x) : hull_sum x = some x.sum := by
  have hm := h.mass hs
  have hn := hs.nh
  have hl := h.len
  have hlt := hs.light
  rw [hsum_eq x (by unfold Len; omega), w64_u (by omega)]

/-! Steady. -/
/-- How much greater the rise may be, times the denominator. -/
def spareN (s : api_Ship) (t : Int) : Int := ((atP s.Mtac (s.Light + t)).1 - (s.Mtac.Err + s.Least) * (atP s.Mtac (s.Light + t)).2) * (s.Light + t)
def spareD (s : api_Ship) (t : Int) : Int := (atP s.Mtac (s.Light + t)).2
structure Mass (s : api_Ship) (t : Int) : Prop where
  a : s.Light ≤ s.Light + t
  b : s.Light + t ≤ s.Light + roomSum s.Holds
  c : s.Light + t ≤ 65536
theorem Rms.Mass {s : api_Ship} (hs : GoodS s) {x : List Int} (h : Rms s x) : Mass s x.sum := by have := h.mass hs; exact ⟨this.1, this.2.1, this.2.2⟩
theorem GoodL.Mass {s : api_Ship} {l : api_Load} (hg : GoodL s l) {t : Int} (h1 : totLo l ≤ t) (h2 : t ≤ totHi l) : Mass s t := by have := hg.mass h1 h2; exact ⟨this.1, this.2.1, this.2.2⟩
theorem spare_bd {s : api_Ship} (hs : GoodS s) {t : Int} (h : Mass s t) : (1 ≤ spareD s t ∧ spareD s t ≤ 80000) ∧ -47185920000000 ≤ spareN s t ∧ spareN s t ≤ 343597383680000 ∧ -720000000 ≤ (atP s.Mtac (s.Light + t)).1 - (s.Mtac.Err + s.Least) * (atP s.Mtac (s.Light + t)).2 ∧ (atP s.Mtac (s.Light + t)).1 - (s.Mtac.Err + s.Least) * (atP s.Mtac (s.Light + t)).2 ≤ 5242880000 ∧ 0 ≤ (s.Mtac.Err + s.Least) * (atP s.Mtac (s.Light + t)).2 ∧ (s.Mtac.Err + s.Least) * (atP s.Mtac (s.Light + t)).2 ≤ 720000000 := by
  obtain ⟨_, p2, p3, p4, p5, _⟩ := at_spec hs.cmeta h.a h.b
  have he := hs.cmeta.err
  have hl := hs.least
  have hm := hs.light
  unfold spareN spareD
  generalize (atP s.Mtac (s.Light + t)).1 = N at *
  generalize (atP s.Mtac (s.Light + t)).2 = D at *
  have e1 : 0 ≤ (s.Mtac.Err + s.Least) * D := Int.mul_nonneg (by omega) (by omega)
  have e2 : (s.Mtac.Err + s.Least) * D ≤ 9000 * D := Int.mul_le_mul_of_nonneg_right (by omega) (by omega)
  have ha := h.a
  have hc := h.c
  generalize s.Light + t = d at *
  generalize hX : N - (s.Mtac.Err + s.Least) * D = X
  have b1 : -720000000 ≤ X := by omega
  have b2 : X ≤ 5242880000 := by omega
  refine ⟨⟨p2, p3⟩, ?_, ?_, b1, b2, e1, by omega⟩
  · have f1 : -720000000 * d ≤ X * d := Int.mul_le_mul_of_nonneg_right b1 (by omega)
    omega
  · have f1 : X * d ≤ 5242880000 * d := Int.mul_le_mul_of_nonneg_right b2 (by omega)
    omega
theorem hspare_eq {s : api_Ship} (hs : GoodS s) {t : Int} (h : Mass s t) : hull_spare s t = some (spareN s t, spareD s t) := by
  obtain ⟨b0, b1, b2, b3, b4, b5, b6⟩ := spare_bd hs h
  have he := hs.cmeta.err
  have hl := hs.least
  have hm := hs.light
  have hc := h.c
  have ha := h.a
  unfold hull_spare
  rw [w64_u (a := s.Light + t) (by omega), (at_spec hs.cmeta h.a h.b).1, Option.bind_some, w64_u (a := s.Mtac.Err + s.Least) (by omega), w64_u (a := (s.Mtac.Err + s.Least) * _) (by omega), w64_u (a := (atP s.Mtac (s.Light + t)).1 - _) (by omega)]
  have e : ((atP s.Mtac (s.Light + t)).1 - (s.Mtac.Err + s.Least) * (atP s.Mtac (s.Light + t)).2) * (s.Light + t) = spareN s t := rfl
  rw [e, w64_u (by omega)]; rfl
def steadyB (s : api_Ship) (x : List Int) : Bool := decide (riseV s x * spareD s x.sum ≤ spareN s x.sum)
theorem rd_bd {r D : Int} (h1 : -655360000 ≤ r ∧ r ≤ 655360000) (h2 : 1 ≤ D ∧ D ≤ 80000) : -52428800000000 ≤ r * D ∧ r * D ≤ 52428800000000 := by
  have := mul_bd (a := r) (b := D) (A := 655360000) (B := 80000) h1.1 h1.2 (by omega) h2.2; omega
theorem hsteady_eq {s : api_Ship} (hs : GoodS s) {x : List Int} (h : Rms s x) : hull_steady s x = some (steadyB s x) := by
  have hM := h.Mass hs
  obtain ⟨b0, _⟩ := spare_bd hs hM
  have hr := rd_bd (riseV_bd hs h) b0
  unfold hull_steady
  rw [sumx_eq hs h, Option.bind_some, hspare_eq hs hM, Option.bind_some, hrise_eq hs h, Option.bind_some]
  show some (decide (w64 (riseV s x * spareD s x.sum) ≤ spareN s x.sum)) = _
  rw [w64_u (by omega)]
  rfl

/-! Fractions in lowest terms. -/
theorem low_spec {num den : Int} (hn : -4611686018427387904 ≤ num ∧ num ≤ 4611686018427387904) (hd : 1 ≤ den ∧ den ≤ 4611686018427387904) : ∃ f g, hull_low num den = some f ∧ 1 ≤ g ∧ num = g * f.Num ∧ den = g * f.Den := by
  suffices h : ∃ f, hull_low num den = some f ∧ ∃ g, 1 ≤ g ∧ num = g * f.Num ∧ den = g * f.Den by obtain ⟨f, h1, g, h2⟩ := h; exact ⟨f, g, h1, h2⟩
  unfold hull_low
  rw [greater_max, w64_u (a := 0 - num) (by omega)]
  refine lp_inv' (fun i (st : Int × Int) => 0 ≤ st.1 ∧ 0 ≤ st.2 ∧ st.2 + (i : Int) ≤ den ∧ (0 < st.1 ∨ 0 < st.2) ∧ ∀ d, d ∣ st.1 → d ∣ st.2 → d ∣ num ∧ d ∣ den) _ den.toNat (by omega) ⟨by simp only; omega, by simp only; omega, by simp, .inr (by simp only; omega), fun d h1 h2 => ⟨?_, h2⟩⟩ fun i st hi hI => ?_
  · simp only at h1
    rcases Int.le_total 0 num with h | h
    · rw [show max num (0 - num) = num by omega] at h1; exact h1
    · rw [show max num (0 - num) = -num by omega] at h1; exact Int.dvd_neg.1 h1
  · obtain ⟨a, b⟩ := st
    obtain ⟨q1, q2, q3, q4, q5⟩ := hI
    simp only at q1 q2 q3 q4 q5
    unfold hull_low_b2
    simp only
    by_cases hb : 0 < b
    · left
      have e : rem a b = some (a % b) := by unfold rem; rw [if_neg (by omega), Int.tmod_eq_emod_of_nonneg q1]
      have m0 := Int.emod_nonneg a (show b ≠ 0 by omega)
      have m1 := Int.emod_lt_of_pos a hb
      rw [if_pos (by simpa using hb), e, Option.bind_some]
      refine ⟨by omega, _, rfl, by simp only; omega, by simp only; omega, by simp only; omega, .inl (by simp only; omega), fun d h1 h2 => q5 d ?_ h1⟩
      simp only at h1 h2
      have := Int.emod_add_mul_ediv a b
      rw [← this]
      exact Int.dvd_add h2 (Int.dvd_trans h1 (Int.dvd_mul_right b (a / b)))
    · right
      have hb0 : b = 0 := by omega
      subst hb0
      rw [if_neg (by simp)]
      obtain ⟨⟨k1, hk1⟩, ⟨k2, hk2⟩⟩ := q5 a (Int.dvd_refl a) (Int.dvd_zero a)
      have ha : 1 ≤ a := by omega
      have hq : ∀ n k : Int, n = a * k → -4611686018427387904 ≤ n → n ≤ 4611686018427387904 → quo n a = some k := fun n k e n1 n2 => by
        unfold quo
        rw [if_neg (by omega), e, Int.mul_tdiv_cancel_left _ (by omega)]
        have : -4611686018427387904 ≤ k ∧ k ≤ 4611686018427387904 := by
          rcases Int.le_total 0 k with h | h
          · have : 1 * k ≤ a * k := Int.mul_le_mul_of_nonneg_right ha h
            omega
          · have : a * k ≤ 1 * k := Int.mul_le_mul_of_nonpos_right ha h
            omega
        rw [w64_u this]
      unfold hull_low_j1
      rw [hq num k1 hk1 hn.1 hn.2, Option.bind_some, hq den k2 hk2 (by omega) hd.2, Option.bind_some]
      exact ⟨_, rfl, a, ha, hk1, hk2⟩
end Go.Mx
