/- Plain laws of ships, thirteenth part: loaded ships, who is steady, and its proofs. Conditions: none. -/
import Derived.Test.YthfnbjoecocfaaaLawHo
set_option linter.unusedVariables false
set_option linter.unusedSimpArgs false
namespace Go.Mx

/-! Loaded ships. -/
def rmE : List api_Hold → List Int → Bool
  | _, [] => true
  | h :: t, x :: r => decide (0 ≤ x) && decide (x ≤ h.Room) && rmE t r
  | [], _ :: _ => false
def rmB (s : api_Ship) (x : List Int) : Bool := decide (x.length = s.Holds.length) && rmE s.Holds x
theorem rmE_iff : ∀ (l : List api_Hold) (x : List Int), x.length = l.length → (rmE l x = true ↔ ∀ i, i < l.length → 0 ≤ gI x i ∧ gI x i ≤ (gH l i).Room)
  | l, [], h => by cases l <;> simp_all [rmE]
  | [], x :: r, h => by simp at h
  | y :: t, x :: r, h => by
    simp only [rmE, Bool.and_eq_true, decide_eq_true_eq]
    rw [rmE_iff t r (by simpa using h)]
    constructor
    · rintro ⟨h1, h2⟩ i hi
      cases i with
      | zero => exact h1
      | succ i => exact h2 i (by simpa using hi)
    · intro hh
      exact ⟨hh 0 (by simp), fun i hi => hh (i + 1) (by simpa using hi)⟩
theorem rmB_iff (s : api_Ship) (x : List Int) : rmB s x = true ↔ Rms s x := by
  unfold rmB
  rw [Bool.and_eq_true, decide_eq_true_eq]
  constructor
  · rintro ⟨h1, h2⟩; exact ⟨h1, (rmE_iff _ _ h1).1 h2⟩
  · intro h; exact ⟨h.len, (rmE_iff _ _ h.len).2 h.b⟩
def loadedE (s : api_Ship) (ls : List (List Int)) : Int := if chk s = 0 then (if ls.all (rmB s) = true then 0 else 1) else chk s
theorem hloaded_eq (s : api_Ship) (ls : List (List Int)) (hl : Len s.Holds) (hls : ls.length ≤ 8) : hull_loaded s ls = some (loadedE s ls) := by
  unfold hull_loaded loadedE
  rw [hcheck_eq s hl, Option.bind_some]
  by_cases h : chk s = 0
  · rw [if_neg (by simp [h]), if_pos h]
    have hn := (GoodS.of h).nh
    refine lp_list (body := hull_loaded_b2 s ls) ls (by omega) (fun (_ : Unit) i => i) (fun _ r => if r.all (rmB s) = true then 0 else 1) (fun _ _ => True) (a := ()) rfl trivial (fun a i hi _ => ?_) (fun a _ => ?_)
    · unfold hull_loaded_b2
      simp only
      rw [if_pos (by simpa using hi), ix_lt hi, Option.bind_some]
      generalize ls[i] = x
      by_cases hx : x.length = s.Holds.length
      · rw [if_neg (by simp [hx])]
        have hin : Lp (hull_loaded_b4 s (i : Int) x) fuel 0 = some (if rmE s.Holds x = true then .inl ((i + 1 : Nat) : Int) else .inr 1) := by
          refine (lp_list (body := hull_loaded_b4 s (i : Int) x) x (by omega) (fun (_ : List api_Hold) k => k) (fun hs r => if rmE hs r = true then (.inl ((i + 1 : Nat) : Int) : Int ⊕ Int) else .inr 1) (fun k hs => hs = s.Holds.drop k) (a := s.Holds) rfl rfl (fun hs k hk hJ => ?_) (fun hs hJ => ?_)).trans rfl
          · have hk2 : k < s.Holds.length := by omega
            unfold hull_loaded_b4
            simp only
            rw [if_pos (by simpa using hk), ix_lt hk, Option.bind_some, ix_lt hk2, Option.bind_some, w64s' hk (by omega), hJ, List.drop_eq_getElem_cons hk2]
            by_cases hb : hull_within x[k] 0 s.Holds[k].Room = true
            · left
              rw [if_neg (by simp [hb])]
              refine ⟨s.Holds.drop (k + 1), rfl, ?_, rfl⟩
              unfold hull_within at hb
              simp only [rmE, hb, Bool.true_and]
            · right
              rw [if_pos (by simpa using hb)]
              unfold hull_within at hb
              rw [Bool.not_eq_true] at hb
              simp only [rmE, hb, Bool.false_and, Bool.false_eq_true, if_false]
          · unfold hull_loaded_b4 hull_loaded_j3
            simp only
            rw [if_neg (by simp), w64s' hi (by omega)]
            simp [rmE]
        rw [hin]
        by_cases hr : rmE s.Holds x = true
        · left
          rw [if_pos hr]
          refine ⟨(), rfl, ?_, trivial⟩
          simp only [List.all_cons, rmB, hx, hr, decide_true, Bool.true_and]
        · right
          rw [if_neg hr]
          rw [Bool.not_eq_true] at hr
          simp only [List.all_cons, rmB, hx, hr, decide_true, Bool.true_and, Bool.false_and, Bool.false_eq_true, if_false]
      · right
        rw [if_pos (by simp; omega)]
        simp only [List.all_cons, rmB, hx, decide_false, Bool.false_and, Bool.false_eq_true, if_false]
    · unfold hull_loaded_b2; simp only; rw [if_neg (by simp)]; rfl
  · rw [if_pos (by simp [h]), if_neg h]
theorem loaded_one {s : api_Ship} (hc : chk s = 0) {x : List Int} (h : Rms s x) : hull_loaded s [x] = some 0 := by
  rw [hloaded_eq s [x] (GoodS.of hc).lenH (by simp)]
  unfold loadedE
  rw [if_pos hc, if_pos (by simp [(rmB_iff s x).2 h])]

/-! By what Stiff returns. -/
theorem stiff_eq {s : api_Ship} (hc : chk s = 0) {x : List Int} (h : Rms s x) : ∃ f, hull_Stiff s x = some (f, 0) ∧ ∃ g, 1 ≤ g ∧ ((atP s.Mtac (s.Light + x.sum)).1 - s.Mtac.Err * (atP s.Mtac (s.Light + x.sum)).2) * (s.Light + x.sum) - riseV s x * (atP s.Mtac (s.Light + x.sum)).2 = g * f.Num ∧ (atP s.Mtac (s.Light + x.sum)).2 * (s.Light + x.sum) = g * f.Den := by
  have hs := GoodS.of hc
  have hM := h.Mass hs
  obtain ⟨p1, p2, p3, p4, p5, _⟩ := at_spec hs.cmeta hM.a hM.b
  have hr := riseV_bd hs h
  have hrd := rd_bd hr ⟨p2, p3⟩
  have he := hs.cmeta.err
  have hlt := hs.light
  have hca := hM.a
  have hcc := hM.c
  generalize hN : (atP s.Mtac (s.Light + x.sum)).1 = N at *
  generalize hD : (atP s.Mtac (s.Light + x.sum)).2 = D at *
  generalize hd : s.Light + x.sum = d at *
  have e1 : 0 ≤ s.Mtac.Err * D := Int.mul_nonneg (by omega) (by omega)
  have e2 : s.Mtac.Err * D ≤ 4000 * D := Int.mul_le_mul_of_nonneg_right (by omega) (by omega)
  have f1 : -320000000 * d ≤ (N - s.Mtac.Err * D) * d := Int.mul_le_mul_of_nonneg_right (by omega) (by omega)
  have f2 : (N - s.Mtac.Err * D) * d ≤ 5242880000 * d := Int.mul_le_mul_of_nonneg_right (by omega) (by omega)
  have g1 : 1 * d ≤ D * d := Int.mul_le_mul_of_nonneg_right p2 (by omega)
  have g2 : D * d ≤ 80000 * d := Int.mul_le_mul_of_nonneg_right p3 (by omega)
  obtain ⟨f, g, q1, q2, q3, q4⟩ := low_spec (num := (N - s.Mtac.Err * D) * d - riseV s x * D) (den := D * d) (by omega) (by omega)
  refine ⟨f, ?_, g, q2, q3, q4⟩
  unfold hull_Stiff
  rw [loaded_one hc h, Option.bind_some, if_neg (by simp), sumx_eq hs h, Option.bind_some, hd, w64_u (a := d) (by omega), p1, Option.bind_some, hrise_eq hs h, Option.bind_some, hN, hD, w64_u (a := s.Mtac.Err * D) (by omega), w64_u (a := N - s.Mtac.Err * D) (by omega), w64_u (a := (N - s.Mtac.Err * D) * d) (by omega), w64_u (a := riseV s x * D) (by omega), w64_u (a := (N - s.Mtac.Err * D) * d - riseV s x * D) (by omega), w64_u (a := D * d) (by omega), q1]
  rfl
theorem steadyIn_eq {s : api_Ship} (hc : chk s = 0) {x : List Int} (h : Rms s x) : law03_steadyIn s x = some (steadyB s x) := by
  have hs := GoodS.of hc
  have hM := h.Mass hs
  obtain ⟨f, q1, g, q2, q3, q4⟩ := stiff_eq hc h
  obtain ⟨p1, p2, p3, p4, p5, _⟩ := at_spec hs.cmeta hM.a hM.b
  have hle := hs.least
  have hca := hM.a
  have hcc := hM.c
  have hlt := hs.light
  unfold law03_steadyIn
  rw [q1, Option.bind_some]
  unfold steadyB spareN spareD
  generalize (atP s.Mtac (s.Light + x.sum)).1 = N at *
  generalize (atP s.Mtac (s.Light + x.sum)).2 = D at *
  generalize s.Light + x.sum = d at *
  have g1 : 1 * d ≤ D * d := Int.mul_le_mul_of_nonneg_right p2 (by omega)
  have g2 : D * d ≤ 80000 * d := Int.mul_le_mul_of_nonneg_right p3 (by omega)
  have hden : 1 ≤ f.Den ∧ f.Den ≤ 5242880000 := by
    have h1 : 0 < f.Den := by
      rcases Int.lt_or_le 0 f.Den with h | h
      · exact h
      · have : g * f.Den ≤ g * 0 := Int.mul_le_mul_of_nonneg_left h (by omega)
        omega
    have h2 : 1 * f.Den ≤ g * f.Den := Int.mul_le_mul_of_nonneg_right q2 (by omega)
    omega
  have hld := mul_bd (a := s.Least) (b := f.Den) (A := 5000) (B := 5242880000) (by omega) hle.2 (by omega) hden.2
  simp only
  rw [w64_u (by omega)]
  simp only [decide_true, Bool.true_and]
  congr 1
  rw [decide_eq_decide]
  -- both sides times the divisor
  have a1 : (N - (s.Mtac.Err + s.Least) * D) * d = (N - s.Mtac.Err * D) * d - s.Least * (D * d) := by
    rw [Int.add_mul, show N - (s.Mtac.Err * D + s.Least * D) = N - s.Mtac.Err * D - s.Least * D by omega, Int.sub_mul (N - s.Mtac.Err * D), Int.mul_assoc s.Least]
  have a2 : s.Least * (D * d) = g * (s.Least * f.Den) := by rw [q4, ← Int.mul_assoc, Int.mul_comm s.Least g, Int.mul_assoc]
  rw [a1, a2]
  constructor
  · intro hh
    have : g * (s.Least * f.Den) ≤ g * f.Num := Int.mul_le_mul_of_nonneg_left hh (by omega)
    omega
  · intro hh
    have h5 : g * (s.Least * f.Den) ≤ g * f.Num := by omega
    exact Int.le_of_mul_le_mul_left h5 (by omega)

/-! Who is steady. -/
theorem Greedy.best {l : List api_Span} {w x y : List Int} {t : Int} (hx : Greedy l w t x) (hw : w.length = l.length) (hy : InS l y) (ht : y.sum = t) : dot w y ≤ dot w x := by
  by_cases hn : 0 < l.length
  · obtain ⟨k, _, hk, _⟩ := hx.kkt hn
    have h1 := tight (gI w k) w l x hw hx.ins.1 hx.ins.g hk
    have h2 := weak (gI w k) w l y hw hy.1 hy.g
    rw [ht] at h2
    rw [hx.sum] at h1
    omega
  · have e1 : l = [] := List.length_eq_zero_iff.1 (by omega)
    have e2 : w = [] := List.length_eq_zero_iff.1 (by omega)
    rw [e2]; simp [dot]
theorem steady_le {s : api_Ship} (hs : GoodS s) {x y : List Int} (hx : Rms s x) (hy : y.sum = x.sum) (hd : dot (hts s) y ≤ dot (hts s) x) (h : steadyB s x = true) : steadyB s y = true := by
  obtain ⟨b0, _⟩ := spare_bd hs (hx.Mass hs)
  unfold steadyB at *
  rw [decide_eq_true_eq] at *
  rw [hy]
  have : riseV s y * spareD s x.sum ≤ riseV s x * spareD s x.sum := Int.mul_le_mul_of_nonneg_right (by unfold riseV; omega) (by omega)
  omega
/-- In all totals the highest loading is steady. -/
def AllSteady (s : api_Ship) (l : api_Load) : Prop := ∀ t x, totLo l ≤ t → t ≤ totHi l → Greedy l.Holds (hts s) t x → steadyB s x = true
theorem AllSteady.fit {s : api_Ship} {l : api_Load} (hg : GoodL s l) (h : AllSteady s l) {y : List Int} (hy : Fit l y) : steadyB s y = true := by
  have ht := hy.sum hg
  have hwl : (hts s).length = l.Holds.length := by rw [hts_len, hg.len]
  obtain ⟨x, _, g⟩ := best_tot hg hwl ht.1 ht.2
  exact steady_le hg.ship ((Fit.of_greedy hg g ht.1 ht.2).rms hg) (by rw [g.sum]) (g.best hwl hy.ins rfl) (h _ x ht.1 ht.2 g)
theorem shaky_spec {s : api_Ship} {l : api_Load} (hg : GoodL s l) : ∃ r, hull_shaky s l = some r ∧ ((r = ([], false) ∧ AllSteady s l) ∨ (r.2 = true ∧ steadyB s r.1 = false ∧ ∃ t, totLo l ≤ t ∧ t ≤ totHi l ∧ Greedy l.Holds (hts s) t r.1 ∧ ∀ u x, totLo l ≤ u → u < t → Greedy l.Holds (hts s) u x → steadyB s x = true)) := by
  have ht := hg.tot
  have hal := hg.all
  have hf := hg.few
  have hwl : (hts s).length = l.Holds.length := by rw [hts_len, hg.len]
  unfold hull_shaky
  rw [show hull_totals (hull_each l) = hull_totals l from rfl, htotals hg, Option.bind_some]
  refine lp_inv' (fun i t => t = totLo l + (i : Int) ∧ ∀ u x, totLo l ≤ u → u < t → Greedy l.Holds (hts s) u x → steadyB s x = true) _ (totHi l - totLo l + 1).toNat (by omega) ⟨by simp, fun u x h1 h2 => by simp only at h2; omega⟩ fun i t hi hI => ?_
  obtain ⟨e1, hI⟩ := hI
  unfold hull_shaky_b1
  simp only
  by_cases hc : t ≤ totHi l
  · obtain ⟨x, b, g⟩ := best_tot hg hwl (show totLo l ≤ t by omega) hc
    have hr := (Fit.of_greedy hg g (by omega) hc).rms hg
    rw [if_pos (by simpa using hc), heights_eq s hg.ship.nh, Option.bind_some, b, Option.bind_some, hsteady_eq hg.ship hr, Option.bind_some]
    cases hst : steadyB s x with
    | false =>
      right
      rw [if_pos (by rfl)]
      exact ⟨_, rfl, .inr ⟨rfl, hst, t, by omega, hc, g, hI⟩⟩
    | true =>
      left
      rw [if_neg (by simp), w64_u (by omega)]
      refine ⟨by omega, _, rfl, by omega, fun u y h1 h2 gy => ?_⟩
      by_cases e : u = t
      · subst e; rw [gy.uniq g]; exact hst
      · exact hI u y h1 (by omega) gy
  · right
    rw [if_neg (by simpa using hc)]
    exact ⟨_, rfl, .inl ⟨rfl, fun u x h1 h2 g => hI u x h1 (by omega) g⟩⟩
theorem Steady_eq (s : api_Ship) (l : api_Load) (hl : Len s.Holds) (hW : LoadW l) : hull_Steady s l = if chkL s l = 0 then (hull_shaky s l).map fun r => (r.1, !r.2, 0) else some ([], false, chkL s l) := by
  unfold hull_Steady
  rw [hload_eq s l hl hW, Option.bind_some]
  by_cases h : chkL s l = 0
  · rw [if_neg (by simp [h]), if_pos h]
    cases hull_shaky s l <;> rfl
  · rw [if_pos (by simp [h]), if_neg h]

/-! What a price shows. -/
def showsB (s : api_Ship) (l : api_Load) (p t : Int) : Bool := decide ((s.Light * s.Height + totB p (hts s) l.Holds ⟨t, t⟩) * spareD s t ≤ spareN s t)
theorem tot_tots {s : api_Ship} {l : api_Load} (hg : GoodL s l) {t : Int} (h1 : totLo l ≤ t) (h2 : t ≤ totHi l) : TotS ⟨t, t⟩ := by have := hg.tot; exact ⟨by simp only; omega, by simp only; omega, by simp only; omega⟩
theorem bnd_bd {p : Int} (hp : -1048576 ≤ p ∧ p ≤ 1048576) : ∀ (w : List Int) (l : List api_Span), w.length = l.length → Wts w → (∀ i, i < l.length → 0 ≤ (gS l i).Lo ∧ (gS l i).Lo ≤ (gS l i).Hi ∧ (gS l i).Hi ≤ 65536) → -137438953472 * (l.length : Int) ≤ bnd p w l ∧ bnd p w l ≤ 137438953472 * (l.length : Int)
  | [], [], _, _, _ => by simp [bnd]
  | [], _ :: _, h, _, _ => by simp at h
  | _ :: _, [], h, _, _ => by simp at h
  | w :: ws, h :: hs, e, hw, hh => by
    have ih := bnd_bd hp ws hs (by simpa using e) (fun i hi => hw (i + 1) (by simpa using hi)) (fun i hi => hh (i + 1) (by simpa using hi))
    have h3 : -1048576 ≤ w ∧ w ≤ 1048576 := hw 0 (by simp)
    have h4 : 0 ≤ h.Lo ∧ h.Lo ≤ h.Hi ∧ h.Hi ≤ 65536 := hh 0 (by simp)
    have c1 := term_bd (c := w - p) (by omega) (by omega) h4.1 (show h.Lo ≤ 65536 by omega)
    have c2 := term_bd (c := w - p) (by omega) (by omega) (show 0 ≤ h.Hi by omega) h4.2.2
    simp only [bnd, List.length_cons]
    omega
theorem shows_bd {s : api_Ship} {l : api_Load} (hg : GoodL s l) {p t : Int} (hp : -1048576 ≤ p ∧ p ≤ 1048576) (h1 : totLo l ≤ t) (h2 : t ≤ totHi l) : (-1700000000000 ≤ p * t + bnd p (hts s) l.Holds ∧ p * t + bnd p (hts s) l.Holds ≤ 1700000000000) ∧ (-549755813888 ≤ p * t ∧ p * t ≤ 549755813888) ∧ totB p (hts s) l.Holds ⟨t, t⟩ = p * t + bnd p (hts s) l.Holds ∧ -160000000000000000 ≤ (s.Light * s.Height + (p * t + bnd p (hts s) l.Holds)) * spareD s t ∧ (s.Light * s.Height + (p * t + bnd p (hts s) l.Holds)) * spareD s t ≤ 160000000000000000 := by
  have ht := hg.tot
  have hwl : (hts s).length = l.Holds.length := by rw [hts_len, hg.len]
  have b1 := price_bd hp (show 0 ≤ t by omega) (show t ≤ 524288 by omega)
  have b2 := bnd_bd hp (hts s) l.Holds hwl (hts_wts hg.ship) hg.spn.b
  have hn := hg.lenL
  have hlh := lh_bd hg.ship
  obtain ⟨b0, _⟩ := spare_bd hg.ship (hg.Mass h1 h2)
  have hm := mul_bd (a := s.Light * s.Height + (p * t + bnd p (hts s) l.Holds)) (b := spareD s t) (A := 2000000000000) (B := 80000) (by omega) (by omega) (by omega) b0.2
  refine ⟨by omega, b1, ?_, by omega, by omega⟩
  unfold totB; simp only; omega
theorem hshows_eq {s : api_Ship} {l : api_Load} (hg : GoodL s l) {p t : Int} (hp : -1048576 ≤ p ∧ p ≤ 1048576) (h1 : totLo l ≤ t) (h2 : t ≤ totHi l) : hull_shows s l p t = some (showsB s l p t) := by
  have hwl : (hts s).length = l.Holds.length := by rw [hts_len, hg.len]
  have hlh := lh_bd hg.ship
  obtain ⟨a1, a2, a3, a4⟩ := shows_bd hg hp h1 h2
  unfold hull_shows showsB
  rw [hspare_eq hg.ship (hg.Mass h1 h2), Option.bind_some, heights_eq s hg.ship.nh, Option.bind_some, hbound_eq hg.spn hwl (hts_wts hg.ship) hp (tot_tots hg h1 h2), Option.bind_some, a3]
  simp only
  rw [w64_u (a := s.Light * s.Height) (by omega), w64_u (a := s.Light * s.Height + _) (by omega), w64_u (by omega)]
theorem showsB_steady {s : api_Ship} {l : api_Load} (hg : GoodL s l) {p : Int} {x : List Int} (hx : Fit l x) (h : showsB s l p x.sum = true) : steadyB s x = true := by
  have hwl : (hts s).length = l.Holds.length := by rw [hts_len, hg.len]
  have ht := hx.sum hg
  obtain ⟨b0, _⟩ := spare_bd hg.ship (hg.Mass ht.1 ht.2)
  unfold showsB at h
  unfold steadyB
  rw [decide_eq_true_eq] at *
  have hw := weakT (p := p) (t := ⟨x.sum, x.sum⟩) hwl hx.ins (Int.le_refl _) (Int.le_refl _)
  have : riseV s x * spareD s x.sum ≤ (s.Light * s.Height + totB p (hts s) l.Holds ⟨x.sum, x.sum⟩) * spareD s x.sum := Int.mul_le_mul_of_nonneg_right (by unfold riseV; omega) (by omega)
  omega

/-! A proof is checked. -/
def allT (s : api_Ship) (l : api_Load) (p lo : Int) (n : List Nat) : Bool := n.all fun k => showsB s l p (lo + (k : Int))
def partB (s : api_Ship) (l : api_Load) (next : Int) (p : api_Part) : Bool := decide (p.Totals.Lo = next) && (decide (next ≤ p.Totals.Hi) && decide (p.Totals.Hi ≤ totHi l)) && (decide (-1048576 ≤ p.Price) && decide (p.Price ≤ 1048576))
def csR (s : api_Ship) (l : api_Load) : Int → List api_Part → Int
  | next, [] => if next = totHi l + 1 then 0 else 8
  | next, p :: r => if partB s l next p = true then (if allT s l p.Price p.Totals.Lo (List.range (p.Totals.Hi - p.Totals.Lo + 1).toNat) = true then csR s l (p.Totals.Hi + 1) r else 8) else 8
def csE (s : api_Ship) (l : api_Load) (parts : List api_Part) : Int := if chkL s l = 0 then (if 4000 < (parts.length : Int) then 2 else csR s l (totLo l) parts) else chkL s l
theorem hcs_in {s : api_Ship} {l : api_Load} (hg : GoodL s l) (i : Nat) (hi : i < 4294967296) (p : api_Part) {next : Int} (hn : totLo l ≤ next) (hb : partB s l next p = true) : Lp (hull_CheckSteady_b4 s l (i : Int) p) fuel p.Totals.Lo = some (if allT s l p.Price p.Totals.Lo (List.range (p.Totals.Hi - p.Totals.Lo + 1).toNat) = true then .inl (p.Totals.Hi + 1, ((i + 1 : Nat) : Int)) else .inr 8) := by
  have ht := hg.tot
  unfold partB at hb
  simp only [Bool.and_eq_true, decide_eq_true_eq] at hb
  have hlen : (List.range (p.Totals.Hi - p.Totals.Lo + 1).toNat).length = (p.Totals.Hi - p.Totals.Lo + 1).toNat := List.length_range
  refine (lp_list (body := hull_CheckSteady_b4 s l (i : Int) p) (List.range (p.Totals.Hi - p.Totals.Lo + 1).toNat) (by omega) (fun (_ : Unit) k => p.Totals.Lo + k) (fun _ r => if allT s l p.Price p.Totals.Lo r = true then (.inl (p.Totals.Hi + 1, ((i + 1 : Nat) : Int)) : (Int × Int) ⊕ Int) else .inr 8) (fun _ _ => True) (a := ()) (by simp) trivial (fun a k hk _ => ?_) (fun a _ => ?_)).trans rfl
  · have e : (List.range (p.Totals.Hi - p.Totals.Lo + 1).toNat)[k] = k := List.getElem_range _
    have hk2 : k < (p.Totals.Hi - p.Totals.Lo + 1).toNat := by omega
    unfold hull_CheckSteady_b4
    simp only
    rw [if_pos (by rw [decide_eq_true_eq]; omega), hshows_eq hg hb.2 (by omega) (by omega), Option.bind_some, e]
    by_cases hs : showsB s l p.Price (p.Totals.Lo + (k : Int)) = true
    · left
      rw [if_neg (by simp [hs]), w64_u (by omega)]
      exact ⟨(), by rw [show p.Totals.Lo + (k : Int) + 1 = p.Totals.Lo + ((k + 1 : Nat) : Int) by omega], ite_bt hs, trivial⟩
    · right
      rw [if_pos (by simpa using hs)]
      exact congrArg (fun z => some (Sum.inr z)) (ite_bf hs).symm
  · unfold hull_CheckSteady_b4 hull_CheckSteady_j3
    simp only
    rw [if_neg (by rw [decide_eq_true_eq]; omega), w64_u (a := p.Totals.Hi + 1) (by omega), w64s i (by omega)]
    simp [allT]
theorem hcs_eq (s : api_Ship) (l : api_Load) (parts : List api_Part) (hl : Len s.Holds) (hW : LoadW l) : hull_CheckSteady s l parts = some (csE s l parts) := by
  unfold hull_CheckSteady csE
  rw [hload_eq s l hl hW, Option.bind_some]
  by_cases h : chkL s l = 0
  · rw [if_neg (by simp [h]), if_pos h]
    by_cases h4 : 4000 < (parts.length : Int)
    · rw [if_pos (by simpa using h4), if_pos h4]
    · rw [if_neg (by simpa using h4), if_neg h4]
      have hg := GoodL.of h
      have ht := hg.tot
      rw [htotals hg, Option.bind_some]
      refine lp_list (body := hull_CheckSteady_b2 s l parts _) parts (by omega) (fun next i => (next, i)) (csR s l) (fun i next => totLo l ≤ next ∧ next ≤ totHi l + 1) rfl ⟨Int.le_refl _, by omega⟩ (fun a i hi hJ => ?_) (fun a hJ => ?_)
      · unfold hull_CheckSteady_b2
        simp only
        rw [if_pos (by simpa using hi), ix_lt hi, Option.bind_some]
        simp only [csR]
        have ec : ((!decide (parts[i].Totals.Lo = a)) || (!hull_within parts[i].Totals.Hi a (totHi l)) || (!hull_within parts[i].Price (-1048576) 1048576)) = !partB s l a parts[i] := by
          unfold partB hull_within; simp
        rw [ec]
        by_cases hb : partB s l a parts[i] = true
        · rw [if_neg (by simp [hb]), if_pos hb, hcs_in hg i (by omega) _ hJ.1 hb]
          have hb2 := hb
          unfold partB at hb2
          simp only [Bool.and_eq_true, decide_eq_true_eq] at hb2
          split
          · left; exact ⟨_, rfl, rfl, by omega, by omega⟩
          · right; rfl
        · right; rw [if_pos (by simpa using hb), if_neg hb]
      · unfold hull_CheckSteady_b2 hull_CheckSteady_j1
        simp only
        rw [if_neg (by simp), w64_u (a := totHi l + 1) (by omega)]
        simp only [csR]
        by_cases he : a = totHi l + 1 <;> simp [he]
  · rw [if_pos (by simp [h]), if_neg h]
end Go.Mx
