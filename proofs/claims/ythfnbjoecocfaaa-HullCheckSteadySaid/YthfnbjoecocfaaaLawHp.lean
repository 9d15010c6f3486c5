/- Plain laws of ships, thirteenth part: loaded ships, who is steady, and its proofs. Conditions: none. -/
import Derived.Test.YthfnbjoecocfaaaLawHo
set_option linter.unusedVariables false
set_option linter.unusedSimpArgs false
namespace Go.Mx

/-! Loaded ships. -/
/-! By what Stiff returns. -/
/-! Who is steady. -/
theorem Greedy.best {l : List api_Span} {w x y : List Int} {t : Int} (hx : Greedy l w t x) (hw : w.length = l.length) (hy : InS l y) (ht : y.sum = t) : dot w y ≤ dot w x := by
  by_cases hn : 0 < l.length
  · obtain ⟨k, _, hk, _⟩ := hx.kkt hn
    have h1 := tight (gI w k) w l x hw hx.ins.1 hx.ins.g hk
    have h2 := weak (gI w k) w l y hw hy.1 hy.g
    rw [ht] at h2
    rw [hx.sum] at h1
    omega
  · have e1 : l = [] := List.length_eq_zero_iff.1 (by omega)
    have e2 : w = [] := List.length_eq_zero_iff.1 (by omega)
    rw [e2]; simp [dot]
theorem steady_le {s : api_Ship} (hs : GoodS s) {x y : List Int} (hx : Rms s x) (hy : y.sum = x.sum) (hd : dot (hts s) y ≤ dot (hts s) x) (h : steadyB s x = true) : steadyB s y = true := by
  obtain ⟨b0, _⟩ := spare_bd hs (hx.Mass hs)
  unfold steadyB at *
  rw [decide_eq_true_eq] at *
  rw [hy]
  have : riseV s y * spareD s x.sum ≤ riseV s x * spareD s x.sum := Int.mul_le_mul_of_nonneg_right (by unfold riseV; omega) (by omega)
  omega
/-- In all totals the highest loading is steady. -/
def AllSteady (s : api_Ship) (l : api_Load) : Prop := ∀ t x, totLo l ≤ t → t ≤ totHi l → Greedy l.Holds (hts s) t x → steadyB s x = true
theorem AllSteady.fit {s : api_Ship} {l : api_Load} (hg : GoodL s l) (h : AllSteady s l) {y : List Int} (hy : Fit l y) : steadyB s y = true := by
  have ht := hy.sum hg
  have hwl : (hts s).length = l.Holds.length := by rw [hts_len, hg.len]
  obtain ⟨x, _, g⟩ := best_tot hg hwl ht.1 ht.2
  exact steady_le hg.ship ((Fit.of_greedy hg g ht.1 ht.2).rms hg) (by rw [g.sum]) (g.best hwl hy.ins rfl) (h _ x ht.1 ht.2 g)
theorem shaky_spec {s : api_Ship} {l : api_Load} (hg : GoodL s l) : ∃ r, hull_shaky s l = some r ∧ ((r = ([], false) ∧ AllSteady s l) ∨ (r.2 = true ∧ steadyB s r.1 = false ∧ ∃ t, totLo l ≤ t ∧ t ≤ totHi l ∧ Greedy l.Holds (hts s) t r.1 ∧ ∀ u x, totLo l ≤ u → u < t → Greedy l.Holds (hts s) u x → steadyB s x = true)) := by
  have ht := hg.tot
  have hal := hg.all
  have hf := hg.few
  have hwl : (hts s).length = l.Holds.length := by rw [hts_len, hg.len]
  unfold hull_shaky
  rw [show hull_totals (hull_each l) = hull_totals l from rfl, htotals hg, Option.bind_some]
  refine lp_inv' (fun i t => t = totLo l + (i : Int) ∧ ∀ u x, totLo l ≤ u → u < t → Greedy l.Holds (hts s) u x → steadyB s x = true) _ (totHi l - totLo l + 1).toNat (by omega) ⟨by simp, fun u x h1 h2 => by simp only at h2; omega⟩ fun i t hi hI => ?_
  obtain ⟨e1, hI⟩ := hI
  unfold hull_shaky_b1
  simp only
  by_cases hc : t ≤ totHi l
  · obtain ⟨x, b, g⟩ := best_tot hg hwl (show totLo l ≤ t by omega) hc
    have hr := (Fit.of_greedy hg g (by omega) hc).rms hg
    rw [if_pos (by simpa using hc), heights_eq s hg.ship.nh, Option.bind_some, b, Option.bind_some, hsteady_eq hg.ship hr, Option.bind_some]
    cases hst : steadyB s x with
    | false =>
      right
      rw [if_pos (by rfl)]
      exact ⟨_, rfl, .inr ⟨rfl, hst, t, by omega, hc, g, hI⟩⟩
    | true =>
      left
      rw [if_neg (by simp), w64_u (by omega)]
      refine ⟨by omega, _, rfl, by omega, fun u y h1 h2 gy => ?_⟩
      by_cases e : u = t
      · subst e; rw [gy.uniq g]; exact hst
      · exact hI u y h1 (by omega) gy
  · right
    rw [if_neg (by simpa using hc)]
    exact ⟨_, rfl, .inl ⟨rfl, fun u x h1 h2 g => hI u x h1 (by omega) g⟩⟩
/-! What a price shows. -/
def showsB (s : api_Ship) (l : api_Load) (p t : Int) : Bool := decide ((s.Light * s.Height + totB p (hts s) l.Holds ⟨t, t⟩) * spareD s t ≤ spareN s t)
theorem tot_tots {s : api_Ship} {l : api_Load} (hg : GoodL s l) {t : Int} (h1 : totLo l ≤ t) (h2 : t ≤ totHi l) : TotS ⟨t, t⟩ := by have := hg.tot; exact ⟨by simp only; omega, by simp only; omega, by simp only; omega⟩
theorem bnd_bd {p : Int} (hp : -1048576 ≤ p ∧ p ≤ 1048576) : ∀ (w : List Int) (l : List api_Span), w.length = l.length → Wts w → (∀ i, i < l.length → 0 ≤ (gS l i).Lo ∧ (gS l i).Lo ≤ (gS l i).Hi ∧ (gS l i).Hi ≤ 65536) → -137438953472 * (l.length : Int) ≤ bnd p w l ∧ bnd p w l ≤ 137438953472 * (l.length : Int)
  | [], [], _, _, _ => by simp [bnd]
  | [], _ :: _, h, _, _ => by simp at h
  | _ :: _, [], h, _, _ => by simp at h
  | w :: ws, h :: hs, e, hw, hh => by
    have ih := bnd_bd hp ws hs (by simpa using e) (fun i hi => hw (i + 1) (by simpa using hi)) (fun i hi => hh (i + 1) (by simpa using hi))
    have h3 : -1048576 ≤ w ∧ w ≤ 1048576 := hw 0 (by simp)
    have h4 : 0 ≤ h.Lo ∧ h.Lo ≤ h.Hi ∧ h.Hi ≤ 65536 := hh 0 (by simp)
    have c1 := term_bd (c := w - p) (by omega) (by omega) h4.1 (show h.Lo ≤ 65536 by omega)
    have c2 := term_bd (c := w - p) (by omega) (by omega) (show 0 ≤ h.Hi by omega) h4.2.2
    simp only [bnd, List.length_cons]
    omega
theorem shows_bd {s : api_Ship} {l : api_Load} (hg : GoodL s l) {p t : Int} (hp : -1048576 ≤ p ∧ p ≤ 1048576) (h1 : totLo l ≤ t) (h2 : t ≤ totHi l) : (-1700000000000 ≤ p * t + bnd p (hts s) l.Holds ∧ p * t + bnd p (hts s) l.Holds ≤ 1700000000000) ∧ (-549755813888 ≤ p * t ∧ p * t ≤ 549755813888) ∧ totB p (hts s) l.Holds ⟨t, t⟩ = p * t + bnd p (hts s) l.Holds ∧ -160000000000000000 ≤ (s.Light * s.Height + (p * t + bnd p (hts s) l.Holds)) * spareD s t ∧ (s.Light * s.Height + (p * t + bnd p (hts s) l.Holds)) * spareD s t ≤ 160000000000000000 := by
  have ht := hg.tot
  have hwl : (hts s).length = l.Holds.length := by rw [hts_len, hg.len]
  have b1 := price_bd hp (show 0 ≤ t by omega) (show t ≤ 524288 by omega)
  have b2 := bnd_bd hp (hts s) l.Holds hwl (hts_wts hg.ship) hg.spn.b
  have hn := hg.lenL
  have hlh := lh_bd hg.ship
  obtain ⟨b0, _⟩ := spare_bd hg.ship (hg.Mass h1 h2)
  have hm := mul_bd (a := s.Light * s.Height + (p * t + bnd p (hts s) l.Holds)) (b := spareD s t) (A := 2000000000000) (B := 80000) (by omega) (by omega) (by omega) b0.2
  refine ⟨by omega, b1, ?_, by omega, by omega⟩
  unfold totB; simp only; omega
theorem hshows_eq {s : api_Ship} {l : api_Load} (hg : GoodL s l) {p t : Int} (hp : -1048576 ≤ p ∧ p ≤ 1048576) (h1 : totLo l ≤ t) (h2 : t ≤ totHi l) : hull_shows s l p t = some (showsB s l p t) := by
  have hwl : (hts s).length = l.Holds.length := by rw [hts_len, hg.len]
  have hlh := lh_bd hg.ship
  obtain ⟨a1, a2, a3, a4⟩ := shows_bd hg hp h1 h2
  unfold hull_shows showsB
  rw [hspare_eq hg.ship (hg.Mass h1 h2), Option.bind_some, heights_eq s hg.ship.nh, Option.bind_some, hbound_eq hg.spn hwl (hts_wts hg.ship) hp (tot_tots hg h1 h2), Option.bind_some, a3]
  simp only
  rw [w64_u (a := s.Light * s.Height) (by omega), w64_u (a := s.Light * s.Height + _) (by omega), w64_u (by omega)]
theorem rheights_eq (s : api_Ship) (hl : s.Holds.length ≤ 8) : ref03_heights s = some (hts s) := by
  unfold ref03_heights
  refine lp_app (body := ref03_heights_b2 s) s.Holds (by omega) (·.Height) (fun acc i => (i, acc)) (fun acc => acc) rfl (fun acc i hi hJ => ?_) ?_
  · unfold ref03_heights_b2; simp only; rw [if_pos (by simpa using hi), ix_lt hi, Option.bind_some, app_ok (by rw [hJ]; simp; omega), Option.bind_some, w64s' hi (by omega)]
  · unfold ref03_heights_b2; simp only; rw [if_neg (by simp)]; rfl
theorem rshows_eq {s : api_Ship} {l : api_Load} (hg : GoodL s l) {p t : Int} (hp : -1048576 ≤ p ∧ p ≤ 1048576) (h1 : totLo l ≤ t) (h2 : t ≤ totHi l) : ref03_shows s l t p = some (showsB s l p t) := by
  have hwl : (hts s).length = l.Holds.length := by rw [hts_len, hg.len]
  have hlh := lh_bd hg.ship
  have hM := hg.Mass h1 h2
  obtain ⟨a1, a2, a3, a4⟩ := shows_bd hg hp h1 h2
  obtain ⟨b0, b1, b2, b3, b4, b5, b6⟩ := spare_bd hg.ship hM
  have he := hg.ship.cmeta.err
  have hle := hg.ship.least
  have hlt := hg.ship.light
  have hn := hg.lenL
  have hca := hM.a
  have hcc := hM.c
  unfold ref03_shows showsB
  rw [w64_u (a := s.Light + t) (by omega), rat_spec hg.ship.cmeta hM.a hM.b, Option.bind_some, rheights_eq s hg.ship.nh, Option.bind_some, w64_u (a := s.Light * s.Height) (by omega), w64_u (a := p * t) (by omega), w64_u (a := s.Light * s.Height + p * t) (by omega), a3]
  have hw := hts_wts hg.ship
  refine (lp_list (body := ref03_shows_b2 s l t p _ (hts s)) l.Holds (by omega) (fun (a : Int × List Int) i => (a.1, i)) (fun a hs => decide ((a.1 + bnd p a.2 hs) * spareD s t ≤ spareN s t)) (fun i a => a.2 = (hts s).drop i ∧ -1000000000000 - 137438953472 * (i : Int) ≤ a.1 ∧ a.1 ≤ 1000000000000 + 137438953472 * (i : Int) ∧ a.1 + bnd p a.2 (l.Holds.drop i) = s.Light * s.Height + (p * t + bnd p (hts s) l.Holds)) (a := (_, hts s)) rfl ⟨rfl, by simp only; omega, by simp only; omega, by simp only [List.drop_zero]; omega⟩ (fun a i hi hJ => ?_) (fun a hJ => ?_)).trans ?_
  · left
    have hiw : i < (hts s).length := by omega
    have hwi := hw i hiw
    rw [gI_get hiw] at hwi
    have hsp := hg.spn.b i hi
    rw [gS_get hi] at hsp
    have c1 := term_bd (c := (hts s)[i] - p) (by omega) (by omega) hsp.1 (show l.Holds[i].Lo ≤ 65536 by omega)
    have c2 := term_bd (c := (hts s)[i] - p) (by omega) (by omega) (show 0 ≤ l.Holds[i].Hi by omega) hsp.2.2
    obtain ⟨j1, j2, j3, j4⟩ := hJ
    rw [j1, List.drop_eq_getElem_cons hiw, List.drop_eq_getElem_cons hi] at j4
    simp only [bnd] at j4
    unfold ref03_shows_b2
    simp only
    rw [if_pos (by simpa using hi), ix_lt hiw, Option.bind_some, ix_lt hi, Option.bind_some, Option.bind_some, Option.bind_some, w64s' hi (by omega), w64_u (a := (hts s)[i] - p) (by omega), w64_u (a := ((hts s)[i] - p) * l.Holds[i].Lo) (by omega), w64_u (a := ((hts s)[i] - p) * l.Holds[i].Hi) (by omega), w64_u (by omega), j1, List.drop_eq_getElem_cons hiw]
    refine ⟨(_, (hts s).drop (i + 1)), rfl, ?_, rfl, by simp only; omega, by simp only; omega, by simp only; omega⟩
    simp only [bnd, Int.add_assoc] <;> rfl
  · unfold ref03_shows_b2 ref03_shows_j1
    simp only
    obtain ⟨j1, j2, j3, j4⟩ := hJ
    have eb : ∀ w, bnd p w [] = 0 := fun w => by cases w <;> rfl
    rw [List.drop_length, eb, Int.add_zero] at j4
    rw [if_neg (by simp), eb, Int.add_zero, w64_u (a := s.Mtac.Err + s.Least) (by omega), w64_u (a := (s.Mtac.Err + s.Least) * _) (by omega), w64_u (a := (atP s.Mtac (s.Light + t)).1 - _) (by omega), w64_u (a := s.Light + t) (by omega)]
    have e : ((atP s.Mtac (s.Light + t)).1 - (s.Mtac.Err + s.Least) * (atP s.Mtac (s.Light + t)).2) * (s.Light + t) = spareN s t := rfl
    have e2 : (atP s.Mtac (s.Light + t)).2 = spareD s t := rfl
    rw [e, e2, j4, w64_u (by omega), w64_u (by omega)]; rfl
  · simp only [Int.add_assoc]
/-! A proof is checked. -/
def allT (s : api_Ship) (l : api_Load) (p lo : Int) (n : List Nat) : Bool := n.all fun k => showsB s l p (lo + (k : Int))
def partB (s : api_Ship) (l : api_Load) (next : Int) (p : api_Part) : Bool := decide (p.Totals.Lo = next) && (decide (next ≤ p.Totals.Hi) && decide (p.Totals.Hi ≤ totHi l)) && (decide (-1048576 ≤ p.Price) && decide (p.Price ≤ 1048576))
def csR (s : api_Ship) (l : api_Load) : Int → List api_Part → Int
  | next, [] => if next = totHi l + 1 then 0 else 8
  | next, p :: r => if partB s l next p = true then (if allT s l p.Price p.Totals.Lo (List.range (p.Totals.Hi - p.Totals.Lo + 1).toNat) = true then csR s l (p.Totals.Hi + 1) r else 8) else 8
def csE (s : api_Ship) (l : api_Load) (parts : List api_Part) : Int := if chkL s l = 0 then (if 4000 < (parts.length : Int) then 2 else csR s l (totLo l) parts) else chkL s l
theorem hcs_in {s : api_Ship} {l : api_Load} (hg : GoodL s l) (i : Nat) (hi : i < 4294967296) (p : api_Part) {next : Int} (hn : totLo l ≤ next) (hb : partB s l next p = true) : Lp (hull_CheckSteady_b4 s l (i : Int) p) fuel p.Totals.Lo = some (if allT s l p.Price p.Totals.Lo (List.range (p.Totals.Hi - p.Totals.Lo + 1).toNat) = true then .inl (p.Totals.Hi + 1, ((i + 1 : Nat) : Int)) else .inr 8) := by
  have ht := hg.tot
  unfold partB at hb
  simp only [Bool.and_eq_true, decide_eq_true_eq] at hb
  have hlen : (List.range (p.Totals.Hi - p.Totals.Lo + 1).toNat).length = (p.Totals.Hi - p.Totals.Lo + 1).toNat := List.length_range
  refine (lp_list (body := hull_CheckSteady_b4 s l (i : Int) p) (List.range (p.Totals.Hi - p.Totals.Lo + 1).toNat) (by omega) (fun (_ : Unit) k => p.Totals.Lo + k) (fun _ r => if allT s l p.Price p.Totals.Lo r = true then (.inl (p.Totals.Hi + 1, ((i + 1 : Nat) : Int)) : (Int × Int) ⊕ Int) else .inr 8) (fun _ _ => True) (a := ()) (by simp) trivial (fun a k hk _ => ?_) (fun a _ => ?_)).trans rfl
  · have e : (List.range (p.Totals.Hi - p.Totals.Lo + 1).toNat)[k] = k := List.getElem_range _
    have hk2 : k < (p.Totals.Hi - p.Totals.Lo + 1).toNat := by omega
    unfold hull_CheckSteady_b4
    simp only
    rw [if_pos (by rw [decide_eq_true_eq]; omega), hshows_eq hg hb.2 (by omega) (by omega), Option.bind_some, e]
    by_cases hs : showsB s l p.Price (p.Totals.Lo + (k : Int)) = true
    · left
      rw [if_neg (by simp [hs]), w64_u (by omega)]
      exact ⟨(), by rw [show p.Totals.Lo + (k : Int) + 1 = p.Totals.Lo + ((k + 1 : Nat) : Int) by omega], ite_bt hs, trivial⟩
    · right
      rw [if_pos (by simpa using hs)]
      exact congrArg (fun z => some (Sum.inr z)) (ite_bf hs).symm
  · unfold hull_CheckSteady_b4 hull_CheckSteady_j3
    simp only
    rw [if_neg (by rw [decide_eq_true_eq]; omega), w64_u (a := p.Totals.Hi + 1) (by omega), w64s i (by omega)]
    simp [allT]
theorem rcs_in {s : api_Ship} {l : api_Load} (hg : GoodL s l) (i : Nat) (hi : i < 4294967296) (p : api_Part) {next : Int} (hn : totLo l ≤ next) (hb : partB s l next p = true) : Lp (ref03_CheckSteady_b4 s l (i : Int) p) fuel p.Totals.Lo = some (if allT s l p.Price p.Totals.Lo (List.range (p.Totals.Hi - p.Totals.Lo + 1).toNat) = true then .inl (p.Totals.Hi + 1, ((i + 1 : Nat) : Int)) else .inr 8) := by
  have ht := hg.tot
  unfold partB at hb
  simp only [Bool.and_eq_true, decide_eq_true_eq] at hb
  have hlen : (List.range (p.Totals.Hi - p.Totals.Lo + 1).toNat).length = (p.Totals.Hi - p.Totals.Lo + 1).toNat := List.length_range
  refine (lp_list (body := ref03_CheckSteady_b4 s l (i : Int) p) (List.range (p.Totals.Hi - p.Totals.Lo + 1).toNat) (by omega) (fun (_ : Unit) k => p.Totals.Lo + k) (fun _ r => if allT s l p.Price p.Totals.Lo r = true then (.inl (p.Totals.Hi + 1, ((i + 1 : Nat) : Int)) : (Int × Int) ⊕ Int) else .inr 8) (fun _ _ => True) (a := ()) (by simp) trivial (fun a k hk _ => ?_) (fun a _ => ?_)).trans rfl
  · have e : (List.range (p.Totals.Hi - p.Totals.Lo + 1).toNat)[k] = k := List.getElem_range _
    have hk2 : k < (p.Totals.Hi - p.Totals.Lo + 1).toNat := by omega
    unfold ref03_CheckSteady_b4
    simp only
    rw [if_pos (by rw [decide_eq_true_eq]; omega), rshows_eq hg hb.2 (by omega) (by omega), Option.bind_some, e]
    by_cases hs : showsB s l p.Price (p.Totals.Lo + (k : Int)) = true
    · left
      rw [if_neg (by simp [hs]), w64_u (by omega)]
      exact ⟨(), by rw [show p.Totals.Lo + (k : Int) + 1 = p.Totals.Lo + ((k + 1 : Nat) : Int) by omega], ite_bt hs, trivial⟩
    · right
      rw [if_pos (by simpa using hs)]
      exact congrArg (fun z => some (Sum.inr z)) (ite_bf hs).symm
  · unfold ref03_CheckSteady_b4 ref03_CheckSteady_j3
    simp only
    rw [if_neg (by rw [decide_eq_true_eq]; omega), w64_u (a := p.Totals.Hi + 1) (by omega), w64s i (by omega)]
    simp [allT]
theorem hcs_eq (s : api_Ship) (l : api_Load) (parts : List api_Part) (hl : Len s.Holds) (hW : LoadW l) : hull_CheckSteady s l parts = some (csE s l parts) := by
  unfold hull_CheckSteady csE
  rw [hload_eq s l hl hW, Option.bind_some]
  by_cases h : chkL s l = 0
  · rw [if_neg (by simp [h]), if_pos h]
    by_cases h4 : 4000 < (parts.length : Int)
    · rw [if_pos (by simpa using h4), if_pos h4]
    · rw [if_neg (by simpa using h4), if_neg h4]
      have hg := GoodL.of h
      have ht := hg.tot
      rw [htotals hg, Option.bind_some]
      refine lp_list (body := hull_CheckSteady_b2 s l parts _) parts (by omega) (fun next i => (next, i)) (csR s l) (fun i next => totLo l ≤ next ∧ next ≤ totHi l + 1) rfl ⟨Int.le_refl _, by omega⟩ (fun a i hi hJ => ?_) (fun a hJ => ?_)
      · unfold hull_CheckSteady_b2
        simp only
        rw [if_pos (by simpa using hi), ix_lt hi, Option.bind_some]
        simp only [csR]
        have ec : ((!decide (parts[i].Totals.Lo = a)) || (!hull_within parts[i].Totals.Hi a (totHi l)) || (!hull_within parts[i].Price (-1048576) 1048576)) = !partB s l a parts[i] := by
          unfold partB hull_within; simp
        rw [ec]
        by_cases hb : partB s l a parts[i] = true
        · rw [if_neg (by simp [hb]), if_pos hb, hcs_in hg i (by omega) _ hJ.1 hb]
          have hb2 := hb
          unfold partB at hb2
          simp only [Bool.and_eq_true, decide_eq_true_eq] at hb2
          split
          · left; exact ⟨_, rfl, rfl, by omega, by omega⟩
          · right; rfl
        · right; rw [if_pos (by simpa using hb), if_neg hb]
      · unfold hull_CheckSteady_b2 hull_CheckSteady_j1
        simp only
        rw [if_neg (by simp), w64_u (a := totHi l + 1) (by omega)]
        simp only [csR]
        by_cases he : a = totHi l + 1 <;> simp [he]
  · rw [if_pos (by simp [h]), if_neg h]
theorem rcs_eq (s : api_Ship) (l : api_Load) (parts : List api_Part) (hl : Len s.Holds) (hW : LoadW l) : ref03_CheckSteady s l parts = some (csE s l parts) := by
  unfold ref03_CheckSteady csE
  rw [rcload_eq s l hl hW, Option.bind_some]
  by_cases h : chkL s l = 0
  · rw [if_neg (by simp [h]), if_pos h]
    by_cases h4 : 4000 < (parts.length : Int)
    · rw [if_pos (by simpa using h4), if_pos h4]
    · rw [if_neg (by simpa using h4), if_neg h4]
      have hg := GoodL.of h
      have ht := hg.tot
      rw [rtotals hg, Option.bind_some]
      refine lp_list (body := ref03_CheckSteady_b2 s l parts _) parts (by omega) (fun next i => (next, i)) (csR s l) (fun i next => totLo l ≤ next ∧ next ≤ totHi l + 1) rfl ⟨Int.le_refl _, by omega⟩ (fun a i hi hJ => ?_) (fun a hJ => ?_)
      · unfold ref03_CheckSteady_b2
        simp only
        rw [if_pos (by simpa using hi), ix_lt hi, Option.bind_some]
        simp only [csR]
        by_cases hb : partB s l a parts[i] = true
        · have hb2 := hb
          unfold partB at hb2
          simp only [Bool.and_eq_true, decide_eq_true_eq] at hb2
          rw [if_neg (by unfold ref03_in; simp only [Bool.or_eq_true, decide_eq_true_eq, Bool.not_eq_true', decide_eq_false_iff_not, Bool.and_eq_false_iff]; omega), if_pos hb, rcs_in hg i (by omega) _ hJ.1 hb]
          split
          · left; exact ⟨_, rfl, rfl, by omega, by omega⟩
          · right; rfl
        · right
          rw [if_neg hb]
          unfold partB at hb
          simp only [Bool.and_eq_true, decide_eq_true_eq] at hb
          rw [if_pos (by unfold ref03_in; simp only [Bool.or_eq_true, decide_eq_true_eq, Bool.not_eq_true', decide_eq_false_iff_not, Bool.and_eq_false_iff]; omega)]
      · unfold ref03_CheckSteady_b2 ref03_CheckSteady_j1
        simp only
        rw [if_neg (by simp), w64_u (a := totHi l + 1) (by omega)]
        simp only [csR]
        by_cases he : a = totHi l + 1 <;> simp [he]
  · rw [if_pos (by simp [h]), if_neg h]
end Go.Mx
