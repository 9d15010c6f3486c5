/- Plain laws of water, first part: loops, what is right, values, checks, heights. Conditions: none. -/
import Derived.Test.YtnkngglimidldaaGreatM
set_option linter.unusedVariables false
namespace Go.Mx
theorem lp_inv' {σ ρ : Type} {body : σ → Option (σ ⊕ ρ)} {s0 : σ} (I : Nat → σ → Prop) (P : ρ → Prop) (n : Nat) (hn : n < 18446744073709551615) (h0 : I 0 s0) (step : ∀ i s, i ≤ n → I i s → (i < n ∧ ∃ s', body s = some (.inl s') ∧ I (i + 1) s') ∨ ∃ r, body s = some (.inr r) ∧ P r) : ∃ r, Lp body fuel s0 = some r ∧ P r := by
 have key : ∀ (m i : Nat) (s : σ), n < i + m → i ≤ n → I i s → ∃ r, Lp body m s = some r ∧ P r := by
  intro m
  induction m with
  | zero => intro i s h h' hI; omega
  | succ m ih =>
   intro i s h h' hI
   rcases step i s h' hI with ⟨h1, s', h2, h3⟩ | ⟨r, h1, h2⟩
   ·rw [zFi m h2]; exact ih (i + 1) s' (by omega) (by omega) h3
   ·rw [zFj m h1]; exact ⟨r, rfl, h2⟩
 exact key fuel 0 s0 (by unfold fuel; omega) (Nat.zero_le _) h0
theorem jO {α : Type} {l : List α} {i : Nat} (h : i < l.length) : ix l (i : Int) = some (l[i]'h) := by
 unfold ix
 rw [if_pos (by omega)]
 simp [h]
def Len {α : Type} (l : List α) : Prop := l.length ≤ 9223372036854775807
theorem w64s (i : Nat) (h : i + 1 ≤ 9223372036854775807) : w64 ((i : Int) + 1) = ((i + 1 : Nat) : Int) := by rw [ZO (by omega) (by omega)]; omega
structure Good (c : zw) : Prop where
 b0 : 0 ≤ c.Begin
 b1 : c.Begin ≤ 1048576
 e0 : 1 ≤ c.Every
 e1 : c.Every ≤ 120
 l0 : 1 ≤ c.Heights.length
 l1 : c.Heights.length ≤ 60
 i0 : 1 ≤ c.ID
 i1 : c.ID ≤ 1099511627776
 hs : ∀ h ∈ c.Heights, -4000 ≤ h ∧ h ≤ 4000
theorem zFO (l : List Int) (hl : Len l) : ∃ r, Zi l = some r ∧ ((0 ≤ r ∧ ∃ h ∈ l, jd h = true) ∨ (r = -1 ∧ ∀ h ∈ l, jd h = false)) := by
 unfold Zi
 unfold Len at hl
 refine lp_inv' (fun i s => s = (i : Int) ∧ ∀ j (hj : j < l.length), j < i → jd l[j] = false) _ l.length (by omega) ⟨rfl, fun j _ h => by omega⟩ fun i s hi hI => ?_
 obtain ⟨rfl, hI⟩ := hI
 unfold jF
 by_cases h : i < l.length
 ·rw [if_pos (by simpa using h), jO h]
  simp only [Option.bind_some]
  by_cases hr : jd l[i] = true
  ·rw [if_pos hr]; exact .inr ⟨_, rfl, .inl ⟨by omega, _, List.getElem_mem h, hr⟩⟩
  ·rw [if_neg hr]
   refine .inl ⟨h, _, rfl, w64s i (by omega), fun j hj hji => ?_⟩
   by_cases hj' : j = i
   ·subst hj'; simpa using hr
   ·exact hI j hj (by omega)
 ·rw [if_neg (by simpa using h)]
  refine .inr ⟨-1, rfl, .inr ⟨rfl, fun x hx => ?_⟩⟩
  obtain ⟨j, hj, rfl⟩ := List.getElem_of_mem hx
  exact hI j hj (by omega)
theorem zJs (c : zw) (hl : Len c.Heights) : ∃ b, Qo c = some b ∧ (b = true → Good c) := by
 unfold Qo
 obtain ⟨r, h1, h2⟩ := zFO c.Heights hl
 have h3 : ZM c.Heights = some (decide (0 ≤ r)) := by unfold ZM; rw [h1]; rfl
 rw [h3]
 generalize hx : ((((zh c.ID 1 1099511627776) && (Zw c.Begin)) && (zh c.Every 1 120)) && (zh (c.Heights.length : Int) 1 60)) = x
 cases x with
 | false => exact ⟨false, rfl, fun h => by cases h⟩
 | true =>
  refine ⟨!decide (0 ≤ r), rfl, fun h => ?_⟩
  simp only [Zw, zh, Bool.and_eq_true, decide_eq_true_eq] at hx
  rcases h2 with ⟨h2, _⟩ | ⟨rfl, h2⟩
  ·simp [h2] at h
  ·refine ⟨by omega, by omega, by omega, by omega, by omega, by omega, by omega, by omega, fun y hy => ?_⟩
   have := h2 y hy
   simpa [jd, Zr, zh] using this
theorem zJa {a b : Int} (h0 : 0 < b) (h1 : b ≤ 1099511627776) (ha : -1152921504606846976 ≤ a) (hb : a ≤ 1152921504606846976) : qa a b = some (a / b, a % b) := by
 have e1 : rem a b = some (a.tmod b) := by unfold rem; rw [if_neg (by omega)]
 have l1 : a.tmod b < b := Int.tmod_lt_of_pos a h0
 have l2 : -b < a.tmod b := by have := Int.lt_tmod_of_pos a h0; omega
 have e2 : w64 (a.tmod b + b) = a.tmod b + b := ZO (by omega) (by omega)
 have e3 : rem (a.tmod b + b) b = some (a % b) := by
  unfold rem
  rw [if_neg (by omega)]
  congr 1
  rw [Int.tmod_eq_emod_of_nonneg (by omega), Int.add_emod_right]
  rw [Int.tmod_def]
  rw [show a - b * a.tdiv b = a + b * (-(a.tdiv b)) by rw [Int.mul_neg]; omega, Int.add_mul_emod_self_left]
 have m0 := Int.emod_nonneg a (show b ≠ 0 by omega)
 have m1 := Int.emod_lt_of_pos a h0
 have e4 : w64 (a - a % b) = a - a % b := ZO (by omega) (by omega)
 have hd : a - a % b = b * (a / b) := by have := Int.emod_add_mul_ediv a b; omega
 have e5 : quo (a - a % b) b = some (a / b) := by
  unfold quo
  rw [if_neg (by omega), hd, Int.mul_tdiv_cancel_left _ (by omega)]
  congr 1
  have k1 : a / b ≤ 1152921504606846976 := Int.le_trans (Int.ediv_le_ediv h0 hb) (by rcases Int.le_total 0 (1152921504606846976 / b) with h | h; exact Int.ediv_le_self _ (by omega); omega)
  have k2 : -1152921504606846976 ≤ a / b := by
   rw [Int.le_ediv_iff_mul_le h0]
   have : (-1152921504606846976 : Int) * b ≤ -1152921504606846976 * 1 := Int.mul_le_mul_of_nonpos_left (by omega) (by omega)
   omega
  exact ZO (by omega) (by omega)
 unfold qa
 rw [e1, Option.bind_some, e2, e3, Option.bind_some, e4, e5, Option.bind_some]
def val (c : zw) (t : Int) : Int := c.Heights.getD (((t - c.Begin) / c.Every % c.Heights.length).toNat) 0
theorem zLT {c : zw} (hg : Good c) {t : Int} (h0 : -1099511627776 ≤ t) (h1 : t ≤ 1099511627776) : zAq c t = some (val c t) := by
 have g := hg
 obtain ⟨b0, b1, e0, e1, l0, l1, i0, i1, hs⟩ := g
 unfold zAq
 rw [ZO (by omega) (by omega), zJa (by omega) (by omega) (by omega) (by omega), Option.bind_some]
 have k1 : (t - c.Begin) / c.Every ≤ 1152921504606846976 := Int.le_trans (Int.ediv_le_ediv (c := c.Every) (by omega) (show t - c.Begin ≤ 1152921504606846976 by omega)) (Int.ediv_le_self _ (by omega))
 have k2 : -1152921504606846976 ≤ (t - c.Begin) / c.Every := by
  rw [Int.le_ediv_iff_mul_le (by omega)]
  have : (-1152921504606846976 : Int) * c.Every ≤ -1152921504606846976 * 1 := Int.mul_le_mul_of_nonpos_left (by omega) (by omega)
  omega
 simp only
 rw [zJa (by omega) (by omega) k2 k1, Option.bind_some]
 have m0 := Int.emod_nonneg ((t - c.Begin) / c.Every) (show (c.Heights.length : Int) ≠ 0 by omega)
 have m1 := Int.emod_lt_of_pos ((t - c.Begin) / c.Every) (show 0 < (c.Heights.length : Int) by omega)
 unfold ix val
 rw [if_pos m0, List.getElem?_eq_getElem (by omega), List.getD_eq_getElem?_getD, List.getElem?_eq_getElem (by omega)]
 rfl
theorem zHE {c : zw} (hg : Good c) (t : Int) : -4000 ≤ val c t ∧ val c t ≤ 4000 := by
 unfold val
 have m0 := Int.emod_nonneg ((t - c.Begin) / c.Every) (show (c.Heights.length : Int) ≠ 0 by have := hg.l0; omega)
 have m1 := Int.emod_lt_of_pos ((t - c.Begin) / c.Every) (show 0 < (c.Heights.length : Int) by have := hg.l0; omega)
 rw [List.getD_eq_getElem?_getD, List.getElem?_eq_getElem (by omega)]
 exact hg.hs _ (List.getElem_mem _)
end Go.Mx
