/- Plain laws of water, ninth part: common divisors, cycles together. Conditions: none. -/
import Derived.Test.YtphmekpaalfliaaLawW
set_option linter.unusedVariables false
namespace Go.Mx

/-- The greatest common divisor. -/
def gcdI (a b : Int) : Int := (Nat.gcd a.toNat b.toNat : Nat)
theorem gcd_step {g n : Int} (hg : 0 ≤ g) (hn : 0 < n) : gcdI n (g.tmod n) = gcdI g n := by
  rw [Int.tmod_eq_emod_of_nonneg hg]
  obtain ⟨g', rfl⟩ := Int.eq_ofNat_of_zero_le hg
  obtain ⟨n', rfl⟩ := Int.eq_ofNat_of_zero_le (show 0 ≤ n by omega)
  unfold gcdI
  have e : ((g' : Int) % (n' : Int)).toNat = g' % n' := by omega
  rw [e]
  simp only [Int.toNat_natCast]
  rw [Nat.gcd_comm n' (g' % n'), ← Nat.gcd_rec, Nat.gcd_comm]
theorem gcd_zero {g : Int} (hg : 0 ≤ g) : gcdI g 0 = g := by unfold gcdI; simp; omega
theorem zero_gcd {g : Int} (hg : 0 ≤ g) : gcdI 0 g = g := by unfold gcdI; simp; omega
theorem rem_eq {g n : Int} (hn : 0 < n) : rem g n = some (g.tmod n) := by unfold rem; rw [if_neg (by omega)]
theorem inner_eq {g n : Int} (x1 : Int) (hg : 0 ≤ g) (hn : 0 ≤ n) (hb : n ≤ 4611686018427387904) : Lp (tide_gcd_b4 x1) fuel (g, n) = some (.inl (gcdI g n, w64 (x1 + 1))) := by
  suffices h : ∃ r, Lp (tide_gcd_b4 x1) fuel (g, n) = some r ∧ r = .inl (gcdI g n, w64 (x1 + 1)) by obtain ⟨r, h, rfl⟩ := h; exact h
  refine lp_inv' (fun (i : Nat) (s : Int × Int) => 0 ≤ s.1 ∧ 0 ≤ s.2 ∧ s.2 + i ≤ n ∧ gcdI s.1 s.2 = gcdI g n) _ (n.toNat + 1) (by omega) ⟨hg, hn, by simp, rfl⟩ fun i s hi hI => ?_
  obtain ⟨a, b⟩ := s
  simp only at hI
  obtain ⟨h1, h2, h3, h4⟩ := hI
  unfold tide_gcd_b4
  simp only
  by_cases h : 0 < b
  · left
    have l := Int.tmod_lt_of_pos a h
    have l0 := Int.tmod_nonneg b h1
    rw [if_pos (by simpa using h), rem_eq h, Option.bind_some]
    exact ⟨by omega, _, rfl, by simp only; omega, l0, by simp only; omega, by rw [← h4]; exact gcd_step h1 h⟩
  · right
    have e : b = 0 := by omega
    subst e
    rw [if_neg (by simp)]
    exact ⟨_, rfl, by rw [← h4, gcd_zero h1]⟩
theorem common_eq {g n : Int} (hg : 0 ≤ g) (hn : 0 ≤ n) (hb : n ≤ 4611686018427387904) : ref02_common g n = some (gcdI g n) := by
  unfold ref02_common
  suffices h : ∃ r, Lp ref02_common_b2 fuel (g, n) = some r ∧ r = gcdI g n by obtain ⟨r, h, rfl⟩ := h; exact h
  refine lp_inv' (fun (i : Nat) (s : Int × Int) => 0 ≤ s.1 ∧ 0 ≤ s.2 ∧ s.2 + i ≤ n ∧ gcdI s.1 s.2 = gcdI g n) _ (n.toNat + 1) (by omega) ⟨hg, hn, by simp, rfl⟩ fun i s hi hI => ?_
  obtain ⟨a, b⟩ := s
  simp only at hI
  obtain ⟨h1, h2, h3, h4⟩ := hI
  unfold ref02_common_b2
  simp only
  by_cases h : 0 < b
  · left
    have l := Int.tmod_lt_of_pos a h
    have l0 := Int.tmod_nonneg b h1
    rw [if_pos (by simp; omega), rem_eq h, Option.bind_some]
    exact ⟨by omega, _, rfl, by simp only; omega, l0, by simp only; omega, by rw [← h4]; exact gcd_step h1 h⟩
  · right
    have e : b = 0 := by omega
    subst e
    rw [if_neg (by simp)]
    exact ⟨_, rfl, by rw [← h4, gcd_zero h1]⟩
theorem gcdI_le {g n : Int} (hg : 0 ≤ g) (hn : 0 ≤ n) : 0 ≤ gcdI g n ∧ (0 < g → gcdI g n ≤ g ∧ 0 < gcdI g n) := by
  unfold gcdI
  refine ⟨by omega, fun h => ?_⟩
  have h1 := Nat.gcd_le_left n.toNat (show 0 < g.toNat by omega)
  have h2 := Nat.gcd_pos_of_pos_left n.toNat (show 0 < g.toNat by omega)
  omega
/-- The common divisor of numbers, one after the other. -/
def gcdL : Int → List Int → Int
  | g, [] => g
  | g, x :: r => gcdL (gcdI g x) r
theorem gcd_eq (l : List Int) (hl : Len l) (h : ∀ x ∈ l, 0 ≤ x ∧ x ≤ 4611686018427387904) : tide_gcd l = some (gcdL 0 l) := by
  unfold tide_gcd
  refine lp_list l hl (fun (g : Int) i => (g, i)) gcdL (fun _ g => 0 ≤ g) rfl (by omega) (fun g i hi hJ => ?_) (fun g _ => ?_)
  · left
    unfold tide_gcd_b2
    simp only
    have hx := h _ (List.getElem_mem hi)
    rw [if_pos (by simpa using hi), ix_lt hi, Option.bind_some, inner_eq _ hJ hx.1 hx.2, w64s' hi hl]
    exact ⟨_, rfl, rfl, (gcdI_le hJ hx.1).1⟩
  · unfold tide_gcd_b2
    simp only
    rw [if_neg (by simp)]; rfl
theorem SameInts_self (l : List Int) (hl : Len l) : ref02_SameInts l l = some true := by
  unfold ref02_SameInts
  rw [if_neg (by simp)]
  refine lp_list l hl (fun (_ : Unit) i => i) (fun _ _ => true) (fun _ _ => True) (a := ()) rfl trivial (fun a i hi _ => ?_) (fun a _ => ?_)
  · unfold ref02_SameInts_b2
    rw [if_pos (by simpa using hi), ix_lt hi]
    simp only [Option.bind_some]
    left
    rw [if_neg (by simp), w64s' hi hl]
    exact ⟨(), rfl, trivial, trivial⟩
  · unfold ref02_SameInts_b2
    rw [if_neg (by simp)]; rfl
theorem SameCycle_self (c : api_Cycle) (hl : Len c.Heights) : ref02_SameCycle c c = some true := by
  unfold ref02_SameCycle
  rw [SameInts_self _ hl]
  simp
end Go.Mx
