/- Plain laws of water, tenth part: cycles that are shorter, apart, together have the values they should. Conditions: none. -/
import Derived.Test.YtphmekpaalfliaaLawTideCycles
set_option linter.unusedVariables false
namespace Go.Mx

/-- An element of a list that goes round. -/
def rnd (h : List Int) (n : Int) : Int := h.getD (n % h.length).toNat 0
theorem val_rnd (c : api_Cycle) (t : Int) : val c t = rnd c.Heights ((t - c.Begin) / c.Every) := rfl
/-- A list that repeats its first k elements goes round with k. -/
theorem rep_step {h : List Int} {k : Nat} (hd : h.drop k = h.take (h.length - k)) (i : Nat) (hi : i + k < h.length) : h[i + k]'hi = h[i]'(by omega) := by
  have h1 : (h.drop k)[i]? = (h.take (h.length - k))[i]? := by rw [hd]
  rw [List.getElem?_drop, List.getElem?_take, if_pos (by omega), List.getElem?_eq_getElem (by omega), List.getElem?_eq_getElem (by omega)] at h1
  simp only [Option.some.injEq] at h1
  rw [← h1]
  congr 1
  omega
theorem rep_mod {h : List Int} {k : Nat} (hk : 0 < k) (hd : h.drop k = h.take (h.length - k)) : ∀ (q i : Nat) (hi : i + k * q < h.length), h[i + k * q]'hi = h[i]'(by omega)
  | 0, i, hi => by simp
  | q + 1, i, hi => by
    have e : i + k * (q + 1) = (i + k * q) + k := by rw [Nat.mul_add, Nat.mul_one]; omega
    have h1 := rep_step hd (i + k * q) (by omega)
    have h2 := rep_mod hk hd q i (by omega)
    rw [← h2, ← h1]
    congr 1
theorem rnd_take {h : List Int} {k : Nat} (hk : 0 < k) (hl : k ≤ h.length) (hdiv : (h.length : Int) % (k : Int) = 0) (hd : h.drop k = h.take (h.length - k)) (n : Int) : rnd (h.take k) n = rnd h n := by
  have hlen : (h.take k).length = k := by simp; omega
  unfold rnd
  rw [hlen]
  have m0 := Int.emod_nonneg n (show (h.length : Int) ≠ 0 by omega)
  have m1 := Int.emod_lt_of_pos n (show 0 < (h.length : Int) by omega)
  have k0 := Int.emod_nonneg n (show (k : Int) ≠ 0 by omega)
  have k1 := Int.emod_lt_of_pos n (show 0 < (k : Int) by omega)
  have e : n % (k : Int) = (n % (h.length : Int)) % (k : Int) := by
    rw [Int.emod_emod_of_dvd n (Int.dvd_of_emod_eq_zero hdiv)]
  have hm := Int.emod_add_mul_ediv (n % (h.length : Int)) (k : Int)
  have q0 := Int.ediv_nonneg m0 (show (0 : Int) ≤ (k : Int) by omega)
  obtain ⟨r, hr⟩ : ∃ r : Nat, n % (k : Int) = r := ⟨(n % (k : Int)).toNat, by omega⟩
  obtain ⟨q, hq⟩ : ∃ q : Nat, n % (h.length : Int) / (k : Int) = q := ⟨(n % (h.length : Int) / (k : Int)).toNat, by omega⟩
  rw [← e, hr, hq] at hm
  have hN : (n % (h.length : Int)).toNat = r + k * q := by
    have : ((k * q : Nat) : Int) = (k : Int) * (q : Int) := Int.natCast_mul k q
    omega
  rw [hN, hr]
  have hrk : r < k := by omega
  have hlt : r + k * q < h.length := by omega
  simp only [Int.toNat_natCast]
  rw [List.getD_eq_getElem?_getD, List.getD_eq_getElem?_getD, List.getElem?_take, if_pos hrk, List.getElem?_eq_getElem hlt, List.getElem?_eq_getElem (show r < h.length by omega), rep_mod hk hd q r hlt]
/-- What the shortest length is. -/
theorem shortK_spec (h : List Int) : ∀ (m : Nat) (k : Int), 1 ≤ k → k + m = h.length → k ≤ shortK h m k ∧ shortK h m k ≤ h.length ∧ (shortK h m k = h.length ∨ repB h (shortK h m k) = true) ∧ ∀ j, k ≤ j → j < shortK h m k → repB h j = false
  | 0, k, h1, h2 => by
    unfold shortK
    exact ⟨Int.le_refl _, by omega, .inl (by omega), fun j h3 h4 => by omega⟩
  | m + 1, k, h1, h2 => by
    unfold shortK
    by_cases hr : repB h k = true
    · rw [if_pos hr]
      exact ⟨Int.le_refl _, by omega, .inr hr, fun j h3 h4 => by omega⟩
    · rw [if_neg hr]
      obtain ⟨p1, p2, p3, p4⟩ := shortK_spec h m (k + 1) (by omega) (by omega)
      refine ⟨by omega, p2, p3, fun j h3 h4 => ?_⟩
      by_cases e : j = k
      · subst e; simpa using hr
      · exact p4 j (by omega) h4

theorem rnd_add (h : List Int) (n k : Int) : rnd h (n + h.length * k) = rnd h n := by
  unfold rnd
  rw [Int.add_mul_emod_self_left]
/-- A cycle at the steps of a finer one. -/
theorem fine_val (h : List Int) {g e n w D s : Int} (hg : 0 < g) (he : 0 < e) (hn : n = e * h.length * w) : rnd h ((D * g + ((s / g) % n) * g) / (g * e)) = rnd h ((D * g + s) / (g * e)) := by
  have e1 : (D * g + ((s / g) % n) * g) / (g * e) = (D + (s / g) % n) / e := by
    rw [← Int.add_mul, Int.mul_comm g e, Int.mul_ediv_mul_of_pos_left _ _ hg]
  have e2 : (D * g + s) / (g * e) = (D + s / g) / e := by
    rw [← Int.ediv_ediv_of_nonneg (show 0 ≤ g by omega), Int.add_comm (D * g) s, Int.add_mul_ediv_right _ _ (by omega), Int.add_comm]
  have e3 : D + s / g = D + (s / g) % n + e * (h.length * w * (s / g / n)) := by
    have := Int.emod_add_mul_ediv (s / g) n
    generalize s / g / n = q at *
    have e4 : n * q = e * (h.length * w * q) := by rw [hn]; simp only [Int.mul_assoc]
    omega
  rw [e1, e2, e3, Int.add_mul_ediv_left _ _ (by omega), Int.mul_assoc, rnd_add]
theorem gcdI_dvd {g n : Int} (hg : 0 ≤ g) (hn : 0 ≤ n) : gcdI g n ∣ g ∧ gcdI g n ∣ n := by
  obtain ⟨a, rfl⟩ := Int.eq_ofNat_of_zero_le hg
  obtain ⟨b, rfl⟩ := Int.eq_ofNat_of_zero_le hn
  unfold gcdI
  simp only [Int.toNat_natCast]
  exact ⟨Int.natCast_dvd_natCast.2 (Nat.gcd_dvd_left a b), Int.natCast_dvd_natCast.2 (Nat.gcd_dvd_right a b)⟩
/-- What a cycle without its least height is. -/
theorem apF_eq (c : api_Cycle) (m : Int) : ∀ (l acc : List Int), (apF c m acc l).2.2 = 0 → apF c m acc l = (m, ⟨c.ID, c.Begin, c.Every, acc ++ l.map (· - m)⟩, 0) ∧ ∀ x ∈ l, x - m ≤ 4000
  | [], acc, h => by simp [apF]
  | x :: r, acc, h => by
    unfold apF at h ⊢
    by_cases hx : x - m ≤ 4000
    · rw [if_pos hx] at h ⊢
      obtain ⟨h1, h2⟩ := apF_eq c m r (acc ++ [x - m]) h
      refine ⟨by rw [h1]; simp, fun y hy => ?_⟩
      rcases List.mem_cons.1 hy with rfl | hy
      · exact hx
      · exact h2 y hy
    · rw [if_neg hx] at h
      cases h
theorem Good.goodB {c : api_Cycle} (g : Good c) : goodB c = true := by
  obtain ⟨b0, b1, e0, e1, l0, l1, i0, i1, hs⟩ := g
  unfold Mx.goodB headB
  simp only [tide_within, tide_minute, tide_level, Bool.and_eq_true, decide_eq_true_eq, List.all_eq_true]
  exact ⟨⟨⟨⟨⟨i0, i1⟩, b0, b1⟩, e0, e1⟩, by omega, by omega⟩, hs⟩
theorem apart_val {c : api_Cycle} (g : Good c) (h : (apartS c).2.2 = 0) (t : Int) : (apartS c).1 = leastS c ∧ Good (apartS c).2.1 ∧ val (apartS c).2.1 t + leastS c = val c t := by
  have hg := g.goodB
  unfold apartS at h ⊢
  rw [if_pos hg] at h ⊢
  obtain ⟨h1, h2⟩ := apF_eq c (leastS c) c.Heights [] h
  obtain ⟨m0, m1⟩ := least_b g
  rw [h1]
  simp only [List.nil_append]
  have g' := g
  obtain ⟨b0, b1, e0, e1, l0, l1, i0, i1, hs⟩ := g'
  refine ⟨trivial, ⟨b0, b1, e0, e1, by simpa using l0, by simpa using l1, i0, i1, fun y hy => ?_⟩, ?_⟩
  · obtain ⟨x, hx, rfl⟩ := List.mem_map.1 hy
    have := m1 x hx
    have := h2 x hx
    omega
  · unfold val
    simp only [List.length_map]
    have q0 := Int.emod_nonneg ((t - c.Begin) / c.Every) (show (c.Heights.length : Int) ≠ 0 by omega)
    have q1 := Int.emod_lt_of_pos ((t - c.Begin) / c.Every) (show 0 < (c.Heights.length : Int) by omega)
    have q2 : ((t - c.Begin) / c.Every % (c.Heights.length : Int)).toNat < c.Heights.length := by omega
    rw [List.getD_eq_getElem?_getD, List.getD_eq_getElem?_getD, List.getElem?_map, List.getElem?_eq_getElem q2]
    simp

/-- A list that goes round has a period. -/
def Per (h : List Int) (p : Int) : Prop := ∀ n, rnd h (n + p) = rnd h n
theorem Per.len (h : List Int) : Per h h.length := fun n => by have := rnd_add h n 1; rwa [Int.mul_one] at this
theorem Per.sub {h : List Int} {a b : Int} (ha : Per h a) (hb : Per h b) : Per h (a - b) := fun n => by
  rw [← hb (n + (a - b)), show n + (a - b) + b = n + a by omega]; exact ha n
theorem Per.mulNat {h : List Int} {a : Int} (ha : Per h a) : ∀ q : Nat, Per h (a * q)
  | 0, n => by simp
  | q + 1, n => by
    rw [show n + a * ((q + 1 : Nat) : Int) = (n + a * q) + a by rw [show ((q + 1 : Nat) : Int) = (q : Int) + 1 by omega, Int.mul_add]; omega, ha]
    exact ha.mulNat q n
theorem Per.gcd {h : List Int} (a b : Nat) : Per h a → Per h b → Per h (Nat.gcd a b : Nat) := by
  induction a, b using Nat.gcd.induction with
  | H0 n => intro _ hb; simpa using hb
  | H1 m n hm ih =>
    intro ha hb
    rw [Nat.gcd_rec]
    refine ih ?_ ha
    have e : ((n % m : Nat) : Int) = (n : Int) - (m : Int) * ((n / m : Nat) : Int) := by
      have := Nat.mod_add_div n m
      have h2 : ((m * (n / m) : Nat) : Int) = (m : Int) * ((n / m : Nat) : Int) := Int.natCast_mul _ _
      omega
    rw [e]
    exact hb.sub (ha.mulNat _)
theorem rnd_lt {h : List Int} {i : Nat} (hi : i < h.length) : rnd h i = h[i] := by
  unfold rnd
  rw [Int.emod_eq_of_lt (by omega) (by omega), Int.toNat_natCast, List.getD_eq_getElem?_getD, List.getElem?_eq_getElem hi]
  rfl
theorem rep_of {h : List Int} {j : Nat} (h0 : 0 < j) (h1 : j ≤ h.length) (hd : h.length % j = 0) (hp : Per h j) : repB h j = true := by
  unfold repB
  rw [Bool.and_eq_true]
  refine ⟨by rw [decide_eq_true_eq]; omega, ?_⟩
  rw [decide_eq_true_eq]
  simp only [Int.toNat_natCast]
  refine List.ext_getElem (by simp) fun i q1 q2 => ?_
  simp only [List.length_drop] at q1
  rw [List.getElem_drop, List.getElem_take, ← rnd_lt (show i < h.length by omega), ← hp i, show (i : Int) + j = ((j + i : Nat) : Int) by omega, rnd_lt]
theorem per_of {h : List Int} {j : Nat} (h0 : 0 < j) (h1 : j ≤ h.length) (hr : repB h j = true) : Per h j ∧ (h.length : Int) % j = 0 ∧ ∀ n, rnd (h.take j) n = rnd h n := by
  unfold repB at hr
  simp only [Bool.and_eq_true, decide_eq_true_eq, Int.toNat_natCast] at hr
  have ht := rnd_take h0 h1 hr.1 hr.2
  refine ⟨fun n => ?_, hr.1, ht⟩
  have hl : (h.take j).length = j := by simp; omega
  have := rnd_add (h.take j) n 1
  rw [hl, Int.mul_one] at this
  rw [← ht, ← ht, this]
/-- The shortest cycle: as long as its least period, and no shorter list goes round as it does. -/
structure ShortP (h h' : List Int) : Prop where
  l0 : 1 ≤ h'.length
  l1 : h'.length ≤ h.length
  dv : (h.length : Int) % h'.length = 0
  eq : ∀ n, rnd h' n = rnd h n
  min : ∀ j : Nat, 0 < j → j < h'.length → repB h' j = false
  sub : ∀ x ∈ h', x ∈ h
theorem short_p {h : List Int} (hl : 1 ≤ h.length) : ShortP h (h.take (shortK h (left (h.length - 1) 1) 1).toNat) := by
  obtain ⟨p1, p2, p3, p4⟩ := shortK_spec h (left (h.length - 1) 1) 1 (by omega) (by unfold left; omega)
  generalize shortK h (left (h.length - 1) 1) 1 = kk at *
  obtain ⟨k, rfl⟩ : ∃ k : Nat, kk = k := ⟨kk.toNat, by omega⟩
  simp only [Int.toNat_natCast]
  have hk : (h.take k).length = k := by simp; omega
  have main : (h.length : Int) % (k : Int) = 0 ∧ ∀ n, rnd (h.take k) n = rnd h n := by
    rcases p3 with e | hr
    · have e' : k = h.length := by omega
      subst e'
      rw [List.take_length]
      exact ⟨Int.emod_self, fun _ => rfl⟩
    · obtain ⟨_, q1, q2⟩ := per_of (by omega) (by omega) hr
      exact ⟨q1, q2⟩
  refine ⟨by rw [hk]; omega, by rw [hk]; omega, by rw [hk]; exact main.1, main.2, fun j j0 j1 => ?_, fun x hx => List.mem_of_mem_take hx⟩
  rw [hk] at j1
  have hf := p4 j (by omega) (by omega)
  cases hr : repB (h.take k) j with
  | false => rfl
  | true =>
    obtain ⟨q1, q2, _⟩ := per_of j0 (by rw [hk]; omega) hr
    rw [hk] at q2
    have : repB h j = true := by
      refine rep_of j0 (by omega) ?_ fun n => by rw [← main.2, ← main.2]; exact q1 n
      have d1 : (j : Int) ∣ (k : Int) := Int.dvd_of_emod_eq_zero q2
      have d2 : (k : Int) ∣ (h.length : Int) := Int.dvd_of_emod_eq_zero main.1
      have d3 := Int.emod_eq_zero_of_dvd (Int.dvd_trans d1 d2)
      omega
    rw [hf] at this
    cases this
/-- No shorter list goes round as a shortest one does. -/
theorem short_min {h' : List Int} (hmin : ∀ j : Nat, 0 < j → j < h'.length → repB h' j = false) {m : Nat} (h0 : 0 < m) (h1 : m < h'.length) (heq : ∀ n : Nat, n < m * h'.length → rnd (h'.take m) n = rnd h' n) : False := by
  have hm : (h'.take m).length = m := by simp; omega
  have hp : 0 < m * h'.length := Nat.mul_pos h0 (by omega)
  have hall : ∀ n : Int, rnd (h'.take m) n = rnd h' n := by
    intro n
    have r0 := Int.emod_nonneg n (show ((m * h'.length : Nat) : Int) ≠ 0 by omega)
    have r1 := Int.emod_lt_of_pos n (show 0 < ((m * h'.length : Nat) : Int) by omega)
    have hd := Int.emod_add_mul_ediv n ((m * h'.length : Nat) : Int)
    generalize n / ((m * h'.length : Nat) : Int) = q at *
    obtain ⟨r, hr⟩ : ∃ r : Nat, n % ((m * h'.length : Nat) : Int) = r := ⟨(n % ((m * h'.length : Nat) : Int)).toNat, by omega⟩
    rw [hr] at hd r1
    have e1 : n = r + ((h'.take m).length : Int) * (h'.length * q) := by rw [hm, ← hd, Int.natCast_mul, Int.mul_assoc]
    have e2 : n = r + (h'.length : Int) * (m * q) := by rw [← hd, Int.natCast_mul, Int.mul_comm (m : Int), Int.mul_assoc]
    have a1 : rnd (h'.take m) n = rnd (h'.take m) r := by rw [e1, rnd_add]
    have a2 : rnd h' n = rnd h' r := by rw [e2, rnd_add]
    rw [a1, a2]
    exact heq r (by omega)
  have pm : Per h' m := fun n => by
    have := rnd_add (h'.take m) n 1
    rw [hm, Int.mul_one] at this
    rw [← hall, ← hall, this]
  have pg := Per.gcd m h'.length pm (Per.len h')
  have g0 := Nat.gcd_pos_of_pos_left h'.length h0
  have g1 := Nat.gcd_le_left h'.length h0
  have hr := rep_of (h := h') (j := Nat.gcd m h'.length) g0 (by omega) (Nat.mod_eq_zero_of_dvd (Nat.gcd_dvd_right _ _)) pg
  rw [hmin _ g0 (by omega)] at hr
  cases hr
end Go.Mx
