/- TideCyclesHold: the plain law. Conditions: none. -/
import Derived.Test.YtphmekpaalfliaaLawTideCycles
set_option linter.unusedVariables false
namespace Go.Mx

/-- An element of a list that goes round. -/
def rnd (h : List Int) (n : Int) : Int := h.getD (n % h.length).toNat 0
theorem val_rnd (c : api_Cycle) (t : Int) : val c t = rnd c.Heights ((t - c.Begin) / c.Every) := rfl
/-- A list that repeats its first k elements goes round with k. -/
theorem rep_step {h : List Int} {k : Nat} (hd : h.drop k = h.take (h.length - k)) (i : Nat) (hi : i + k < h.length) : h[i + k]'hi = h[i]'(by omega) := by
  have h1 : (h.drop k)[i]? = (h.take (h.length - k))[i]? := by rw [hd]
  rw [List.getElem?_drop, List.getElem?_take, if_pos (by omega), List.getElem?_eq_getElem (by omega), List.getElem?_eq_getElem (by omega)] at h1
  simp only [Option.some.injEq] at h1
  rw [← h1]
  congr 1
  omega
theorem rep_mod {h : List Int} {k : Nat} (hk : 0 < k) (hd : h.drop k = h.take (h.length - k)) : ∀ (q i : Nat) (hi : i + k * q < h.length), h[i + k * q]'hi = h[i]'(by omega)
  | 0, i, hi => by simp
  | q + 1, i, hi => by
    have e : i + k * (q + 1) = (i + k * q) + k := by rw [Nat.mul_add, Nat.mul_one]; omega
    have h1 := rep_step hd (i + k * q) (by omega)
    have h2 := rep_mod hk hd q i (by omega)
    rw [← h2, ← h1]
    congr 1
theorem rnd_take {h : List Int} {k : Nat} (hk : 0 < k) (hl : k ≤ h.length) (hdiv : (h.length : Int) % (k : Int) = 0) (hd : h.drop k = h.take (h.length - k)) (n : Int) : rnd (h.take k) n = rnd h n := by
  have hlen : (h.take k).length = k := by simp; omega
  unfold rnd
  rw [hlen]
  have m0 := Int.emod_nonneg n (show (h.length : Int) ≠ 0 by omega)
  have m1 := Int.emod_lt_of_pos n (show 0 < (h.length : Int) by omega)
  have k0 := Int.emod_nonneg n (show (k : Int) ≠ 0 by omega)
  have k1 := Int.emod_lt_of_pos n (show 0 < (k : Int) by omega)
  have e : n % (k : Int) = (n % (h.length : Int)) % (k : Int) := by
    rw [Int.emod_emod_of_dvd n (Int.dvd_of_emod_eq_zero hdiv)]
  have hm := Int.emod_add_mul_ediv (n % (h.length : Int)) (k : Int)
  have q0 := Int.ediv_nonneg m0 (show (0 : Int) ≤ (k : Int) by omega)
  obtain ⟨r, hr⟩ : ∃ r : Nat, n % (k : Int) = r := ⟨(n % (k : Int)).toNat, by omega⟩
  obtain ⟨q, hq⟩ : ∃ q : Nat, n % (h.length : Int) / (k : Int) = q := ⟨(n % (h.length : Int) / (k : Int)).toNat, by omega⟩
  rw [← e, hr, hq] at hm
  have hN : (n % (h.length : Int)).toNat = r + k * q := by
    have : ((k * q : Nat) : Int) = (k : Int) * (q : Int) := Int.natCast_mul k q
    omega
  rw [hN, hr]
  have hrk : r < k := by omega
  have hlt : r + k * q < h.length := by omega
  simp only [Int.toNat_natCast]
  rw [List.getD_eq_getElem?_getD, List.getD_eq_getElem?_getD, List.getElem?_take, if_pos hrk, List.getElem?_eq_getElem hlt, List.getElem?_eq_getElem (show r < h.length by omega), rep_mod hk hd q r hlt]
/-- What the shortest length is. -/
theorem shortK_spec (h : List Int) : ∀ (m : Nat) (k : Int), 1 ≤ k → k + m = h.length → k ≤ shortK h m k ∧ shortK h m k ≤ h.length ∧ (shortK h m k = h.length ∨ repB h (shortK h m k) = true) ∧ ∀ j, k ≤ j → j < shortK h m k → repB h j = false
  | 0, k, h1, h2 => by
    unfold shortK
    exact ⟨Int.le_refl _, by omega, .inl (by omega), fun j h3 h4 => by omega⟩
  | m + 1, k, h1, h2 => by
    unfold shortK
    by_cases hr : repB h k = true
    · rw [if_pos hr]
      exact ⟨Int.le_refl _, by omega, .inr hr, fun j h3 h4 => by omega⟩
    · rw [if_neg hr]
      obtain ⟨p1, p2, p3, p4⟩ := shortK_spec h m (k + 1) (by omega) (by omega)
      refine ⟨by omega, p2, p3, fun j h3 h4 => ?_⟩
      by_cases e : j = k
      · subst e; simpa using hr
      · exact p4 j (by omega) h4

theorem rnd_add (h : List Int) (n k : Int) : rnd h (n + h.length * k) = rnd h n := by
  unfold rnd
  rw [Int.add_mul_emod_self_left]
/-- A cycle at the steps of a finer one. -/
theorem fine_val (h : List Int) {g e n w D s : Int} (hg : 0 < g) (he : 0 < e) (hn : n = e * h.length * w) : rnd h ((D * g + ((s / g) % n) * g) / (g * e)) = rnd h ((D * g + s) / (g * e)) := by
  have e1 : (D * g + ((s / g) % n) * g) / (g * e) = (D + (s / g) % n) / e := by
    rw [← Int.add_mul, Int.mul_comm g e, Int.mul_ediv_mul_of_pos_left _ _ hg]
  have e2 : (D * g + s) / (g * e) = (D + s / g) / e := by
    rw [← Int.ediv_ediv_of_nonneg (show 0 ≤ g by omega), Int.add_comm (D * g) s, Int.add_mul_ediv_right _ _ (by omega), Int.add_comm]
  have e3 : D + s / g = D + (s / g) % n + e * (h.length * w * (s / g / n)) := by
    have := Int.emod_add_mul_ediv (s / g) n
    generalize s / g / n = q at *
    have e4 : n * q = e * (h.length * w * q) := by rw [hn]; simp only [Int.mul_assoc]
    omega
  rw [e1, e2, e3, Int.add_mul_ediv_left _ _ (by omega), Int.mul_assoc, rnd_add]
theorem gcdI_dvd {g n : Int} (hg : 0 ≤ g) (hn : 0 ≤ n) : gcdI g n ∣ g ∧ gcdI g n ∣ n := by
  obtain ⟨a, rfl⟩ := Int.eq_ofNat_of_zero_le hg
  obtain ⟨b, rfl⟩ := Int.eq_ofNat_of_zero_le hn
  unfold gcdI
  simp only [Int.toNat_natCast]
  exact ⟨Int.natCast_dvd_natCast.2 (Nat.gcd_dvd_left a b), Int.natCast_dvd_natCast.2 (Nat.gcd_dvd_right a b)⟩
/-- What a cycle without its least height is. -/
theorem apF_eq (c : api_Cycle) (m : Int) : ∀ (l acc : List Int), (apF c m acc l).2.2 = 0 → apF c m acc l = (m, ⟨c.ID, c.Begin, c.Every, acc ++ l.map (· - m)⟩, 0) ∧ ∀ x ∈ l, x - m ≤ 4000
  | [], acc, h => by simp [apF]
  | x :: r, acc, h => by
    unfold apF at h ⊢
    by_cases hx : x - m ≤ 4000
    · rw [if_pos hx] at h ⊢
      obtain ⟨h1, h2⟩ := apF_eq c m r (acc ++ [x - m]) h
      refine ⟨by rw [h1]; simp, fun y hy => ?_⟩
      rcases List.mem_cons.1 hy with rfl | hy
      · exact hx
      · exact h2 y hy
    · rw [if_neg hx] at h
      cases h
theorem Good.goodB {c : api_Cycle} (g : Good c) : goodB c = true := by
  obtain ⟨b0, b1, e0, e1, l0, l1, i0, i1, hs⟩ := g
  unfold Mx.goodB headB
  simp only [tide_within, tide_minute, tide_level, Bool.and_eq_true, decide_eq_true_eq, List.all_eq_true]
  exact ⟨⟨⟨⟨⟨i0, i1⟩, b0, b1⟩, e0, e1⟩, by omega, by omega⟩, hs⟩
theorem apart_val {c : api_Cycle} (g : Good c) (h : (apartS c).2.2 = 0) (t : Int) : (apartS c).1 = leastS c ∧ Good (apartS c).2.1 ∧ val (apartS c).2.1 t + leastS c = val c t := by
  have hg := g.goodB
  unfold apartS at h ⊢
  rw [if_pos hg] at h ⊢
  obtain ⟨h1, h2⟩ := apF_eq c (leastS c) c.Heights [] h
  obtain ⟨m0, m1⟩ := least_b g
  rw [h1]
  simp only [List.nil_append]
  have g' := g
  obtain ⟨b0, b1, e0, e1, l0, l1, i0, i1, hs⟩ := g'
  refine ⟨trivial, ⟨b0, b1, e0, e1, by simpa using l0, by simpa using l1, i0, i1, fun y hy => ?_⟩, ?_⟩
  · obtain ⟨x, hx, rfl⟩ := List.mem_map.1 hy
    have := m1 x hx
    have := h2 x hx
    omega
  · unfold val
    simp only [List.length_map]
    have q0 := Int.emod_nonneg ((t - c.Begin) / c.Every) (show (c.Heights.length : Int) ≠ 0 by omega)
    have q1 := Int.emod_lt_of_pos ((t - c.Begin) / c.Every) (show 0 < (c.Heights.length : Int) by omega)
    have q2 : ((t - c.Begin) / c.Every % (c.Heights.length : Int)).toNat < c.Heights.length := by omega
    rw [List.getD_eq_getElem?_getD, List.getD_eq_getElem?_getD, List.getElem?_map, List.getElem?_eq_getElem q2]
    simp

/-- A list that goes round has a period. -/
def Per (h : List Int) (p : Int) : Prop := ∀ n, rnd h (n + p) = rnd h n
theorem Per.len (h : List Int) : Per h h.length := fun n => by have := rnd_add h n 1; rwa [Int.mul_one] at this
theorem Per.sub {h : List Int} {a b : Int} (ha : Per h a) (hb : Per h b) : Per h (a - b) := fun n => by
  rw [← hb (n + (a - b)), show n + (a - b) + b = n + a by omega]; exact ha n
theorem Per.mulNat {h : List Int} {a : Int} (ha : Per h a) : ∀ q : Nat, Per h (a * q)
  | 0, n => by simp
  | q + 1, n => by
    rw [show n + a * ((q + 1 : Nat) : Int) = (n + a * q) + a by rw [show ((q + 1 : Nat) : Int) = (q : Int) + 1 by omega, Int.mul_add]; omega, ha]
    exact ha.mulNat q n
theorem Per.gcd {h : List Int} (a b : Nat) : Per h a → Per h b → Per h (Nat.gcd a b : Nat) := by
  induction a, b using Nat.gcd.induction with
  | H0 n => intro _ hb; simpa using hb
  | H1 m n hm ih =>
    intro ha hb
    rw [Nat.gcd_rec]
    refine ih ?_ ha
    have e : ((n % m : Nat) : Int) = (n : Int) - (m : Int) * ((n / m : Nat) : Int) := by
      have := Nat.mod_add_div n m
      have h2 : ((m * (n / m) : Nat) : Int) = (m : Int) * ((n / m : Nat) : Int) := Int.natCast_mul _ _
      omega
    rw [e]
    exact hb.sub (ha.mulNat _)
theorem rnd_lt {h : List Int} {i : Nat} (hi : i < h.length) : rnd h i = h[i] := by
  unfold rnd
  rw [Int.emod_eq_of_lt (by omega) (by omega), Int.toNat_natCast, List.getD_eq_getElem?_getD, List.getElem?_eq_getElem hi]
  rfl
theorem rep_of {h : List Int} {j : Nat} (h0 : 0 < j) (h1 : j ≤ h.length) (hd : h.length % j = 0) (hp : Per h j) : repB h j = true := by
  unfold repB
  rw [Bool.and_eq_true]
  refine ⟨by rw [decide_eq_true_eq]; omega, ?_⟩
  rw [decide_eq_true_eq]
  simp only [Int.toNat_natCast]
  refine List.ext_getElem (by simp) fun i q1 q2 => ?_
  simp only [List.length_drop] at q1
  rw [List.getElem_drop, List.getElem_take, ← rnd_lt (show i < h.length by omega), ← hp i, show (i : Int) + j = ((j + i : Nat) : Int) by omega, rnd_lt]
theorem per_of {h : List Int} {j : Nat} (h0 : 0 < j) (h1 : j ≤ h.length) (hr : repB h j = true) : Per h j ∧ (h.length : Int) % j = 0 ∧ ∀ n, rnd (h.take j) n = rnd h n := by
  unfold repB at hr
  simp only [Bool.and_eq_true, decide_eq_true_eq, Int.toNat_natCast] at hr
  have ht := rnd_take h0 h1 hr.1 hr.2
  refine ⟨fun n => ?_, hr.1, ht⟩
  have hl : (h.take j).length = j := by simp; omega
  have := rnd_add (h.take j) n 1
  rw [hl, Int.mul_one] at this
  rw [← ht, ← ht, this]
/-- The shortest cycle: as long as its least period, and no shorter list goes round as it does. -/
structure ShortP (h h' : List Int) : Prop where
  l0 : 1 ≤ h'.length
  l1 : h'.length ≤ h.length
  dv : (h.length : Int) % h'.length = 0
  eq : ∀ n, rnd h' n = rnd h n
  min : ∀ j : Nat, 0 < j → j < h'.length → repB h' j = false
  sub : ∀ x ∈ h', x ∈ h
theorem short_p {h : List Int} (hl : 1 ≤ h.length) : ShortP h (h.take (shortK h (left (h.length - 1) 1) 1).toNat) := by
  obtain ⟨p1, p2, p3, p4⟩ := shortK_spec h (left (h.length - 1) 1) 1 (by omega) (by unfold left; omega)
  generalize shortK h (left (h.length - 1) 1) 1 = kk at *
  obtain ⟨k, rfl⟩ : ∃ k : Nat, kk = k := ⟨kk.toNat, by omega⟩
  simp only [Int.toNat_natCast]
  have hk : (h.take k).length = k := by simp; omega
  have main : (h.length : Int) % (k : Int) = 0 ∧ ∀ n, rnd (h.take k) n = rnd h n := by
    rcases p3 with e | hr
    · have e' : k = h.length := by omega
      subst e'
      rw [List.take_length]
      exact ⟨Int.emod_self, fun _ => rfl⟩
    · obtain ⟨_, q1, q2⟩ := per_of (by omega) (by omega) hr
      exact ⟨q1, q2⟩
  refine ⟨by rw [hk]; omega, by rw [hk]; omega, by rw [hk]; exact main.1, main.2, fun j j0 j1 => ?_, fun x hx => List.mem_of_mem_take hx⟩
  rw [hk] at j1
  have hf := p4 j (by omega) (by omega)
  cases hr : repB (h.take k) j with
  | false => rfl
  | true =>
    obtain ⟨q1, q2, _⟩ := per_of j0 (by rw [hk]; omega) hr
    rw [hk] at q2
    have : repB h j = true := by
      refine rep_of j0 (by omega) ?_ fun n => by rw [← main.2, ← main.2]; exact q1 n
      have d1 : (j : Int) ∣ (k : Int) := Int.dvd_of_emod_eq_zero q2
      have d2 : (k : Int) ∣ (h.length : Int) := Int.dvd_of_emod_eq_zero main.1
      have d3 := Int.emod_eq_zero_of_dvd (Int.dvd_trans d1 d2)
      omega
    rw [hf] at this
    cases this
/-- No shorter list goes round as a shortest one does. -/
theorem short_min {h' : List Int} (hmin : ∀ j : Nat, 0 < j → j < h'.length → repB h' j = false) {m : Nat} (h0 : 0 < m) (h1 : m < h'.length) (heq : ∀ n : Nat, n < m * h'.length → rnd (h'.take m) n = rnd h' n) : False := by
  have hm : (h'.take m).length = m := by simp; omega
  have hp : 0 < m * h'.length := Nat.mul_pos h0 (by omega)
  have hall : ∀ n : Int, rnd (h'.take m) n = rnd h' n := by
    intro n
    have r0 := Int.emod_nonneg n (show ((m * h'.length : Nat) : Int) ≠ 0 by omega)
    have r1 := Int.emod_lt_of_pos n (show 0 < ((m * h'.length : Nat) : Int) by omega)
    have hd := Int.emod_add_mul_ediv n ((m * h'.length : Nat) : Int)
    generalize n / ((m * h'.length : Nat) : Int) = q at *
    obtain ⟨r, hr⟩ : ∃ r : Nat, n % ((m * h'.length : Nat) : Int) = r := ⟨(n % ((m * h'.length : Nat) : Int)).toNat, by omega⟩
    rw [hr] at hd r1
    have e1 : n = r + ((h'.take m).length : Int) * (h'.length * q) := by rw [hm, ← hd, Int.natCast_mul, Int.mul_assoc]
    have e2 : n = r + (h'.length : Int) * (m * q) := by rw [← hd, Int.natCast_mul, Int.mul_comm (m : Int), Int.mul_assoc]
    have a1 : rnd (h'.take m) n = rnd (h'.take m) r := by rw [e1, rnd_add]
    have a2 : rnd h' n = rnd h' r := by rw [e2, rnd_add]
    rw [a1, a2]
    exact heq r (by omega)
  have pm : Per h' m := fun n => by
    have := rnd_add (h'.take m) n 1
    rw [hm, Int.mul_one] at this
    rw [← hall, ← hall, this]
  have pg := Per.gcd m h'.length pm (Per.len h')
  have g0 := Nat.gcd_pos_of_pos_left h'.length h0
  have g1 := Nat.gcd_le_left h'.length h0
  have hr := rep_of (h := h') (j := Nat.gcd m h'.length) g0 (by omega) (Nat.mod_eq_zero_of_dvd (Nat.gcd_dvd_right _ _)) pg
  rw [hmin _ g0 (by omega)] at hr
  cases hr
end Go.Mx

set_option linter.unusedVariables false
namespace Go.Mx
def tv (a b : api_Cycle) (g k : Int) : Int := val a (a.Begin + k * g) + val b (a.Begin + k * g)
theorem togS_get (a b : api_Cycle) (g : Int) : ∀ (n : Nat) (k : Int) (l r : List Int), togS a b g n k l = some r → (∀ i, i < l.length → r[i]? = l[i]?) ∧ ∀ i : Nat, i < n → r[l.length + i]? = some (tv a b g (k + i)) ∧ -4000 ≤ tv a b g (k + i) ∧ tv a b g (k + i) ≤ 4000
  | 0, k, l, r, h => by
    unfold togS at h
    cases h
    exact ⟨fun _ _ => rfl, fun i hi => by omega⟩
  | n + 1, k, l, r, h => by
    unfold togS at h
    split at h
    · rename_i hb
      obtain ⟨h1, h2⟩ := togS_get a b g n (k + 1) _ r h
      simp only [List.length_append, List.length_cons, List.length_nil] at h1 h2
      refine ⟨fun i hi => ?_, fun i hi => ?_⟩
      · rw [h1 i (by omega), List.getElem?_append_left hi]
      · cases i with
        | zero =>
          have := h1 l.length (by omega)
          rw [List.getElem?_append_right (Nat.le_refl _), Nat.sub_self] at this
          refine ⟨?_, ?_⟩
          · rw [Nat.add_zero, this]
            simp [tv]
          · simpa [tv] using hb
        | succ i =>
          have := h2 i (by omega)
          rw [show l.length + (i + 1) = l.length + (0 + 1) + i by omega, show k + ((i + 1 : Nat) : Int) = k + 1 + i by omega]
          exact this
    · cases h
theorem tog_val {a b : api_Cycle} (h : (togetherS a b).2 = 0) (ha : Len a.Heights) (hb : Len b.Heights) : Good (togetherS a b).1 ∧ ∀ t, val (togetherS a b).1 t = val a t + val b t := by
  unfold togetherS at h ⊢
  by_cases hg : goodB a = true ∧ goodB b = true
  · rw [if_pos hg] at h ⊢
    have GA := goodB_Good ha hg.1
    have GB := goodB_Good hb hg.2
    have P := tog_p GA GB
    by_cases hn : 60 < allS a b
    · rw [if_pos hn] at h; cases h
    · rw [if_neg hn] at h ⊢
      cases ht : togS a b (divS a b) (left (allS a b - 1) 0) 0 [] with
      | none => rw [ht] at h; simp [togO] at h
      | some l =>
        have hlen := togS_len _ _ _ _ _ _ _ ht
        obtain ⟨_, hget⟩ := togS_get _ _ _ _ _ _ _ ht
        simp only [List.length_nil, Nat.zero_add, Int.zero_add] at hlen hget
        simp only [togO]
        have GA' := GA
        have GB' := GB
        obtain ⟨a0, a1, a2, a3, a4, a5, a6, a7, a8⟩ := GA'
        obtain ⟨b0, b1, b2, b3, b4, b5, b6, b7, b8⟩ := GB'
        obtain ⟨x0, x1, y0, y1, d0, d1, c0, q0, q1, r0, r1, n0, n1⟩ := P
        have g1 := gcdI_le (g := a.Every) (n := b.Every) (by omega) (by omega)
        obtain ⟨v1, v2⟩ := gcdI_dvd (g := gcdI a.Every b.Every) (n := max (a.Begin - b.Begin) (b.Begin - a.Begin)) g1.1 (by omega)
        obtain ⟨v3, v4⟩ := gcdI_dvd (g := a.Every) (n := b.Every) (by omega) (by omega)
        obtain ⟨v5, v6⟩ := gcdI_dvd (g := a.Every * a.Heights.length) (n := b.Every * b.Heights.length) (by omega) (by omega)
        obtain ⟨e, he⟩ := Int.dvd_trans v1 v3
        obtain ⟨f, hf⟩ := Int.dvd_trans v1 v4
        rw [show gcdI (gcdI a.Every b.Every) (max (a.Begin - b.Begin) (b.Begin - a.Begin)) = divS a b from rfl] at he hf v2
        have hD : ∃ D, a.Begin - b.Begin = D * divS a b := by
          obtain ⟨D, hD⟩ := v2
          rcases Int.le_total b.Begin a.Begin with hh | hh
          · exact ⟨D, by rw [Int.mul_comm]; omega⟩
          · exact ⟨-D, by rw [Int.neg_mul, Int.mul_comm]; omega⟩
        obtain ⟨D, hD⟩ := hD
        have hall : allS a b = (a.Every * a.Heights.length) / gcdI (a.Every * a.Heights.length) (b.Every * b.Heights.length) * (b.Every * b.Heights.length) / divS a b := rfl
        generalize hgc : gcdI (a.Every * a.Heights.length) (b.Every * b.Heights.length) = gc at *
        obtain ⟨u, hu⟩ := v5
        obtain ⟨v, hv⟩ := v6
        have hu2 : (a.Every * a.Heights.length) / gc = u := by rw [hu]; exact Int.mul_ediv_cancel_left _ (by omega)
        rw [hu2] at hall q0 r0
        generalize hgd : divS a b = g at *
        generalize hnn : allS a b = n at *
        have n2 : n = f * b.Heights.length * u := by
          rw [hall, hf, show u * (g * f * (b.Heights.length : Int)) = g * (f * b.Heights.length * u) by
            rw [Int.mul_comm u]; simp only [Int.mul_assoc]]
          exact Int.mul_ediv_cancel_left _ (by omega)
        have n3 : n = e * a.Heights.length * v := by
          rw [hall, hv, show u * (gc * v) = g * (e * a.Heights.length * v) by
            rw [← Int.mul_assoc, Int.mul_comm u gc, ← hu, he]; simp only [Int.mul_assoc]]
          exact Int.mul_ediv_cancel_left _ (by omega)
        have e0 : 0 < e := by
          rcases Int.lt_or_le 0 e with hh | hh
          · exact hh
          · have := Int.mul_nonpos_of_nonneg_of_nonpos (show 0 ≤ g by omega) hh; omega
        have f0 : 0 < f := by
          rcases Int.lt_or_le 0 f with hh | hh
          · exact hh
          · have := Int.mul_nonpos_of_nonneg_of_nonpos (show 0 ≤ g by omega) hh; omega
        have u0 : 0 < u := by
          rcases Int.lt_or_le 0 u with hh | hh
          · exact hh
          · have := Int.mul_nonpos_of_nonneg_of_nonpos (show 0 ≤ gc by omega) hh; omega
        have n4 : 0 < n := by
          rw [n2]
          exact Int.mul_pos (Int.mul_pos f0 (by omega)) u0
        have hl2 : (l.length : Int) = n := by unfold left at hlen; omega
        refine ⟨⟨a0, a1, d0, d1, by simp only; omega, by simp only; omega, a6, a7, fun x hx => ?_⟩, fun t => ?_⟩
        · obtain ⟨i, hi, rfl⟩ := List.getElem_of_mem (show x ∈ l from hx)
          obtain ⟨q, r⟩ := hget i (by omega)
          rw [List.getElem?_eq_getElem hi, Option.some.injEq] at q
          omega
        · rw [val_rnd]
          simp only
          unfold rnd
          rw [hl2]
          have k0 := Int.emod_nonneg ((t - a.Begin) / g) (show n ≠ 0 by omega)
          have k1 := Int.emod_lt_of_pos ((t - a.Begin) / g) n4
          obtain ⟨q, _⟩ := hget (((t - a.Begin) / g) % n).toNat (by omega)
          rw [List.getD_eq_getElem?_getD, q, Option.getD_some, show (((((t - a.Begin) / g) % n).toNat : Nat) : Int) = ((t - a.Begin) / g) % n by omega]
          unfold tv
          congr 1
          · rw [val_rnd, val_rnd, he]
            have := fine_val a.Heights (D := 0) (s := t - a.Begin) (w := v) (n := n) (show 0 < g by omega) e0 n3
            simp only [Int.zero_mul, Int.zero_add] at this
            rw [← this]
            congr 2
            omega
          · rw [val_rnd, val_rnd, hf]
            have := fine_val b.Heights (D := D) (s := t - a.Begin) (w := u) (n := n) (show 0 < g by omega) f0 n2
            rw [show t - b.Begin = D * g + (t - a.Begin) by omega, ← this]
            congr 2
            omega
  · rw [if_neg hg] at h; cases h
theorem hold_j1 {a b : api_Cycle} {tick : Int} (ha : Len a.Heights) (hb : Len b.Heights) (hv : (valueS a tick).2 = 0) : law02_TideCyclesHold_j1 a b tick (valueS a tick) (valueS b tick) true = some true := by
  have hg : goodB a = true ∧ 0 ≤ tick ∧ tick ≤ 1048576 := by
    unfold valueS at hv
    split at hv
    · assumption
    · cases hv
  have GA := goodB_Good ha hg.1
  have ev : valueS a tick = (val a tick, 0) := by unfold valueS; rw [if_pos hg]
  have va := val_bound GA tick
  have okv : ∀ c, Good c → valueS c tick = (val c tick, 0) := fun c g => by unfold valueS; rw [if_pos ⟨g.goodB, hg.2⟩]
  have t3 : Len (apartS a).2.1.Heights := by
    unfold apartS Len
    split
    · have := apF_len a (leastS a) a.Heights []
      have := GA.l1
      simp only [List.length_nil] at *
      omega
    · simp
  have t2 : Len (togetherS a b).1.Heights := by
    by_cases h : (togetherS a b).2 = 0
    · have := (tog_val h ha hb).1.l1
      unfold Len; omega
    · unfold togetherS at h ⊢
      split
      · rename_i hh
        rw [if_pos hh] at h
        split
        · unfold Len; simp
        · rename_i h60
          rw [if_neg h60] at h
          cases ht : togS a b (divS a b) (left (allS a b - 1) 0) 0 [] with
          | none => unfold Len; simp [togO]
          | some l => rw [ht] at h; simp [togO] at h
      · unfold Len; simp
  unfold law02_TideCyclesHold_j1
  rw [Apart_eq a ha, Option.bind_some, Value_eq _ t3, Option.bind_some, if_neg]
  · rw [Together_eq a b ha hb, Option.bind_some, Value_eq _ t2, sanity_true]
    simp only [Option.bind_some, Bool.true_and, Option.some.injEq]
    by_cases hb0 : (valueS b tick).2 = 0
    · by_cases ht0 : (togetherS a b).2 = 0
      · obtain ⟨gd, hd⟩ := tog_val ht0 ha hb
        have hgb : goodB b = true := by
          unfold valueS at hb0
          split at hb0
          · rename_i q; exact q.1
          · cases hb0
        have GB := goodB_Good hb hgb
        have vb := val_bound GB tick
        rw [okv _ gd, ev, okv b GB, hd, w64_id (by omega) (by omega)]
        simp
      · simp [ht0]
    · simp [hb0]
  · by_cases h0 : (apartS a).2.2 = 0
    · obtain ⟨p1, p2, p3⟩ := apart_val GA h0 tick
      have vc := val_bound p2 tick
      obtain ⟨m0, m1⟩ := least_b GA
      rw [okv _ p2, ev, p1, h0]
      have e : w64 (val (apartS a).2.1 tick + leastS a) = val a tick := by rw [p3]; exact w64_id (by omega) (by omega)
      simp [e]
    · simp [h0]
theorem holds_TideCyclesHold {a b : api_Cycle} {tick k : Int} (h0 : ok_api_Cycle a) (h1 : ok_api_Cycle b) (h2 : OkI .i64 tick) (h3 : OkI .u8 k) : law02_TideCyclesHold a b tick k = some true := by
  have ha : Len a.Heights := h0.2.2.2.1.1
  have hb : Len b.Heights := h1.2.2.2.1.1
  have hk := h3.u8
  unfold law02_TideCyclesHold
  split
  · rw [sanity_true]; rfl
  · rw [Value_eq a ha, Value_eq b hb, Option.bind_some, Option.bind_some]
    by_cases hv : (valueS a tick).2 = 0
    · rw [if_neg (by simp [hv])]
      have hg : goodB a = true ∧ 0 ≤ tick ∧ tick ≤ 1048576 := by
        unfold valueS at hv
        split at hv
        · assumption
        · cases hv
      have GA := goodB_Good ha hg.1
      have l0 := GA.l0
      have l1 := GA.l1
      have sp := short_p (h := a.Heights) l0
      have es : shortestS a = (⟨a.ID, a.Begin, a.Every, a.Heights.take (shortK a.Heights (left (a.Heights.length - 1) 1) 1).toNat⟩, 0) := by unfold shortestS; rw [if_pos hg.1]; rfl
      generalize a.Heights.take (shortK a.Heights (left (a.Heights.length - 1) 1) 1).toNat = h' at *
      obtain ⟨s0, s1, sd, se, sm, ss⟩ := sp
      have GC : Good ⟨a.ID, a.Begin, a.Every, h'⟩ := ⟨GA.b0, GA.b1, GA.e0, GA.e1, s0, by simp only; omega, GA.i0, GA.i1, fun x hx => GA.hs x (ss x hx)⟩
      have hc : Len h' := by unfold Len; omega
      have e5 : valueS ⟨a.ID, a.Begin, a.Every, h'⟩ tick = valueS a tick := by
        unfold valueS
        rw [if_pos ⟨GC.goodB, hg.2⟩, if_pos hg, val_rnd, val_rnd]
        simp only
        rw [se]
      have e6 : shortestS ⟨a.ID, a.Begin, a.Every, h'⟩ = (⟨a.ID, a.Begin, a.Every, h'⟩, 0) := by
        unfold shortestS
        rw [if_pos GC.goodB]
        simp only
        obtain ⟨p1, p2, p3, p4⟩ := shortK_spec h' (left (h'.length - 1) 1) 1 (by omega) (by unfold left; omega)
        generalize shortK h' (left (h'.length - 1) 1) 1 = kk at *
        have ek : kk = h'.length := by
          rcases p3 with e | hr
          · exact e
          · obtain ⟨j, rfl⟩ : ∃ j : Nat, kk = j := ⟨kk.toNat, by omega⟩
            rcases Nat.lt_or_ge j h'.length with hj | hj
            · rw [sm j (by omega) hj] at hr; cases hr
            · omega
        subst ek
        unfold shortR
        simp
      rw [Shortest_eq a ha, es, Option.bind_some]
      simp only
      rw [Value_eq _ hc, e5, Option.bind_some, Shortest_eq _ hc, e6, Option.bind_some]
      simp only [hv, decide_true, Bool.not_true, Bool.or_self, Bool.not_false, gb, if_true]
      rw [SameCycle_self _ hc]
      have z0 : decide ((h'.length : Int) = 0) = false := by simp; intro h; rw [h] at s0; simp at s0
      have er : rem (a.Heights.length : Int) (h'.length : Int) = some 0 := by
        unfold rem; rw [if_neg (by omega), Int.tmod_eq_emod_of_nonneg (by omega), sd]
      simp only [Option.bind_some, Bool.not_true, Bool.or_self, z0, Bool.not_false, if_true, er, decide_true, Bool.false_eq_true, if_false]
      have er2 : rem (w64 k) (h'.length : Int) = some (k % h'.length) := by
        rw [w64_id (n := k) (by omega) (by omega)]
        unfold rem; rw [if_neg (by omega), Int.tmod_eq_emod_of_nonneg hk.1]
      have m0 := Int.emod_nonneg k (show (h'.length : Int) ≠ 0 by omega)
      have m1 := Int.emod_lt_of_pos k (show 0 < (h'.length : Int) by omega)
      rw [er2, Option.bind_some]
      generalize k % (h'.length : Int) = q at *
      obtain ⟨m, hm⟩ : ∃ m : Nat, 1 + q = m := ⟨(1 + q).toNat, by omega⟩
      rw [w64_id (n := 1 + q) (by omega) (by omega), hm, sub_pre (by omega), Option.bind_some]
      have hml : (h'.take m).length = m := by simp; omega
      have hmul : m * h'.length ≤ 60 * 60 := Nat.mul_le_mul (by omega) (by omega)
      have hmi : ((m * h'.length : Nat) : Int) = (m : Int) * (h'.length : Int) := Int.natCast_mul _ _
      rw [hml]
      suffices h : ∃ r, Lp (law02_TideCyclesHold_b2 a b tick (valueS a tick) (valueS b tick) (⟨a.ID, a.Begin, a.Every, h'⟩, 0) (h'.take m)) fuel (decide ((m : Int) = (h'.length : Int)), 0) = some r ∧ r = true by obtain ⟨r, h, rfl⟩ := h; exact h
      refine lp_inv' (fun (i : Nat) (s : Bool × Int) => s.2 = (i : Int) ∧ (s.1 = true ∨ (m < h'.length ∧ ∀ n : Nat, n < i → rnd (h'.take m) n = rnd h' n))) _ (m * h'.length) (by omega) ⟨rfl, ?_⟩ fun i s hi hI => ?_
      · rcases Nat.lt_or_ge m h'.length with hh | hh
        · exact .inr ⟨hh, fun n hn => by omega⟩
        · left; simp only [decide_eq_true_eq]; omega
      · obtain ⟨d, i'⟩ := s
        simp only at hI
        obtain ⟨rfl, hI⟩ := hI
        unfold law02_TideCyclesHold_b2
        simp only
        rw [hml, w64_id (n := (m : Int) * (h'.length : Int)) (by omega) (by omega)]
        by_cases h : i < m * h'.length
        · left
          have hx1 : rem (i : Int) (m : Int) = some ((i : Int) % m) := by unfold rem; rw [if_neg (by omega), Int.tmod_eq_emod_of_nonneg (by omega)]
          have hx2 : rem (i : Int) (h'.length : Int) = some ((i : Int) % h'.length) := by unfold rem; rw [if_neg (by omega), Int.tmod_eq_emod_of_nonneg (by omega)]
          have ixr : ∀ (L : List Int), 0 < L.length → ix L ((i : Int) % (L.length : Int)) = some (rnd L i) := by
            intro L hL
            have r0 := Int.emod_nonneg (i : Int) (show (L.length : Int) ≠ 0 by omega)
            have r1 := Int.emod_lt_of_pos (i : Int) (show 0 < (L.length : Int) by omega)
            unfold ix rnd
            rw [if_pos r0, List.getElem?_eq_getElem (by omega), List.getD_eq_getElem?_getD, List.getElem?_eq_getElem (by omega)]
            rfl
          have i1 := ixr (h'.take m) (by omega)
          rw [hml] at i1
          have i2 := ixr h' (by omega)
          refine ⟨h, ?_⟩
          rw [if_pos (by rw [decide_eq_true_eq]; omega), w64_id (n := (i : Int) + 1) (by omega) (by omega)]
          cases d with
          | true =>
            simp only [gb, Bool.not_true, Bool.false_eq_true, if_false, Option.bind_some, Bool.true_or]
            exact ⟨_, rfl, by simp only; omega, .inl rfl⟩
          | false =>
            simp only [gb, Bool.not_false, if_true, hx1, hx2, i1, i2, Option.bind_some, Bool.false_or]
            refine ⟨_, rfl, by simp only; omega, ?_⟩
            by_cases e : rnd (h'.take m) i = rnd h' i
            · right
              rcases hI with hI | ⟨q1, q2⟩
              · cases hI
              · refine ⟨q1, fun n hn => ?_⟩
                by_cases en : n = i
                · subst en; exact e
                · exact q2 n (by omega)
            · left; simp [e]
        · right
          rw [if_neg (by rw [decide_eq_true_eq]; omega)]
          have hd : d = true := by
            rcases hI with hI | ⟨q1, q2⟩
            · exact hI
            · exact (short_min sm (by omega) q1 fun n hn => q2 n (by omega)).elim
          subst hd
          rw [hold_j1 ha hb hv]
          exact ⟨true, rfl, rfl⟩
    · rw [if_pos (by simp [hv]), sanity_true]; rfl
end Go.Mx
