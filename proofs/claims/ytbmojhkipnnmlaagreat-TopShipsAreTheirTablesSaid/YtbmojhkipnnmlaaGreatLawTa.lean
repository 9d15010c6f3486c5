/- Plain laws, top: curves at whole scores, and over spans. Conditions: none. -/
import Derived.Test.YtbmojhkipnnmlaaGreatLawHr
import Derived.Test.YtbmojhkipnnmlaaGreatLawHn
set_option linter.unusedVariables false
set_option linter.unusedSimpArgs false
namespace Go.Mx
theorem gcd_loop {ρ : Type} {body : Int × Int → Option ((Int × Int) ⊕ ρ)} (n den : Int) (P : ρ → Prop) (hn : 0 ≤ n) (hd : 1 ≤ den ∧ den ≤ 4611686018427387904)
  (step : ∀ a b, 0 ≤ a → 0 < b → body (a, b) = some (.inl (b, a % b)))
  (last : ∀ a, 1 ≤ a → (∀ d, d ∣ a ↔ d ∣ n ∧ d ∣ den) → ∃ r, body (a, 0) = some (.inr r) ∧ P r) : ∃ r, Lp body fuel (n, den) = some r ∧ P r := by
 refine lp_inv' (fun i (st : Int × Int) => 0 ≤ st.1 ∧ 0 ≤ st.2 ∧ st.2 + (i : Int) ≤ den ∧ (0 < st.1 ∨ 0 < st.2) ∧ ∀ d, (d ∣ st.1 ∧ d ∣ st.2) ↔ (d ∣ n ∧ d ∣ den)) _ den.toNat (by omega) ⟨hn, by simp only; omega, by simp, .inr (by simp only; omega), fun d => Iff.rfl⟩ fun i st hi hI => ?_
 obtain ⟨a, b⟩ := st
 obtain ⟨q1, q2, q3, q4, q5⟩ := hI
 simp only at q1 q2 q3 q4 q5
 by_cases hb : 0 < b
 ·have m0 := Int.emod_nonneg a (show b ≠ 0 by omega)
  have m1 := Int.emod_lt_of_pos a hb
  refine .inl ⟨by omega, _, step a b q1 hb, by simp only; omega, by simp only; omega, by simp only; omega, .inl (by simp only; omega), fun d => ?_⟩
  rw [← q5 d]
  simp only
  constructor
  ·rintro ⟨h1, h2⟩
   refine ⟨?_, h1⟩
   rw [← Int.emod_add_mul_ediv a b]
   exact Int.dvd_add h2 (Int.dvd_trans h1 (Int.dvd_mul_right b (a / b)))
  ·rintro ⟨h1, h2⟩
   refine ⟨h2, ?_⟩
   rw [Int.emod_def]
   exact Int.dvd_sub h1 (Int.dvd_trans h2 (Int.dvd_mul_right b (a / b)))
 ·have hb0 : b = 0 := by omega
  subst hb0
  obtain ⟨r, h1, h2⟩ := last a (by omega) fun d => by rw [← q5 d]; exact ⟨fun h => ⟨h, Int.dvd_zero d⟩, fun h => h.1⟩
  exact .inr ⟨r, h1, h2⟩
structure IsLow (num den : Int) (f : api_Frac) : Prop where
 ex : ∃ g, 1 ≤ g ∧ num = g * f.Num ∧ den = g * f.Den
 co : ∀ d, d ∣ f.Num → d ∣ f.Den → d ∣ 1
theorem IsLow.den {num den : Int} {f : api_Frac} (h : IsLow num den f) (hd : 1 ≤ den) : 1 ≤ f.Den := by
 obtain ⟨g, g1, _, e⟩ := h.ex
 rcases Int.lt_or_le 0 f.Den with q | q
 ·omega
 ·have : g * f.Den ≤ g * 0 := Int.mul_le_mul_of_nonneg_left q (by omega)
  omega
theorem quo_exact {n k a : Int} (ha : 1 ≤ a) (e : n = a * k) (n1 : -4611686018427387904 ≤ n) (n2 : n ≤ 4611686018427387904) : quo n a = some k := by
 unfold quo
 rw [if_neg (by omega), e, Int.mul_tdiv_cancel_left _ (by omega)]
 have : -4611686018427387904 ≤ k ∧ k ≤ 4611686018427387904 := by
  rcases Int.le_total 0 k with h | h
  ·have : 1 * k ≤ a * k := Int.mul_le_mul_of_nonneg_right ha h
   omega
  ·have : a * k ≤ 1 * k := Int.mul_le_mul_of_nonpos_right ha h
   omega
 rw [w64_u this]
theorem isLow_of {num den n a : Int} (hs : n = num ∨ n = -num) (ha : 1 ≤ a) (h : ∀ d, d ∣ a ↔ d ∣ n ∧ d ∣ den) (n1 : -4611686018427387904 ≤ num ∧ num ≤ 4611686018427387904) (d1 : 1 ≤ den ∧ den ≤ 4611686018427387904) : ∃ f : api_Frac, quo num a = some f.Num ∧ quo den a = some f.Den ∧ IsLow num den f := by
 have hs' : ∀ d, d ∣ n ↔ d ∣ num := fun d => by
  rcases hs with rfl | rfl
  ·exact Iff.rfl
  ·exact Int.dvd_neg
 obtain ⟨h1, ⟨k2, e2⟩⟩ := (h a).1 (Int.dvd_refl a)
 obtain ⟨k1, e1⟩ := (hs' a).1 h1
 refine ⟨⟨k1, k2⟩, quo_exact ha e1 n1.1 n1.2, quo_exact ha e2 (by omega) d1.2, ⟨a, ha, e1, e2⟩, fun d q1 q2 => ?_⟩
 obtain ⟨r1, f1⟩ := q1
 obtain ⟨r2, f2⟩ := q2
 simp only at f1 f2
 have : a * d ∣ a := (h (a * d)).2 ⟨(hs' _).2 ⟨r1, by rw [e1, f1, Int.mul_assoc]⟩, ⟨r2, by rw [e2, f2, Int.mul_assoc]⟩⟩
 obtain ⟨r, e⟩ := this
 refine ⟨r, ?_⟩
 rw [Int.mul_assoc] at e
 exact Int.eq_of_mul_eq_mul_left (show a ≠ 0 by omega) (by rw [Int.mul_one]; exact e)
theorem abs_cases (n : Int) : max n (0 - n) = n ∨ max n (0 - n) = -n := by omega
theorem low_is {num den : Int} (hn : -4611686018427387904 ≤ num ∧ num ≤ 4611686018427387904) (hd : 1 ≤ den ∧ den ≤ 4611686018427387904) : ∃ f, hull_low num den = some f ∧ IsLow num den f := by
 unfold hull_low
 rw [greater_max, w64_u (a := 0 - num) (by omega)]
 refine gcd_loop _ den _ (by omega) hd (fun a b h1 h2 => ?_) (fun a h1 h2 => ?_)
 ·unfold hull_low_b2
  have e : rem a b = some (a % b) := by unfold rem; rw [if_neg (by omega), Int.tmod_eq_emod_of_nonneg h1]
  simp only
  rw [if_pos (by simpa using h2), e]; rfl
 ·obtain ⟨f, f1, f2, f3⟩ := isLow_of (abs_cases num) h1 h2 hn hd
  refine ⟨f, ?_, f3⟩
  unfold hull_low_b2 hull_low_j1
  simp only
  rw [if_neg (by simp), f1, Option.bind_some, f2]; rfl
theorem frac_is {num den : Int} (hn : -4611686018427387904 ≤ num ∧ num ≤ 4611686018427387904) (hd : 1 ≤ den ∧ den ≤ 4611686018427387904) : ∃ f, curve_frac num den = some f ∧ IsLow num den f := by
 have hc : ∃ a, curve_common (max num (0 - num)) den = some a ∧ 1 ≤ a ∧ ∀ d, d ∣ a ↔ d ∣ max num (0 - num) ∧ d ∣ den := by
  unfold curve_common
  refine gcd_loop _ den _ (by omega) hd (fun a b h1 h2 => ?_) (fun a h1 h2 => ⟨a, ?_, h1, h2⟩)
  ·unfold curve_common_b2
   have e : rem a b = some (a % b) := by unfold rem; rw [if_neg (by omega), Int.tmod_eq_emod_of_nonneg h1]
   simp only
   rw [if_pos (by simp; omega), e]; rfl
  ·unfold curve_common_b2
   simp only
   rw [if_neg (by simp)]; rfl
 obtain ⟨a, c1, c2, c3⟩ := hc
 obtain ⟨f, f1, f2, f3⟩ := isLow_of (abs_cases num) c2 c3 hn hd
 refine ⟨f, ?_, f3⟩
 unfold curve_frac curve_frac_j1 curve_size
 rw [if_neg (by simp; omega), w64_u (a := 0 - num) (by omega), c1, Option.bind_some, f1, Option.bind_some, f2]; rfl
theorem co_nat {f : api_Frac} (co : ∀ d, d ∣ f.Num → d ∣ f.Den → d ∣ 1) : Nat.Coprime f.Den.natAbs f.Num.natAbs := by
 have h := co (Nat.gcd f.Den.natAbs f.Num.natAbs : Nat) (Int.ofNat_dvd_left.2 (Nat.gcd_dvd_right _ _)) (Int.ofNat_dvd_left.2 (Nat.gcd_dvd_left _ _))
 have := Int.ofNat_dvd_left.1 h
 exact Nat.dvd_one.1 this
theorem IsLow.uniq {n d n' d' : Int} {f f' : api_Frac} (h : IsLow n d f) (h' : IsLow n' d' f') (hd : 1 ≤ d) (hd' : 1 ≤ d') (e : n * d' = n' * d) : f = f' := by
 have p1 := h.den hd
 have p2 := h'.den hd'
 obtain ⟨g, g1, e1, e2⟩ := h.ex
 obtain ⟨g', g1', e3, e4⟩ := h'.ex
 have hx : f.Num * f'.Den = f'.Num * f.Den := by
  have : g * g' ≠ 0 := Int.mul_ne_zero (by omega) (by omega)
  refine Int.eq_of_mul_eq_mul_left this ?_
  rw [e1, e2, e3, e4] at e
  rw [show g * g' * (f.Num * f'.Den) = g * f.Num * (g' * f'.Den) by ac_rfl, e]
  ac_rfl
 have d1 : f.Den ∣ f'.Den := by
  rw [← Int.natAbs_dvd_natAbs]
  refine (co_nat h.co).dvd_of_dvd_mul_left (n := f'.Den.natAbs) ?_
  rw [← Int.natAbs_mul, Int.natAbs_dvd_natAbs, hx]
  exact Int.dvd_mul_left _ _
 have d2 : f'.Den ∣ f.Den := by
  rw [← Int.natAbs_dvd_natAbs]
  refine (co_nat h'.co).dvd_of_dvd_mul_left (n := f.Den.natAbs) ?_
  rw [← Int.natAbs_mul, Int.natAbs_dvd_natAbs, ← hx]
  exact Int.dvd_mul_left _ _
 have ed : f.Den = f'.Den := Int.le_antisymm (Int.le_of_dvd (by omega) d1) (Int.le_of_dvd (by omega) d2)
 have en : f.Num = f'.Num := Int.eq_of_mul_eq_mul_right (show f'.Den ≠ 0 by omega) (by rw [hx, ed])
 cases f
 cases f'
 simp only at ed en
 rw [ed, en]
abbrev kX (c : api_Curve) (i : Nat) : Int := (gK c.Knots i).X
abbrev kY (c : api_Curve) (i : Nat) : Int := (gK c.Knots i).Y
abbrev kR (c : api_Curve) (k : Nat) : Int := (kX c k - kX c (k - 1)) * 40
def kL (c : api_Curve) (k : Nat) (m : Int) : Int := kY c (k - 1) * kR c k + (kY c k - kY c (k - 1)) * (m - kX c (k - 1) * 40)
structure Pc (c : api_Curve) (k : Nat) (m : Int) : Prop where
 k0 : 1 ≤ k
 k1 : k < c.Knots.length
 lo : kX c (k - 1) * 40 ≤ m
 hi : m ≤ kX c k * 40
def OnC (c : api_Curve) (m n d : Int) : Prop := (c.Knots.length = 1 ∧ n = kY c 0 * d) ∨ ∃ k, Pc c k m ∧ n * kR c k = d * kL c k m
theorem Cov.mono {s : api_Ship} {c : api_Curve} (h : Cov s c) : ∀ {i j : Nat}, i < j → j < c.Knots.length → kX c i < kX c j
 | i, j + 1, hij, hj => by
  have := h.up j hj
  by_cases e : i = j
  ·subst e; exact this
  ·exact Int.lt_trans (Cov.mono h (show i < j by omega) (by omega)) this
theorem Cov.mono' {s : api_Ship} {c : api_Curve} (h : Cov s c) {i j : Nat} (hij : i ≤ j) (hj : j < c.Knots.length) : kX c i ≤ kX c j := by
 by_cases e : i = j
 ·subst e; exact Int.le_refl _
 ·exact Int.le_of_lt (h.mono (by omega) hj)
theorem Cov.R {s : api_Ship} {c : api_Curve} (h : Cov s c) {k : Nat} (k0 : 1 ≤ k) (k1 : k < c.Knots.length) : 1 ≤ kR c k ∧ kR c k ≤ 80000 := by
 have := h.mono (show k - 1 < k by omega) k1
 have h1 := h.xy k k1
 have h2 := h.xy (k - 1) (by omega)
 unfold kR kX at *
 omega
theorem kL_lo (c : api_Curve) (k : Nat) : kL c k (kX c (k - 1) * 40) = kY c (k - 1) * kR c k := by
 unfold kL
 rw [Int.sub_self, Int.mul_zero, Int.add_zero]
theorem kL_hi (c : api_Curve) (k : Nat) : kL c k (kX c k * 40) = kY c k * kR c k := by
 unfold kL
 rw [show kX c k * 40 - kX c (k - 1) * 40 = kR c k by unfold kR; omega, ← Int.add_mul, show kY c (k - 1) + (kY c k - kY c (k - 1)) = kY c k by omega]
theorem pc_agree {s : api_Ship} {c : api_Curve} (h : Cov s c) {k k' : Nat} {m : Int} (p : Pc c k m) (p' : Pc c k' m) : kL c k m * kR c k' = kL c k' m * kR c k := by
 have key : ∀ {k k' : Nat}, Pc c k m → Pc c k' m → k < k' → kL c k m * kR c k' = kL c k' m * kR c k := fun {k k'} p p' hlt => by
  have h1 := h.mono' (show k ≤ k' - 1 by omega) (by have := p'.k1; omega)
  have h2 := p.hi
  have h3 := p'.lo
  have e : k = k' - 1 := by
   by_cases e : k = k' - 1
   ·exact e
   ·have := h.mono (show k < k' - 1 by omega) (by have := p'.k1; omega)
    omega
  have em : m = kX c k * 40 := by omega
  have e1 : kL c k m = kY c k * kR c k := by rw [em]; exact kL_hi c k
  have e2 : kL c k' m = kY c k * kR c k' := by
   have := kL_lo c k'
   rw [← e, ← em] at this; exact this
  rw [e1, e2]; ac_rfl
 rcases Nat.lt_trichotomy k k' with q | q | q
 ·exact key p p' q
 ·subst q; rfl
 ·exact (key p' p q).symm
theorem OnC.any {s : api_Ship} {c : api_Curve} (h : Cov s c) {m n d : Int} (o : OnC c m n d) {k : Nat} (p : Pc c k m) : n * kR c k = d * kL c k m := by
 rcases o with ⟨h1, _⟩ | ⟨k', p', e⟩
 ·have := p.k0; have := p.k1; omega
 ·have hR := (h.R p'.k0 p'.k1).1
  refine Int.eq_of_mul_eq_mul_right (show kR c k' ≠ 0 by omega) ?_
  rw [show n * kR c k * kR c k' = n * kR c k' * kR c k by ac_rfl, e, Int.mul_assoc, pc_agree h p' p]
  ac_rfl
theorem OnC.uniq {s : api_Ship} {c : api_Curve} (h : Cov s c) {m n d n' d' : Int} (o : OnC c m n d) (o' : OnC c m n' d') : n * d' = n' * d := by
 rcases o with ⟨h1, e⟩ | ⟨k, p, e⟩
 ·rcases o' with ⟨_, e'⟩ | ⟨k, p, _⟩
  ·rw [e, e']; ac_rfl
  ·have := p.k0; have := p.k1; omega
 ·have hR := (h.R p.k0 p.k1).1
  have e' := o'.any h p
  refine Int.eq_of_mul_eq_mul_right (show kR c k ≠ 0 by omega) ?_
  rw [show n * d' * kR c k = n * kR c k * d' by ac_rfl, e, show n' * d * kR c k = n' * kR c k * d by ac_rfl, e']
  ac_rfl
theorem atP_on {s : api_Ship} {c : api_Curve} (h : Cov s c) {m : Int} (h1 : s.Light ≤ m) (h2 : m ≤ s.Light + roomSum s.Holds) : OnC c m (atP c m).1 (atP c m).2 := by
 obtain ⟨_, _, _, _, _, k, k1, k2, k3, k4⟩ := at_spec h h1 h2
 rcases k4 with ⟨e1, e2⟩ | ⟨k0, hlt, e2⟩
 ·rw [e2]
  by_cases n1 : c.Knots.length = 1
  ·have : k = 0 := by omega
   subst this
   exact .inl ⟨n1, by simp⟩
  ·by_cases k0 : k = 0
   ·subst k0
    have hup := h.mono (show 0 < 1 by omega) (by have := h.n0; omega)
    unfold kX at hup
    refine .inr ⟨1, ⟨Nat.le_refl _, by have := h.n0; omega, by show kX c 0 * 40 ≤ m; unfold kX; omega, by unfold kX; omega⟩, ?_⟩
    rw [← e1, show (gK c.Knots 0).X * 40 = kX c (1 - 1) * 40 from rfl, kL_lo, Int.one_mul]
   ·have hup := h.mono (show k - 1 < k by omega) k1
    refine .inr ⟨k, ⟨by omega, k1, by unfold kX at *; omega, by unfold kX; omega⟩, ?_⟩
    rw [← e1, kL_hi, Int.one_mul]
 ·have := k2 (k - 1) (by omega)
  rw [e2]
  refine .inr ⟨k, ⟨by omega, k1, by unfold kX; omega, by unfold kX; omega⟩, ?_⟩
  exact Int.mul_comm _ _
structure ValAt (c : api_Curve) (x : Int) (f : api_Frac) : Prop where
 on : OnC c (x * 40) f.Num f.Den
 den : 1 ≤ f.Den ∧ f.Den ≤ 2000
 num : -131072000 ≤ f.Num ∧ f.Num ≤ 131072000
 co : ∀ d, d ∣ f.Num → d ∣ f.Den → d ∣ 1
theorem valAt_of {c : api_Curve} {x n d : Int} {f : api_Frac} (o : OnC c (x * 40) n d) (hl : IsLow n d f) (hd : 1 ≤ d ∧ d ≤ 2000) (hn : -131072000 ≤ n ∧ n ≤ 131072000) : ValAt c x f := by
 have hp := hl.den hd.1
 obtain ⟨g, g1, e1, e2⟩ := hl.ex
 have b1 : f.Den ≤ d := by
  have : 1 * f.Den ≤ g * f.Den := Int.mul_le_mul_of_nonneg_right g1 (by omega)
  omega
 have b2 : -131072000 ≤ f.Num ∧ f.Num ≤ 131072000 := by
  rcases Int.le_total 0 f.Num with q | q
  ·have : 1 * f.Num ≤ g * f.Num := Int.mul_le_mul_of_nonneg_right g1 q
   omega
  ·have : g * f.Num ≤ 1 * f.Num := Int.mul_le_mul_of_nonpos_right g1 q
   omega
 refine ⟨?_, ⟨hp, by omega⟩, b2, hl.co⟩
 rcases o with ⟨h1, e⟩ | ⟨k, p, e⟩
 ·refine .inl ⟨h1, Int.eq_of_mul_eq_mul_left (show g ≠ 0 by omega) ?_⟩
  rw [← e1, e, e2]; ac_rfl
 ·refine .inr ⟨k, p, Int.eq_of_mul_eq_mul_left (show g ≠ 0 by omega) ?_⟩
  rw [← Int.mul_assoc, ← e1, e, e2, Int.mul_assoc]
theorem curve_ok {s : api_Ship} {c : api_Curve} (h : Cov s c) : curve_Check c = some 0 ∧ curve_domain c = some ⟨kX c 0, kX c (c.Knots.length - 1)⟩ := by
 have n0 := h.n0; have n1 := h.n1
 constructor
 ·unfold curve_Check
  rw [if_neg (by simp; omega), if_neg (by have := h.err; rw [decide_eq_false (show ¬ ((c.Knots.length : Nat) : Int) = 0 by omega)]; simp [curve_within]; omega)]
  suffices q : ∃ r, Lp (curve_Check_b2 c) fuel (-1, 0) = some r ∧ r = 0 by obtain ⟨r, q, rfl⟩ := q; exact q
  refine lp_inv' (fun i (st : Int × Int) => ∃ l, st = (l, (i : Int)) ∧ -1 ≤ l ∧ l ≤ 2000 ∧ ∀ j, i ≤ j → j < c.Knots.length → l < kX c j) _ c.Knots.length (by omega) ⟨-1, rfl, by omega, by omega, fun j _ hj => by have := h.xy j hj; unfold kX; omega⟩ fun i st hi hI => ?_
  obtain ⟨l, rfl, l0, l2, l1⟩ := hI
  unfold curve_Check_b2
  simp only
  by_cases hlt : i < c.Knots.length
  ·have hk := h.xy i hlt
   have := l1 i (Nat.le_refl _) hlt
   unfold kX at this
   rw [if_pos (by simpa using hlt), ix_gK hlt, Option.bind_some, w64_u (a := l + 1) (by omega), if_neg (by simp [curve_within]; omega)]
   refine .inl ⟨hlt, _, rfl, (gK c.Knots i).X, by rw [w64s i (by omega)], by omega, by omega, fun j hj hj2 => h.mono (by omega) hj2⟩
  ·rw [if_neg (by simpa using hlt)]
   exact .inr ⟨_, rfl, rfl⟩
 ·unfold curve_domain
  rw [show (0 : Int) = ((0 : Nat) : Int) from rfl, ix_gK n0, Option.bind_some, w64_u (a := (c.Knots.length : Int) - 1) (by omega), show (c.Knots.length : Int) - 1 = ((c.Knots.length - 1 : Nat) : Int) by omega, ix_gK (by omega), Option.bind_some]
theorem value_is {s : api_Ship} {c : api_Curve} (h : Cov s c) {x : Int} (x0 : kX c 0 ≤ x) (x1 : x ≤ kX c (c.Knots.length - 1)) : ∃ f, curve_value c x = some f ∧ ValAt c x f := by
 have n0 := h.n0; have n1 := h.n1
 unfold curve_value
 refine lp_inv' (fun i (st : Int) => st = ((i + 1 : Nat) : Int) ∧ i + 1 ≤ c.Knots.length ∧ ∀ j, j ≤ i → 0 < j → kX c j < x) _ c.Knots.length (by omega) ⟨rfl, by omega, fun j h1 h2 => by omega⟩ fun i st hi hI => ?_
 obtain ⟨rfl, i1, i2⟩ := hI
 unfold curve_value_b1 curve_pieces
 simp only
 by_cases hlt : i + 1 < c.Knots.length
 ·have hp := h.xy i (by omega)
  have hq := h.xy (i + 1) hlt
  have hup := h.up i hlt
  have hlo : kX c i ≤ x := by
   by_cases e : i = 0
   ·subst e; exact x0
   ·exact Int.le_of_lt (i2 i (Nat.le_refl _) (by omega))
  rw [if_pos (decide_eq_true (by omega)), w64_u (a := ((i + 1 : Nat) : Int) - 1) (by omega), show ((i + 1 : Nat) : Int) - 1 = (i : Int) by omega, ix_gK (by omega), Option.bind_some, ix_gK hlt, Option.bind_some]
  by_cases hx : x ≤ (gK c.Knots (i + 1)).X
  ·rw [if_pos (by simpa using hx)]
   unfold curve_piece_run curve_piece_rise
   have hlo' : (gK c.Knots i).X ≤ x := hlo
   have hon : ∀ n d : Int, d = (gK c.Knots (i + 1)).X - (gK c.Knots i).X → n = (gK c.Knots i).Y * d + ((gK c.Knots (i + 1)).Y - (gK c.Knots i).Y) * (x - (gK c.Knots i).X) → OnC c (x * 40) n d := fun n d ed en => by
    refine .inr ⟨i + 1, ⟨by omega, hlt, by show kX c i * 40 ≤ x * 40; omega, by unfold kX; omega⟩, ?_⟩
    unfold kL kR
    show n * ((kX c (i + 1) - kX c i) * 40) = d * (kY c i * ((kX c (i + 1) - kX c i) * 40) + (kY c (i + 1) - kY c i) * (x * 40 - kX c i * 40))
    rw [show kX c (i + 1) - kX c i = d from ed.symm, show x * 40 - kX c i * 40 = (x - (gK c.Knots i).X) * 40 by unfold kX; omega, en]
    show ((gK c.Knots i).Y * d + ((gK c.Knots (i + 1)).Y - (gK c.Knots i).Y) * (x - (gK c.Knots i).X)) * (d * 40) = d * ((gK c.Knots i).Y * (d * 40) + ((gK c.Knots (i + 1)).Y - (gK c.Knots i).Y) * ((x - (gK c.Knots i).X) * 40))
    rw [← Int.mul_assoc (gK c.Knots i).Y, ← Int.mul_assoc ((gK c.Knots (i + 1)).Y - (gK c.Knots i).Y), ← Int.add_mul]
    ac_rfl
   generalize gK c.Knots (i + 1) = q at *
   generalize gK c.Knots i = p at *
   simp only
   rw [w64_u (a := q.X - p.X) (by omega), w64_u (a := q.Y - p.Y) (by omega), w64_u (a := x - p.X) (by omega), w64_add, w64_add']
   generalize hD : q.X - p.X = D at *
   generalize hE : x - p.X = E at *
   have f1 : p.Y * D + (q.Y - p.Y) * E = p.Y * (D - E) + q.Y * E := by rw [Int.sub_mul, Int.mul_sub]; omega
   have g1 : 0 ≤ p.Y * (D - E) := Int.mul_nonneg hp.2.2.1 (by omega)
   have g2 : 0 ≤ q.Y * E := Int.mul_nonneg hq.2.2.1 (by omega)
   have g3 : p.Y * (D - E) ≤ 65536 * (D - E) := Int.mul_le_mul_of_nonneg_right hp.2.2.2 (by omega)
   have g4 : q.Y * E ≤ 65536 * E := Int.mul_le_mul_of_nonneg_right hq.2.2.2 (by omega)
   rw [w64_u (a := p.Y * D + (q.Y - p.Y) * E) (by omega)]
   obtain ⟨f, f2, f3⟩ := frac_is (num := p.Y * D + (q.Y - p.Y) * E) (den := D) (by omega) (by omega)
   rw [f2, Option.bind_some]
   exact .inr ⟨f, rfl, valAt_of (hon _ _ rfl rfl) f3 (by omega) (by omega)⟩
  ·rw [if_neg (by simpa using hx)]
   refine .inl ⟨by omega, _, rfl, by rw [w64_u (by omega)]; omega, by omega, fun j h1 h2 => ?_⟩
   by_cases e : j = i + 1
   ·subst e; unfold kX; omega
   ·exact i2 j (by omega) h2
 ·have e1 : i + 1 = c.Knots.length := by omega
  have hlast : c.Knots.length = 1 := by
   by_cases e : i = 0
   ·omega
   ·have := i2 i (Nat.le_refl _) (by omega)
    rw [show c.Knots.length - 1 = i by omega] at x1
    omega
  rw [if_neg (by rw [decide_eq_true_eq]; omega), w64_u (a := (c.Knots.length : Int) - 1) (by omega), show (c.Knots.length : Int) - 1 = ((0 : Nat) : Int) by omega, ix_gK n0, Option.bind_some]
  have hp := h.xy 0 n0
  obtain ⟨f, f2, f3⟩ := frac_is (num := (gK c.Knots 0).Y) (den := 1) (by omega) (by omega)
  rw [f2, Option.bind_some]
  exact .inr ⟨f, rfl, valAt_of (.inl ⟨hlast, by simp⟩) f3 (by omega) (by omega)⟩
theorem Value_is {s : api_Ship} {c : api_Curve} (h : Cov s c) {x : Int} (x0 : kX c 0 ≤ x) (x1 : x ≤ kX c (c.Knots.length - 1)) : ∃ f, curve_Value c x = some (f, 0) ∧ curve_value c x = some f ∧ ValAt c x f := by
 obtain ⟨f, f1, f2⟩ := value_is h x0 x1
 obtain ⟨c1, c2⟩ := curve_ok h
 refine ⟨f, ?_, f1, f2⟩
 unfold curve_Value
 rw [c1, Option.bind_some, if_neg (by simp), c2, Option.bind_some, if_neg (by simp only [curve_within]; simp; omega), f1]; rfl
end Go.Mx
