/- Plain laws of ships, fifteenth part: draughts, and how deep a ship can lie. Conditions: none. -/
import Derived.Test.YtbmojhkipnnmlaaGreatLawHp
set_option linter.unusedVariables false
set_option linter.unusedSimpArgs false
namespace Go.Mx
theorem hbelow_eq {a b : Int} (h0 : 1 ≤ b ∧ b ≤ 1099511627776) (ha : -1152921504606846976 ≤ a ∧ a ≤ 1152921504606846976) : hull_below a b = some (a / b) := by
 have e1 : rem a b = some (a.tmod b) := by unfold rem; rw [if_neg (by omega)]
 have l1 : a.tmod b < b := Int.tmod_lt_of_pos a (by omega)
 have l2 : -b < a.tmod b := by have := Int.lt_tmod_of_pos a (show 0 < b by omega); omega
 have e2 : w64 (a.tmod b + b) = a.tmod b + b := w64_id (by omega) (by omega)
 have e3 : rem (a.tmod b + b) b = some (a % b) := by
  unfold rem
  rw [if_neg (by omega)]
  congr 1
  rw [Int.tmod_eq_emod_of_nonneg (by omega), Int.add_emod_right]
  rw [Int.tmod_def]
  rw [show a - b * a.tdiv b = a + b * (-(a.tdiv b)) by rw [Int.mul_neg]; omega, Int.add_mul_emod_self_left]
 have m0 := Int.emod_nonneg a (show b ≠ 0 by omega)
 have m1 := Int.emod_lt_of_pos a (show 0 < b by omega)
 have e4 : w64 (a - a % b) = a - a % b := w64_id (by omega) (by omega)
 have hd : a - a % b = b * (a / b) := by have := Int.emod_add_mul_ediv a b; omega
 have e5 : quo (a - a % b) b = some (a / b) := by
  unfold quo
  rw [if_neg (by omega), hd, Int.mul_tdiv_cancel_left _ (by omega)]
  congr 1
  have k1 : a / b ≤ 1152921504606846976 := Int.le_trans (Int.ediv_le_ediv (by omega) ha.2) (Int.ediv_le_self _ (by omega))
  have k2 : -1152921504606846976 ≤ a / b := by
   rw [Int.le_ediv_iff_mul_le (by omega)]
   have : (-1152921504606846976 : Int) * b ≤ -1152921504606846976 * 1 := Int.mul_le_mul_of_nonpos_left (by omega) (by omega)
   omega
  exact w64_id (by omega) (by omega)
 unfold hull_below
 rw [e1, Option.bind_some, e2, e3, Option.bind_some, e4, e5, Option.bind_some]
def up (a b : Int) : Int := -((-a) / b)
theorem div_bd {a b A : Int} (hb : 1 ≤ b) (hA : 0 ≤ A) (h1 : -A ≤ a) (h2 : a ≤ A) : -A ≤ a / b ∧ a / b ≤ A := by
 constructor
 ·rw [Int.le_ediv_iff_mul_le (by omega)]
  have : -A * b ≤ -A * 1 := Int.mul_le_mul_of_nonpos_left (by omega) hb
  omega
 ·exact Int.le_trans (Int.ediv_le_ediv (by omega) h2) (Int.ediv_le_self _ hA)
def momV (s : api_Ship) (x : List Int) : Int := s.Light * s.Lever + dot (lvs s) x
theorem momV_bd {s : api_Ship} (hs : GoodS s) {x : List Int} (h : Rms s x) : -2621440000 ≤ momV s x ∧ momV s x ≤ 2621440000 := by
 have h1 := hs.light
 have h2 := hs.lever
 have hm := mul_bd (a := s.Light) (b := s.Lever) (A := 65536) (B := 20000) (by omega) h1.2 h2.1 h2.2
 have h2 := dot_rng (lvs s) x 20000 (by rw [lvs_len, h.len]) (fun i hi => by
  rw [gI_get hi]
  simp only [lvs, List.getElem_map]
  exact (hs.hold _ (List.getElem_mem (show i < s.Holds.length by simpa [lvs] using hi))).2.1) fun i hi => (h.b i (by rw [← h.len]; exact hi)).1
 have h3 := h.mass hs
 unfold momV
 omega
theorem hmoment_eq {s : api_Ship} (hs : GoodS s) {x : List Int} (h : Rms s x) : hull_moment s x = some (momV s x) := by
 have hn := hs.nh
 have hb := momV_bd hs h
 unfold hull_moment
 rw [levers_eq s hn, Option.bind_some, hvalue_eq _ _ (by rw [lvs_len, h.len]) (by unfold Len; rw [lvs_len]; omega), Option.bind_some, w64_add, w64_add', show s.Light * s.Lever + dot (lvs s) x = momV s x from rfl, w64_u (by omega)]
def meanN (s : api_Ship) (t : Int) : Int := (atP s.Mean (s.Light + t)).1 * 2 * s.Turn
def meanD (s : api_Ship) (t : Int) : Int := (atP s.Mean (s.Light + t)).2 * 2 * s.Turn
def trimN (s : api_Ship) (x : List Int) : Int := momV s x * (atP s.Mean (s.Light + x.sum)).2
def endS (s : api_Ship) (t n : Int) : api_Span := ⟨(meanN s t + n) / meanD s t - s.Mean.Err, up (meanN s t + n) (meanD s t) + s.Mean.Err⟩
def afloatV (s : api_Ship) (x : List Int) : api_Draughts := ⟨endS s x.sum (trimN s x), endS s x.sum (-trimN s x)⟩
theorem mean_bd {s : api_Ship} (hs : GoodS s) {t : Int} (h : Mass s t) : (1 ≤ meanD s t ∧ meanD s t ≤ 167772160000) ∧ (0 ≤ meanN s t ∧ meanN s t ≤ 10995116277760000) ∧ (0 ≤ (atP s.Mean (s.Light + t)).1 ∧ (atP s.Mean (s.Light + t)).1 ≤ 5242880000) ∧ 1 ≤ (atP s.Mean (s.Light + t)).2 ∧ (atP s.Mean (s.Light + t)).2 ≤ 80000 := by
 obtain ⟨_, p2, p3, p4, p5, _⟩ := at_spec hs.cmean h.a h.b
 have hT := hs.turn
 unfold meanN meanD
 generalize (atP s.Mean (s.Light + t)).1 = N at *
 generalize (atP s.Mean (s.Light + t)).2 = D at *
 have f1 := mul_bd (a := D * 2) (b := s.Turn) (A := 160000) (B := 1048576) (by omega) (by omega) (by omega) hT.2
 have f2 := mul_bd (a := N * 2) (b := s.Turn) (A := 10485760000) (B := 1048576) (by omega) (by omega) (by omega) hT.2
 have f3 : 0 ≤ N * 2 * s.Turn := Int.mul_nonneg (by omega) (by omega)
 have f4 : 1 * s.Turn ≤ D * 2 * s.Turn := Int.mul_le_mul_of_nonneg_right (by omega) (by omega)
 omega
theorem trim_bd {s : api_Ship} (hs : GoodS s) {x : List Int} (h : Rms s x) : -209715200000000 ≤ trimN s x ∧ trimN s x ≤ 209715200000000 := by
 obtain ⟨_, _, _, b1, b2⟩ := mean_bd hs (h.Mass hs)
 have hm := momV_bd hs h
 have := mul_bd (a := momV s x) (b := (atP s.Mean (s.Light + x.sum)).2) (A := 2621440000) (B := 80000) hm.1 hm.2 (by omega) b2
 unfold trimN
 omega
theorem end_eq {s : api_Ship} (hs : GoodS s) {x : List Int} (h : Rms s x) (sg : Int) (hsg : sg = 1 ∨ sg = -1) : hull_afloat_1 sg (atP s.Mean (s.Light + x.sum)).1 s x (atP s.Mean (s.Light + x.sum)).2 = some (endS s x.sum (sg * trimN s x)) := by
 have hM := h.Mass hs
 obtain ⟨⟨d1, d2⟩, ⟨n1, n2⟩, ⟨a1, a2⟩, b1, b2⟩ := mean_bd hs hM
 have ht := trim_bd hs h
 have hm := momV_bd hs h
 have hT := hs.turn
 have he := hs.cmean.err
 have hsm : -2621440000 ≤ sg * momV s x ∧ sg * momV s x ≤ 2621440000 := by rcases hsg with rfl | rfl <;> omega
 have hst : -209715200000000 ≤ sg * trimN s x ∧ sg * trimN s x ≤ 209715200000000 := by rcases hsg with rfl | rfl <;> omega
 have e1 : sg * momV s x * (atP s.Mean (s.Light + x.sum)).2 = sg * trimN s x := by unfold trimN; rw [Int.mul_assoc]
 have e2 : (atP s.Mean (s.Light + x.sum)).1 * 2 * s.Turn = meanN s x.sum := rfl
 have e3 : (atP s.Mean (s.Light + x.sum)).2 * 2 * s.Turn = meanD s x.sum := rfl
 have q1 := div_bd (a := meanN s x.sum + sg * trimN s x) (b := meanD s x.sum) (A := 20000000000000000) d1 (by omega) (by omega) (by omega)
 have q2 := div_bd (a := -(meanN s x.sum + sg * trimN s x)) (b := meanD s x.sum) (A := 20000000000000000) d1 (by omega) (by omega) (by omega)
 unfold hull_afloat_1
 rw [hmoment_eq hs h, Option.bind_some, w64_u (a := _ * 2) (by omega), e2, w64_u (a := meanN s x.sum) (by omega), w64_u (a := sg * momV s x) (by omega), e1, w64_u (a := sg * trimN s x) (by omega), w64_u (a := meanN s x.sum + sg * trimN s x) (by omega), w64_u (a := (atP s.Mean (s.Light + x.sum)).2 * 2) (by omega), e3, w64_u (a := meanD s x.sum) (by omega), hbelow_eq (by omega) (by omega), Option.bind_some, Int.zero_sub, w64_u (a := -(meanN s x.sum + sg * trimN s x)) (by omega), hbelow_eq (by omega) (by omega), Option.bind_some, w64_u (a := _ - s.Mean.Err) (by omega), Int.zero_sub, w64_u (a := -(_ / _)) (by omega), w64_u (by omega)]
 rfl
theorem hafloat_eq {s : api_Ship} (hs : GoodS s) {x : List Int} (h : Rms s x) : hull_afloat s x = some (afloatV s x) := by
 have hM := h.Mass hs
 have hlt := hs.light
 have hc := hM.c
 have ha := hM.a
 unfold hull_afloat
 rw [sumx_eq hs h, Option.bind_some, w64_u (by omega), (at_spec hs.cmean hM.a hM.b).1, Option.bind_some, end_eq hs h 1 (.inl rfl), Option.bind_some, end_eq hs h (-1) (.inr rfl), Option.bind_some, Int.one_mul, show -1 * trimN s x = -trimN s x by omega]
 rfl
theorem hAfloat_eq {s : api_Ship} (hc : chk s = 0) {x : List Int} (h : Rms s x) : hull_Afloat s x = some (afloatV s x, 0) := by
 unfold hull_Afloat
 rw [loaded_one hc h, Option.bind_some, if_neg (by simp), hafloat_eq (GoodS.of hc) h]; rfl
def deepV (s : api_Ship) (x : List Int) : Int := max (afloatV s x).Fore.Hi (afloatV s x).Aft.Hi
def nlvs (s : api_Ship) : List Int := (lvs s).map fun a => -a
structure DeepI (s : api_Ship) (l : api_Load) (t : Int) (k : Nat) (deep : Int) (at_ : List Int) (some_ : Bool) : Prop where
 fit : some_ = true → Fit l at_ ∧ deepV s at_ = deep
 some_ : (totLo l < t ∨ 0 < k) → some_ = true
 past : ∀ u x, totLo l ≤ u → u < t → (Greedy l.Holds (lvs s) u x ∨ Greedy l.Holds (nlvs s) u x) → deepV s x ≤ deep
 f0 : 0 < k → ∀ x, Greedy l.Holds (lvs s) t x → deepV s x ≤ deep
 f1 : 1 < k → ∀ x, Greedy l.Holds (nlvs s) t x → deepV s x ≤ deep
theorem DeepI.put {s : api_Ship} {l : api_Load} (hg : GoodL s l) {t deep : Int} {k : Nat} {at_ x : List Int} {some_ : Bool} (h : DeepI s l t k deep at_ some_) (hk : k < 2) (h1 : totLo l ≤ t) (h2 : t ≤ totHi l) (hx : Greedy l.Holds (if k = 0 then lvs s else nlvs s) t x) : DeepI s l t (k + 1) (if ((!some_) || decide (deep < deepV s x)) = true then deepV s x else deep) (if ((!some_) || decide (deep < deepV s x)) = true then x else at_) true := by
 have hf := Fit.of_greedy hg hx h1 h2
 by_cases hc : ((!some_) || decide (deep < deepV s x)) = true
 ·simp only [if_pos hc]
  have hle : some_ = true → deep ≤ deepV s x := fun hs => by
   rw [hs] at hc
   simp at hc
   omega
  refine ⟨fun _ => ⟨hf, rfl⟩, fun _ => rfl, fun u y u1 u2 hy => ?_, fun _ y hy => ?_, fun hk1 y hy => ?_⟩
  ·have := hle (h.some_ (.inl (by omega)))
   have := h.past u y u1 u2 hy
   omega
  ·by_cases e : k = 0
   ·subst e
    rw [if_pos rfl] at hx
    rw [hy.uniq hx]; exact Int.le_refl _
   ·have := hle (h.some_ (.inr (by omega)))
    have := h.f0 (by omega) y hy
    omega
  ·have e : k = 1 := by omega
   subst e
   rw [if_neg (by omega)] at hx
   rw [hy.uniq hx]; exact Int.le_refl _
 ·simp only [if_neg hc]
  simp only [Bool.or_eq_true, Bool.not_eq_true', decide_eq_true_eq, not_or, Bool.not_eq_false] at hc
  refine ⟨fun _ => h.fit hc.1, fun _ => rfl, h.past, fun _ y hy => ?_, fun hk1 y hy => ?_⟩
  ·by_cases e : k = 0
   ·subst e
    rw [if_pos rfl] at hx
    rw [hy.uniq hx]; omega
   ·exact h.f0 (by omega) y hy
  ·have e : k = 1 := by omega
   subst e
   rw [if_neg (by omega)] at hx
   rw [hy.uniq hx]; omega
end Go.Mx
