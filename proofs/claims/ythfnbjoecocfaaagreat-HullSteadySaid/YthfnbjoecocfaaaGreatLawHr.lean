/- Plain laws of ships, fifteenth part: draughts, and how deep a ship can lie. Conditions: none. -/
import Derived.Test.YthfnbjoecocfaaaGreatLawHp
set_option linter.unusedVariables false
set_option linter.unusedSimpArgs false
namespace Go.Mx

/-- A quotient rounded up. -/
def up (a b : Int) : Int := -((-a) / b)
/-! Draughts. -/
def momV (s : api_Ship) (x : List Int) : Int := s.Light * s.Lever + dot (lvs s) x
/-- The mean draught, times the denominator of draughts; that denominator. -/
def meanN (s : api_Ship) (t : Int) : Int := (atP s.Mean (s.Light + t)).1 * 2 * s.Turn
def meanD (s : api_Ship) (t : Int) : Int := (atP s.Mean (s.Light + t)).2 * 2 * s.Turn
def trimN (s : api_Ship) (x : List Int) : Int := momV s x * (atP s.Mean (s.Light + x.sum)).2
def endS (s : api_Ship) (t n : Int) : api_Span := ⟨(meanN s t + n) / meanD s t - s.Mean.Err, up (meanN s t + n) (meanD s t) + s.Mean.Err⟩
def afloatV (s : api_Ship) (x : List Int) : api_Draughts := ⟨endS s x.sum (trimN s x), endS s x.sum (-trimN s x)⟩
/-- How deep a loading lies. -/
def deepV (s : api_Ship) (x : List Int) : Int := max (afloatV s x).Fore.Hi (afloatV s x).Aft.Hi
def nlvs (s : api_Ship) : List Int := (lvs s).map fun a => -a
/-- What is known behind some totals, and some forms of the next one. -/
structure DeepI (s : api_Ship) (l : api_Load) (t : Int) (k : Nat) (deep : Int) (at_ : List Int) (some_ : Bool) : Prop where
 fit : some_ = true → Fit l at_ ∧ deepV s at_ = deep
 some_ : (totLo l < t ∨ 0 < k) → some_ = true
 past : ∀ u x, totLo l ≤ u → u < t → (Greedy l.Holds (lvs s) u x ∨ Greedy l.Holds (nlvs s) u x) → deepV s x ≤ deep
 f0 : 0 < k → ∀ x, Greedy l.Holds (lvs s) t x → deepV s x ≤ deep
 f1 : 1 < k → ∀ x, Greedy l.Holds (nlvs s) t x → deepV s x ≤ deep
theorem DeepI.put {s : api_Ship} {l : api_Load} (hg : GoodL s l) {t deep : Int} {k : Nat} {at_ x : List Int} {some_ : Bool} (h : DeepI s l t k deep at_ some_) (hk : k < 2) (h1 : totLo l ≤ t) (h2 : t ≤ totHi l) (hx : Greedy l.Holds (if k = 0 then lvs s else nlvs s) t x) : DeepI s l t (k + 1) (if ((!some_) || decide (deep < deepV s x)) = true then deepV s x else deep) (if ((!some_) || decide (deep < deepV s x)) = true then x else at_) true := by
 have hf := Fit.of_greedy hg hx h1 h2
 by_cases hc : ((!some_) || decide (deep < deepV s x)) = true
 ·simp only [if_pos hc]
  have hle : some_ = true → deep ≤ deepV s x := fun hs => by
   rw [hs] at hc
   simp at hc
   omega
  refine ⟨fun _ => ⟨hf, rfl⟩, fun _ => rfl, fun u y u1 u2 hy => ?_, fun _ y hy => ?_, fun hk1 y hy => ?_⟩
  ·have := hle (h.some_ (.inl (by omega)))
   have := h.past u y u1 u2 hy
   omega
  ·by_cases e : k = 0
   ·subst e
    rw [if_pos rfl] at hx
    rw [hy.uniq hx]; exact Int.le_refl _
   ·have := hle (h.some_ (.inr (by omega)))
    have := h.f0 (by omega) y hy
    omega
  ·have e : k = 1 := by omega
   subst e
   rw [if_neg (by omega)] at hx
   rw [hy.uniq hx]; exact Int.le_refl _
 ·simp only [if_neg hc]
  simp only [Bool.or_eq_true, Bool.not_eq_true', decide_eq_true_eq, not_or, Bool.not_eq_false] at hc
  refine ⟨fun _ => h.fit hc.1, fun _ => rfl, h.past, fun _ y hy => ?_, fun hk1 y hy => ?_⟩
  ·by_cases e : k = 0
   ·subst e
    rw [if_pos rfl] at hx
    rw [hy.uniq hx]; omega
   ·exact h.f0 (by omega) y hy
  ·have e : k = 1 := by omega
   subst e
   rw [if_neg (by omega)] at hx
   rw [hy.uniq hx]; omega
end Go.Mx
