/- Plain laws of ships, fifteenth part: draughts, and how deep a ship can lie. Conditions: none. -/
import Derived.Test.YthfnbjoecocfaaaGreatLawHp
set_option linter.unusedVariables false
set_option linter.unusedSimpArgs false
namespace Go.Mx

/-- A quotient rounded up. -/
def up (a b : Int) : Int := -((-a) / b)
/-! Draughts. -/
def momV (s : api_Ship) (x : List Int) : Int := s.Light * s.Lever + dot (lvs s) x
/-- The mean draught, times the denominator of draughts; that denominator. -/
def meanN (s : api_Ship) (t : Int) : Int := (atP s.Mean (s.Light + t)).1 * 2 * s.Turn
def meanD (s : api_Ship) (t : Int) : Int := (atP s.Mean (s.Light + t)).2 * 2 * s.Turn
def trimN (s : api_Ship) (x : List Int) : Int := momV s x * (atP s.Mean (s.Light + x.sum)).2
def endS (s : api_Ship) (t n : Int) : api_Span := ⟨(meanN s t + n) / meanD s t - s.Mean.Err, up (meanN s t + n) (meanD s t) + s.Mean.Err⟩
def afloatV (s : api_Ship) (x : List Int) : api_Draughts := ⟨endS s x.sum (trimN s x), endS s x.sum (-trimN s x)⟩
/-- How deep a loading lies. -/
def deepV (s : api_Ship) (x : List Int) : Int := max (afloatV s x).Fore.Hi (afloatV s x).Aft.Hi
def nlvs (s : api_Ship) : List Int := (lvs s).map fun a => -a
/-- What is known behind some totals, and some forms of the next one. -/
structure DeepI (s : api_Ship) (l : api_Load) (t : Int) (k : Nat) (deep : Int) (at_ : List Int) (some_ : Bool) : Prop where
 fit : some_ = true → Fit l at_ ∧ deepV s at_ = deep
 some_ : (totLo l < t ∨ 0 < k) → some_ = true
 past : ∀ u x, totLo l ≤ u → u < t → (Greedy l.Holds (lvs s) u x ∨ Greedy l.Holds (nlvs s) u x) → deepV s x ≤ deep
 f0 : 0 < k → ∀ x, Greedy l.Holds (lvs s) t x → deepV s x ≤ deep
 f1 : 1 < k → ∀ x, Greedy l.Holds (nlvs s) t x → deepV s x ≤ deep
end Go.Mx
