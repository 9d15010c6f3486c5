/- Plain laws of ships, thirteenth part: loaded ships, who is steady, and its proofs. Conditions: none. -/
import Derived.Test.YthfnbjoecocfaaaGreatLawHo
set_option linter.unusedVariables false
set_option linter.unusedSimpArgs false
namespace Go.Mx

/-! Loaded ships. -/
/-! By what Stiff returns. -/
/-! Who is steady. -/
theorem Greedy.best {l : List api_Span} {w x y : List Int} {t : Int} (hx : Greedy l w t x) (hw : w.length = l.length) (hy : InS l y) (ht : y.sum = t) : dot w y ≤ dot w x := by
 by_cases hn : 0 < l.length
 ·obtain ⟨k, _, hk, _⟩ := hx.kkt hn
  have h1 := tight (gI w k) w l x hw hx.ins.1 hx.ins.g hk
  have h2 := weak (gI w k) w l y hw hy.1 hy.g
  rw [ht] at h2
  rw [hx.sum] at h1
  omega
 ·have e1 : l = [] := List.length_eq_zero_iff.1 (by omega)
  have e2 : w = [] := List.length_eq_zero_iff.1 (by omega)
  rw [e2]; simp [dot]
theorem steady_le {s : api_Ship} (hs : GoodS s) {x y : List Int} (hx : Rms s x) (hy : y.sum = x.sum) (hd : dot (hts s) y ≤ dot (hts s) x) (h : steadyB s x = true) : steadyB s y = true := by
 obtain ⟨b0, _⟩ := spare_bd hs (hx.Mass hs)
 unfold steadyB at *
 rw [decide_eq_true_eq] at *
 rw [hy]
 have : riseV s y * spareD s x.sum ≤ riseV s x * spareD s x.sum := Int.mul_le_mul_of_nonneg_right (by unfold riseV; omega) (by omega)
 omega
/-- In all totals the highest loading is steady. -/
def AllSteady (s : api_Ship) (l : api_Load) : Prop := ∀ t x, totLo l ≤ t → t ≤ totHi l → Greedy l.Holds (hts s) t x → steadyB s x = true
theorem AllSteady.fit {s : api_Ship} {l : api_Load} (hg : GoodL s l) (h : AllSteady s l) {y : List Int} (hy : Fit l y) : steadyB s y = true := by
 have ht := hy.sum hg
 have hwl : (hts s).length = l.Holds.length := by rw [hts_len, hg.len]
 obtain ⟨x, _, g⟩ := best_tot hg hwl ht.1 ht.2
 exact steady_le hg.ship ((Fit.of_greedy hg g ht.1 ht.2).rms hg) (by rw [g.sum]) (g.best hwl hy.ins rfl) (h _ x ht.1 ht.2 g)
/-! What a price shows. -/
def showsB (s : api_Ship) (l : api_Load) (p t : Int) : Bool := decide ((s.Light * s.Height + totB p (hts s) l.Holds ⟨t, t⟩) * spareD s t ≤ spareN s t)
/-! A proof is checked. -/
def allT (s : api_Ship) (l : api_Load) (p lo : Int) (n : List Nat) : Bool := n.all fun k => showsB s l p (lo + (k : Int))
def partB (s : api_Ship) (l : api_Load) (next : Int) (p : api_Part) : Bool := decide (p.Totals.Lo = next) && (decide (next ≤ p.Totals.Hi) && decide (p.Totals.Hi ≤ totHi l)) && (decide (-1048576 ≤ p.Price) && decide (p.Price ≤ 1048576))
def csR (s : api_Ship) (l : api_Load) : Int → List api_Part → Int
 | next, [] => if next = totHi l + 1 then 0 else 8
 | next, p :: r => if partB s l next p = true then (if allT s l p.Price p.Totals.Lo (List.range (p.Totals.Hi - p.Totals.Lo + 1).toNat) = true then csR s l (p.Totals.Hi + 1) r else 8) else 8
end Go.Mx
