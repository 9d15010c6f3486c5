/- Plain laws, arbiters: proofs of rulings, and checking them. Conditions: none. -/
import Derived.Test.YtkomoedegnckhaaLawZh
set_option linter.unusedVariables false
set_option linter.unusedSimpArgs false
namespace Go.Mx
theorem RulOK.len {c : api_Court} {l : List api_Letter} {o : List api_Ruling} (h : RulOK c l o) (hc : okC c = true) (hl : l.length ≤ 4000) : o.length ≤ l.length := by
 obtain ⟨o', _, h2, h3⟩ := rrul_eq c hc l hl
 rw [h.uniq h2]; exact h3
theorem same_loop {α : Type} [DecidableEq α] (a : List α) (ha : a.length ≤ 4000) {body : Int → Option (Int ⊕ Bool)} (step : ∀ i (hi : i < a.length), body (i : Int) = some (.inl ((i + 1 : Nat) : Int))) (last : body (a.length : Int) = some (.inr true)) : Lp body fuel 0 = some true := by
 suffices h : ∃ s, Lp body fuel 0 = some s ∧ s = true by obtain ⟨s, h, rfl⟩ := h; exact h
 refine lp_inv' (fun (i : Nat) (s : Int) => s = (i : Int)) _ a.length (by omega) rfl fun i s hi hI => ?_
 subst hI
 by_cases hlt : i < a.length
 ·exact .inl ⟨hlt, _, step i hlt, rfl⟩
 ·have e : i = a.length := by omega
  subst e
  exact .inr ⟨true, last, rfl⟩
theorem SameR_refl (a : List api_Ruling) (ha : a.length ≤ 4000) : ref09_SameRulings a a = some true := by
 unfold ref09_SameRulings
 simp only [decide_true, Bool.not_true, Bool.false_eq_true, if_false]
 refine same_loop a ha (fun i hi => ?_) ?_
 ·unfold ref09_SameRulings_b2
  simp only [dlt hi, if_true, ix_nat hi, w64i hi ha, Option.bind_some, decide_true, Bool.not_true, Bool.false_eq_true, if_false]
 ·unfold ref09_SameRulings_b2
  simp [dge, ref09_SameRulings_j1]
end Go.Mx
