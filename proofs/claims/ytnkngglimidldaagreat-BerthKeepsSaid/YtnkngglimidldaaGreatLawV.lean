/- Plain laws of water, third part: the specification says the same of values, checks and heights. Conditions: none. -/
import Derived.Test.YtnkngglimidldaaGreatLawU
set_option linter.unusedVariables false
namespace Go.Mx
theorem J3 {α τ σ ρ : Type} {body : σ → Option (σ ⊕ ρ)} (l : List α) (hl : l.length ≤ 9223372036854775807) (st : τ → Int → σ) (F : τ → List α → ρ) (J : Nat → τ → Prop) {a : τ} {s0 : σ} (e0 : s0 = st a 0) (h0 : J 0 a)
  (step : ∀ a (i : Nat) (hi : i < l.length), J i a → (∃ a', body (st a (i : Int)) = some (.inl (st a' ((i + 1 : Nat) : Int))) ∧ F a (l[i] :: l.drop (i + 1)) = F a' (l.drop (i + 1)) ∧ J (i + 1) a') ∨ body (st a (i : Int)) = some (.inr (F a (l[i] :: l.drop (i + 1)))))
  (last : ∀ a, J l.length a → body (st a (l.length : Int)) = some (.inr (F a []))) : Lp body fuel s0 = some (F a l) := by
 suffices h : ∃ r, Lp body fuel s0 = some r ∧ r = F a l by obtain ⟨r, h, rfl⟩ := h; exact h
 refine lp_inv' (fun i s => ∃ b, s = st b (i : Int) ∧ F a l = F b (l.drop i) ∧ J i b) _ l.length (by omega) ⟨a, by simpa using e0, by simp, h0⟩ fun i s hi hI => ?_
 obtain ⟨b, rfl, h1, h2⟩ := hI
 by_cases h : i < l.length
 ·have hd := List.drop_eq_getElem_cons h
  rcases step b i h h2 with ⟨a', q1, q2, q3⟩ | q1
  ·exact .inl ⟨h, _, q1, a', rfl, by rw [h1, hd, q2], q3⟩
  ·exact .inr ⟨_, q1, by rw [h1, hd]⟩
 ·have e : i = l.length := by omega
  subst e
  exact .inr ⟨_, last b h2, by rw [h1, List.drop_length]⟩
theorem w64s' {i n : Nat} (h : i < n) (hn : n ≤ 9223372036854775807) : w64 ((i : Int) + 1) = ((i + 1 : Nat) : Int) := w64s i (by omega)
def zKg (c : zw) : Bool := ((((zh c.ID 1 1099511627776) && (Zw c.Begin)) && (zh c.Every 1 120)) && (zh (c.Heights.length : Int) 1 60))
def zKi (c : zw) : Bool := zKg c && c.Heights.all fun h => Zr h
theorem right_eq (c : zw) (hl : Len c.Heights) : Qo c = some (zKi c) := by
 unfold Qo
 obtain ⟨r, h1, h2⟩ := zFO c.Heights hl
 have h3 : ZM c.Heights = some (decide (0 ≤ r)) := by unfold ZM; rw [h1]; rfl
 rw [h3]
 unfold zKi
 change gb (zKg c) _ (fun y => some (zKg c && !y)) = _
 cases zKg c with
 | false => rfl
 | true =>
  simp only [gb, if_true, Option.bind_some, Bool.true_and, Option.some.injEq]
  rcases h2 with ⟨h2, x, hx, hr⟩ | ⟨rfl, h2⟩
  ·have : (c.Heights.all fun h => Zr h) = false := by
    rw [List.all_eq_false]; exact ⟨x, hx, by simpa [jd] using hr⟩
   rw [this]; simp [h2]
  ·have : (c.Heights.all fun h => Zr h) = true := by
    rw [List.all_eq_true]; intro x hx; simpa [jd] using h2 x hx
   rw [this]; simp
def zEl : Int → List yf → Int
 | _, [] => 0
 | last, s :: r => if last + 1 ≤ s.From ∧ s.From ≤ s.To ∧ s.To ≤ 728 ∧ -4000 ≤ s.Add ∧ s.Add ≤ 4000 then zEl s.To r else 1
theorem zJU (w : zY) (hl : Len w.Shifts) : Jd w = some (zEl (-1) w.Shifts) := by
 unfold Jd
 refine J3 w.Shifts hl (fun (last : Int) i => (last, i)) zEl (fun _ last => -1 ≤ last ∧ last ≤ 728) rfl ⟨by omega, by omega⟩ (fun a i hi hJ => ?_) (fun a _ => ?_)
 ·unfold QU
  simp only
  rw [if_pos (by simpa using hi), jO hi]
  simp only [Option.bind_some, zEl]
  rw [ZO (n := a + 1) (by omega) (by omega)]
  by_cases h : a + 1 ≤ w.Shifts[i].From ∧ w.Shifts[i].From ≤ w.Shifts[i].To ∧ w.Shifts[i].To ≤ 728 ∧ -4000 ≤ w.Shifts[i].Add ∧ w.Shifts[i].Add ≤ 4000
  ·left
   rw [if_neg (by simp [zh, Zr]; omega), w64s' hi hl, if_pos h]
   exact ⟨_, rfl, rfl, by omega, by omega⟩
  ·right
   rw [if_pos (by simp [zh, Zr]; omega), if_neg h]
 ·unfold QU
  simp only
  rw [if_neg (by simp)]; rfl
end Go.Mx
