/- Plain laws of water, fifth part: spans, stands, peaks, turns. Conditions: none. -/
import Derived.Test.YtnkngglimidldaaGreatLawW
set_option linter.unusedVariables false
namespace Go.Mx
def left (hi t : Int) : Nat := (hi + 1 - t).toNat
theorem zHc {hi t : Int} (h : t ≤ hi) : left hi t = left hi (t + 1) + 1 := by unfold left; omega
theorem zL5 (hi : Int) : left hi (hi + 1) = 0 := by unfold left; omega
theorem lp_span {τ σ ρ : Type} {body : σ → Option (σ ⊕ ρ)} {lo hi : Int} (h1 : lo ≤ hi + 1) (h2 : hi - lo ≤ 4611686018427387904) (st : τ → Int → σ) (F : τ → Int → ρ) (J : Int → τ → Prop) {a : τ} {s0 : σ} (e0 : s0 = st a lo) (h0 : J lo a)
  (step : ∀ a t, lo ≤ t → t ≤ hi → J t a → ∃ a', body (st a t) = some (.inl (st a' (t + 1))) ∧ F a t = F a' (t + 1) ∧ J (t + 1) a')
  (last : ∀ a, J (hi + 1) a → body (st a (hi + 1)) = some (.inr (F a (hi + 1)))) : Lp body fuel s0 = some (F a lo) := by
 suffices h : ∃ r, Lp body fuel s0 = some r ∧ r = F a lo by obtain ⟨r, h, rfl⟩ := h; exact h
 refine lp_inv' (fun i s => ∃ b, s = st b (lo + i) ∧ F a lo = F b (lo + i) ∧ J (lo + i) b) _ (hi + 1 - lo).toNat (by omega) ⟨a, by simpa using e0, by simp, by simpa using h0⟩ fun i s hi' hI => ?_
 obtain ⟨b, rfl, q1, q2⟩ := hI
 by_cases h : lo + i ≤ hi
 ·obtain ⟨a', p1, p2, p3⟩ := step b (lo + i) (by omega) h q2
  refine .inl ⟨by omega, _, p1, a', ?_, ?_, ?_⟩
  ·congr 1; omega
  ·rw [q1, p2]; congr 1; omega
  ·rw [show lo + ((i + 1 : Nat) : Int) = lo + i + 1 by omega]; exact p3
 ·have e : lo + (i : Int) = hi + 1 := by omega
  rw [e] at q1 q2 ⊢
  exact .inr ⟨_, last b q2, q1.symm⟩
def askS (w : zY) (s : zD) : Int := if zBU w = 0 then (if 0 ≤ s.Lo ∧ s.Lo ≤ s.Hi ∧ s.Hi ≤ 1048576 then (if 10080 ≤ s.Hi - s.Lo then 2 else 0) else 1) else zBU w
theorem zMZ (w : zY) (hw : LenW w) (s : zD) : zAr w s = some (askS w s) := by
 unfold zAr askS
 rw [zGt w hw, Option.bind_some]
 by_cases he : zBU w = 0
 ·rw [if_pos he, if_neg (by simp [he])]
  unfold Q7
  by_cases h : 0 ≤ s.Lo ∧ s.Lo ≤ s.Hi ∧ s.Hi ≤ 1048576
  ·rw [if_pos h, if_neg (by simp; omega), ZO (by omega) (by omega)]
   simp
  ·rw [if_neg h, if_pos (by simp; omega)]
 ·rw [if_neg he, if_pos (by simp [he])]
structure Ask (w : zY) (s : zD) : Prop where
 g : zHy w
 l0 : 0 ≤ s.Lo
 l1 : s.Lo ≤ s.Hi
 l2 : s.Hi ≤ 1048576
 l3 : s.Hi - s.Lo < 10080
theorem zMa {w : zY} {s : zD} (hw : LenW w) (h : askS w s = 0) : Ask w s := by
 unfold askS at h
 split at h
 ·split at h
  ·split at h
   ·cases h
   ·exact ⟨zFV hw (by assumption), by omega, by omega, by omega, by omega⟩
  ·cases h
 ·contradiction
theorem zKs {α : Type} {l : List α} {x : α} (h : l.length ≤ 1000000) : app l [x] = some (l ++ [x]) := by
 unfold app
 rw [if_pos (by simp; omega)]
theorem ix_last {α : Type} {l : List α} {x : α} : ix (l ++ [x]) (l.length : Int) = some x := by
 unfold ix
 rw [if_pos (by omega)]
 simp
theorem zLj {α : Type} {l : List α} {x y : α} : put (l ++ [x]) (l.length : Int) y = l ++ [y] := by
 unfold put
 simp
theorem zL3 {α : Type} {l : List α} {x : α} (h : l.length ≤ 1000000) : w64 (((l ++ [x]).length : Int) - 1) = (l.length : Int) := by
 simp only [List.length_append, List.length_cons, List.length_nil]
 rw [ZO (by omega) (by omega)]; omega
end Go.Mx
