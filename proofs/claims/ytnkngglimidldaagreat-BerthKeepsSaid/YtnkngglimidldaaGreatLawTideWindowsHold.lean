/- TideWindowsHold: the plain law. Conditions: none. -/
import Derived.Test.YtnkngglimidldaaGreatLawN
set_option linter.unusedVariables false
namespace Go.Mx
structure WinP (H : Int → Int) (height lo t : Int) (l : List zD) : Prop where
 gap : l.Pairwise (fun x y => x.Hi + 1 < y.Lo)
 ins : ∀ x ∈ l, lo ≤ x.Lo ∧ x.Lo ≤ x.Hi ∧ x.Hi < t ∧ ∀ m, x.Lo ≤ m → m ≤ x.Hi → height ≤ H m
 all : ∀ m, lo ≤ m → m < t → height ≤ H m → ∃ x ∈ l, x.Lo ≤ m ∧ m ≤ x.Hi
theorem WinP.skip {H : Int → Int} {height lo t : Int} {l : List zD} (h : WinP H height lo t l) (ht : H t < height) : WinP H height lo (t + 1) l := by
 refine ⟨h.gap, fun x hx => ?_, fun m h0 h1 h2 => h.all m h0 ?_ h2⟩
 ·obtain ⟨a, b, c, d⟩ := h.ins x hx
  exact ⟨a, b, by omega, d⟩
 ·by_cases e : m = t
  ·subst e; omega
  ·omega
theorem WinP.add {H : Int → Int} {height lo t : Int} {l : List zD} (h : WinP H height lo t l) (hlo : lo ≤ t) (ht : height ≤ H t) : WinP H height lo (t + 1) (addW l t t) := by
 obtain ⟨g, i, a⟩ := h
 have one : ∀ m, t ≤ m → m ≤ t → height ≤ H m := fun m h0 h1 => by rw [show m = t by omega]; exact ht
 rcases zAt l with rfl | ⟨p, x, rfl⟩
 ·rw [zCw]
  refine ⟨List.pairwise_singleton _ _, fun y hy => ?_, fun m h0 h1 h2 => ?_⟩
  ·simp only [List.mem_singleton] at hy; subst hy
   exact ⟨hlo, Int.le_refl _, by simp only; omega, one⟩
  ·by_cases e : m = t
   ·exact ⟨⟨t, t⟩, by simp, by simp only; omega, by simp only; omega⟩
   ·obtain ⟨y, hy, _⟩ := a m h0 (by omega) h2; cases hy
 ·rw [QN]
  have hx := i x (by simp)
  have hg := List.pairwise_append.1 g
  by_cases e : x.Hi + 1 = t
  ·rw [if_pos e]
   refine ⟨List.pairwise_append.2 ⟨hg.1, List.pairwise_singleton _ _, fun u hu v hv => ?_⟩, fun y hy => ?_, fun m h0 h1 h2 => ?_⟩
   ·simp only [List.mem_singleton] at hv; subst hv
    exact hg.2.2 u hu x (by simp)
   ·rw [List.mem_append, List.mem_singleton] at hy
    rcases hy with hy | rfl
    ·obtain ⟨q0, q1, q2, q3⟩ := i y (by simp [hy])
     exact ⟨q0, q1, by omega, q3⟩
    ·refine ⟨hx.1, by simp only; omega, by simp only; omega, fun m h0 h1 => ?_⟩
     simp only at h0 h1
     by_cases e2 : m = t
     ·exact one m (by omega) (by omega)
     ·exact hx.2.2.2 m h0 (by omega)
   ·by_cases e2 : m = t
    ·exact ⟨⟨x.Lo, t⟩, by simp, by simp only; omega, by simp only; omega⟩
    ·obtain ⟨y, hy, q0, q1⟩ := a m h0 (by omega) h2
     rw [List.mem_append, List.mem_singleton] at hy
     rcases hy with hy | rfl
     ·exact ⟨y, by simp [hy], q0, q1⟩
     ·exact ⟨⟨y.Lo, t⟩, by simp, q0, by simp only; omega⟩
  ·rw [if_neg e]
   refine ⟨List.pairwise_append.2 ⟨g, List.pairwise_singleton _ _, fun u hu v hv => ?_⟩, fun y hy => ?_, fun m h0 h1 h2 => ?_⟩
   ·simp only [List.mem_singleton] at hv; subst hv
    rw [List.mem_append, List.mem_singleton] at hu
    rcases hu with hu | rfl
    ·have := hg.2.2 u hu x (by simp)
     simp only; omega
    ·simp only; omega
   ·rw [List.mem_append, List.mem_singleton] at hy
    rcases hy with hy | rfl
    ·obtain ⟨q0, q1, q2, q3⟩ := i y hy
     exact ⟨q0, q1, by omega, q3⟩
    ·exact ⟨hlo, Int.le_refl _, by simp only; omega, one⟩
   ·by_cases e2 : m = t
    ·exact ⟨⟨t, t⟩, by simp, by simp only; omega, by simp only; omega⟩
    ·obtain ⟨y, hy, q0, q1⟩ := a m h0 (by omega) h2
     exact ⟨y, List.mem_append_left _ hy, q0, q1⟩
theorem WinP.one {H : Int → Int} {height lo t : Int} {l : List zD} (h : WinP H height lo t l) {y z : zD} {m : Int} (hy : y ∈ l) (hz : z ∈ l) (h1 : m = y.Hi + 1) (h2 : z.Lo ≤ m) (h3 : m ≤ z.Hi) : False := by
 obtain ⟨i, hi, rfl⟩ := List.getElem_of_mem hy
 obtain ⟨j, hj, rfl⟩ := List.getElem_of_mem hz
 have g := List.pairwise_iff_getElem.1 h.gap
 have a := h.ins _ (List.getElem_mem hi)
 have b := h.ins _ (List.getElem_mem hj)
 rcases Nat.lt_trichotomy i j with e | e | e
 ·have := g i j hi hj e; omega
 ·subst e; omega
 ·have := g j i hj hi e; omega
end Go.Mx
