/- Plain laws of water, seventh part: windows. Conditions: none. -/
import Derived.Test.YtnkngglimidldaaGreatLawS
set_option linter.unusedVariables false
namespace Go.Mx
def addW (l : List zD) (lo hi : Int) : List zD := match l.getLast? with
 | some x => if x.Hi + 1 = lo then l.dropLast ++ [⟨x.Lo, hi⟩] else l ++ [⟨lo, hi⟩]
 | none => l ++ [⟨lo, hi⟩]
theorem zCw (lo hi : Int) : addW [] lo hi = [⟨lo, hi⟩] := rfl
theorem QN (p : List zD) (x : zD) (lo hi : Int) : addW (p ++ [x]) lo hi = if x.Hi + 1 = lo then p ++ [⟨x.Lo, hi⟩] else (p ++ [x]) ++ [⟨lo, hi⟩] := by
 unfold addW
 simp
theorem zAt {α : Type} (l : List α) : l = [] ∨ ∃ p x, l = p ++ [x] := by
 rcases List.eq_nil_or_concat l with h | ⟨p, x, h⟩
 ·exact .inl h
 ·exact .inr ⟨p, x, by rw [h, List.concat_eq_append]⟩
theorem zLQ (l : List zD) (lo hi hi' : Int) : addW (addW l lo hi) (hi + 1) hi' = addW l lo hi' := by
 rcases zAt l with rfl | ⟨p, x, rfl⟩
 ·rw [zCw, zCw, show [(⟨lo, hi⟩ : zD)] = [] ++ [⟨lo, hi⟩] from rfl, QN]
  simp
 ·rw [QN, QN]
  by_cases h : x.Hi + 1 = lo
  ·rw [if_pos h, if_pos h, QN]; simp
  ·rw [if_neg h, if_neg h, QN]; simp
theorem zMh (l : List zD) (lo hi : Int) : (addW l lo hi).length ≤ l.length + 1 := by
 rcases zAt l with rfl | ⟨p, x, rfl⟩
 ·simp [zCw]
 ·rw [QN]; split <;> simp
theorem zMg {l : List zD} {lo hi : Int} {P : zD → Prop} (h1 : ∀ x ∈ l, P x) (h2 : P ⟨lo, hi⟩) (h3 : ∀ x, P x → x.Hi + 1 = lo → P ⟨x.Lo, hi⟩) : ∀ x ∈ addW l lo hi, P x := by
 rcases zAt l with rfl | ⟨p, y, rfl⟩
 ·intro x hx; simp only [zCw, List.mem_singleton] at hx; subst hx; exact h2
 ·rw [QN]
  intro x hx
  split at hx
  ·simp only [List.mem_append, List.mem_singleton] at hx
   rcases hx with hx | rfl
   ·exact h1 x (by simp [hx])
   ·exact h3 y (h1 y (by simp)) (by assumption)
  ·rw [List.mem_append, List.mem_singleton] at hx
   rcases hx with hx | rfl
   ·exact h1 x hx
   ·exact h2
theorem zKh {β : Type} {l : List zD} {lo hi : Int} (hlen : l.length ≤ 1000000) (K : List zD → Option β) (cond : zD → Bool) (hc : ∀ x ∈ l, cond x = decide (x.Hi + 1 = lo)) :
  (gb (decide (0 < (l.length : Int))) (ix l (w64 ((l.length : Int) - 1))) fun x =>
   if (decide (0 < (l.length : Int)) && cond x) = true then
    Option.bind (ix l (w64 ((l.length : Int) - 1))) fun x1 => K (put l (w64 ((l.length : Int) - 1)) ⟨x1.Lo, hi⟩)
   else Option.bind (app l [⟨lo, hi⟩]) fun l1 => K l1) = K (addW l lo hi) := by
 rcases zAt l with rfl | ⟨p, x, rfl⟩
 ·simp only [List.length_nil, Int.natCast_zero, Int.lt_irrefl, decide_false, gb, Bool.false_eq_true, if_false, Option.bind_some, Bool.false_and]
  rw [zKs (by simp), Option.bind_some]
  rfl
 ·have e0 : decide ((0 : Int) < ((p ++ [x]).length : Int)) = true := by rw [decide_eq_true_eq, List.length_append]; simp only [List.length_cons]; omega
  have hp : p.length ≤ 1000000 := by simp at hlen; omega
  rw [zL3 hp, ix_last, e0]
  simp only [gb, if_true, Option.bind_some, Bool.true_and]
  rw [hc x (by simp), QN]
  by_cases h : x.Hi + 1 = lo
  ·rw [if_pos (by simpa using h), if_pos h, zLj]
  ·rw [if_neg (by simpa using h), if_neg h, zKs hlen, Option.bind_some]
def winS (H : Int → Int) (height : Int) : Nat → Int → List zD → List zD
 | 0, _, l => l
 | n + 1, t, l => winS H height n (t + 1) (if H t < height then l else addW l t t)
def QS (w : zY) (s : zD) (height : Int) : List zD × Int := if askS w s = 0 then (winS (hgt w) height (left s.Hi s.Lo) s.Lo [], 0) else ([], askS w s)
def zEd (s : zD) (t : Int) (l : List zD) : Prop := l.length ≤ (t - s.Lo).toNat ∧ ∀ x ∈ l, s.Lo ≤ x.Lo ∧ x.Lo ≤ x.Hi ∧ x.Hi < t
theorem zEd.add {s : zD} {t lo : Int} {l : List zD} {u : Int} (h : zEd s lo l) (h0 : s.Lo ≤ lo) (h1 : lo ≤ u) (ht : u < t) : zEd s t (addW l lo u) := by
 obtain ⟨a, b⟩ := h
 refine ⟨?_, zMg (fun x hx => ?_) ?_ (fun x hx e => ?_)⟩
 ·have := zMh l lo u; omega
 ·have := b x hx; omega
 ·simp only; omega
 ·simp only; omega
theorem zEd.mono {s : zD} {t t' : Int} {l : List zD} (h : zEd s t l) (ht : t ≤ t') : zEd s t' l := ⟨by have := h.1; omega, fun x hx => by have := h.2 x hx; omega⟩
theorem zH0 {H : Int → Int} {height : Int} {s : zD} : ∀ (n : Nat) (t : Int) (l : List zD), s.Lo ≤ t → zEd s t l → zEd s (t + n) (winS H height n t l)
 | 0, t, l, _, h => by simpa [winS] using h
 | n + 1, t, l, h0, h => by
  unfold winS
  rw [show t + ((n + 1 : Nat) : Int) = t + 1 + n by omega]
  split
  ·exact zH0 n (t + 1) l (by omega) (h.mono (by omega))
  ·exact zH0 n (t + 1) _ (by omega) (h.add h0 (Int.le_refl _) (by omega))
structure SpanH where
 Span : zD
 Height : Int
theorem zKK (w : zY) (hw : LenW w) (s : zD) (height : Int) : Y4 w s height = some (QS w s height) := by
 unfold Y4 QS
 rw [zMZ w hw, Option.bind_some]
 by_cases h : askS w s = 0
 ·rw [if_neg (by simp [h]), if_pos h]
  obtain ⟨g, l0, l1, l2, l3⟩ := zMa hw h
  simp only [ZQ]
  rw [zIQ g, Option.bind_some, zGZ g l0 (by omega), Option.bind_some, ZO (by omega) (by omega)]
  have e0 : winS (hgt w) height (left s.Hi s.Lo) s.Lo [] = winS (hgt w) height (left s.Hi (s.Lo + 1)) (s.Lo + 1) (if hgt w s.Lo < height then [] else addW [] s.Lo (s.Lo + 1 - 1)) := by
   rw [zHc l1, Int.add_sub_cancel]
   simp only [winS]
  rw [e0]
  refine lp_span (τ := SpanH × List zD) (lo := s.Lo + 1) (hi := s.Hi) (by omega) (by omega) (fun a t => (t, a.1.Span.Lo, a.1.Span.Hi, a.1.Height, a.2)) (fun a t => (winS (hgt w) height (left s.Hi t) t (if a.1.Height < height then a.2 else addW a.2 a.1.Span.Lo (t - 1)), 0)) (fun t a => a.1.Span.Hi = t - 1 ∧ s.Lo ≤ a.1.Span.Lo ∧ a.1.Span.Lo ≤ t - 1 ∧ zEd s a.1.Span.Lo a.2) (a := (⟨⟨s.Lo, s.Lo⟩, hgt w s.Lo⟩, [])) rfl ⟨by simp only; omega, by simp only; omega, by simp only; omega, by simp, by simp⟩ (fun a t ht0 ht1 hJ => ?_) (fun a hJ => ?_)
  ·obtain ⟨⟨⟨lo, hi⟩, h⟩, l⟩ := a
   simp only at hJ ⊢
   obtain ⟨rfl, j0, j1, j2⟩ := hJ
   have jl := j2.1
   unfold Qi
   simp only
   rw [show (ZQ w s).2.Hi = s.Hi from rfl, if_pos (decide_eq_true ht1), zGZ g (by omega) (by omega), Option.bind_some, zHc ht1]
   simp only [winS]
   have hj3 : ∀ (a b : Int) (z : List zD), jD t a b z = some (.inl (t + 1, a, t, b, z)) := by
    intro a b z
    unfold jD
    rw [ZO (by omega) (by omega)]
   by_cases e : hgt w t = h
   ·rw [if_pos (by simpa using e), hj3]
    refine ⟨(⟨⟨lo, t⟩, h⟩, l), rfl, ?_, by simp only; omega, j0, by simp only; omega, j2⟩
    simp only
    rw [e, Int.add_sub_cancel]
    by_cases hh : h < height
    ·simp only [if_pos hh]
    ·simp only [if_neg hh]
     have := zLQ l lo (t - 1) t
     rw [Int.sub_add_cancel] at this
     rw [this]
   ·rw [if_neg (by simpa using e)]
    by_cases hh : h < height
    ·rw [if_pos (by simpa using hh), hj3]
     refine ⟨(⟨⟨t, t⟩, hgt w t⟩, l), rfl, ?_, by simp only; omega, by simp only; omega, by simp only; omega, j2.mono (by simp only; omega)⟩
     simp only [if_pos hh, Int.add_sub_cancel]
    ·rw [if_neg (by simpa using hh)]
     rw [zKh (lo := lo) (hi := t - 1) (by omega) (fun z => jD t t (hgt w t) z) (fun x => decide (w64 (x.Hi + 1) = lo)) (fun x hx => by have := j2.2 x hx; rw [ZO (by omega) (by omega)])]
     rw [hj3]
     refine ⟨(⟨⟨t, t⟩, hgt w t⟩, addW l lo (t - 1)), rfl, ?_, by simp only; omega, by simp only; omega, by simp only; omega, j2.add j0 j1 (by simp only; omega)⟩
     simp only [if_neg hh, Int.add_sub_cancel]
  ·obtain ⟨⟨⟨lo, hi⟩, h⟩, l⟩ := a
   simp only at hJ ⊢
   obtain ⟨rfl, j0, j1, j2⟩ := hJ
   have jl := j2.1
   unfold Qi
   simp only
   rw [show (ZQ w s).2.Hi = s.Hi from rfl, if_neg (show ¬ decide (s.Hi + 1 ≤ s.Hi) = true by rw [decide_eq_true_eq]; omega), zL5]
   simp only [winS]
   unfold YH
   by_cases hh : h < height
   ·rw [if_pos (by simpa using hh), if_pos hh]; rfl
   ·rw [if_neg (by simpa using hh), if_neg hh]
    rw [zKh (lo := lo) (hi := s.Hi + 1 - 1) (by omega) (fun z => some (z, (0 : Int))) (fun x => decide (w64 (x.Hi + 1) = lo)) (fun x hx => by have := j2.2 x hx; rw [ZO (by omega) (by omega)])]
    rfl
 ·rw [if_pos (by simp [h]), if_neg h]
theorem zFA (w : zY) (hw : LenW w) (s : zD) (height : Int) : (QS w s height).1.length ≤ 10081 ∧ ∀ x ∈ (QS w s height).1, 0 ≤ x.Lo ∧ x.Lo ≤ x.Hi ∧ x.Hi ≤ 1048576 := by
 unfold QS
 split
 ·rename_i h
  obtain ⟨g, l0, l1, l2, l3⟩ := zMa hw h
  have := zH0 (H := hgt w) (height := height) (s := s) (left s.Hi s.Lo) s.Lo [] (Int.le_refl _) ⟨by simp, by simp⟩
  have e : s.Lo + (left s.Hi s.Lo : Nat) = s.Hi + 1 := by unfold left; omega
  rw [e] at this
  refine ⟨by have := this.1; simp only; omega, fun x hx => ?_⟩
  have := this.2 x hx
  omega
 ·simp
end Go.Mx
