/- Plain laws, berths: loops, lists, entries of maps (beside those of the tides). Conditions: none. -/
import Derived.Test.YtnkngglimidldaaGreatLawTideWindowsHold
set_option linter.unusedVariables false
set_option linter.unusedSimpArgs false
namespace Go.Mx
theorem qU {α : Type} {l r : List α} (h : l.length + r.length ≤ 4294967296) : app l r = some (l ++ r) := by unfold app; rw [if_pos h]
theorem yx {α : Type} (l : List α) (i : Nat) (x : α) : put l (i : Int) x = l.set i x := rfl
def gI (l : List Int) (i : Nat) : Int := l.getD i 0
theorem zBS {l : List Int} {i : Nat} (h : i < l.length) : gI l i = l[i] := by simp [gI, List.getD_eq_getElem?_getD, h]
theorem yh {l : List Int} {i : Nat} (h : i < l.length) : ix l (i : Int) = some (gI l i) := by rw [jO h, zBS h]
theorem JN {l : List Int} {i : Nat} (h : i < l.length) (v : Int) (j : Nat) : gI (l.set i v) j = if j = i then v else gI l j := by
 unfold gI
 rw [List.getD_eq_getElem?_getD, List.getD_eq_getElem?_getD, List.getElem?_set]
 by_cases e : j = i
 ·subst e; simp [h]
 ·rw [if_neg (fun q => e q.symm), if_neg e]
theorem Q8 {α : Type} [DecidableEq α] : ∀ {l r : List α}, l.Nodup → (∀ x ∈ l, x ∈ r) → l.length ≤ r.length
 | [], r, _, _ => Nat.zero_le _
 | a :: l, r, hn, hs => by
  rw [List.nodup_cons] at hn
  have ha := hs a List.mem_cons_self
  have := Q8 (l := l) (r := r.erase a) hn.2 fun x hx => (List.mem_erase_of_ne (fun e : x = a => hn.1 (by rw [← e]; exact hx))).2 (hs x (List.mem_cons_of_mem _ hx))
  rw [List.length_erase_of_mem ha] at this
  have : 0 < r.length := List.length_pos_of_mem ha
  simp only [List.length_cons]; omega
theorem zHY {α β : Type} [DecidableEq α] (k k' : α) (v : β) : ∀ (l : List (α × β)) (i : Nat), zAZ k l = some i → ZH k' (l.set i (k, v)) = if k' = k then some v else ZH k' l
 | [], i, h => by cases h
 | p :: r, i, h => by
  unfold zAZ at h
  by_cases e : k = p.1
  ·rw [if_pos e] at h
   cases h
   simp only [List.set_cons_zero, ZH]
   by_cases e2 : k' = k
   ·simp [e2]
   ·rw [if_neg e2, if_neg e2, if_neg (fun q => e2 (q.trans e.symm))]
  ·rw [if_neg e] at h
   cases hf : zAZ k r with
   | none => rw [hf] at h; cases h
   | some j =>
    rw [hf] at h
    cases h
    simp only [List.set_cons_succ, ZH]
    by_cases e2 : k' = p.1
    ·rw [if_pos e2, if_pos e2, if_neg (fun q => e (q.symm.trans e2))]
    ·rw [if_neg e2, if_neg e2]; exact zHY k k' v r j hf
theorem zGS {α β : Type} [DecidableEq α] (k k' : α) (v : β) : ∀ (l : List (α × β)) (n : Nat), ZH k l = none → ZH k' (insL l n (k, v)) = if k' = k then some v else ZH k' l
 | [], 0, _ => by simp [insL, ZH]
 | [], n + 1, _ => by simp [insL, ZH]
 | p :: r, 0, h => by simp [insL, ZH]
 | p :: r, n + 1, h => by
  simp only [ZH] at h
  split at h
  ·cases h
  ·rename_i e
   simp only [insL, ZH]
   rw [zGS k k' v r n h]
   by_cases e2 : k' = p.1
   ·rw [if_pos e2, if_pos e2, if_neg (fun q => e (q.symm.trans e2))]
   ·rw [if_neg e2, if_neg e2]
theorem zHZ {α β : Type} [DecidableEq α] (pos : α → List α → Nat) (k k' : α) (v : β) (l : List (α × β)) : ZH k' (putM pos l k v) = if k' = k then some v else ZH k' l := by
 unfold putM
 cases hf : zAZ k l with
 | some i => exact zHY k k' v l i hf
 | none =>
  have := zA6 (k := k) (l := l)
  rw [hf] at this
  exact zGS k k' v l _ this.1
def Yf {α : Type} (p : α → Bool) : List α → Int → Int
 | [], _ => -1
 | x :: r, i => if p x = true then i else Yf p r (i + 1)
theorem Q0 {α : Type} (p : α → Bool) : ∀ (l : List α) (k : Nat), (Yf p l k = -1 ∧ ∀ x ∈ l, p x = false) ∨ ∃ i : Nat, Yf p l k = ((k + i : Nat) : Int) ∧ ∃ h : i < l.length, p l[i] = true ∧ ∀ (j : Nat) (hj : j < i), p (l[j]'(by omega)) = false
 | [], k => .inl ⟨rfl, fun x hx => by cases hx⟩
 | x :: r, k => by
  unfold Yf
  by_cases hp : p x = true
  ·rw [if_pos hp]
   exact .inr ⟨0, rfl, Nat.zero_lt_succ _, hp, fun j hj => absurd hj (Nat.not_lt_zero _)⟩
  ·rw [if_neg hp]
   have hp' : p x = false := by simpa using hp
   have ih := Q0 p r (k + 1)
   rw [show ((k + 1 : Nat) : Int) = (k : Int) + 1 by omega] at ih
   rcases ih with ⟨h1, h2⟩ | ⟨i, h1, h2, h3, h4⟩
   ·exact .inl ⟨h1, fun y hy => by
     rcases List.mem_cons.1 hy with rfl | hy
     ·exact hp'
     ·exact h2 y hy⟩
   ·refine .inr ⟨i + 1, by rw [h1]; congr 1; omega, by simp only [List.length_cons]; omega, by simpa using h3, fun j hj => ?_⟩
    cases j with
    | zero => simpa using hp'
    | succ j => simpa using h4 j (by omega)
theorem zBw {α : Type} (p : α → Bool) (l : List α) (hl : Len l) {body : Int → Option (Int ⊕ Int)}
  (step : ∀ (i : Nat) (h : i < l.length), body (i : Int) = if p l[i] = true then some (.inr (i : Int)) else some (.inl ((i + 1 : Nat) : Int))) (last : body (l.length : Int) = some (.inr (-1))) : Lp body fuel 0 = some (Yf p l 0) := by
 refine J3 l hl (fun (_ : Unit) i => i) (fun (_ : Unit) r => Yf p r ((l.length - r.length : Nat) : Int)) (fun _ _ => True) (a := ()) rfl trivial (fun a i hi _ => ?_) (fun a _ => ?_) |>.trans ?_
 ·have e : l.length - (l[i] :: l.drop (i + 1)).length = i := by simp only [List.length_cons, List.length_drop]; omega
  have e2 : l.length - (l.drop (i + 1)).length = i + 1 := by simp only [List.length_drop]; omega
  rw [step i hi]
  by_cases hp : p l[i] = true
  ·right; rw [if_pos hp, e]; unfold Yf; rw [if_pos hp]
  ·left; refine ⟨(), by rw [if_neg hp], ?_, trivial⟩
   rw [e, e2, Yf, if_neg hp]; rfl
 ·rw [last]; rfl
 ·simp
end Go.Mx
