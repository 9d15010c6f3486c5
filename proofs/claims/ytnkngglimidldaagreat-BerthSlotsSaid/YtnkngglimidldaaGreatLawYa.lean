/- Plain laws, berths: loops, lists, entries of maps (beside those of the tides). Conditions: none. -/
import Derived.Test.YtnkngglimidldaaGreatLawTideWindowsHold
set_option linter.unusedVariables false
set_option linter.unusedSimpArgs false
namespace Go.Mx
theorem lp_meas {σ ρ : Type} {body : σ → Option (σ ⊕ ρ)} {s0 : σ} (I : σ → Prop) (μ : σ → Nat) (P : ρ → Prop) (hn : μ s0 < 18446744073709551615) (h0 : I s0) (step : ∀ s, I s → (∃ s', body s = some (.inl s') ∧ I s' ∧ μ s' < μ s) ∨ ∃ r, body s = some (.inr r) ∧ P r) : ∃ r, Lp body fuel s0 = some r ∧ P r := by
 have key : ∀ (m : Nat) (s : σ), μ s < m → I s → ∃ r, Lp body m s = some r ∧ P r := by
  intro m
  induction m with
  | zero => intro s h hI; omega
  | succ m ih =>
   intro s h hI
   rcases step s hI with ⟨s', h2, h3, h4⟩ | ⟨r, h1, h2⟩
   ·rw [lp_next m h2]; exact ih s' (by omega) h3
   ·rw [lp_done m h1]; exact ⟨r, rfl, h2⟩
 exact key fuel s0 (by unfold fuel; omega) h0
theorem app_ok {α : Type} {l r : List α} (h : l.length + r.length ≤ 4294967296) : app l r = some (l ++ r) := by unfold app; rw [if_pos h]
def gI (l : List Int) (i : Nat) : Int := l.getD i 0
theorem gI_get {l : List Int} {i : Nat} (h : i < l.length) : gI l i = l[i] := by simp [gI, List.getD_eq_getElem?_getD, h]
theorem ix_gI {l : List Int} {i : Nat} (h : i < l.length) : ix l (i : Int) = some (gI l i) := by rw [ix_lt h, gI_get h]
theorem sub_len {α : Type} [DecidableEq α] : ∀ {l r : List α}, l.Nodup → (∀ x ∈ l, x ∈ r) → l.length ≤ r.length
 | [], r, _, _ => Nat.zero_le _
 | a :: l, r, hn, hs => by
  rw [List.nodup_cons] at hn
  have ha := hs a List.mem_cons_self
  have := sub_len (l := l) (r := r.erase a) hn.2 fun x hx => (List.mem_erase_of_ne (fun e : x = a => hn.1 (by rw [← e]; exact hx))).2 (hs x (List.mem_cons_of_mem _ hx))
  rw [List.length_erase_of_mem ha] at this
  have : 0 < r.length := List.length_pos_of_mem ha
  simp only [List.length_cons]; omega
def firstI {α : Type} (p : α → Bool) : List α → Int → Int
 | [], _ => -1
 | x :: r, i => if p x = true then i else firstI p r (i + 1)
theorem firstI_spec {α : Type} (p : α → Bool) : ∀ (l : List α) (k : Nat), (firstI p l k = -1 ∧ ∀ x ∈ l, p x = false) ∨ ∃ i : Nat, firstI p l k = ((k + i : Nat) : Int) ∧ ∃ h : i < l.length, p l[i] = true ∧ ∀ (j : Nat) (hj : j < i), p (l[j]'(by omega)) = false
 | [], k => .inl ⟨rfl, fun x hx => by cases hx⟩
 | x :: r, k => by
  unfold firstI
  by_cases hp : p x = true
  ·rw [if_pos hp]
   exact .inr ⟨0, rfl, Nat.zero_lt_succ _, hp, fun j hj => absurd hj (Nat.not_lt_zero _)⟩
  ·rw [if_neg hp]
   have hp' : p x = false := by simpa using hp
   have ih := firstI_spec p r (k + 1)
   rw [show ((k + 1 : Nat) : Int) = (k : Int) + 1 by omega] at ih
   rcases ih with ⟨h1, h2⟩ | ⟨i, h1, h2, h3, h4⟩
   ·exact .inl ⟨h1, fun y hy => by
     rcases List.mem_cons.1 hy with rfl | hy
     ·exact hp'
     ·exact h2 y hy⟩
   ·refine .inr ⟨i + 1, by rw [h1]; congr 1; omega, by simp only [List.length_cons]; omega, by simpa using h3, fun j hj => ?_⟩
    cases j with
    | zero => simpa using hp'
    | succ j => simpa using h4 j (by omega)
theorem index_loop {α : Type} (p : α → Bool) (l : List α) (hl : Len l) {body : Int → Option (Int ⊕ Int)}
  (step : ∀ (i : Nat) (h : i < l.length), body (i : Int) = if p l[i] = true then some (.inr (i : Int)) else some (.inl ((i + 1 : Nat) : Int))) (last : body (l.length : Int) = some (.inr (-1))) : Lp body fuel 0 = some (firstI p l 0) := by
 refine lp_list l hl (fun (_ : Unit) i => i) (fun (_ : Unit) r => firstI p r ((l.length - r.length : Nat) : Int)) (fun _ _ => True) (a := ()) rfl trivial (fun a i hi _ => ?_) (fun a _ => ?_) |>.trans ?_
 ·have e : l.length - (l[i] :: l.drop (i + 1)).length = i := by simp only [List.length_cons, List.length_drop]; omega
  have e2 : l.length - (l.drop (i + 1)).length = i + 1 := by simp only [List.length_drop]; omega
  rw [step i hi]
  by_cases hp : p l[i] = true
  ·right; rw [if_pos hp, e]; unfold firstI; rw [if_pos hp]
  ·left; refine ⟨(), by rw [if_neg hp], ?_, trivial⟩
   rw [e, e2, firstI, if_neg hp]; rfl
 ·rw [last]; rfl
 ·simp
end Go.Mx
