/- Plain laws of ships, first part: loops, numbers of 64 bits, sums. Conditions: none. -/
import Derived.Test.YtbmojhkipnnmlaaGreatM
import Derived.Test.YtbmojhkipnnmlaaGreatOkp
set_option linter.unusedVariables false
set_option linter.unusedSimpArgs false
namespace Go.Mx
theorem lp_inv' {σ ρ : Type} {body : σ → Option (σ ⊕ ρ)} {s0 : σ} (I : Nat → σ → Prop) (P : ρ → Prop) (n : Nat) (hn : n < 18446744073709551615) (h0 : I 0 s0) (step : ∀ i s, i ≤ n → I i s → (i < n ∧ ∃ s', body s = some (.inl s') ∧ I (i + 1) s') ∨ ∃ r, body s = some (.inr r) ∧ P r) : ∃ r, Lp body fuel s0 = some r ∧ P r := by
 have key : ∀ (m i : Nat) (s : σ), n < i + m → i ≤ n → I i s → ∃ r, Lp body m s = some r ∧ P r := by
  intro m
  induction m with
  | zero => intro i s h h' hI; omega
  | succ m ih =>
   intro i s h h' hI
   rcases step i s h' hI with ⟨h1, s', h2, h3⟩ | ⟨r, h1, h2⟩
   ·rw [lp_next m h2]; exact ih (i + 1) s' (by omega) (by omega) h3
   ·rw [lp_done m h1]; exact ⟨r, rfl, h2⟩
 exact key fuel 0 s0 (by unfold fuel; omega) (Nat.zero_le _) h0
theorem ix_lt {α : Type} {l : List α} {i : Nat} (h : i < l.length) : ix l (i : Int) = some (l[i]'h) := by
 unfold ix
 rw [if_pos (by omega)]
 simp [h]
def Len {α : Type} (l : List α) : Prop := l.length ≤ 9223372036854775807
theorem w64s (i : Nat) (h : i + 1 ≤ 9223372036854775807) : w64 ((i : Int) + 1) = ((i + 1 : Nat) : Int) := by rw [w64_id (by omega) (by omega)]; omega
theorem w64s' {i n : Nat} (h : i < n) (hn : n ≤ 9223372036854775807) : w64 ((i : Int) + 1) = ((i + 1 : Nat) : Int) := w64s i (by omega)
theorem lp_list {α τ σ ρ : Type} {body : σ → Option (σ ⊕ ρ)} (l : List α) (hl : l.length ≤ 9223372036854775807) (st : τ → Int → σ) (F : τ → List α → ρ) (J : Nat → τ → Prop) {a : τ} {s0 : σ} (e0 : s0 = st a 0) (h0 : J 0 a)
  (step : ∀ a (i : Nat) (hi : i < l.length), J i a → (∃ a', body (st a (i : Int)) = some (.inl (st a' ((i + 1 : Nat) : Int))) ∧ F a (l[i] :: l.drop (i + 1)) = F a' (l.drop (i + 1)) ∧ J (i + 1) a') ∨ body (st a (i : Int)) = some (.inr (F a (l[i] :: l.drop (i + 1)))))
  (last : ∀ a, J l.length a → body (st a (l.length : Int)) = some (.inr (F a []))) : Lp body fuel s0 = some (F a l) := by
 suffices h : ∃ r, Lp body fuel s0 = some r ∧ r = F a l by obtain ⟨r, h, rfl⟩ := h; exact h
 refine lp_inv' (fun i s => ∃ b, s = st b (i : Int) ∧ F a l = F b (l.drop i) ∧ J i b) _ l.length (by omega) ⟨a, by simpa using e0, by simp, h0⟩ fun i s hi hI => ?_
 obtain ⟨b, rfl, h1, h2⟩ := hI
 by_cases h : i < l.length
 ·have hd := List.drop_eq_getElem_cons h
  rcases step b i h h2 with ⟨a', q1, q2, q3⟩ | q1
  ·exact .inl ⟨h, _, q1, a', rfl, by rw [h1, hd, q2], q3⟩
  ·exact .inr ⟨_, q1, by rw [h1, hd]⟩
 ·have e : i = l.length := by omega
  subst e
  exact .inr ⟨_, last b h2, by rw [h1, List.drop_length]⟩
theorem sub_pre {α : Type} {l : List α} {i : Nat} (h : i ≤ l.length) : sub l 0 (i : Int) = some (l.take i) := by
 unfold sub
 rw [if_pos ⟨by omega, by omega, by omega⟩]
 simp
theorem app_ok {α : Type} {l r : List α} (h : l.length + r.length ≤ 4294967296) : app l r = some (l ++ r) := by unfold app; rw [if_pos h]
theorem w64_w (a : Int) : w64 (w64 a) = w64 a := by unfold w64; omega
theorem w64_add' (a b : Int) : w64 (a + w64 b) = w64 (a + b) := by unfold w64; omega
theorem w64_sub' (a b : Int) : w64 (a - w64 b) = w64 (a - b) := by unfold w64; omega
theorem mul_bd {a b A B : Int} (h1 : -A ≤ a) (h2 : a ≤ A) (h3 : -B ≤ b) (h4 : b ≤ B) : -(A * B) ≤ a * b ∧ a * b ≤ A * B := by
 have hA : 0 ≤ A := by omega
 have hB : 0 ≤ B := by omega
 rcases Int.le_total 0 a with ha | ha
 ·have e1 : a * b ≤ a * B := Int.mul_le_mul_of_nonneg_left h4 ha
  have e2 : a * B ≤ A * B := Int.mul_le_mul_of_nonneg_right h2 hB
  have e3 : a * -B ≤ a * b := Int.mul_le_mul_of_nonneg_left h3 ha
  rw [Int.mul_neg] at e3
  omega
 ·have e1 : a * B ≤ a * b := Int.mul_le_mul_of_nonpos_left ha h4
  have e2 : a * b ≤ a * -B := Int.mul_le_mul_of_nonpos_left ha h3
  have e3 : -A * B ≤ a * B := Int.mul_le_mul_of_nonneg_right h1 hB
  rw [Int.neg_mul] at e3
  rw [Int.mul_neg] at e2
  omega
theorem hsum_eq (x : List Int) (hl : Len x) : hull_sum x = some (w64 x.sum) := by
 have h := lp_list (body := hull_sum_b2 x) (s0 := (0, 0)) x hl (fun n i => (n, i)) (fun n l => w64 (n + l.sum)) (fun i n => w64 n = n) (a := 0) rfl rfl (fun a i hi hJ => ?_) (fun a hJ => ?_)
 ·unfold hull_sum; rw [h]; simp
 ·left
  refine ⟨w64 (a + x[i]), ?_, ?_, w64_w _⟩
  ·unfold hull_sum_b2; simp only; rw [if_pos (by simpa using hi), ix_lt hi, Option.bind_some, w64s' hi hl]
  ·rw [List.sum_cons, w64_add]; congr 1; omega
 ·unfold hull_sum_b2; simp only; rw [if_neg (by simp)]; simp [hull_sum_j1, hJ]
def roomSum (l : List api_Hold) : Int := (l.map (·.Room)).sum
theorem hrooms_eq (s : api_Ship) (hl : Len s.Holds) : hull_rooms s = some (w64 (s.Light + roomSum s.Holds)) ∨ w64 s.Light ≠ s.Light := by
 by_cases h0 : w64 s.Light = s.Light
 ·left
  have h := lp_list (body := hull_rooms_b2 s) (s0 := (s.Light, 0)) s.Holds hl (fun n i => (n, i)) (fun n l => w64 (n + roomSum l)) (fun i n => w64 n = n) (a := s.Light) rfl h0 (fun a i hi hJ => ?_) (fun a hJ => ?_)
  ·exact h
  ·left
   refine ⟨w64 (a + s.Holds[i].Room), ?_, ?_, w64_w _⟩
   ·unfold hull_rooms_b2; simp only; rw [if_pos (by simpa using hi), ix_lt hi, Option.bind_some, w64s' hi hl]
   ·simp only [roomSum, List.map_cons, List.sum_cons]; rw [w64_add]; congr 1; omega
  ·unfold hull_rooms_b2; simp only; rw [if_neg (by simp)]; simp [hull_rooms_j1, hJ, roomSum]
 ·exact .inr h0
def loSum (l : List api_Span) : Int := (l.map (·.Lo)).sum
def hiSum (l : List api_Span) : Int := (l.map (·.Hi)).sum
theorem hsums_eq (l : List api_Span) (hl : Len l) : hull_sums l = some ⟨w64 (loSum l), w64 (hiSum l)⟩ := by
 have h := lp_list (body := hull_sums_b2 l) (s0 := (0, 0, 0)) l hl (fun (n : Int × Int) i => (i, n.1, n.2)) (fun n l => (⟨w64 (n.1 + loSum l), w64 (n.2 + hiSum l)⟩ : api_Span)) (fun i n => w64 n.1 = n.1 ∧ w64 n.2 = n.2) (a := (0, 0)) rfl ⟨rfl, rfl⟩ (fun a i hi hJ => ?_) (fun a hJ => ?_)
 ·unfold hull_sums; rw [h]; simp
 ·left
  refine ⟨(w64 (a.1 + l[i].Lo), w64 (a.2 + l[i].Hi)), ?_, ?_, w64_w _, w64_w _⟩
  ·unfold hull_sums_b2; simp only; rw [if_pos (by simpa using hi), ix_lt hi, Option.bind_some, w64s' hi hl]
  ·simp only [loSum, hiSum, List.map_cons, List.sum_cons]; rw [w64_add, w64_add]; congr 2 <;> omega
 ·unfold hull_sums_b2; simp only; rw [if_neg (by simp)]; simp [hull_sums_j1, hJ, loSum, hiSum]
end Go.Mx
