/- Plain laws: loops, lists, entries of maps, insertion. Conditions: none. -/
import Derived.Test.YtkomoedegnckhaaM
import Derived.Test.YtkomoedegnckhaaOkp
set_option linter.unusedVariables false
set_option linter.unusedSimpArgs false
namespace Go.Mx
theorem lp_inv' {σ ρ : Type} {body : σ → Option (σ ⊕ ρ)} {s0 : σ} (I : Nat → σ → Prop) (P : ρ → Prop) (n : Nat) (hn : n < 18446744073709551615) (h0 : I 0 s0) (step : ∀ i s, i ≤ n → I i s → (i < n ∧ ∃ s', body s = some (.inl s') ∧ I (i + 1) s') ∨ ∃ r, body s = some (.inr r) ∧ P r) : ∃ r, Lp body fuel s0 = some r ∧ P r := by
 have key : ∀ (m i : Nat) (s : σ), n < i + m → i ≤ n → I i s → ∃ r, Lp body m s = some r ∧ P r := by
  intro m
  induction m with
  | zero => intro i s h h' hI; omega
  | succ m ih =>
   intro i s h h' hI
   rcases step i s h' hI with ⟨h1, s', h2, h3⟩ | ⟨r, h1, h2⟩
   ·rw [lp_next m h2]; exact ih (i + 1) s' (by omega) (by omega) h3
   ·rw [lp_done m h1]; exact ⟨r, rfl, h2⟩
 exact key fuel 0 s0 (by unfold fuel; omega) (Nat.zero_le _) h0
theorem ix_lt {α : Type} {l : List α} {i : Nat} (h : i < l.length) : ix l (i : Int) = some (l[i]'h) := by
 unfold ix
 rw [if_pos (by omega)]
 simp [h]
theorem w64s (i : Nat) (h : i + 1 ≤ 9223372036854775807) : w64 ((i : Int) + 1) = ((i + 1 : Nat) : Int) := by rw [w64_id (by omega) (by omega)]; omega
theorem lp_list {α τ σ ρ : Type} {body : σ → Option (σ ⊕ ρ)} (l : List α) (hl : l.length ≤ 9223372036854775807) (st : τ → Int → σ) (F : τ → List α → ρ) (J : Nat → τ → Prop) {a : τ} {s0 : σ} (e0 : s0 = st a 0) (h0 : J 0 a)
  (step : ∀ a (i : Nat) (hi : i < l.length), J i a → (∃ a', body (st a (i : Int)) = some (.inl (st a' ((i + 1 : Nat) : Int))) ∧ F a (l[i] :: l.drop (i + 1)) = F a' (l.drop (i + 1)) ∧ J (i + 1) a') ∨ body (st a (i : Int)) = some (.inr (F a (l[i] :: l.drop (i + 1)))))
  (last : ∀ a, J l.length a → body (st a (l.length : Int)) = some (.inr (F a []))) : Lp body fuel s0 = some (F a l) := by
 suffices h : ∃ r, Lp body fuel s0 = some r ∧ r = F a l by obtain ⟨r, h, rfl⟩ := h; exact h
 refine lp_inv' (fun i s => ∃ b, s = st b (i : Int) ∧ F a l = F b (l.drop i) ∧ J i b) _ l.length (by omega) ⟨a, by simpa using e0, by simp, h0⟩ fun i s hi hI => ?_
 obtain ⟨b, rfl, h1, h2⟩ := hI
 by_cases h : i < l.length
 ·have hd := List.drop_eq_getElem_cons h
  rcases step b i h h2 with ⟨a', q1, q2, q3⟩ | q1
  ·exact .inl ⟨h, _, q1, a', rfl, by rw [h1, hd, q2], q3⟩
  ·exact .inr ⟨_, q1, by rw [h1, hd]⟩
 ·have e : i = l.length := by omega
  subst e
  exact .inr ⟨_, last b h2, by rw [h1, List.drop_length]⟩
theorem sub_to {α : Type} {l : List α} {k : Nat} (h : k ≤ l.length) : sub l 0 (k : Int) = some (l.take k) := by unfold sub; rw [if_pos ⟨by omega, by omega, by omega⟩]; simp
theorem sub_from {α : Type} {l : List α} {k : Nat} (h : k ≤ l.length) : sub l (k : Int) (l.length : Int) = some (l.drop k) := by unfold sub; rw [if_pos ⟨by omega, by omega, by omega⟩]; simp
theorem app_ok {α : Type} {l r : List α} (h : l.length + r.length ≤ 4294967296) : app l r = some (l ++ r) := by unfold app; rw [if_pos h]
theorem put_nat {α : Type} (l : List α) (i : Nat) (x : α) : put l (i : Int) x = l.set i x := rfl
theorem sub_len {α : Type} [DecidableEq α] : ∀ {l r : List α}, l.Nodup → (∀ x ∈ l, x ∈ r) → l.length ≤ r.length
 | [], r, _, _ => Nat.zero_le _
 | a :: l, r, hn, hs => by
  rw [List.nodup_cons] at hn
  have ha := hs a List.mem_cons_self
  have := sub_len (l := l) (r := r.erase a) hn.2 fun x hx => (List.mem_erase_of_ne (fun e : x = a => hn.1 (by rw [← e]; exact hx))).2 (hs x (List.mem_cons_of_mem _ hx))
  rw [List.length_erase_of_mem ha] at this
  have : 0 < r.length := List.length_pos_of_mem ha
  simp only [List.length_cons]; omega
theorem lookM_set {α β : Type} [DecidableEq α] (k k' : α) (v : β) : ∀ (l : List (α × β)) (i : Nat), findK k l = some i → lookM k' (l.set i (k, v)) = if k' = k then some v else lookM k' l
 | [], i, h => by cases h
 | p :: r, i, h => by
  unfold findK at h
  by_cases e : k = p.1
  ·rw [if_pos e] at h
   cases h
   simp only [List.set_cons_zero, lookM]
   by_cases e2 : k' = k
   ·simp [e2]
   ·rw [if_neg e2, if_neg e2, if_neg (fun q => e2 (q.trans e.symm))]
  ·rw [if_neg e] at h
   cases hf : findK k r with
   | none => rw [hf] at h; cases h
   | some j =>
    rw [hf] at h
    cases h
    simp only [List.set_cons_succ, lookM]
    by_cases e2 : k' = p.1
    ·rw [if_pos e2, if_pos e2, if_neg (fun q => e (q.symm.trans e2))]
    ·rw [if_neg e2, if_neg e2]; exact lookM_set k k' v r j hf
theorem lookM_insL {α β : Type} [DecidableEq α] (k k' : α) (v : β) : ∀ (l : List (α × β)) (n : Nat), lookM k l = none → lookM k' (insL l n (k, v)) = if k' = k then some v else lookM k' l
 | [], 0, _ => by simp [insL, lookM]
 | [], n + 1, _ => by simp [insL, lookM]
 | p :: r, 0, h => by simp [insL, lookM]
 | p :: r, n + 1, h => by
  simp only [lookM] at h
  split at h
  ·cases h
  ·rename_i e
   simp only [insL, lookM]
   rw [lookM_insL k k' v r n h]
   by_cases e2 : k' = p.1
   ·rw [if_pos e2, if_pos e2, if_neg (fun q => e (q.symm.trans e2))]
   ·rw [if_neg e2, if_neg e2]
theorem lookM_put {α β : Type} [DecidableEq α] (pos : α → List α → Nat) (k k' : α) (v : β) (l : List (α × β)) : lookM k' (putM pos l k v) = if k' = k then some v else lookM k' l := by
 unfold putM
 cases hf : findK k l with
 | some i => exact lookM_set k k' v l i hf
 | none =>
  have := findK_spec (k := k) (l := l)
  rw [hf] at this
  exact lookM_insL k k' v l _ this.1
def insB {α : Type} (p : α → Bool) (l : List α) (x : α) : List α := l.takeWhile p ++ x :: l.dropWhile p
theorem insB_perm {α : Type} (p : α → Bool) (l : List α) (x : α) : (insB p l x).Perm (x :: l) := by
 unfold insB
 refine List.perm_middle.trans ?_
 rw [List.takeWhile_append_dropWhile]
theorem tw_spec {α : Type} (p : α → Bool) : ∀ (l : List α), (∀ (j : Nat) (h : j < l.length), j < (l.takeWhile p).length → p l[j] = true) ∧ (∀ h : (l.takeWhile p).length < l.length, p l[(l.takeWhile p).length] = false) ∧ (l.takeWhile p).length ≤ l.length ∧ l.take (l.takeWhile p).length = l.takeWhile p ∧ l.drop (l.takeWhile p).length = l.dropWhile p
 | [] => by simp
 | a :: r => by
  obtain ⟨h1, h2, h3, h4, h5⟩ := tw_spec p r
  cases hp : p a with
  | false => simp [List.takeWhile, List.dropWhile, hp]
  | true =>
   simp only [List.takeWhile_cons, List.dropWhile_cons, hp, if_true, List.length_cons, List.take_succ_cons, List.drop_succ_cons]
   refine ⟨fun j hj hj2 => ?_, fun h => ?_, by omega, by rw [h4], h5⟩
   ·cases j with
    | zero => simpa using hp
    | succ j => simpa using h1 j (by simpa using hj) (by omega)
   ·simpa using h2 (by omega)
theorem tw_loop {α ρ : Type} (p : α → Bool) (l : List α) (hl : l.length ≤ 1000000) {body : Int → Option (Int ⊕ ρ)} (res : ρ)
  (step : ∀ (i : Nat) (h : i < l.length), p l[i] = true → body (i : Int) = some (.inl ((i + 1 : Nat) : Int)))
  (stop : ∀ (i : Nat) (h : i < l.length), p l[i] = false → i = (l.takeWhile p).length → body (i : Int) = some (.inr res)) (last : (l.takeWhile p).length = l.length → body (l.length : Int) = some (.inr res)) : Lp body fuel 0 = some res := by
 obtain ⟨h1, h2, h3, h4, h5⟩ := tw_spec p l
 suffices h : ∃ r, Lp body fuel 0 = some r ∧ r = res by obtain ⟨r, h, rfl⟩ := h; exact h
 refine lp_inv' (fun (i : Nat) (s : Int) => s = (i : Int) ∧ i ≤ (l.takeWhile p).length) _ l.length (by omega) ⟨rfl, Nat.zero_le _⟩ fun i s hi hI => ?_
 obtain ⟨rfl, hk⟩ := hI
 by_cases hlt : i < l.length
 ·by_cases hk2 : i < (l.takeWhile p).length
  ·exact .inl ⟨hlt, _, step i hlt (h1 i hlt hk2), rfl, by omega⟩
  ·have e : i = (l.takeWhile p).length := by omega
   refine .inr ⟨_, stop i hlt ?_ e, rfl⟩
   subst e; exact h2 hlt
 ·have e : i = l.length := by omega
  subst e
  exact .inr ⟨_, last (by omega), rfl⟩
theorem insB_sorted {α : Type} {le : α → α → Prop} {p : α → Bool} {x : α} (tr : ∀ a b c, le a b → le b c → le a c) (h1 : ∀ a, p a = true → le a x) (h2 : ∀ a, p a = false → le x a) : ∀ {l : List α}, l.Pairwise le → (insB p l x).Pairwise le
 | [], _ => by simp [insB]
 | a :: r, h => by
  unfold insB
  rw [List.pairwise_cons] at h
  cases hp : p a with
  | false =>
   simp only [List.takeWhile_cons, List.dropWhile_cons, hp, Bool.false_eq_true, if_false, List.nil_append]
   rw [List.pairwise_cons]
   refine ⟨fun b hb => ?_, List.pairwise_cons.2 h⟩
   rcases List.mem_cons.1 hb with rfl | hb
   ·exact h2 _ hp
   ·exact tr _ _ _ (h2 _ hp) (h.1 b hb)
  | true =>
   simp only [List.takeWhile_cons, List.dropWhile_cons, hp, if_true, List.cons_append]
   rw [List.pairwise_cons]
   refine ⟨fun b hb => ?_, insB_sorted tr h1 h2 h.2⟩
   have := (insB_perm p r x).mem_iff.1 hb
   rcases List.mem_cons.1 this with rfl | hb
   ·exact h1 _ hp
   ·exact h.1 b hb
end Go.Mx
