/- Plain laws: loops, lists, entries of maps, insertion. Conditions: none. -/
import Derived.Test.YthfnbjoecocfaaaM
import Derived.Test.YthfnbjoecocfaaaOkp
set_option linter.unusedVariables false
set_option linter.unusedSimpArgs false
namespace Go.Mx

theorem lp_inv' {σ ρ : Type} {body : σ → Option (σ ⊕ ρ)} {s0 : σ} (I : Nat → σ → Prop) (P : ρ → Prop) (n : Nat) (hn : n < 18446744073709551615) (h0 : I 0 s0) (step : ∀ i s, i ≤ n → I i s → (i < n ∧ ∃ s', body s = some (.inl s') ∧ I (i + 1) s') ∨ ∃ r, body s = some (.inr r) ∧ P r) : ∃ r, Lp body fuel s0 = some r ∧ P r := by
  have key : ∀ (m i : Nat) (s : σ), n < i + m → i ≤ n → I i s → ∃ r, Lp body m s = some r ∧ P r := by
    intro m
    induction m with
    | zero => intro i s h h' hI; omega
    | succ m ih =>
      intro i s h h' hI
      rcases step i s h' hI with ⟨h1, s', h2, h3⟩ | ⟨r, h1, h2⟩
      · rw [lp_next m h2]; exact ih (i + 1) s' (by omega) (by omega) h3
      · rw [lp_done m h1]; exact ⟨r, rfl, h2⟩
  exact key fuel 0 s0 (by unfold fuel; omega) (Nat.zero_le _) h0
theorem lp_once {σ ρ : Type} {body : σ → Option (σ ⊕ ρ)} {s : σ} {r : ρ} (h : body s = some (.inr r)) : Lp body fuel s = some r := by
  obtain ⟨y, h1, h2⟩ := lp_inv' (body := body) (s0 := s) (fun _ s' => s' = s) (fun y => y = r) 0 (by omega) rfl fun i s' _ hI => .inr ⟨r, by rw [hI, h], rfl⟩
  rw [h1, h2]
theorem ix_lt {α : Type} {l : List α} {i : Nat} (h : i < l.length) : ix l (i : Int) = some (l[i]'h) := by
  unfold ix
  rw [if_pos (by omega)]
  simp [h]
/-- As long as a list may be. -/
def Len {α : Type} (l : List α) : Prop := l.length ≤ 9223372036854775807
theorem w64s (i : Nat) (h : i + 1 ≤ 9223372036854775807) : w64 ((i : Int) + 1) = ((i + 1 : Nat) : Int) := by rw [w64_id (by omega) (by omega)]; omega
theorem w64s' {i n : Nat} (h : i < n) (hn : n ≤ 9223372036854775807) : w64 ((i : Int) + 1) = ((i + 1 : Nat) : Int) := w64s i (by omega)
theorem lp_list {α τ σ ρ : Type} {body : σ → Option (σ ⊕ ρ)} (l : List α) (hl : l.length ≤ 9223372036854775807) (st : τ → Int → σ) (F : τ → List α → ρ) (J : Nat → τ → Prop) {a : τ} {s0 : σ} (e0 : s0 = st a 0) (h0 : J 0 a)
    (step : ∀ a (i : Nat) (hi : i < l.length), J i a → (∃ a', body (st a (i : Int)) = some (.inl (st a' ((i + 1 : Nat) : Int))) ∧ F a (l[i] :: l.drop (i + 1)) = F a' (l.drop (i + 1)) ∧ J (i + 1) a') ∨ body (st a (i : Int)) = some (.inr (F a (l[i] :: l.drop (i + 1)))))
    (last : ∀ a, J l.length a → body (st a (l.length : Int)) = some (.inr (F a []))) : Lp body fuel s0 = some (F a l) := by
  suffices h : ∃ r, Lp body fuel s0 = some r ∧ r = F a l by obtain ⟨r, h, rfl⟩ := h; exact h
  refine lp_inv' (fun i s => ∃ b, s = st b (i : Int) ∧ F a l = F b (l.drop i) ∧ J i b) _ l.length (by omega) ⟨a, by simpa using e0, by simp, h0⟩ fun i s hi hI => ?_
  obtain ⟨b, rfl, h1, h2⟩ := hI
  by_cases h : i < l.length
  · have hd := List.drop_eq_getElem_cons h
    rcases step b i h h2 with ⟨a', q1, q2, q3⟩ | q1
    · exact .inl ⟨h, _, q1, a', rfl, by rw [h1, hd, q2], q3⟩
    · exact .inr ⟨_, q1, by rw [h1, hd]⟩
  · have e : i = l.length := by omega
    subst e
    exact .inr ⟨_, last b h2, by rw [h1, List.drop_length]⟩
theorem sub_to {α : Type} {l : List α} {k : Nat} (h : k ≤ l.length) : sub l 0 (k : Int) = some (l.take k) := by unfold sub; rw [if_pos ⟨by omega, by omega, by omega⟩]; simp
theorem app_ok {α : Type} {l r : List α} (h : l.length + r.length ≤ 4294967296) : app l r = some (l ++ r) := by unfold app; rw [if_pos h]
theorem put_nat {α : Type} (l : List α) (i : Nat) (x : α) : put l (i : Int) x = l.set i x := rfl
theorem sameO_ok {α β : Type} {l : List α} {r : List β} (h : l.length = r.length) : sameO l r = some () := by unfold sameO; rw [if_pos h]

/-- A number of a list, or 0. -/
def gI (l : List Int) (i : Nat) : Int := l.getD i 0
theorem gI_get {l : List Int} {i : Nat} (h : i < l.length) : gI l i = l[i] := by simp [gI, List.getD_eq_getElem?_getD, h]
theorem ix_gI {l : List Int} {i : Nat} (h : i < l.length) : ix l (i : Int) = some (gI l i) := by rw [ix_lt h, gI_get h]
theorem gI_set {l : List Int} {i : Nat} (h : i < l.length) (v : Int) (j : Nat) : gI (l.set i v) j = if j = i then v else gI l j := by
  unfold gI
  rw [List.getD_eq_getElem?_getD, List.getD_eq_getElem?_getD, List.getElem?_set]
  by_cases e : j = i
  · subst e; simp [h]
  · rw [if_neg (fun q => e q.symm), if_neg e]
/-- Different ones among others are no more. -/
theorem sub_len {α : Type} [DecidableEq α] : ∀ {l r : List α}, l.Nodup → (∀ x ∈ l, x ∈ r) → l.length ≤ r.length
  | [], r, _, _ => Nat.zero_le _
  | a :: l, r, hn, hs => by
    rw [List.nodup_cons] at hn
    have ha := hs a List.mem_cons_self
    have := sub_len (l := l) (r := r.erase a) hn.2 fun x hx => (List.mem_erase_of_ne (fun e : x = a => hn.1 (by rw [← e]; exact hx))).2 (hs x (List.mem_cons_of_mem _ hx))
    rw [List.length_erase_of_mem ha] at this
    have : 0 < r.length := List.length_pos_of_mem ha
    simp only [List.length_cons]; omega
/-- The first number of which p does not hold. -/
def lst (p : Nat → Bool) : Nat → Nat → Nat
  | n, 0 => n
  | n, f + 1 => if p n = true then lst p (n + 1) f else n
theorem lst_spec (p : Nat → Bool) : ∀ (f n : Nat), (∃ m, n ≤ m ∧ m ≤ n + f ∧ p m = false) → p (lst p n f) = false ∧ n ≤ lst p n f ∧ lst p n f ≤ n + f ∧ ∀ m, n ≤ m → m < lst p n f → p m = true
  | 0, n, ⟨m, h1, h2, h3⟩ => by
    have : m = n := by omega
    subst this
    exact ⟨h3, Nat.le_refl _, Nat.le_refl _, fun m h1 h2 => by unfold lst at h2; omega⟩
  | f + 1, n, ⟨m, h1, h2, h3⟩ => by
    unfold lst
    by_cases hp : p n = true
    · rw [if_pos hp]
      have hne : m ≠ n := fun e => by rw [e, hp] at h3; cases h3
      obtain ⟨q1, q2, q3, q4⟩ := lst_spec p f (n + 1) ⟨m, by omega, by omega, h3⟩
      refine ⟨q1, by omega, by omega, fun k hk hk2 => ?_⟩
      by_cases e : k = n
      · subst e; exact hp
      · exact q4 k (by omega) hk2
    · rw [if_neg hp]
      exact ⟨by simpa using hp, Nat.le_refl _, by omega, fun k hk hk2 => by omega⟩
theorem lst_uniq {p : Nat → Bool} {f n : Nat} (h1 : p n = false) (h2 : ∀ m, m < n → p m = true) (h3 : n ≤ f) : lst p 0 f = n := by
  obtain ⟨q1, _, _, q4⟩ := lst_spec p f 0 ⟨n, Nat.zero_le _, by omega, h1⟩
  rcases Nat.lt_trichotomy (lst p 0 f) n with h | h | h
  · rw [h2 _ h] at q1; cases q1
  · exact h
  · rw [q4 n (Nat.zero_le _) h] at h1; cases h1

/-! Entries of maps. -/
theorem lookM_set {α β : Type} [DecidableEq α] (k k' : α) (v : β) : ∀ (l : List (α × β)) (i : Nat), findK k l = some i → lookM k' (l.set i (k, v)) = if k' = k then some v else lookM k' l
  | [], i, h => by cases h
  | p :: r, i, h => by
    unfold findK at h
    by_cases e : k = p.1
    · rw [if_pos e] at h
      cases h
      simp only [List.set_cons_zero, lookM]
      by_cases e2 : k' = k
      · simp [e2]
      · rw [if_neg e2, if_neg e2, if_neg (fun q => e2 (q.trans e.symm))]
    · rw [if_neg e] at h
      cases hf : findK k r with
      | none => rw [hf] at h; cases h
      | some j =>
        rw [hf] at h
        cases h
        simp only [List.set_cons_succ, lookM]
        by_cases e2 : k' = p.1
        · rw [if_pos e2, if_pos e2, if_neg (fun q => e (q.symm.trans e2))]
        · rw [if_neg e2, if_neg e2]; exact lookM_set k k' v r j hf
theorem lookM_insL {α β : Type} [DecidableEq α] (k k' : α) (v : β) : ∀ (l : List (α × β)) (n : Nat), lookM k l = none → lookM k' (insL l n (k, v)) = if k' = k then some v else lookM k' l
  | [], 0, _ => by simp [insL, lookM]
  | [], n + 1, _ => by simp [insL, lookM]
  | p :: r, 0, h => by simp [insL, lookM]
  | p :: r, n + 1, h => by
    simp only [lookM] at h
    split at h
    · cases h
    · rename_i e
      simp only [insL, lookM]
      rw [lookM_insL k k' v r n h]
      by_cases e2 : k' = p.1
      · rw [if_pos e2, if_pos e2, if_neg (fun q => e (q.symm.trans e2))]
      · rw [if_neg e2, if_neg e2]
theorem lookM_put {α β : Type} [DecidableEq α] (pos : α → List α → Nat) (k k' : α) (v : β) (l : List (α × β)) : lookM k' (putM pos l k v) = if k' = k then some v else lookM k' l := by
  unfold putM
  cases hf : findK k l with
  | some i => exact lookM_set k k' v l i hf
  | none =>
    have := findK_spec (k := k) (l := l)
    rw [hf] at this
    exact lookM_insL k k' v l _ this.1

/-! Insertion. -/
def insB {α : Type} (p : α → Bool) (l : List α) (x : α) : List α := l.takeWhile p ++ x :: l.dropWhile p
theorem insB_perm {α : Type} (p : α → Bool) (l : List α) (x : α) : (insB p l x).Perm (x :: l) := by
  unfold insB
  refine List.perm_middle.trans ?_
  rw [List.takeWhile_append_dropWhile]
theorem insB_sorted {α : Type} {le : α → α → Prop} {p : α → Bool} {x : α} (tr : ∀ a b c, le a b → le b c → le a c) (h1 : ∀ a, p a = true → le a x) (h2 : ∀ a, p a = false → le x a) : ∀ {l : List α}, l.Pairwise le → (insB p l x).Pairwise le
  | [], _ => by simp [insB]
  | a :: r, h => by
    unfold insB
    rw [List.pairwise_cons] at h
    cases hp : p a with
    | false =>
      simp only [List.takeWhile_cons, List.dropWhile_cons, hp, Bool.false_eq_true, if_false, List.nil_append]
      rw [List.pairwise_cons]
      refine ⟨fun b hb => ?_, List.pairwise_cons.2 h⟩
      rcases List.mem_cons.1 hb with rfl | hb
      · exact h2 _ hp
      · exact tr _ _ _ (h2 _ hp) (h.1 b hb)
    | true =>
      simp only [List.takeWhile_cons, List.dropWhile_cons, hp, if_true, List.cons_append]
      rw [List.pairwise_cons]
      refine ⟨fun b hb => ?_, insB_sorted tr h1 h2 h.2⟩
      have := (insB_perm p r x).mem_iff.1 hb
      rcases List.mem_cons.1 this with rfl | hb
      · exact h1 _ hp
      · exact h.1 b hb
/-- An element goes to its place among those before it, which stand from the last one on. -/
def insR {α : Type} (lt : α → α → Bool) (e : α) : List α → List α → List α
  | [], B => e :: B
  | a :: A, B => if lt e a = true then insR lt e A (a :: B) else (a :: A).reverse ++ e :: B
theorem insR_eq {α : Type} {lt : α → α → Bool} {e : α} (tr : ∀ a b, lt e a = true → lt b a = false → lt e b = true) : ∀ (A B : List α), (A.reverse ++ B).Pairwise (fun x y => lt y x = false) → (∀ b ∈ B, lt e b = true) → insR lt e A B = insB (fun a => !lt e a) (A.reverse ++ B) e
  | [], B, h, hB => by
    unfold insR insB
    cases B with
    | nil => rfl
    | cons b B =>
      have := hB b List.mem_cons_self
      simp [List.takeWhile, List.dropWhile, this]
  | a :: A, B, h, hB => by
    have e1 : (a :: A).reverse ++ B = A.reverse ++ a :: B := by simp
    unfold insR
    by_cases hc : lt e a = true
    · rw [if_pos hc, e1]
      exact insR_eq tr A (a :: B) (by rw [← e1]; exact h) fun b hb => by
        rcases List.mem_cons.1 hb with rfl | hb
        · exact hc
        · exact hB b hb
    · rw [if_neg hc]
      have hall : ∀ x ∈ (a :: A).reverse, (!lt e x) = true := fun x hx => by
        rw [Bool.not_eq_true']
        cases hx2 : lt e x with
        | false => rfl
        | true =>
          exfalso
          rw [List.reverse_cons, List.mem_append, List.mem_singleton] at hx
          rcases hx with hx | rfl
          · rw [List.pairwise_append, List.reverse_cons, List.pairwise_append] at h
            exact hc (tr x a hx2 (h.1.2.2 x hx a (by simp)))
          · exact hc hx2
      unfold insB
      have ht : ∀ (L R : List α), (∀ x ∈ L, (!lt e x) = true) → (L ++ R).takeWhile (fun a => !lt e a) = L ++ R.takeWhile (fun a => !lt e a) ∧ (L ++ R).dropWhile (fun a => !lt e a) = R.dropWhile (fun a => !lt e a) := by
        intro L R hL
        induction L with
        | nil => simp
        | cons x L ih =>
          obtain ⟨i1, i2⟩ := ih fun y hy => hL y (List.mem_cons_of_mem _ hy)
          have := hL x List.mem_cons_self
          simp only [List.cons_append, List.takeWhile_cons, List.dropWhile_cons, this, if_true, i1, i2, and_self]
      obtain ⟨q1, q2⟩ := ht (a :: A).reverse B hall
      rw [q1, q2]
      cases B with
      | nil => simp
      | cons b B =>
        have := hB b List.mem_cons_self
        simp [List.takeWhile, List.dropWhile, this]
theorem ix_mid0 {α : Type} (P R : List α) (u v : α) : ix (P ++ u :: v :: R) (P.length : Int) = some u := by
  have h : P.length < (P ++ u :: v :: R).length := by simp
  rw [ix_lt h]; simp
theorem ix_mid1 {α : Type} (P R : List α) (u v : α) : ix (P ++ u :: v :: R) ((P.length + 1 : Nat) : Int) = some v := by
  have h : P.length + 1 < (P ++ u :: v :: R).length := by simp
  rw [ix_lt h]; simp
theorem set_mid2 {α : Type} (P R : List α) (u v : α) : ((P ++ u :: v :: R).set (P.length + 1) u).set P.length v = P ++ v :: u :: R := by simp
end Go.Mx
