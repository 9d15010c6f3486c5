/- Plain laws, arbiters: what is ruled in one round binds all later ones (over numbers of arbiters alone). Conditions: none. -/
import Derived.Test.YtkomoedegnckhaaM
set_option linter.unusedVariables false
set_option linter.unusedSimpArgs false
namespace Go.Mx
def cnt (p : Nat → Bool) : Nat → Nat
 | 0 => 0
 | n + 1 => cnt p n + if p n = true then 1 else 0
theorem cnt_le (p : Nat → Bool) : ∀ n, cnt p n ≤ n
 | 0 => Nat.le_refl _
 | n + 1 => by have := cnt_le p n; unfold cnt; split <;> omega
theorem cnt_mono {p q : Nat → Bool} : ∀ {n : Nat}, (∀ a, a < n → p a = true → q a = true) → cnt p n ≤ cnt q n
 | 0, _ => Nat.le_refl _
 | n + 1, h => by
  have ih := cnt_mono (n := n) fun a ha => h a (by omega)
  have := h n (by omega)
  unfold cnt
  by_cases c : p n = true
  ·rw [if_pos c, if_pos (this c)]; omega
  ·rw [if_neg c]; split <;> omega
theorem cnt_two {p q : Nat → Bool} : ∀ {n : Nat}, n < cnt p n + cnt q n → ∃ a, a < n ∧ p a = true ∧ q a = true
 | 0, h => by simp [cnt] at h
 | n + 1, h => by
  unfold cnt at h
  by_cases c : p n = true
  ·by_cases d : q n = true
   ·exact ⟨n, by omega, c, d⟩
   ·rw [if_pos c, if_neg d] at h
    obtain ⟨a, h1, h2⟩ := cnt_two (p := p) (q := q) (n := n) (by omega)
    exact ⟨a, by omega, h2⟩
  ·rw [if_neg c] at h
   obtain ⟨a, h1, h2⟩ := cnt_two (p := p) (q := q) (n := n) (by split at h <;> omega)
   exact ⟨a, by omega, h2⟩
structure Pax (N maj : Nat) (V : Nat → Int → Int → Prop) (P : Nat → Int → Int → Int → Prop) (R : Int → Int → Prop) (op : Nat → Int → Bool) : Prop where
 two : N < maj + maj
 last : ∀ a r w f, P a r w f → 0 < w → V a w f ∧ w < r
 most : ∀ a r w f r' g, P a r w f → V a r' g → r' < r → r' ≤ w
 pos : ∀ a r f, V a r f → 0 < r
 prop : ∀ a r f, V a r f → R r f
 uniq : ∀ r f g, R r f → R r g → f = g
 shut : ∀ a r w f r', P a r w f → r' < r → op a r' = false
 bound : ∀ r f, R r f → ∃ Q : Nat → Bool, maj ≤ cnt Q N ∧ ((∀ a, Q a = true → ∃ g, P a r 0 g) ∨ ∃ b k, 0 < k ∧ P b r k f ∧ ∀ a, Q a = true → ∃ w g, P a r w g ∧ w ≤ k)
section
variable {N maj : Nat} {V : Nat → Int → Int → Prop} {P : Nat → Int → Int → Int → Prop} {R : Int → Int → Prop} {op : Nat → Int → Bool}
theorem pax_bound (h : Pax N maj V P R op) : ∀ (n : Nat) (r f r' g : Int) (p : Nat → Bool), r.toNat ≤ n → R r f → r' < r → (∀ a, p a = true → op a r' = true ∨ V a r' g) → maj ≤ cnt p N → (∃ a, V a r' g) ∧ g = f := by
 intro n
 induction n with
 | zero =>
  intro r f r' g p hn hR hlt hp hm
  obtain ⟨Q, h1, h2⟩ := h.bound r f hR
  have := h.two
  obtain ⟨a, _, c, d⟩ := cnt_two (p := p) (q := Q) (n := N) (by omega)
  have hP : ∃ w g', P a r w g' := by
   rcases h2 with h2 | ⟨b, k, _, _, h2⟩
   ·obtain ⟨g', q⟩ := h2 a d; exact ⟨0, g', q⟩
   ·obtain ⟨w, g', q, _⟩ := h2 a d; exact ⟨w, g', q⟩
  obtain ⟨w, g', hP⟩ := hP
  rcases hp a c with q | q
  ·rw [h.shut a r w g' r' hP hlt] at q; cases q
  ·have := h.pos a r' g q; omega
 | succ n ih =>
  intro r f r' g p hn hR hlt hp hm
  obtain ⟨Q, h1, h2⟩ := h.bound r f hR
  have := h.two
  obtain ⟨a, _, c, d⟩ := cnt_two (p := p) (q := Q) (n := N) (by omega)
  have hV : ∀ w g', P a r w g' → V a r' g ∧ r' ≤ w := fun w g' hP => by
   rcases hp a c with q | q
   ·rw [h.shut a r w g' r' hP hlt] at q; cases q
   ·exact ⟨q, h.most a r w g' r' g hP q hlt⟩
  rcases h2 with h2 | ⟨b, k, hk, hb, h2⟩
  ·obtain ⟨g', q⟩ := h2 a d
   obtain ⟨q1, q2⟩ := hV 0 g' q
   have := h.pos a r' g q1; omega
  ·obtain ⟨w, g', q, hw⟩ := h2 a d
   obtain ⟨q1, q2⟩ := hV w g' q
   obtain ⟨q3, q4⟩ := h.last b r k f hb hk
   refine ⟨⟨a, q1⟩, ?_⟩
   by_cases e : r' = k
   ·subst e; exact h.uniq r' g f (h.prop a r' g q1) (h.prop b r' f q3)
   ·have := h.pos a r' g q1
    exact (ih k f r' g p (by omega) (h.prop b k f q3) (by omega) hp hm).2
theorem pax_any (h : Pax N maj V P R op) {r f r' : Int} {p : Nat → Bool} (hR : R r f) (hlt : r' < r) (hp : ∀ a, p a = true → op a r' = true) : cnt p N < maj := by
 rcases Nat.lt_or_ge (cnt p N) maj with c | c
 ·exact c
 ·obtain ⟨Q, h1, h2⟩ := h.bound r f hR
  have := h.two
  obtain ⟨a, _, c, d⟩ := cnt_two (p := p) (q := Q) (n := N) (by omega)
  have hP : ∃ w g', P a r w g' := by
   rcases h2 with h2 | ⟨b, k, _, _, h2⟩
   ·obtain ⟨g', q⟩ := h2 a d; exact ⟨0, g', q⟩
   ·obtain ⟨w, g', q, _⟩ := h2 a d; exact ⟨w, g', q⟩
  obtain ⟨w, g', hP⟩ := hP
  have := hp a c
  rw [h.shut a r w g' r' hP hlt] at this; cases this
end
end Go.Mx
