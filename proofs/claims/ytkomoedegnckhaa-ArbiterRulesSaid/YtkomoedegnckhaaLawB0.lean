/- Plain laws: loops, lists, entries of maps, insertion. Conditions: none. -/
import Derived.Test.YtkomoedegnckhaaM
import Derived.Test.YtkomoedegnckhaaOkp
set_option linter.unusedVariables false
set_option linter.unusedSimpArgs false
namespace Go.Mx
theorem lp_inv' {σ ρ : Type} {body : σ → Option (σ ⊕ ρ)} {s0 : σ} (I : Nat → σ → Prop) (P : ρ → Prop) (n : Nat) (hn : n < 18446744073709551615) (h0 : I 0 s0) (step : ∀ i s, i ≤ n → I i s → (i < n ∧ ∃ s', body s = some (.inl s') ∧ I (i + 1) s') ∨ ∃ r, body s = some (.inr r) ∧ P r) : ∃ r, Lp body fuel s0 = some r ∧ P r := by
 have key : ∀ (m i : Nat) (s : σ), n < i + m → i ≤ n → I i s → ∃ r, Lp body m s = some r ∧ P r := by
  intro m
  induction m with
  | zero => intro i s h h' hI; omega
  | succ m ih =>
   intro i s h h' hI
   rcases step i s h' hI with ⟨h1, s', h2, h3⟩ | ⟨r, h1, h2⟩
   ·rw [lp_next m h2]; exact ih (i + 1) s' (by omega) (by omega) h3
   ·rw [lp_done m h1]; exact ⟨r, rfl, h2⟩
 exact key fuel 0 s0 (by unfold fuel; omega) (Nat.zero_le _) h0
theorem sub_len {α : Type} [DecidableEq α] : ∀ {l r : List α}, l.Nodup → (∀ x ∈ l, x ∈ r) → l.length ≤ r.length
 | [], r, _, _ => Nat.zero_le _
 | a :: l, r, hn, hs => by
  rw [List.nodup_cons] at hn
  have ha := hs a List.mem_cons_self
  have := sub_len (l := l) (r := r.erase a) hn.2 fun x hx => (List.mem_erase_of_ne (fun e : x = a => hn.1 (by rw [← e]; exact hx))).2 (hs x (List.mem_cons_of_mem _ hx))
  rw [List.length_erase_of_mem ha] at this
  have : 0 < r.length := List.length_pos_of_mem ha
  simp only [List.length_cons]; omega
end Go.Mx
