/- Plain laws, arbiters: what is lawful behind letters, as the specification says it. Conditions: none. -/
import Derived.Test.YtkomoedegnckhaaLawZb
set_option linter.unusedVariables false
set_option linter.unusedSimpArgs false
namespace Go.Mx
theorem snoc_rec {α : Type} {motive : List α → Prop} (nil : motive []) (snoc : ∀ l x, motive l → motive (l ++ [x])) (l : List α) : motive l := by
 have key : ∀ (l : List α), motive l.reverse := by
  intro l
  induction l with
  | nil => exact nil
  | cons a r ih => rw [List.reverse_cons]; exact snoc _ _ ih
 have := key l.reverse
 rwa [List.reverse_reverse] at this
theorem find_idx {α : Type} (p : α → Bool) : ∀ l : List α, l.find? p = (l.findIdx? p).bind fun i => l[i]?
 | [] => rfl
 | a :: r => by
  rw [List.find?_cons, List.findIdx?_cons]
  cases h : p a with
  | true => rfl
  | false =>
   simp only [Bool.false_eq_true, if_false]
   rw [find_idx p r]
   cases r.findIdx? p <;> rfl
end Go.Mx
