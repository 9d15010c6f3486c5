/- Plain laws, arbiters: what is ruled in one round binds all later ones (over numbers of arbiters alone). Conditions: none. -/
import Derived.Test.YtkomoedegnckhaaM
set_option linter.unusedVariables false
set_option linter.unusedSimpArgs false
namespace Go.Mx
def cnt (p : Nat → Bool) : Nat → Nat
 | 0 => 0
 | n + 1 => cnt p n + if p n = true then 1 else 0
theorem cnt_le (p : Nat → Bool) : ∀ n, cnt p n ≤ n
 | 0 => Nat.le_refl _
 | n + 1 => by have := cnt_le p n; unfold cnt; split <;> omega
structure Pax (N maj : Nat) (V : Nat → Int → Int → Prop) (P : Nat → Int → Int → Int → Prop) (R : Int → Int → Prop) (op : Nat → Int → Bool) : Prop where
 two : N < maj + maj
 last : ∀ a r w f, P a r w f → 0 < w → V a w f ∧ w < r
 most : ∀ a r w f r' g, P a r w f → V a r' g → r' < r → r' ≤ w
 pos : ∀ a r f, V a r f → 0 < r
 prop : ∀ a r f, V a r f → R r f
 uniq : ∀ r f g, R r f → R r g → f = g
 shut : ∀ a r w f r', P a r w f → r' < r → op a r' = false
 bound : ∀ r f, R r f → ∃ Q : Nat → Bool, maj ≤ cnt Q N ∧ ((∀ a, Q a = true → ∃ g, P a r 0 g) ∨ ∃ b k, 0 < k ∧ P b r k f ∧ ∀ a, Q a = true → ∃ w g, P a r w g ∧ w ≤ k)
section
variable {N maj : Nat} {V : Nat → Int → Int → Prop} {P : Nat → Int → Int → Int → Prop} {R : Int → Int → Prop} {op : Nat → Int → Bool}
end
end Go.Mx
