/- Plain laws, berths: crowds. Conditions: none. -/
import Derived.Test.YtnkngglimidldaaGreatLawYk
set_option linter.unusedVariables false
set_option linter.unusedSimpArgs false
namespace Go.Mx
theorem zMF {l : List zN} (hd : l.Pairwise (fun a b => a.ID ≠ b.ID)) {j : Nat} (hj : j < l.length) : Yf (fun b : zN => decide (b.ID = l[j].ID)) l 0 = (j : Int) := by
 rcases Q0 (fun b : zN => decide (b.ID = l[j].ID)) l 0 with ⟨h1, h2⟩ | ⟨i, h1, h2, h3, h4⟩
 ·have := h2 _ (List.getElem_mem hj); simp at this
 ·rw [show (0 : Int) = ((0 : Nat) : Int) from rfl, h1, Nat.zero_add]
  have e : l[i].ID = l[j].ID := by simpa using h3
  rcases Nat.lt_trichotomy i j with c | c | c
  ·exact absurd e (List.pairwise_iff_getElem.1 hd i j h2 hj c)
  ·rw [c]
  ·exact absurd e.symm (List.pairwise_iff_getElem.1 hd j i hj h2 c)
def inM (m : List (Int × Bool)) (i : Nat) : Bool := (ZH (i : Int) m).getD false
end Go.Mx
