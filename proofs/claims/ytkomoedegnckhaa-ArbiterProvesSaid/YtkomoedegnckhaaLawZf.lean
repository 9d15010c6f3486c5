/- Plain laws, arbiters: lawful lists; the program's search is the specification's. Conditions: none. -/
import Derived.Test.YtkomoedegnckhaaLawZe
set_option linter.unusedVariables false
set_option linter.unusedSimpArgs false
namespace Go.Mx
def ddF (k : Int) (D : List api_Letter) (x : api_Letter) : List api_Letter := if x.Case = k ∧ D.any (fun y => decide (arbiter_said y = arbiter_said x)) = false then D ++ [x] else D
def dd (k : Int) (P : List api_Letter) : List api_Letter := P.foldl (ddF k) []
structure Fm (c : api_Court) (x : api_Letter) : Prop where
 from_ : 0 ≤ x.From ∧ x.From < c.Arbiters
 round : 1 ≤ x.Round ∧ x.Round ≤ 1048576
 case : 1 ≤ x.Case
 kind : x.Kind = 1 ∨ x.Kind = 2 ∨ x.Kind = 3 ∨ x.Kind = 4
 voted : x.Kind = 2 → 0 ≤ x.Voted ∧ x.Voted < x.Round
theorem fm_of {c : api_Court} {x : api_Letter} (h : fmB c x = true) : Fm c x := by
 unfold fmB at h
 simp only [Bool.and_eq_true] at h
 obtain ⟨⟨⟨⟨⟨⟨⟨h0, h1⟩, h2⟩, h3⟩, h4⟩, h5⟩, h6⟩, h7⟩ := h
 have g1 := inI_spec.1 h1
 have g2 := inI_spec.1 h2
 have g3 := inI_spec.1 h3
 refine ⟨⟨g3.1, by omega⟩, g2, g1.1, ?_, fun k => ?_⟩
 ·unfold kdB at h7
  by_cases k1 : x.Kind = 1
  ·exact .inl k1
  ·by_cases k2 : x.Kind = 2
   ·exact .inr (.inl k2)
   ·by_cases k3 : x.Kind = 3
    ·exact .inr (.inr (.inl k3))
    ·rw [if_neg k1, if_neg k2, if_neg k3] at h7
     simp only [Bool.and_eq_true, decide_eq_true_eq] at h7
     exact .inr (.inr (.inr h7.1))
 ·unfold kdB at h7
  rw [if_neg (by omega), if_pos k] at h7
  simp only [Bool.and_eq_true] at h7
  have := inI_spec.1 h7.1.2
  omega
end Go.Mx
