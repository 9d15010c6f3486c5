/- Plain laws, arbiters: what the program says of a letter behind letters of its case. Conditions: none. -/
import Derived.Test.YtkomoedegnckhaaLawZd
set_option linter.unusedVariables false
set_option linter.unusedSimpArgs false
namespace Go.Mx
def Seen (m : List (Int × Bool)) (P : List api_Letter) : Prop := ∀ a, (lookM a m).getD false = P.any (fun y => decide (y.From = a))
theorem Seen_nil : Seen [] [] := fun _ => rfl
theorem Seen_put {m : List (Int × Bool)} {P : List api_Letter} (h : Seen m P) (x : api_Letter) : Seen (putM posI m x.From true) (P ++ [x]) := fun a => by
 rw [lookM_put]
 by_cases e : a = x.From
 ·subst e; simp
 ·have : ¬ x.From = a := fun q => e q.symm
  rw [if_neg e, h a]; simp [this]
def lasF (a : Int) (p : Int × Int) (x : api_Letter) : Int × Int := if x.Kind = 4 ∧ x.From = a ∧ p.1 < x.Round then (x.Round, x.Finding) else p
def lasS (l : List api_Letter) (a : Int) : Int × Int := l.foldl (lasF a) (0, 0)
theorem last_eq (l : List api_Letter) (hl : l.length ≤ 4000) (a : Int) : ∃ y, arbiter_last l a = some y ∧ (y.Round, y.Finding) = lasS l a := by
 let g : api_Letter → api_Letter → api_Letter := fun p x => if x.Kind = 4 ∧ x.From = a ∧ p.Round < x.Round then x else p
 have key : ∀ (l : List api_Letter) (p : api_Letter), ((l.foldl g p).Round, (l.foldl g p).Finding) = l.foldl (lasF a) (p.Round, p.Finding) := by
  intro l
  induction l with
  | nil => intro p; rfl
  | cons x r ih =>
   intro p
   simp only [List.foldl_cons]
   rw [ih]
   congr 1
   show ((if x.Kind = 4 ∧ x.From = a ∧ p.Round < x.Round then x else p).Round, (if x.Kind = 4 ∧ x.From = a ∧ p.Round < x.Round then x else p).Finding) = lasF a (p.Round, p.Finding) x
   unfold lasF
   split <;> rfl
 have h := sum_loop (body := arbiter_last_b2 l a) l hl (fun p i => (i, p.ID, p.Case, p.Kind, p.Round, p.From, p.To, p.Voted, p.Finding)) g (fun p => p) (fun _ _ => True) (a := (⟨0, 0, 0, 0, 0, 0, 0, 0⟩ : api_Letter)) rfl trivial (fun p i hi _ => ⟨by
  unfold arbiter_last_b2
  simp only [dlt hi, if_true, ix_nat hi, Option.bind_some, arbiter_last_j3, w64i hi hl, g]
  by_cases c1 : l[i].Kind = 4
  ·by_cases c2 : l[i].From = a
   ·by_cases c3 : p.Round < l[i].Round <;> simp [c1, c2, c3]
   ·simp [c1, c2]
  ·simp [c1], trivial⟩) (fun p _ => by
  unfold arbiter_last_b2
  simp [dge, arbiter_last_j1])
 exact ⟨_, h, key l _⟩
end Go.Mx
