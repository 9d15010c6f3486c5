/- Plain laws, arbiters: what is lawful behind letters, as the specification says it. Conditions: none. -/
import Derived.Test.YtkomoedegnckhaaLawZb
set_option linter.unusedVariables false
set_option linter.unusedSimpArgs false
namespace Go.Mx
theorem gb_some {α β : Type} [Inhabited α] {b : Bool} {v : α} {k : α → Option β} (h : b = false → k default = k v) : gb b (some v) k = k v := by
 cases b with
 | true => rfl
 | false => exact h rfl
theorem snoc_rec {α : Type} {motive : List α → Prop} (nil : motive []) (snoc : ∀ l x, motive l → motive (l ++ [x])) (l : List α) : motive l := by
 have key : ∀ (l : List α), motive l.reverse := by
  intro l
  induction l with
  | nil => exact nil
  | cons a r ih => rw [List.reverse_cons]; exact snoc _ _ ih
 have := key l.reverse
 rwa [List.reverse_reverse] at this
def lastF (a k : Int) (p : Int × Int) (x : api_Letter) : Int × Int := if x.Kind = 4 ∧ x.Case = k ∧ x.From = a ∧ p.1 < x.Round then (x.Round, x.Finding) else p
def lastS (l : List api_Letter) (a k : Int) : Int × Int := l.foldl (lastF a k) (0, 0)
theorem rlast_eq (l : List api_Letter) (hl : l.length ≤ 4000) (a k : Int) : ref09_last l a k = some (lastS l a k) := by
 unfold ref09_last
 refine (sum_loop l hl (fun p i => (p.1, p.2, i)) (lastF a k) (fun p => p) (fun _ _ => True) (a := (0, 0)) rfl trivial (fun p i hi _ => ⟨?_, trivial⟩) (fun p _ => ?_))
 ·unfold ref09_last_b2
  simp only [dlt hi, if_true, ix_nat hi, Option.bind_some, ref09_last_j3, w64i hi hl, lastF]
  by_cases c1 : l[i].Kind = 4
  ·by_cases c2 : l[i].Case = k
   ·by_cases c3 : l[i].From = a
    ·by_cases c4 : p.1 < l[i].Round
     ·simp [c1, c2, c3, c4, gb]
     ·simp [c1, c2, c3, c4, gb]
    ·simp [c1, c2, c3, gb]
   ·simp [c1, c2, gb]
  ·simp [c1, gb]
 ·unfold ref09_last_b2
  simp [dge, ref09_last_j1]
def wrdS (a k : Int) (x : api_Letter) : Bool := decide (x.Case = k) && decide (x.From = a) && (decide (x.Kind = 2) || decide (x.Kind = 4))
def isK (kd k r : Int) (x : api_Letter) : Bool := decide (x.Kind = kd) && decide (x.Case = k) && decide (x.Round = r)
def prpS (l : List api_Letter) (k r : Int) : Option api_Letter := l.find? (isK 3 k r)
theorem find_idx {α : Type} (p : α → Bool) : ∀ l : List α, l.find? p = (l.findIdx? p).bind fun i => l[i]?
 | [] => rfl
 | a :: r => by
  rw [List.find?_cons, List.findIdx?_cons]
  cases h : p a with
  | true => rfl
  | false =>
   simp only [Bool.false_eq_true, if_false]
   rw [find_idx p r]
   cases r.findIdx? p <;> rfl
theorem rproposal_eq (l : List api_Letter) (hl : l.length ≤ 4000) (k r : Int) : ref09_proposal l k r = some (match prpS l k r with | some x => (x.Finding, true) | none => (0, false)) := by
 unfold ref09_proposal
 have h := find_loop (isK 3 k r) l hl (body := ref09_proposal_b2 l k r) (fun i => ((l.getD i default).Finding, true)) (0, false) (fun i hi => by
  unfold ref09_proposal_b2
  simp only [dlt hi, if_true, ix_nat hi, Option.bind_some, w64i hi hl, isK, List.getD_eq_getElem?_getD, List.getElem?_eq_getElem hi, Option.getD_some]
  by_cases c1 : l[i].Kind = 3
  ·by_cases c2 : l[i].Case = k
   ·by_cases c3 : l[i].Round = r <;> simp [c1, c2, c3, gb]
   ·simp [c1, c2, gb]
  ·simp [c1, gb]) (by
  unfold ref09_proposal_b2
  simp [dge, ref09_proposal_j1])
 rw [h]
 unfold prpS
 rw [find_idx]
 cases hf : l.findIdx? (isK 3 k r) with
 | none => rfl
 | some i =>
  obtain ⟨hi, _⟩ := List.findIdx?_eq_some_iff_getElem.1 hf
  simp [List.getElem?_eq_getElem hi]
end Go.Mx
