/- Plain laws, berths: costs, the best places, the plan. Conditions: none. -/
import Derived.Test.YtnkngglimidldaaLawYg
set_option linter.unusedVariables false
set_option linter.unusedSimpArgs false
namespace Go.Mx
structure BOK (b : berth_board) : Prop where
 nc : b.calls.length ≤ 10
 ns : b.slots.length ≤ 100
 lc : b.can.length = b.calls.length
 lo : b.old.length = b.calls.length
def canB (b : berth_board) (i k : Nat) : Bool := (lookM (b.slots.getD k default) (b.can.getD i [])).isSome
def costF (b : berth_board) (i k : Nat) : Int := if k = b.slots.length + i then 0 else if k < b.slots.length ∧ canB b i k = true then (if gI b.old i = (k : Int) then -1001 else -1000) else 1073741824
theorem if_step {α : Type} {P : Prop} [Decidable P] {k q : Nat} (e : P → k ≠ q) (A B : α) : (if k < q ∧ P then A else B) = if k < q + 1 ∧ P then A else B := by
 by_cases w : k < q ∧ P
 ·rw [if_pos w, if_pos ⟨by omega, w.2⟩]
 ·rw [if_neg w, if_neg (fun z => w ⟨by have := e z.2; omega, z.2⟩)]
theorem list_gI {l : List Int} {n : Nat} {f : Nat → Int} (hl : l.length = n) (h : ∀ k, k < n → gI l k = f k) : l = (List.range n).map f := by
 refine List.ext_getElem (by simpa using hl) fun k h1 h2 => ?_
 have := h k (by omega)
 rw [gI_get h1] at this
 simpa using this
theorem getD_lt {α : Type} {l : List α} {i : Nat} (h : i < l.length) (d : α) : l.getD i d = l[i] := by simp [List.getD_eq_getElem?_getD, h]
theorem ix_getD {α : Type} {l : List α} {i : Nat} (h : i < l.length) (d : α) : ix l (i : Int) = some (l.getD i d) := by rw [ix_lt h, getD_lt h]
theorem costs_eq {b : berth_board} (hB : BOK b) {i : Nat} (hi : i < b.calls.length) : berth_board_costs b (i : Int) = some ((List.range (b.slots.length + b.calls.length)).map (costF b i)) := by
 have nc := hB.nc; have ns := hB.ns
 have e1 : w64 ((b.slots.length : Int) + (b.calls.length : Int)) = ((b.slots.length + b.calls.length : Nat) : Int) := by rw [w64_id (by omega) (by omega)]; omega
 have e2 : w64 ((b.slots.length : Int) + (i : Int)) = ((b.slots.length + i : Nat) : Int) := by rw [w64_id (by omega) (by omega)]; omega
 unfold berth_board_costs
 rw [mkS_ok (n := b.slots.length + b.calls.length) (by omega) _ e1, Option.bind_some]
 obtain ⟨⟨x, l⟩, ⟨rfl, h1, h2⟩, h3⟩ := lp_exit (body := berth_board_costs_b5 b (i : Int) (List.replicate (b.slots.length + b.calls.length) (0 : Int))) (X := fun s => berth_board_costs_j1 b (i : Int) s.2) (s0 := (0, List.replicate (b.slots.length + b.calls.length) (0 : Int)))
  (fun q s => s.1 = (q : Int) ∧ s.2.length = b.slots.length + b.calls.length ∧ ∀ k, k < q → gI s.2 k = 1073741824) (b.slots.length + b.calls.length) (by omega) ⟨rfl, by simp, fun k h => by omega⟩
  (fun q s hq hI => by
   obtain ⟨x, l⟩ := s
   simp only at hI
   obtain ⟨rfl, h1, h2⟩ := hI
   unfold berth_board_costs_b5
   simp only
   rw [if_pos (by simp; omega), ix_gI (by omega), Option.bind_some, w64_id (by omega) (by omega), put_nat]
   refine ⟨_, rfl, by simp only; omega, by simp only [List.length_set]; exact h1, fun k hk => ?_⟩
   simp only
   rw [gI_set (by omega)]
   by_cases e : k = q
   ·rw [if_pos e]
   ·rw [if_neg e]; exact h2 k (by omega))
  (fun s hI => by
   obtain ⟨x, l⟩ := s
   simp only at hI
   obtain ⟨rfl, h1, h2⟩ := hI
   unfold berth_board_costs_b5
   simp only
   rw [if_neg (by simp)])
 rw [h3]
 unfold berth_board_costs_j1
 simp only at h1 h2 ⊢
 obtain ⟨⟨x, l'⟩, ⟨rfl, g1, g2⟩, g3⟩ := lp_exit (body := berth_board_costs_b3 b (i : Int)) (X := fun s => berth_board_costs_j2 b (i : Int) s.2) (s0 := (0, l))
  (fun q s => s.1 = (q : Int) ∧ s.2.length = b.slots.length + b.calls.length ∧ ∀ k, k < b.slots.length + b.calls.length → gI s.2 k = if k < q ∧ canB b i k = true then (if gI b.old i = (k : Int) then -1001 else -1000) else 1073741824) b.slots.length (by omega) ⟨rfl, h1, fun k h => by rw [if_neg (by omega)]; exact h2 k h⟩
  (fun q s hq hI => by
   obtain ⟨x, l⟩ := s
   simp only at hI
   obtain ⟨rfl, h1, h2⟩ := hI
   have hlo := hB.lo; have hlc := hB.lc
   have hj : ∀ z, berth_board_costs_j4 (q : Int) z = some (.inl (((q + 1 : Nat) : Int), z)) := fun z => by unfold berth_board_costs_j4; rw [w64_id (by omega) (by omega)]; rfl
   unfold berth_board_costs_b3
   simp only
   rw [if_pos (by simpa using hq), ix_getD (d := default) hq, Option.bind_some, ix_getD (d := []) (by omega), Option.bind_some]
   have hcb : (lookM (b.slots.getD q default) (b.can.getD i [])).isSome = canB b i q := rfl
   rw [hcb]
   by_cases hc : canB b i q = true
   ·rw [if_pos hc, ix_gI (by omega), Option.bind_some, ix_gI (by omega), Option.bind_some, put_nat]
    by_cases ho : gI b.old i = (q : Int)
    ·rw [if_pos (by simpa using ho), ix_gI (by rw [List.length_set]; omega), Option.bind_some, put_nat, hj]
     refine ⟨_, rfl, rfl, by simp only [List.length_set]; exact h1, fun k hk => ?_⟩
     simp only
     rw [gI_set (by rw [List.length_set]; omega), gI_set (by omega)]
     by_cases e : k = q
     ·subst e; rw [if_pos rfl, if_pos ⟨by omega, hc⟩, if_pos ho]
     ·rw [if_neg e, if_neg e, h2 k hk]
      exact if_step (fun _ => e) _ _
    ·rw [if_neg (by simpa using ho), hj]
     refine ⟨_, rfl, rfl, by simp only [List.length_set]; exact h1, fun k hk => ?_⟩
     simp only
     rw [gI_set (by omega)]
     by_cases e : k = q
     ·subst e; rw [if_pos rfl, if_pos ⟨by omega, hc⟩, if_neg ho]
     ·rw [if_neg e, h2 k hk]
      exact if_step (fun _ => e) _ _
   ·rw [if_neg hc, hj]
    refine ⟨_, rfl, rfl, h1, fun k hk => ?_⟩
    simp only
    rw [h2 k hk]
    exact if_step (fun z e => hc (by rw [← e]; exact z)) _ _)
  (fun s hI => by
   obtain ⟨x, l⟩ := s
   simp only at hI
   obtain ⟨rfl, h1, h2⟩ := hI
   unfold berth_board_costs_b3
   simp only
   rw [if_neg (by simp)])
 replace g1 : l'.length = b.slots.length + b.calls.length := g1
 refine g3.trans ?_
 show berth_board_costs_j2 b (i : Int) l' = _
 unfold berth_board_costs_j2
 rw [e2, ix_gI (by omega), Option.bind_some, put_nat]
 refine congrArg some (list_gI (by rw [List.length_set]; exact g1) fun k hk => ?_)
 rw [gI_set (by omega)]
 unfold costF
 by_cases e : k = b.slots.length + i
 ·rw [if_pos e, if_pos e]
 ·rw [if_neg e, if_neg e]; exact g2 k hk
def fixK (b : berth_board) (fixed : List Int) (i : Nat) : Int := if gI fixed i < 0 then ((b.slots.length + i : Nat) : Int) else gI fixed i
def rowF (b : berth_board) (fixed : List Int) (i k : Nat) : Int := if i < fixed.length ∧ (k : Int) ≠ fixK b fixed i then 1073741824 else costF b i k
def rowsB (b : berth_board) (fixed : List Int) : List (List Int) := (List.range b.calls.length).map fun i => (List.range (b.slots.length + b.calls.length)).map (rowF b fixed i)
theorem costF_bound (b : berth_board) (i k : Nat) : -1001 ≤ costF b i k ∧ costF b i k ≤ 1073741824 := by
 unfold costF
 repeat' split
 all_goals omega
theorem rowF_bound (b : berth_board) (f : List Int) (i k : Nat) : -1001 ≤ rowF b f i k ∧ rowF b f i k ≤ 1073741824 := by
 unfold rowF
 have := costF_bound b i k
 split <;> omega
theorem rowsB_ok {b : berth_board} (hB : BOK b) (fixed : List Int) : CostOK (rowsB b fixed) (b.slots.length + b.calls.length) := by
 have nc := hB.nc; have ns := hB.ns
 refine ⟨by simp [rowsB], by omega, fun row hr => ?_⟩
 unfold rowsB at hr
 rw [List.mem_map] at hr
 obtain ⟨i, hi, rfl⟩ := hr
 refine ⟨by simp, fun x hx => ?_⟩
 rw [List.mem_map] at hx
 obtain ⟨k, hk, rfl⟩ := hx
 exact rowF_bound b fixed i k
theorem best_eq {b : berth_board} (hB : BOK b) {fixed : List Int} (hf : fixed.length ≤ 1000) : berth_board_best b fixed = berth_assign (rowsB b fixed) ((b.slots.length + b.calls.length : Nat) : Int) := by
 have nc := hB.nc; have ns := hB.ns
 have e1 : w64 ((b.slots.length : Int) + (b.calls.length : Int)) = ((b.slots.length + b.calls.length : Nat) : Int) := by rw [w64_id (by omega) (by omega)]; omega
 unfold berth_board_best
 obtain ⟨⟨x, l⟩, ⟨rfl, h1⟩, h2⟩ := lp_exit (body := berth_board_best_b2 b fixed) (X := fun s => berth_board_best_j1 b s.2) (s0 := (0, []))
  (fun i s => s.1 = (i : Int) ∧ s.2 = (List.range i).map fun i => (List.range (b.slots.length + b.calls.length)).map (rowF b fixed i)) b.calls.length (by omega) ⟨rfl, rfl⟩
  (fun i s hi hI => by
   obtain ⟨x, l⟩ := s
   simp only at hI
   obtain ⟨rfl, rfl⟩ := hI
   unfold berth_board_best_b2
   simp only
   rw [if_pos (by simpa using hi), costs_eq hB hi, Option.bind_some]
   have hj : ∀ (z : List Int), berth_board_best_j3 (i : Int) ((List.range i).map fun i => (List.range (b.slots.length + b.calls.length)).map (rowF b fixed i)) z = some (.inl (((i + 1 : Nat) : Int), ((List.range i).map fun i => (List.range (b.slots.length + b.calls.length)).map (rowF b fixed i)) ++ [z])) := fun z => by
    unfold berth_board_best_j3
    rw [app_ok (by simp; omega), Option.bind_some, w64_id (by omega) (by omega)]; rfl
   have hz : ∀ (z : List Int), z = (List.range (b.slots.length + b.calls.length)).map (rowF b fixed i) → ((List.range i).map fun i => (List.range (b.slots.length + b.calls.length)).map (rowF b fixed i)) ++ [z] = (List.range (i + 1)).map fun i => (List.range (b.slots.length + b.calls.length)).map (rowF b fixed i) := fun z e => by
    rw [e, List.range_succ, List.map_append]; rfl
   by_cases hfi : i < fixed.length
   ·have hj4 : ∀ k : Int, k = fixK b fixed i → ∃ s', berth_board_best_j4 (i : Int) ((List.range i).map fun i => (List.range (b.slots.length + b.calls.length)).map (rowF b fixed i)) ((List.range (b.slots.length + b.calls.length)).map (costF b i)) k = some (.inl s') ∧ s'.1 = ((i + 1 : Nat) : Int) ∧ s'.2 = (List.range (i + 1)).map fun i => (List.range (b.slots.length + b.calls.length)).map (rowF b fixed i) := fun k hk => by
     unfold berth_board_best_j4
     obtain ⟨⟨x, l⟩, ⟨rfl, g1, g2⟩, g3⟩ := lp_exit (body := berth_board_best_b5 (i : Int) ((List.range i).map fun i => (List.range (b.slots.length + b.calls.length)).map (rowF b fixed i)) ((List.range (b.slots.length + b.calls.length)).map (costF b i)) k) (X := fun s => berth_board_best_j3 (i : Int) ((List.range i).map fun i => (List.range (b.slots.length + b.calls.length)).map (rowF b fixed i)) s.2) (s0 := (0, (List.range (b.slots.length + b.calls.length)).map (costF b i)))
      (fun q s => s.1 = (q : Int) ∧ s.2.length = b.slots.length + b.calls.length ∧ ∀ j, j < b.slots.length + b.calls.length → gI s.2 j = if j < q ∧ (j : Int) ≠ k then 1073741824 else costF b i j) (b.slots.length + b.calls.length) (by omega)
      ⟨rfl, by simp, fun j h => by rw [if_neg (by omega), gI_get (by simpa using h)]; simp⟩
      (fun q s hq hI => by
       obtain ⟨x, l⟩ := s
       simp only at hI
       obtain ⟨rfl, h1, h2⟩ := hI
       have hj6 : ∀ z, berth_board_best_j6 (q : Int) z = some (.inl (((q + 1 : Nat) : Int), z)) := fun z => by unfold berth_board_best_j6; rw [w64_id (by omega) (by omega)]; rfl
       unfold berth_board_best_b5
       simp only
       rw [if_pos (by simp; omega)]
       by_cases e : (q : Int) = k
       ·rw [if_neg (by simpa using e), hj6]
        refine ⟨_, rfl, rfl, h1, fun j hj2 => ?_⟩
        simp only
        rw [h2 j hj2]
        by_cases w : j < q ∧ (j : Int) ≠ k
        ·rw [if_pos w, if_pos ⟨by omega, w.2⟩]
        ·rw [if_neg w, if_neg (fun z => w ⟨by omega, z.2⟩)]
       ·rw [if_pos (by simpa using e), ix_gI (by omega), Option.bind_some, put_nat, hj6]
        refine ⟨_, rfl, rfl, by simp only [List.length_set]; exact h1, fun j hj2 => ?_⟩
        simp only
        rw [gI_set (by omega)]
        by_cases w : j = q
        ·subst w; rw [if_pos rfl, if_pos ⟨by omega, e⟩]
        ·rw [if_neg w, h2 j hj2]
         by_cases w : j < q ∧ (j : Int) ≠ k
         ·rw [if_pos w, if_pos ⟨by omega, w.2⟩]
         ·rw [if_neg w, if_neg (fun z => w ⟨by omega, z.2⟩)])
      (fun s hI => by
       obtain ⟨x, l⟩ := s
       simp only at hI
       obtain ⟨rfl, h1, h2⟩ := hI
       unfold berth_board_best_b5
       simp only
       rw [if_neg (by simp)])
     rw [g3, hj]
     refine ⟨_, rfl, rfl, hz _ (list_gI g1 fun j hj2 => ?_)⟩
     rw [g2 j hj2]
     unfold rowF
     rw [← hk]
     by_cases w : (j : Int) ≠ k
     ·rw [if_pos ⟨hj2, w⟩, if_pos ⟨hfi, w⟩]
     ·rw [if_neg (fun z => w z.2), if_neg (fun z => w z.2)]
    rw [if_pos (by simpa using hfi), ix_gI hfi, Option.bind_some]
    by_cases hn : gI fixed i < 0
    ·rw [if_pos (by simpa using hn)]
     refine hj4 _ ?_
     unfold fixK
     rw [if_pos hn, w64_id (by omega) (by omega)]; omega
    ·rw [if_neg (by simpa using hn)]
     refine hj4 _ ?_
     unfold fixK
     rw [if_neg hn]
   ·rw [if_neg (by simpa using hfi), hj]
    refine ⟨_, rfl, rfl, hz _ ?_⟩
    refine List.map_congr_left fun k _ => ?_
    unfold rowF
    rw [if_neg (fun z => hfi z.1)])
  (fun s hI => by
   obtain ⟨x, l⟩ := s
   simp only at hI
   obtain ⟨rfl, h1⟩ := hI
   unfold berth_board_best_b2
   simp only
   rw [if_neg (by simp)])
 rw [h2]
 unfold berth_board_best_j1
 simp only at h1 ⊢
 rw [e1, h1]
 show Option.bind (berth_assign (rowsB b fixed) _) _ = _
 cases berth_assign (rowsB b fixed) ((b.slots.length + b.calls.length : Nat) : Int) <;> rfl
def totB (b : berth_board) (fixed : List Int) (s : Nat → Nat) : Int := ((List.range b.calls.length).map fun r => rowF b fixed r (s r)).sum
abbrev AsgB (b : berth_board) (s : Nat → Nat) : Prop := Asg b.calls.length (b.slots.length + b.calls.length) s
structure Best (b : berth_board) (fixed : List Int) (out : List Int) (sum : Int) : Prop where
 l : out.length = b.calls.length
 nn : ∀ r, r < b.calls.length → 0 ≤ gI out r
 a : AsgB b (fun r => (gI out r).toNat)
 e : sum = totB b fixed (fun r => (gI out r).toNat)
 m : ∀ s, AsgB b s → sum ≤ totB b fixed s
theorem best_spec {b : berth_board} (hB : BOK b) {fixed : List Int} (hf : fixed.length ≤ 1000) : ∃ out sum, berth_board_best b fixed = some (out, sum) ∧ Best b fixed out sum := by
 have hl : (rowsB b fixed).length = b.calls.length := by simp [rowsB]
 have ht : ∀ s, AsgB b s → tot (rowsB b fixed) s = totB b fixed s := fun s hs => by
  unfold tot totB
  rw [hl]
  refine sum_map_eq _ _ fun r hr => ?_
  rw [List.mem_range] at hr
  have := hs.lt r hr
  unfold cC
  rw [Nat.add_sub_cancel, Nat.add_sub_cancel, getD_lt (by omega)]
  simp only [rowsB, List.getElem_map, List.getElem_range]
  rw [gI_get (by simpa using this)]
  simp
 obtain ⟨out, sum, h1, h2, h3, h4, h5, h6⟩ := assign_spec (rowsB_ok hB fixed)
 rw [hl] at h2 h3 h4 h6
 exact ⟨out, sum, by rw [best_eq hB hf]; exact h1, h2, h3, h4, by rw [h5]; exact ht _ h4, fun s hs => by rw [← ht s hs]; exact h6 s hs⟩
def OkB (b : berth_board) (s : Nat → Nat) : Prop := ∀ r, r < b.calls.length → s r = b.slots.length + r ∨ (s r < b.slots.length ∧ canB b r (s r) = true)
def FixOK (b : berth_board) (fixed : List Int) (s : Nat → Nat) : Prop := ∀ r, r < fixed.length → (s r : Int) = fixK b fixed r
theorem sum_high {n : Nat} {f : Nat → Int} (hn : n ≤ 10) (h : ∀ r, r < n → -1001 ≤ f r) {q : Nat} (hq : q < n) (h2 : f q = 1073741824) : 0 < ((List.range n).map f).sum := by
 rw [sum_erase f (List.mem_range.2 hq), h2]
 have : ∀ l : List Nat, (∀ r ∈ l, r < n) → -(1001 * (l.length : Int)) ≤ (l.map f).sum := by
  intro l
  induction l with
  | nil => intro _; simp
  | cons a l ih =>
   intro hl
   have := ih fun r hr => hl r (List.mem_cons_of_mem _ hr)
   have := h a (hl a List.mem_cons_self)
   simp only [List.length_cons, List.map_cons, List.sum_cons]; omega
 have h3 := this ((List.range n).erase q) fun r hr => List.mem_range.1 (List.mem_of_mem_erase hr)
 rw [List.length_erase_of_mem (List.mem_range.2 hq), List.length_range] at h3
 omega
theorem tot_ok {b : berth_board} (hB : BOK b) {fixed : List Int} (hf : fixed.length ≤ b.calls.length) {s : Nat → Nat} (h : totB b fixed s ≤ 0) : OkB b s ∧ FixOK b fixed s := by
 have key : ∀ r, r < b.calls.length → rowF b fixed r (s r) ≠ 1073741824 := fun r hr e => by
  have := sum_high hB.nc (f := fun r => rowF b fixed r (s r)) (fun r _ => (rowF_bound b fixed r (s r)).1) hr e
  unfold totB at h; omega
 constructor
 ·intro r hr
  have := key r hr
  unfold rowF at this
  split at this
  ·exact absurd rfl this
  ·unfold costF at this
   split at this
   ·rename_i e; exact .inl e
   ·split at this
    ·rename_i e; exact .inr e
    ·exact absurd rfl this
 ·intro r hr
  have := key r (by omega)
  unfold rowF at this
  split at this
  ·exact absurd rfl this
  ·rename_i e
   exact Classical.byContradiction fun w => e ⟨hr, w⟩
theorem tot_fix {b : berth_board} {fixed : List Int} {s : Nat → Nat} (h : FixOK b fixed s) : totB b fixed s = totB b [] s := by
 unfold totB
 refine sum_map_eq _ _ fun r hr => ?_
 unfold rowF
 rw [if_neg (fun z => z.2 (h r z.1)), if_neg (by simp)]
theorem tot_le (b : berth_board) (fixed : List Int) (s : Nat → Nat) : totB b [] s ≤ totB b fixed s := by
 unfold totB
 refine sum_map_le _ _ fun r hr => ?_
 unfold rowF
 rw [if_neg (fun z : r < ([] : List Int).length ∧ _ => by simp at z)]
 split
 ·exact (costF_bound b r (s r)).2
 ·exact Int.le_refl _
theorem asg_free (b : berth_board) : AsgB b (fun r => b.slots.length + r) := ⟨fun r hr => by omega, fun r q _ _ e => by omega⟩
theorem tot_free (b : berth_board) : totB b [] (fun r => b.slots.length + r) = 0 := by
 unfold totB
 rw [sum_map_eq _ (fun _ => 0) fun r _ => by unfold rowF costF; rw [if_neg (by simp), if_pos rfl]]
 generalize List.range b.calls.length = l
 induction l with
 | nil => rfl
 | cons a l ih => rw [List.map_cons, List.sum_cons, ih]; rfl
theorem best_nil {b : berth_board} (hB : BOK b) {out : List Int} {sum : Int} (h : Best b [] out sum) : sum ≤ 0 ∧ OkB b (fun r => (gI out r).toNat) := by
 have h0 : sum ≤ 0 := by have := h.m _ (asg_free b); rwa [tot_free] at this
 exact ⟨h0, (tot_ok hB (fixed := []) (by simp) (by rw [← h.e]; exact h0)).1⟩
end Go.Mx
