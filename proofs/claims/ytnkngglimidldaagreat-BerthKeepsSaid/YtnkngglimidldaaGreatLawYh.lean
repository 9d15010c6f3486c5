/- Plain laws, berths: costs, the best places, the plan. Conditions: none. -/
import Derived.Test.YtnkngglimidldaaGreatLawYg
set_option linter.unusedVariables false
set_option linter.unusedSimpArgs false
namespace Go.Mx
structure BOK (b : zK) : Prop where
 nc : b.calls.length ≤ 10
 ns : b.slots.length ≤ 100
 lc : b.can.length = b.calls.length
 lo : b.old.length = b.calls.length
def canB (b : zK) (i k : Nat) : Bool := (ZH (b.slots.getD k default) (b.can.getD i [])).isSome
def QZ (b : zK) (i k : Nat) : Int := if k = b.slots.length + i then 0 else if k < b.slots.length ∧ canB b i k = true then (if gI b.old i = (k : Int) then -1001 else -1000) else 1073741824
theorem zIP {α : Type} {P : Prop} [Decidable P] {k q : Nat} (e : P → k ≠ q) (A B : α) : (if k < q ∧ P then A else B) = if k < q + 1 ∧ P then A else B := by
 by_cases w : k < q ∧ P
 ·rw [if_pos w, if_pos ⟨by omega, w.2⟩]
 ·rw [if_neg w, if_neg (fun z => w ⟨by have := e z.2; omega, z.2⟩)]
theorem zIL {l : List Int} {n : Nat} {f : Nat → Int} (hl : l.length = n) (h : ∀ k, k < n → gI l k = f k) : l = (List.range n).map f := by
 refine List.ext_getElem (by simpa using hl) fun k h1 h2 => ?_
 have := h k (by omega)
 rw [zBS h1] at this
 simpa using this
theorem getD_lt {α : Type} {l : List α} {i : Nat} (h : i < l.length) (d : α) : l.getD i d = l[i] := by simp [List.getD_eq_getElem?_getD, h]
theorem zEG {α : Type} {l : List α} {i : Nat} (h : i < l.length) (d : α) : ix l (i : Int) = some (l.getD i d) := by rw [jO h, getD_lt h]
theorem zMQ {b : zK} (hB : BOK b) {i : Nat} (hi : i < b.calls.length) : jg b (i : Int) = some ((List.range (b.slots.length + b.calls.length)).map (QZ b i)) := by
 have nc := hB.nc; have ns := hB.ns
 have e1 : w64 ((b.slots.length : Int) + (b.calls.length : Int)) = ((b.slots.length + b.calls.length : Nat) : Int) := by rw [ZO (by omega) (by omega)]; omega
 have e2 : w64 ((b.slots.length : Int) + (i : Int)) = ((b.slots.length + i : Nat) : Int) := by rw [ZO (by omega) (by omega)]; omega
 unfold jg
 rw [zEu (n := b.slots.length + b.calls.length) (by omega) _ e1, Option.bind_some]
 obtain ⟨⟨x, l⟩, ⟨rfl, h1, h2⟩, h3⟩ := qE (body := jY b (i : Int) (List.replicate (b.slots.length + b.calls.length) (0 : Int))) (X := fun s => Zq b (i : Int) s.2) (s0 := (0, List.replicate (b.slots.length + b.calls.length) (0 : Int)))
  (fun q s => s.1 = (q : Int) ∧ s.2.length = b.slots.length + b.calls.length ∧ ∀ k, k < q → gI s.2 k = 1073741824) (b.slots.length + b.calls.length) (by omega) ⟨rfl, by simp, fun k h => by omega⟩
  (fun q s hq hI => by
   obtain ⟨x, l⟩ := s
   simp only at hI
   obtain ⟨rfl, h1, h2⟩ := hI
   unfold jY
   simp only
   rw [if_pos (by simp; omega), yh (by omega), Option.bind_some, ZO (by omega) (by omega), yx]
   refine ⟨_, rfl, by simp only; omega, by simp only [List.length_set]; exact h1, fun k hk => ?_⟩
   simp only
   rw [JN (by omega)]
   by_cases e : k = q
   ·rw [if_pos e]
   ·rw [if_neg e]; exact h2 k (by omega))
  (fun s hI => by
   obtain ⟨x, l⟩ := s
   simp only at hI
   obtain ⟨rfl, h1, h2⟩ := hI
   unfold jY
   simp only
   rw [if_neg (by simp)])
 rw [h3]
 unfold Zq
 simp only at h1 h2 ⊢
 obtain ⟨⟨x, l'⟩, ⟨rfl, g1, g2⟩, g3⟩ := qE (body := jZ b (i : Int)) (X := fun s => Zh b (i : Int) s.2) (s0 := (0, l))
  (fun q s => s.1 = (q : Int) ∧ s.2.length = b.slots.length + b.calls.length ∧ ∀ k, k < b.slots.length + b.calls.length → gI s.2 k = if k < q ∧ canB b i k = true then (if gI b.old i = (k : Int) then -1001 else -1000) else 1073741824) b.slots.length (by omega) ⟨rfl, h1, fun k h => by rw [if_neg (by omega)]; exact h2 k h⟩
  (fun q s hq hI => by
   obtain ⟨x, l⟩ := s
   simp only at hI
   obtain ⟨rfl, h1, h2⟩ := hI
   have hlo := hB.lo; have hlc := hB.lc
   have hj : ∀ z, Zb (q : Int) z = some (.inl (((q + 1 : Nat) : Int), z)) := fun z => by unfold Zb; rw [ZO (by omega) (by omega)]; rfl
   unfold jZ
   simp only
   rw [if_pos (by simpa using hq), zEG (d := default) hq, Option.bind_some, zEG (d := []) (by omega), Option.bind_some]
   have hcb : (ZH (b.slots.getD q default) (b.can.getD i [])).isSome = canB b i q := rfl
   rw [hcb]
   by_cases hc : canB b i q = true
   ·rw [if_pos hc, yh (by omega), Option.bind_some, yh (by omega), Option.bind_some, yx]
    by_cases ho : gI b.old i = (q : Int)
    ·rw [if_pos (by simpa using ho), yh (by rw [List.length_set]; omega), Option.bind_some, yx, hj]
     refine ⟨_, rfl, rfl, by simp only [List.length_set]; exact h1, fun k hk => ?_⟩
     simp only
     rw [JN (by rw [List.length_set]; omega), JN (by omega)]
     by_cases e : k = q
     ·subst e; rw [if_pos rfl, if_pos ⟨by omega, hc⟩, if_pos ho]
     ·rw [if_neg e, if_neg e, h2 k hk]
      exact zIP (fun _ => e) _ _
    ·rw [if_neg (by simpa using ho), hj]
     refine ⟨_, rfl, rfl, by simp only [List.length_set]; exact h1, fun k hk => ?_⟩
     simp only
     rw [JN (by omega)]
     by_cases e : k = q
     ·subst e; rw [if_pos rfl, if_pos ⟨by omega, hc⟩, if_neg ho]
     ·rw [if_neg e, h2 k hk]
      exact zIP (fun _ => e) _ _
   ·rw [if_neg hc, hj]
    refine ⟨_, rfl, rfl, h1, fun k hk => ?_⟩
    simp only
    rw [h2 k hk]
    exact zIP (fun z e => hc (by rw [← e]; exact z)) _ _)
  (fun s hI => by
   obtain ⟨x, l⟩ := s
   simp only at hI
   obtain ⟨rfl, h1, h2⟩ := hI
   unfold jZ
   simp only
   rw [if_neg (by simp)])
 replace g1 : l'.length = b.slots.length + b.calls.length := g1
 refine g3.trans ?_
 show Zh b (i : Int) l' = _
 unfold Zh
 rw [e2, yh (by omega), Option.bind_some, yx]
 refine congrArg some (zIL (by rw [List.length_set]; exact g1) fun k hk => ?_)
 rw [JN (by omega)]
 unfold QZ
 by_cases e : k = b.slots.length + i
 ·rw [if_pos e, if_pos e]
 ·rw [if_neg e, if_neg e]; exact g2 k hk
def fixK (b : zK) (fixed : List Int) (i : Nat) : Int := if gI fixed i < 0 then ((b.slots.length + i : Nat) : Int) else gI fixed i
def rowF (b : zK) (fixed : List Int) (i k : Nat) : Int := if i < fixed.length ∧ (k : Int) ≠ fixK b fixed i then 1073741824 else QZ b i k
def zDE (b : zK) (fixed : List Int) : List (List Int) := (List.range b.calls.length).map fun i => (List.range (b.slots.length + b.calls.length)).map (rowF b fixed i)
theorem zFS (b : zK) (i k : Nat) : -1001 ≤ QZ b i k ∧ QZ b i k ≤ 1073741824 := by
 unfold QZ
 repeat' split
 all_goals omega
theorem zF1 (b : zK) (f : List Int) (i k : Nat) : -1001 ≤ rowF b f i k ∧ rowF b f i k ≤ 1073741824 := by
 unfold rowF
 have := zFS b i k
 split <;> omega
theorem zLf {b : zK} (hB : BOK b) (fixed : List Int) : qW (zDE b fixed) (b.slots.length + b.calls.length) := by
 have nc := hB.nc; have ns := hB.ns
 refine ⟨by simp [zDE], by omega, fun row hr => ?_⟩
 unfold zDE at hr
 rw [List.mem_map] at hr
 obtain ⟨i, hi, rfl⟩ := hr
 refine ⟨by simp, fun x hx => ?_⟩
 rw [List.mem_map] at hx
 obtain ⟨k, hk, rfl⟩ := hx
 exact zF1 b fixed i k
theorem best_eq {b : zK} (hB : BOK b) {fixed : List Int} (hf : fixed.length ≤ 1000) : Zn b fixed = Jc (zDE b fixed) ((b.slots.length + b.calls.length : Nat) : Int) := by
 have nc := hB.nc; have ns := hB.ns
 have e1 : w64 ((b.slots.length : Int) + (b.calls.length : Int)) = ((b.slots.length + b.calls.length : Nat) : Int) := by rw [ZO (by omega) (by omega)]; omega
 unfold Zn
 obtain ⟨⟨x, l⟩, ⟨rfl, h1⟩, h2⟩ := qE (body := Ja b fixed) (X := fun s => jo b s.2) (s0 := (0, []))
  (fun i s => s.1 = (i : Int) ∧ s.2 = (List.range i).map fun i => (List.range (b.slots.length + b.calls.length)).map (rowF b fixed i)) b.calls.length (by omega) ⟨rfl, rfl⟩
  (fun i s hi hI => by
   obtain ⟨x, l⟩ := s
   simp only at hI
   obtain ⟨rfl, rfl⟩ := hI
   unfold Ja
   simp only
   rw [if_pos (by simpa using hi), zMQ hB hi, Option.bind_some]
   have hj : ∀ (z : List Int), jA (i : Int) ((List.range i).map fun i => (List.range (b.slots.length + b.calls.length)).map (rowF b fixed i)) z = some (.inl (((i + 1 : Nat) : Int), ((List.range i).map fun i => (List.range (b.slots.length + b.calls.length)).map (rowF b fixed i)) ++ [z])) := fun z => by
    unfold jA
    rw [qU (by simp; omega), Option.bind_some, ZO (by omega) (by omega)]; rfl
   have hz : ∀ (z : List Int), z = (List.range (b.slots.length + b.calls.length)).map (rowF b fixed i) → ((List.range i).map fun i => (List.range (b.slots.length + b.calls.length)).map (rowF b fixed i)) ++ [z] = (List.range (i + 1)).map fun i => (List.range (b.slots.length + b.calls.length)).map (rowF b fixed i) := fun z e => by
    rw [e, List.range_succ, List.map_append]; rfl
   by_cases hfi : i < fixed.length
   ·have hj4 : ∀ k : Int, k = fixK b fixed i → ∃ s', jN (i : Int) ((List.range i).map fun i => (List.range (b.slots.length + b.calls.length)).map (rowF b fixed i)) ((List.range (b.slots.length + b.calls.length)).map (QZ b i)) k = some (.inl s') ∧ s'.1 = ((i + 1 : Nat) : Int) ∧ s'.2 = (List.range (i + 1)).map fun i => (List.range (b.slots.length + b.calls.length)).map (rowF b fixed i) := fun k hk => by
     unfold jN
     obtain ⟨⟨x, l⟩, ⟨rfl, g1, g2⟩, g3⟩ := qE (body := JZ (i : Int) ((List.range i).map fun i => (List.range (b.slots.length + b.calls.length)).map (rowF b fixed i)) ((List.range (b.slots.length + b.calls.length)).map (QZ b i)) k) (X := fun s => jA (i : Int) ((List.range i).map fun i => (List.range (b.slots.length + b.calls.length)).map (rowF b fixed i)) s.2) (s0 := (0, (List.range (b.slots.length + b.calls.length)).map (QZ b i)))
      (fun q s => s.1 = (q : Int) ∧ s.2.length = b.slots.length + b.calls.length ∧ ∀ j, j < b.slots.length + b.calls.length → gI s.2 j = if j < q ∧ (j : Int) ≠ k then 1073741824 else QZ b i j) (b.slots.length + b.calls.length) (by omega)
      ⟨rfl, by simp, fun j h => by rw [if_neg (by omega), zBS (by simpa using h)]; simp⟩
      (fun q s hq hI => by
       obtain ⟨x, l⟩ := s
       simp only at hI
       obtain ⟨rfl, h1, h2⟩ := hI
       have hj6 : ∀ z, jM (q : Int) z = some (.inl (((q + 1 : Nat) : Int), z)) := fun z => by unfold jM; rw [ZO (by omega) (by omega)]; rfl
       unfold JZ
       simp only
       rw [if_pos (by simp; omega)]
       by_cases e : (q : Int) = k
       ·rw [if_neg (by simpa using e), hj6]
        refine ⟨_, rfl, rfl, h1, fun j hj2 => ?_⟩
        simp only
        rw [h2 j hj2]
        by_cases w : j < q ∧ (j : Int) ≠ k
        ·rw [if_pos w, if_pos ⟨by omega, w.2⟩]
        ·rw [if_neg w, if_neg (fun z => w ⟨by omega, z.2⟩)]
       ·rw [if_pos (by simpa using e), yh (by omega), Option.bind_some, yx, hj6]
        refine ⟨_, rfl, rfl, by simp only [List.length_set]; exact h1, fun j hj2 => ?_⟩
        simp only
        rw [JN (by omega)]
        by_cases w : j = q
        ·subst w; rw [if_pos rfl, if_pos ⟨by omega, e⟩]
        ·rw [if_neg w, h2 j hj2]
         by_cases w : j < q ∧ (j : Int) ≠ k
         ·rw [if_pos w, if_pos ⟨by omega, w.2⟩]
         ·rw [if_neg w, if_neg (fun z => w ⟨by omega, z.2⟩)])
      (fun s hI => by
       obtain ⟨x, l⟩ := s
       simp only at hI
       obtain ⟨rfl, h1, h2⟩ := hI
       unfold JZ
       simp only
       rw [if_neg (by simp)])
     rw [g3, hj]
     refine ⟨_, rfl, rfl, hz _ (zIL g1 fun j hj2 => ?_)⟩
     rw [g2 j hj2]
     unfold rowF
     rw [← hk]
     by_cases w : (j : Int) ≠ k
     ·rw [if_pos ⟨hj2, w⟩, if_pos ⟨hfi, w⟩]
     ·rw [if_neg (fun z => w z.2), if_neg (fun z => w z.2)]
    rw [if_pos (by simpa using hfi), yh hfi, Option.bind_some]
    by_cases hn : gI fixed i < 0
    ·rw [if_pos (by simpa using hn)]
     refine hj4 _ ?_
     unfold fixK
     rw [if_pos hn, ZO (by omega) (by omega)]; omega
    ·rw [if_neg (by simpa using hn)]
     refine hj4 _ ?_
     unfold fixK
     rw [if_neg hn]
   ·rw [if_neg (by simpa using hfi), hj]
    refine ⟨_, rfl, rfl, hz _ ?_⟩
    refine List.map_congr_left fun k _ => ?_
    unfold rowF
    rw [if_neg (fun z => hfi z.1)])
  (fun s hI => by
   obtain ⟨x, l⟩ := s
   simp only at hI
   obtain ⟨rfl, h1⟩ := hI
   unfold Ja
   simp only
   rw [if_neg (by simp)])
 rw [h2]
 unfold jo
 simp only at h1 ⊢
 rw [e1, h1]
 show Option.bind (Jc (zDE b fixed) _) _ = _
 cases Jc (zDE b fixed) ((b.slots.length + b.calls.length : Nat) : Int) <;> rfl
def totB (b : zK) (fixed : List Int) (s : Nat → Nat) : Int := ((List.range b.calls.length).map fun r => rowF b fixed r (s r)).sum
abbrev AsgB (b : zK) (s : Nat → Nat) : Prop := Asg b.calls.length (b.slots.length + b.calls.length) s
structure Best (b : zK) (fixed : List Int) (out : List Int) (sum : Int) : Prop where
 l : out.length = b.calls.length
 nn : ∀ r, r < b.calls.length → 0 ≤ gI out r
 a : AsgB b (fun r => (gI out r).toNat)
 e : sum = totB b fixed (fun r => (gI out r).toNat)
 m : ∀ s, AsgB b s → sum ≤ totB b fixed s
theorem zE6 {b : zK} (hB : BOK b) {fixed : List Int} (hf : fixed.length ≤ 1000) : ∃ out sum, Zn b fixed = some (out, sum) ∧ Best b fixed out sum := by
 have hl : (zDE b fixed).length = b.calls.length := by simp [zDE]
 have ht : ∀ s, AsgB b s → tot (zDE b fixed) s = totB b fixed s := fun s hs => by
  unfold tot totB
  rw [hl]
  refine qb _ _ fun r hr => ?_
  rw [List.mem_range] at hr
  have := hs.lt r hr
  unfold cC
  rw [Nat.add_sub_cancel, Nat.add_sub_cancel, getD_lt (by omega)]
  simp only [zDE, List.getElem_map, List.getElem_range]
  rw [zBS (by simpa using this)]
  simp
 obtain ⟨out, sum, h1, h2, h3, h4, h5, h6⟩ := zJb (zLf hB fixed)
 rw [hl] at h2 h3 h4 h6
 exact ⟨out, sum, by rw [best_eq hB hf]; exact h1, h2, h3, h4, by rw [h5]; exact ht _ h4, fun s hs => by rw [← ht s hs]; exact h6 s hs⟩
def OkB (b : zK) (s : Nat → Nat) : Prop := ∀ r, r < b.calls.length → s r = b.slots.length + r ∨ (s r < b.slots.length ∧ canB b r (s r) = true)
def zGr (b : zK) (fixed : List Int) (s : Nat → Nat) : Prop := ∀ r, r < fixed.length → (s r : Int) = fixK b fixed r
theorem zLX {n : Nat} {f : Nat → Int} (hn : n ≤ 10) (h : ∀ r, r < n → -1001 ≤ f r) {q : Nat} (hq : q < n) (h2 : f q = 1073741824) : 0 < ((List.range n).map f).sum := by
 rw [zC3 f (List.mem_range.2 hq), h2]
 have : ∀ l : List Nat, (∀ r ∈ l, r < n) → -(1001 * (l.length : Int)) ≤ (l.map f).sum := by
  intro l
  induction l with
  | nil => intro _; simp
  | cons a l ih =>
   intro hl
   have := ih fun r hr => hl r (List.mem_cons_of_mem _ hr)
   have := h a (hl a List.mem_cons_self)
   simp only [List.length_cons, List.map_cons, List.sum_cons]; omega
 have h3 := this ((List.range n).erase q) fun r hr => List.mem_range.1 (List.mem_of_mem_erase hr)
 rw [List.length_erase_of_mem (List.mem_range.2 hq), List.length_range] at h3
 omega
theorem zLU {b : zK} (hB : BOK b) {fixed : List Int} (hf : fixed.length ≤ b.calls.length) {s : Nat → Nat} (h : totB b fixed s ≤ 0) : OkB b s ∧ zGr b fixed s := by
 have key : ∀ r, r < b.calls.length → rowF b fixed r (s r) ≠ 1073741824 := fun r hr e => by
  have := zLX hB.nc (f := fun r => rowF b fixed r (s r)) (fun r _ => (zF1 b fixed r (s r)).1) hr e
  unfold totB at h; omega
 constructor
 ·intro r hr
  have := key r hr
  unfold rowF at this
  split at this
  ·exact absurd rfl this
  ·unfold QZ at this
   split at this
   ·rename_i e; exact .inl e
   ·split at this
    ·rename_i e; exact .inr e
    ·exact absurd rfl this
 ·intro r hr
  have := key r (by omega)
  unfold rowF at this
  split at this
  ·exact absurd rfl this
  ·rename_i e
   exact Classical.byContradiction fun w => e ⟨hr, w⟩
theorem zKO {b : zK} {fixed : List Int} {s : Nat → Nat} (h : zGr b fixed s) : totB b fixed s = totB b [] s := by
 unfold totB
 refine qb _ _ fun r hr => ?_
 unfold rowF
 rw [if_neg (fun z => z.2 (h r z.1)), if_neg (by simp)]
theorem tot_le (b : zK) (fixed : List Int) (s : Nat → Nat) : totB b [] s ≤ totB b fixed s := by
 unfold totB
 refine zDT _ _ fun r hr => ?_
 unfold rowF
 rw [if_neg (fun z : r < ([] : List Int).length ∧ _ => by simp at z)]
 split
 ·exact (zFS b r (s r)).2
 ·exact Int.le_refl _
theorem zMc (b : zK) : AsgB b (fun r => b.slots.length + r) := ⟨fun r hr => by omega, fun r q _ _ e => by omega⟩
theorem zLV (b : zK) : totB b [] (fun r => b.slots.length + r) = 0 := by
 unfold totB
 rw [qb _ (fun _ => 0) fun r _ => by unfold rowF QZ; rw [if_neg (by simp), if_pos rfl]]
 generalize List.range b.calls.length = l
 induction l with
 | nil => rfl
 | cons a l ih => rw [List.map_cons, List.sum_cons, ih]; rfl
theorem zJZ {b : zK} (hB : BOK b) {out : List Int} {sum : Int} (h : Best b [] out sum) : sum ≤ 0 ∧ OkB b (fun r => (gI out r).toNat) := by
 have h0 : sum ≤ 0 := by have := h.m _ (zMc b); rwa [zLV] at this
 exact ⟨h0, (zLU hB (fixed := []) (by simp) (by rw [← h.e]; exact h0)).1⟩
end Go.Mx
