/- Plain laws, berths: costs, the best places, the plan. Conditions: none. -/
import Derived.Test.YtnkngglimidldaaGreatLawYg
set_option linter.unusedVariables false
set_option linter.unusedSimpArgs false
namespace Go.Mx
structure BOK (b : zJ) : Prop where
 nc : b.calls.length ≤ 10
 ns : b.slots.length ≤ 100
 lc : b.can.length = b.calls.length
 lo : b.old.length = b.calls.length
def canB (b : zJ) (i k : Nat) : Bool := (ZA (b.slots.getD k default) (b.can.getD i [])).isSome
def Y1 (b : zJ) (i k : Nat) : Int := if k = b.slots.length + i then 0 else if k < b.slots.length ∧ canB b i k = true then (if gI b.old i = (k : Int) then -1001 else -1000) else 1073741824
theorem zH1 {α : Type} {P : Prop} [Decidable P] {k q : Nat} (e : P → k ≠ q) (A B : α) : (if k < q ∧ P then A else B) = if k < q + 1 ∧ P then A else B := by
 by_cases w : k < q ∧ P
 ·rw [if_pos w, if_pos ⟨by omega, w.2⟩]
 ·rw [if_neg w, if_neg (fun z => w ⟨by have := e z.2; omega, z.2⟩)]
theorem zHw {l : List Int} {n : Nat} {f : Nat → Int} (hl : l.length = n) (h : ∀ k, k < n → gI l k = f k) : l = (List.range n).map f := by
 refine List.ext_getElem (by simpa using hl) fun k h1 h2 => ?_
 have := h k (by omega)
 rw [zAn h1] at this
 simpa using this
theorem qG {α : Type} {l : List α} {i : Nat} (h : i < l.length) (d : α) : l.getD i d = l[i] := by simp [List.getD_eq_getElem?_getD, h]
theorem zDi {α : Type} {l : List α} {i : Nat} (h : i < l.length) (d : α) : ix l (i : Int) = some (l.getD i d) := by rw [jE h, qG h]
theorem zL9 {b : zJ} (hB : BOK b) {i : Nat} (hi : i < b.calls.length) : jX b (i : Int) = some ((List.range (b.slots.length + b.calls.length)).map (Y1 b i)) := by
 have nc := hB.nc; have ns := hB.ns
 have e1 : w64 ((b.slots.length : Int) + (b.calls.length : Int)) = ((b.slots.length + b.calls.length : Nat) : Int) := by rw [ZH (by omega) (by omega)]; omega
 have e2 : w64 ((b.slots.length : Int) + (i : Int)) = ((b.slots.length + i : Nat) : Int) := by rw [ZH (by omega) (by omega)]; omega
 unfold jX
 rw [zEN (n := b.slots.length + b.calls.length) (by omega) _ e1, Option.bind_some]
 obtain ⟨⟨x, l⟩, ⟨rfl, h1, h2⟩, h3⟩ := Qh (body := jO b (i : Int) (List.replicate (b.slots.length + b.calls.length) (0 : Int))) (X := fun s => Zj b (i : Int) s.2) (s0 := (0, List.replicate (b.slots.length + b.calls.length) (0 : Int)))
  (fun q s => s.1 = (q : Int) ∧ s.2.length = b.slots.length + b.calls.length ∧ ∀ k, k < q → gI s.2 k = 1073741824) (b.slots.length + b.calls.length) (by omega) ⟨rfl, by simp, fun k h => by omega⟩
  (fun q s hq hI => by
   obtain ⟨x, l⟩ := s
   simp only at hI
   obtain ⟨rfl, h1, h2⟩ := hI
   unfold jO
   simp only
   rw [if_pos (by simp; omega), yF (by omega), Option.bind_some, ZH (by omega) (by omega), yN]
   refine ⟨_, rfl, by simp only; omega, by simp only [List.length_set]; exact h1, fun k hk => ?_⟩
   simp only
   rw [j4 (by omega)]
   by_cases e : k = q
   ·rw [if_pos e]
   ·rw [if_neg e]; exact h2 k (by omega))
  (fun s hI => by
   obtain ⟨x, l⟩ := s
   simp only at hI
   obtain ⟨rfl, h1, h2⟩ := hI
   unfold jO
   simp only
   rw [if_neg (by simp)])
 rw [h3]
 unfold Zj
 simp only at h1 h2 ⊢
 obtain ⟨⟨x, l'⟩, ⟨rfl, g1, g2⟩, g3⟩ := Qh (body := jP b (i : Int)) (X := fun s => Za b (i : Int) s.2) (s0 := (0, l))
  (fun q s => s.1 = (q : Int) ∧ s.2.length = b.slots.length + b.calls.length ∧ ∀ k, k < b.slots.length + b.calls.length → gI s.2 k = if k < q ∧ canB b i k = true then (if gI b.old i = (k : Int) then -1001 else -1000) else 1073741824) b.slots.length (by omega) ⟨rfl, h1, fun k h => by rw [if_neg (by omega)]; exact h2 k h⟩
  (fun q s hq hI => by
   obtain ⟨x, l⟩ := s
   simp only at hI
   obtain ⟨rfl, h1, h2⟩ := hI
   have hlo := hB.lo; have hlc := hB.lc
   have hj : ∀ z, ZT (q : Int) z = some (.inl (((q + 1 : Nat) : Int), z)) := fun z => by unfold ZT; rw [ZH (by omega) (by omega)]; rfl
   unfold jP
   simp only
   rw [if_pos (by simpa using hq), zDi (d := default) hq, Option.bind_some, zDi (d := []) (by omega), Option.bind_some]
   have hcb : (ZA (b.slots.getD q default) (b.can.getD i [])).isSome = canB b i q := rfl
   rw [hcb]
   by_cases hc : canB b i q = true
   ·rw [if_pos hc, yF (by omega), Option.bind_some, yF (by omega), Option.bind_some, yN]
    by_cases ho : gI b.old i = (q : Int)
    ·rw [if_pos (by simpa using ho), yF (by rw [List.length_set]; omega), Option.bind_some, yN, hj]
     refine ⟨_, rfl, rfl, by simp only [List.length_set]; exact h1, fun k hk => ?_⟩
     simp only
     rw [j4 (by rw [List.length_set]; omega), j4 (by omega)]
     by_cases e : k = q
     ·subst e; rw [if_pos rfl, if_pos ⟨by omega, hc⟩, if_pos ho]
     ·rw [if_neg e, if_neg e, h2 k hk]
      exact zH1 (fun _ => e) _ _
    ·rw [if_neg (by simpa using ho), hj]
     refine ⟨_, rfl, rfl, by simp only [List.length_set]; exact h1, fun k hk => ?_⟩
     simp only
     rw [j4 (by omega)]
     by_cases e : k = q
     ·subst e; rw [if_pos rfl, if_pos ⟨by omega, hc⟩, if_neg ho]
     ·rw [if_neg e, h2 k hk]
      exact zH1 (fun _ => e) _ _
   ·rw [if_neg hc, hj]
    refine ⟨_, rfl, rfl, h1, fun k hk => ?_⟩
    simp only
    rw [h2 k hk]
    exact zH1 (fun z e => hc (by rw [← e]; exact z)) _ _)
  (fun s hI => by
   obtain ⟨x, l⟩ := s
   simp only at hI
   obtain ⟨rfl, h1, h2⟩ := hI
   unfold jP
   simp only
   rw [if_neg (by simp)])
 replace g1 : l'.length = b.slots.length + b.calls.length := g1
 refine g3.trans ?_
 show Za b (i : Int) l' = _
 unfold Za
 rw [e2, yF (by omega), Option.bind_some, yN]
 refine congrArg some (zHw (by rw [List.length_set]; exact g1) fun k hk => ?_)
 rw [j4 (by omega)]
 unfold Y1
 by_cases e : k = b.slots.length + i
 ·rw [if_pos e, if_pos e]
 ·rw [if_neg e, if_neg e]; exact g2 k hk
def fixK (b : zJ) (fixed : List Int) (i : Nat) : Int := if gI fixed i < 0 then ((b.slots.length + i : Nat) : Int) else gI fixed i
def rowF (b : zJ) (fixed : List Int) (i k : Nat) : Int := if i < fixed.length ∧ (k : Int) ≠ fixK b fixed i then 1073741824 else Y1 b i k
def zCg (b : zJ) (fixed : List Int) : List (List Int) := (List.range b.calls.length).map fun i => (List.range (b.slots.length + b.calls.length)).map (rowF b fixed i)
theorem zEx (b : zJ) (i k : Nat) : -1001 ≤ Y1 b i k ∧ Y1 b i k ≤ 1073741824 := by
 unfold Y1
 repeat' split
 all_goals omega
theorem zFY (b : zJ) (f : List Int) (i k : Nat) : -1001 ≤ rowF b f i k ∧ rowF b f i k ≤ 1073741824 := by
 unfold rowF
 have := zEx b i k
 split <;> omega
theorem zLN {b : zJ} (hB : BOK b) (fixed : List Int) : Qx (zCg b fixed) (b.slots.length + b.calls.length) := by
 have nc := hB.nc; have ns := hB.ns
 refine ⟨by simp [zCg], by omega, fun row hr => ?_⟩
 unfold zCg at hr
 rw [List.mem_map] at hr
 obtain ⟨i, hi, rfl⟩ := hr
 refine ⟨by simp, fun x hx => ?_⟩
 rw [List.mem_map] at hx
 obtain ⟨k, hk, rfl⟩ := hx
 exact zFY b fixed i k
theorem best_eq {b : zJ} (hB : BOK b) {fixed : List Int} (hf : fixed.length ≤ 1000) : Zg b fixed = JF (zCg b fixed) ((b.slots.length + b.calls.length : Nat) : Int) := by
 have nc := hB.nc; have ns := hB.ns
 have e1 : w64 ((b.slots.length : Int) + (b.calls.length : Int)) = ((b.slots.length + b.calls.length : Nat) : Int) := by rw [ZH (by omega) (by omega)]; omega
 unfold Zg
 obtain ⟨⟨x, l⟩, ⟨rfl, h1⟩, h2⟩ := Qh (body := JD b fixed) (X := fun s => jc b s.2) (s0 := (0, []))
  (fun i s => s.1 = (i : Int) ∧ s.2 = (List.range i).map fun i => (List.range (b.slots.length + b.calls.length)).map (rowF b fixed i)) b.calls.length (by omega) ⟨rfl, rfl⟩
  (fun i s hi hI => by
   obtain ⟨x, l⟩ := s
   simp only at hI
   obtain ⟨rfl, rfl⟩ := hI
   unfold JD
   simp only
   rw [if_pos (by simpa using hi), zL9 hB hi, Option.bind_some]
   have hj : ∀ (z : List Int), Zz (i : Int) ((List.range i).map fun i => (List.range (b.slots.length + b.calls.length)).map (rowF b fixed i)) z = some (.inl (((i + 1 : Nat) : Int), ((List.range i).map fun i => (List.range (b.slots.length + b.calls.length)).map (rowF b fixed i)) ++ [z])) := fun z => by
    unfold Zz
    rw [Qv (by simp; omega), Option.bind_some, ZH (by omega) (by omega)]; rfl
   have hz : ∀ (z : List Int), z = (List.range (b.slots.length + b.calls.length)).map (rowF b fixed i) → ((List.range i).map fun i => (List.range (b.slots.length + b.calls.length)).map (rowF b fixed i)) ++ [z] = (List.range (i + 1)).map fun i => (List.range (b.slots.length + b.calls.length)).map (rowF b fixed i) := fun z e => by
    rw [e, List.range_succ, List.map_append]; rfl
   by_cases hfi : i < fixed.length
   ·have hj4 : ∀ k : Int, k = fixK b fixed i → ∃ s', jD (i : Int) ((List.range i).map fun i => (List.range (b.slots.length + b.calls.length)).map (rowF b fixed i)) ((List.range (b.slots.length + b.calls.length)).map (Y1 b i)) k = some (.inl s') ∧ s'.1 = ((i + 1 : Nat) : Int) ∧ s'.2 = (List.range (i + 1)).map fun i => (List.range (b.slots.length + b.calls.length)).map (rowF b fixed i) := fun k hk => by
     unfold jD
     obtain ⟨⟨x, l⟩, ⟨rfl, g1, g2⟩, g3⟩ := Qh (body := JC (i : Int) ((List.range i).map fun i => (List.range (b.slots.length + b.calls.length)).map (rowF b fixed i)) ((List.range (b.slots.length + b.calls.length)).map (Y1 b i)) k) (X := fun s => Zz (i : Int) ((List.range i).map fun i => (List.range (b.slots.length + b.calls.length)).map (rowF b fixed i)) s.2) (s0 := (0, (List.range (b.slots.length + b.calls.length)).map (Y1 b i)))
      (fun q s => s.1 = (q : Int) ∧ s.2.length = b.slots.length + b.calls.length ∧ ∀ j, j < b.slots.length + b.calls.length → gI s.2 j = if j < q ∧ (j : Int) ≠ k then 1073741824 else Y1 b i j) (b.slots.length + b.calls.length) (by omega)
      ⟨rfl, by simp, fun j h => by rw [if_neg (by omega), zAn (by simpa using h)]; simp⟩
      (fun q s hq hI => by
       obtain ⟨x, l⟩ := s
       simp only at hI
       obtain ⟨rfl, h1, h2⟩ := hI
       have hj6 : ∀ z, jC (q : Int) z = some (.inl (((q + 1 : Nat) : Int), z)) := fun z => by unfold jC; rw [ZH (by omega) (by omega)]; rfl
       unfold JC
       simp only
       rw [if_pos (by simp; omega)]
       by_cases e : (q : Int) = k
       ·rw [if_neg (by simpa using e), hj6]
        refine ⟨_, rfl, rfl, h1, fun j hj2 => ?_⟩
        simp only
        rw [h2 j hj2]
        by_cases w : j < q ∧ (j : Int) ≠ k
        ·rw [if_pos w, if_pos ⟨by omega, w.2⟩]
        ·rw [if_neg w, if_neg (fun z => w ⟨by omega, z.2⟩)]
       ·rw [if_pos (by simpa using e), yF (by omega), Option.bind_some, yN, hj6]
        refine ⟨_, rfl, rfl, by simp only [List.length_set]; exact h1, fun j hj2 => ?_⟩
        simp only
        rw [j4 (by omega)]
        by_cases w : j = q
        ·subst w; rw [if_pos rfl, if_pos ⟨by omega, e⟩]
        ·rw [if_neg w, h2 j hj2]
         by_cases w : j < q ∧ (j : Int) ≠ k
         ·rw [if_pos w, if_pos ⟨by omega, w.2⟩]
         ·rw [if_neg w, if_neg (fun z => w ⟨by omega, z.2⟩)])
      (fun s hI => by
       obtain ⟨x, l⟩ := s
       simp only at hI
       obtain ⟨rfl, h1, h2⟩ := hI
       unfold JC
       simp only
       rw [if_neg (by simp)])
     rw [g3, hj]
     refine ⟨_, rfl, rfl, hz _ (zHw g1 fun j hj2 => ?_)⟩
     rw [g2 j hj2]
     unfold rowF
     rw [← hk]
     by_cases w : (j : Int) ≠ k
     ·rw [if_pos ⟨hj2, w⟩, if_pos ⟨hfi, w⟩]
     ·rw [if_neg (fun z => w z.2), if_neg (fun z => w z.2)]
    rw [if_pos (by simpa using hfi), yF hfi, Option.bind_some]
    by_cases hn : gI fixed i < 0
    ·rw [if_pos (by simpa using hn)]
     refine hj4 _ ?_
     unfold fixK
     rw [if_pos hn, ZH (by omega) (by omega)]; omega
    ·rw [if_neg (by simpa using hn)]
     refine hj4 _ ?_
     unfold fixK
     rw [if_neg hn]
   ·rw [if_neg (by simpa using hfi), hj]
    refine ⟨_, rfl, rfl, hz _ ?_⟩
    refine List.map_congr_left fun k _ => ?_
    unfold rowF
    rw [if_neg (fun z => hfi z.1)])
  (fun s hI => by
   obtain ⟨x, l⟩ := s
   simp only at hI
   obtain ⟨rfl, h1⟩ := hI
   unfold JD
   simp only
   rw [if_neg (by simp)])
 rw [h2]
 unfold jc
 simp only at h1 ⊢
 rw [e1, h1]
 show Option.bind (JF (zCg b fixed) _) _ = _
 cases JF (zCg b fixed) ((b.slots.length + b.calls.length : Nat) : Int) <;> rfl
def totB (b : zJ) (fixed : List Int) (s : Nat → Nat) : Int := ((List.range b.calls.length).map fun r => rowF b fixed r (s r)).sum
abbrev AsgB (b : zJ) (s : Nat → Nat) : Prop := Asg b.calls.length (b.slots.length + b.calls.length) s
structure Best (b : zJ) (fixed : List Int) (out : List Int) (sum : Int) : Prop where
 l : out.length = b.calls.length
 nn : ∀ r, r < b.calls.length → 0 ≤ gI out r
 a : AsgB b (fun r => (gI out r).toNat)
 e : sum = totB b fixed (fun r => (gI out r).toNat)
 m : ∀ s, AsgB b s → sum ≤ totB b fixed s
theorem zEa {b : zJ} (hB : BOK b) {fixed : List Int} (hf : fixed.length ≤ 1000) : ∃ out sum, Zg b fixed = some (out, sum) ∧ Best b fixed out sum := by
 have hl : (zCg b fixed).length = b.calls.length := by simp [zCg]
 have ht : ∀ s, AsgB b s → tot (zCg b fixed) s = totB b fixed s := fun s hs => by
  unfold tot totB
  rw [hl]
  refine Q3 _ _ fun r hr => ?_
  rw [List.mem_range] at hr
  have := hs.lt r hr
  unfold cC
  rw [Nat.add_sub_cancel, Nat.add_sub_cancel, qG (by omega)]
  simp only [zCg, List.getElem_map, List.getElem_range]
  rw [zAn (by simpa using this)]
  simp
 obtain ⟨out, sum, h1, h2, h3, h4, h5, h6⟩ := zJG (zLN hB fixed)
 rw [hl] at h2 h3 h4 h6
 exact ⟨out, sum, by rw [best_eq hB hf]; exact h1, h2, h3, h4, by rw [h5]; exact ht _ h4, fun s hs => by rw [← ht s hs]; exact h6 s hs⟩
def OkB (b : zJ) (s : Nat → Nat) : Prop := ∀ r, r < b.calls.length → s r = b.slots.length + r ∨ (s r < b.slots.length ∧ canB b r (s r) = true)
def zGO (b : zJ) (fixed : List Int) (s : Nat → Nat) : Prop := ∀ r, r < fixed.length → (s r : Int) = fixK b fixed r
theorem zLF {n : Nat} {f : Nat → Int} (hn : n ≤ 10) (h : ∀ r, r < n → -1001 ≤ f r) {q : Nat} (hq : q < n) (h2 : f q = 1073741824) : 0 < ((List.range n).map f).sum := by
 rw [zCU f (List.mem_range.2 hq), h2]
 have : ∀ l : List Nat, (∀ r ∈ l, r < n) → -(1001 * (l.length : Int)) ≤ (l.map f).sum := by
  intro l
  induction l with
  | nil => intro _; simp
  | cons a l ih =>
   intro hl
   have := ih fun r hr => hl r (List.mem_cons_of_mem _ hr)
   have := h a (hl a List.mem_cons_self)
   simp only [List.length_cons, List.map_cons, List.sum_cons]; omega
 have h3 := this ((List.range n).erase q) fun r hr => List.mem_range.1 (List.mem_of_mem_erase hr)
 rw [List.length_erase_of_mem (List.mem_range.2 hq), List.length_range] at h3
 omega
theorem zLC {b : zJ} (hB : BOK b) {fixed : List Int} (hf : fixed.length ≤ b.calls.length) {s : Nat → Nat} (h : totB b fixed s ≤ 0) : OkB b s ∧ zGO b fixed s := by
 have key : ∀ r, r < b.calls.length → rowF b fixed r (s r) ≠ 1073741824 := fun r hr e => by
  have := zLF hB.nc (f := fun r => rowF b fixed r (s r)) (fun r _ => (zFY b fixed r (s r)).1) hr e
  unfold totB at h; omega
 constructor
 ·intro r hr
  have := key r hr
  unfold rowF at this
  split at this
  ·exact absurd rfl this
  ·unfold Y1 at this
   split at this
   ·rename_i e; exact .inl e
   ·split at this
    ·rename_i e; exact .inr e
    ·exact absurd rfl this
 ·intro r hr
  have := key r (by omega)
  unfold rowF at this
  split at this
  ·exact absurd rfl this
  ·rename_i e
   exact Classical.byContradiction fun w => e ⟨hr, w⟩
theorem zJ3 {b : zJ} {fixed : List Int} {s : Nat → Nat} (h : zGO b fixed s) : totB b fixed s = totB b [] s := by
 unfold totB
 refine Q3 _ _ fun r hr => ?_
 unfold rowF
 rw [if_neg (fun z => z.2 (h r z.1)), if_neg (by simp)]
theorem tot_le (b : zJ) (fixed : List Int) (s : Nat → Nat) : totB b [] s ≤ totB b fixed s := by
 unfold totB
 refine zCv _ _ fun r hr => ?_
 unfold rowF
 rw [if_neg (fun z : r < ([] : List Int).length ∧ _ => by simp at z)]
 split
 ·exact (zEx b r (s r)).2
 ·exact Int.le_refl _
theorem zML (b : zJ) : AsgB b (fun r => b.slots.length + r) := ⟨fun r hr => by omega, fun r q _ _ e => by omega⟩
theorem zLD (b : zJ) : totB b [] (fun r => b.slots.length + r) = 0 := by
 unfold totB
 rw [Q3 _ (fun _ => 0) fun r _ => by unfold rowF Y1; rw [if_neg (by simp), if_pos rfl]]
 generalize List.range b.calls.length = l
 induction l with
 | nil => rfl
 | cons a l ih => rw [List.map_cons, List.sum_cons, ih]; rfl
theorem zJE {b : zJ} (hB : BOK b) {out : List Int} {sum : Int} (h : Best b [] out sum) : sum ≤ 0 ∧ OkB b (fun r => (gI out r).toNat) := by
 have h0 : sum ≤ 0 := by have := h.m _ (zML b); rwa [zLD] at this
 exact ⟨h0, (zLC hB (fixed := []) (by simp) (by rw [← h.e]; exact h0)).1⟩
end Go.Mx
