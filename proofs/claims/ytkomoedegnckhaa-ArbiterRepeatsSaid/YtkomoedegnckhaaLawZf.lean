/- Plain laws, arbiters: lawful lists; the program's search is the specification's. Conditions: none. -/
import Derived.Test.YtkomoedegnckhaaLawZe
set_option linter.unusedVariables false
set_option linter.unusedSimpArgs false
namespace Go.Mx
theorem said_iff {y z : api_Letter} : arbiter_said y = arbiter_said z ↔ y.Case = z.Case ∧ y.Kind = z.Kind ∧ y.Round = z.Round ∧ y.From = z.From ∧ y.Voted = z.Voted ∧ y.Finding = z.Finding := by
 unfold arbiter_said
 simp
theorem alike_said (y z : api_Letter) : ref09_Alike y z = decide (arbiter_said y = arbiter_said z) := by
 unfold ref09_Alike
 rw [Bool.eq_iff_iff, decide_eq_true_eq, said_iff]
 simp [and_assoc]
def ddF (k : Int) (D : List api_Letter) (x : api_Letter) : List api_Letter := if x.Case = k ∧ D.any (fun y => decide (arbiter_said y = arbiter_said x)) = false then D ++ [x] else D
def dd (k : Int) (P : List api_Letter) : List api_Letter := P.foldl (ddF k) []
theorem dd_snoc (k : Int) (P : List api_Letter) (x : api_Letter) : dd k (P ++ [x]) = ddF k (dd k P) x := by simp [dd, List.foldl_append]
theorem dd_mem {k : Int} {P : List api_Letter} : ∀ {y}, y ∈ dd k P → y ∈ P ∧ y.Case = k := by
 refine snoc_rec (motive := fun P => ∀ {y}, y ∈ dd k P → y ∈ P ∧ y.Case = k) (fun h => by simp [dd] at h) (fun P x ih => ?_) P
 intro y h
 rw [dd_snoc] at h
 unfold ddF at h
 split at h
 ·rename_i hc
  rcases List.mem_append.1 h with h | h
  ·exact ⟨List.mem_append_left _ (ih h).1, (ih h).2⟩
  ·rw [List.mem_singleton] at h; subst h
   exact ⟨by simp, hc.1⟩
 ·exact ⟨List.mem_append_left _ (ih h).1, (ih h).2⟩
theorem dd_cov {k : Int} {P : List api_Letter} : ∀ {y}, y ∈ P → y.Case = k → ∃ z ∈ dd k P, arbiter_said z = arbiter_said y := by
 refine snoc_rec (motive := fun P => ∀ {y}, y ∈ P → y.Case = k → ∃ z ∈ dd k P, arbiter_said z = arbiter_said y) (fun h => by cases h) (fun P x ih => ?_) P
 intro y h hk
 rw [dd_snoc]
 unfold ddF
 rcases List.mem_append.1 h with h | h
 ·obtain ⟨z, h1, h2⟩ := ih h hk
  refine ⟨z, ?_, h2⟩
  split
  ·exact List.mem_append_left _ h1
  ·exact h1
 ·rw [List.mem_singleton] at h; subst h
  split
  ·exact ⟨y, by simp, rfl⟩
  ·rename_i hc
   cases ha : (dd k P).any (fun z => decide (arbiter_said z = arbiter_said y)) with
   | false => exact absurd ⟨hk, ha⟩ hc
   | true =>
    obtain ⟨z, h1, h2⟩ := List.any_eq_true.1 ha
    exact ⟨z, h1, by simpa using h2⟩
theorem dd_len (k : Int) (P : List api_Letter) : (dd k P).length ≤ P.length := by
 refine snoc_rec (motive := fun P => (dd k P).length ≤ P.length) (by simp [dd]) (fun P x ih => ?_) P
 rw [dd_snoc]
 unfold ddF
 split <;> simp <;> omega
def Resp (q : api_Letter → Bool) : Prop := ∀ y z, arbiter_said y = arbiter_said z → q y = q z
theorem any_dd {k : Int} {q : api_Letter → Bool} (hq : Resp q) (P : List api_Letter) : (dd k P).any q = P.any (fun y => decide (y.Case = k) && q y) := by
 rw [Bool.eq_iff_iff, List.any_eq_true, List.any_eq_true]
 constructor
 ·rintro ⟨y, h1, h2⟩
  obtain ⟨h3, h4⟩ := dd_mem h1
  exact ⟨y, h3, by simp [h4, h2]⟩
 ·rintro ⟨y, h1, h2⟩
  simp only [Bool.and_eq_true, decide_eq_true_eq] at h2
  obtain ⟨z, h3, h4⟩ := dd_cov h1 h2.1
  exact ⟨z, h3, by rw [hq z y h4]; exact h2.2⟩
theorem find_dd {k : Int} {q : api_Letter → Bool} (hq : Resp q) (P : List api_Letter) : (dd k P).find? q = P.find? (fun y => decide (y.Case = k) && q y) := by
 refine snoc_rec (motive := fun P => (dd k P).find? q = P.find? (fun y => decide (y.Case = k) && q y)) (by simp [dd]) (fun P x ih => ?_) P
 rw [dd_snoc, List.find?_append, ← ih]
 unfold ddF
 by_cases c1 : x.Case = k
 ·cases c2 : (dd k P).any (fun y => decide (arbiter_said y = arbiter_said x)) with
  | false =>
   rw [if_pos ⟨c1, rfl⟩, List.find?_append]
   simp [c1]
  | true =>
   rw [if_neg (by simp)]
   cases c3 : q x with
   | false => simp [c3]
   | true =>
    obtain ⟨z, h1, h2⟩ := List.any_eq_true.1 c2
    have h3 : q z = true := by rw [hq z x (by simpa using h2)]; exact c3
    cases c4 : (dd k P).find? q with
    | some w => rfl
    | none => exact absurd h3 (List.find?_eq_none.1 c4 z h1)
 ·rw [if_neg (fun h => c1 h.1)]
  simp [c1]
theorem lastS_snoc (l : List api_Letter) (x : api_Letter) (a k : Int) : lastS (l ++ [x]) a k = lastF a k (lastS l a k) x := by simp [lastS, List.foldl_append]
theorem last_ge {l : List api_Letter} {a k : Int} : 0 ≤ (lastS l a k).1 ∧ ∀ y ∈ l, y.Kind = 4 → y.Case = k → y.From = a → y.Round ≤ (lastS l a k).1 := by
 refine snoc_rec (motive := fun l => 0 ≤ (lastS l a k).1 ∧ ∀ y ∈ l, y.Kind = 4 → y.Case = k → y.From = a → y.Round ≤ (lastS l a k).1) ⟨by simp [lastS], fun y hy => by cases hy⟩ (fun l x ih => ?_) l
 rw [lastS_snoc]
 unfold lastF
 split
 ·rename_i hc
  refine ⟨by have := ih.1; simp only; omega, fun y hy q1 q2 q3 => ?_⟩
  rcases List.mem_append.1 hy with hy | hy
  ·have := ih.2 y hy q1 q2 q3; simp only; omega
  ·rw [List.mem_singleton] at hy; subst hy; exact Int.le_refl _
 ·rename_i hc
  refine ⟨ih.1, fun y hy q1 q2 q3 => ?_⟩
  rcases List.mem_append.1 hy with hy | hy
  ·exact ih.2 y hy q1 q2 q3
  ·rw [List.mem_singleton] at hy; subst hy
   rcases Int.lt_or_le (lastS l a k).1 y.Round with h | h
   ·exact absurd ⟨q1, q2, q3, h⟩ hc
   ·exact h
theorem last_mem (l : List api_Letter) (a k : Int) : lastS l a k = (0, 0) ∨ ∃ y ∈ l, y.Kind = 4 ∧ y.Case = k ∧ y.From = a ∧ y.Round = (lastS l a k).1 ∧ y.Finding = (lastS l a k).2 ∧ 0 < y.Round := by
 refine snoc_rec (motive := fun l => lastS l a k = (0, 0) ∨ ∃ y ∈ l, y.Kind = 4 ∧ y.Case = k ∧ y.From = a ∧ y.Round = (lastS l a k).1 ∧ y.Finding = (lastS l a k).2 ∧ 0 < y.Round) (.inl rfl) (fun l x ih => ?_) l
 rw [lastS_snoc]
 have h0 := (last_ge (l := l) (a := a) (k := k)).1
 unfold lastF
 split
 ·rename_i hc
  exact .inr ⟨x, by simp, hc.1, hc.2.1, hc.2.2.1, rfl, rfl, by omega⟩
 ·rcases ih with ih | ⟨y, h1, h2⟩
  ·exact .inl ih
  ·exact .inr ⟨y, List.mem_append_left _ h1, h2⟩
theorem las_dd (P : List api_Letter) (a k : Int) : lasS (dd k P) a = lastS P a k := by
 refine snoc_rec (motive := fun P => lasS (dd k P) a = lastS P a k) (by simp [dd, lasS, lastS]) (fun P x ih => ?_) P
 rw [dd_snoc, lastS_snoc, ← ih]
 unfold ddF
 by_cases c1 : x.Case = k
 ·cases c2 : (dd k P).any (fun y => decide (arbiter_said y = arbiter_said x)) with
  | false =>
   rw [if_pos ⟨c1, rfl⟩]
   simp [lasS, List.foldl_append, lasF, lastF, c1]
  | true =>
   rw [if_neg (by simp)]
   unfold lastF
   rw [if_neg]
   rintro ⟨q1, q2, q3, q4⟩
   obtain ⟨z, h1, h2⟩ := List.any_eq_true.1 c2
   have h3 := said_iff.1 (by simpa using h2 : arbiter_said z = arbiter_said x)
   have := (last_ge (l := P) (a := a) (k := k)).2 z (dd_mem h1).1 (h3.2.1.trans q1) (h3.1.trans q2) (h3.2.2.2.1.trans q3)
   rw [ih] at q4
   have := h3.2.2.1
   omega
 ·rw [if_neg (fun h => c1 h.1)]
  unfold lastF
  rw [if_neg (fun h => c1 h.2.1)]
theorem spk_lt (l : List api_Letter) (a k r : Int) (hr : 0 < r) : spkS l a k < r ↔ ∀ y ∈ l, wrdS a k y = true → y.Round < r := by
 refine snoc_rec (motive := fun l => spkS l a k < r ↔ ∀ y ∈ l, wrdS a k y = true → y.Round < r) (by simp [spkS, hr]) (fun l x ih => ?_) l
 have e : spkS (l ++ [x]) a k = spkF a k (spkS l a k) x := by simp [spkS, List.foldl_append]
 rw [e]
 unfold spkF
 simp only [List.forall_mem_append, List.forall_mem_singleton]
 split
 ·rename_i hw
  rw [← ih]
  constructor
  ·intro h; exact ⟨by omega, fun _ => by omega⟩
  ·rintro ⟨h1, h2⟩; have := h2 hw; omega
 ·rename_i hw
  rw [← ih]
  exact ⟨fun h => ⟨h, fun h2 => absurd h2 hw⟩, fun h => h.1⟩
theorem mem_fst (r : Int) (l : List api_Letter) (y : api_Letter) : y ∈ fstS l r ↔ l.find? (fun z => decide (z.Kind = 2) && decide (z.Round = r) && decide (z.From = y.From)) = some y := by
 refine snoc_rec (motive := fun l => y ∈ fstS l r ↔ l.find? (fun z => decide (z.Kind = 2) && decide (z.Round = r) && decide (z.From = y.From)) = some y) (by simp [fstS]) (fun l x ih => ?_) l
 have hany : (fstS l r).any (fun z => decide (z.From = x.From)) = (l.find? (fun z => decide (z.Kind = 2) && decide (z.Round = r) && decide (z.From = x.From))).isSome := by
  clear ih
  refine snoc_rec (motive := fun l => (fstS l r).any (fun z => decide (z.From = x.From)) = (l.find? (fun z => decide (z.Kind = 2) && decide (z.Round = r) && decide (z.From = x.From))).isSome) (by simp [fstS]) (fun l w ih2 => ?_) l
  rw [fstS_snoc, List.find?_append]
  unfold fstF
  cases hf : l.find? (fun z => decide (z.Kind = 2) && decide (z.Round = r) && decide (z.From = x.From)) with
  | some u =>
   rw [hf] at ih2
   simp only [Option.isSome_some, Option.or_some] at ih2 ⊢
   split
   ·rw [List.any_append, ih2]; simp
   ·exact ih2
  | none =>
   rw [hf] at ih2
   simp only [Option.isSome_none] at ih2
   by_cases c1 : w.Kind = 2
   ·by_cases c2 : w.Round = r
    ·by_cases c3 : w.From = x.From
     ·rw [if_pos ⟨c1, c2, by rw [c3]; exact ih2⟩, List.any_append, ih2]
      simp [c1, c2, c3]
     ·split
      ·rw [List.any_append, ih2]; simp [c1, c2, c3]
      ·rw [ih2]; simp [c1, c2, c3]
    ·rw [if_neg (fun h => c2 h.2.1), ih2]; simp [c1, c2]
   ·rw [if_neg (fun h => c1 h.1), ih2]; simp [c1]
 rw [fstS_snoc, List.find?_append]
 unfold fstF
 split
 ·rename_i hc
  rw [List.mem_append, List.mem_singleton, ih]
  rw [hany] at hc
  constructor
  ·rintro (h | rfl)
   ·rw [h]; rfl
   ·have : l.find? (fun z => decide (z.Kind = 2) && decide (z.Round = r) && decide (z.From = y.From)) = none := by
     cases hf : l.find? (fun z => decide (z.Kind = 2) && decide (z.Round = r) && decide (z.From = y.From)) with
     | none => rfl
     | some u => rw [hf] at hc; cases hc.2.2
    rw [this]
    simp [hc.1, hc.2.1]
  ·intro h
   cases hf : l.find? (fun z => decide (z.Kind = 2) && decide (z.Round = r) && decide (z.From = y.From)) with
   | some u => rw [hf] at h; exact .inl h
   | none =>
    rw [hf] at h
    simp only [Option.none_or, List.find?_cons] at h
    split at h
    ·simp only [Option.some.injEq] at h; exact .inr h.symm
    ·simp at h
 ·rename_i hc
  rw [ih]
  cases hf : l.find? (fun z => decide (z.Kind = 2) && decide (z.Round = r) && decide (z.From = y.From)) with
  | some u => simp
  | none =>
   simp only [Option.none_or, List.find?_cons]
   constructor
   ·intro h; cases h
   ·intro h
    exfalso
    split at h
    ·rename_i h2
     simp only [Option.some.injEq] at h
     subst h
     simp only [Bool.and_eq_true, decide_eq_true_eq] at h2
     exact hc ⟨h2.1.1, h2.1.2, by rw [hany, hf]; rfl⟩
    ·simp at h
theorem fst_nodup (r : Int) (l : List api_Letter) : (fstS l r).Nodup := by
 refine snoc_rec (motive := fun l => (fstS l r).Nodup) (by simp [fstS]) (fun l x ih => ?_) l
 rw [fstS_snoc]
 unfold fstF
 split
 ·rename_i hc
  rw [List.nodup_append]
  refine ⟨ih, by simp, fun a ha b hb => ?_⟩
  rw [List.mem_singleton] at hb
  subst hb
  rintro rfl
  have := List.any_eq_false.1 hc.2.2 a ha
  simp at this
 ·exact ih
theorem mem_prm {c : api_Court} {l : List api_Letter} {k r : Int} (hf : ∀ y ∈ l, 0 ≤ y.From ∧ y.From < c.Arbiters) (y : api_Letter) : y ∈ prmS c l k r ↔ l.find? (isP k r y.From) = some y := by
 unfold prmS
 rw [List.mem_filterMap]
 constructor
 ·rintro ⟨a, h1, h2⟩
  have h3 := List.find?_some h2
  simp only [isP, Bool.and_eq_true, decide_eq_true_eq] at h3
  rw [h3.2]; exact h2
 ·intro h
  obtain ⟨q1, q2⟩ := hf y (List.mem_of_find?_eq_some h)
  exact ⟨y.From.toNat, by rw [List.mem_range]; omega, by rw [show ((y.From.toNat : Nat) : Int) = y.From by omega]; exact h⟩
theorem prm_nodup (c : api_Court) (l : List api_Letter) (k r : Int) : (prmS c l k r).Nodup := by
 unfold prmS
 refine List.Pairwise.filterMap (R := (· < ·)) (S := (· ≠ ·)) _ (fun a a' h b hb b' hb' => ?_) List.pairwise_lt_range
 have h1 := List.find?_some hb
 have h2 := List.find?_some hb'
 simp only [isP, Bool.and_eq_true, decide_eq_true_eq] at h1 h2
 rintro rfl
 have := h1.2.symm.trans h2.2
 omega
theorem fst_prm {c : api_Court} {P : List api_Letter} {k r : Int} (hf : ∀ y ∈ P, 0 ≤ y.From ∧ y.From < c.Arbiters) : (fstS (dd k P) r).Perm (prmS c P k r) := by
 rw [List.perm_ext_iff_of_nodup (fst_nodup _ _) (prm_nodup _ _ _ _)]
 intro y
 rw [mem_fst, mem_prm hf, find_dd]
 ·have e : (fun z : api_Letter => decide (z.Case = k) && (decide (z.Kind = 2) && decide (z.Round = r) && decide (z.From = y.From))) = isP k r y.From := by
   funext z
   unfold isP isK
   cases decide (z.Case = k) <;> cases decide (z.Kind = 2) <;> cases decide (z.Round = r) <;> rfl
  rw [e]
 ·intro y z h
  have h := said_iff.1 h
  simp only [h.2.1, h.2.2.1, h.2.2.2.1]
theorem cntI_perm {p : api_Letter → Bool} {l l' : List api_Letter} (h : l.Perm l') : cntI p l = cntI p l' := by unfold cntI; rw [h.countP_eq]
theorem cntI_congr {p q : api_Letter → Bool} {l : List api_Letter} (h : ∀ y ∈ l, p y = q y) : cntI p l = cntI q l := by
 unfold cntI
 rw [List.countP_congr fun y hy => by rw [h y hy]]
theorem able_same {c : api_Court} {P : List api_Letter} {k r n : Int} (hf : ∀ y ∈ P, fmB c y = true ) (hb : ∀ y ∈ P, (0 ≤ y.From ∧ y.From < c.Arbiters) ∧ (y.Kind = 2 → 0 ≤ y.Voted)) : ableP c (dd k P) r n = ableS c (prmS c P k r) n := by
 have hp := fst_prm (c := c) (P := P) (k := k) (r := r) fun y hy => (hb y hy).1
 have hv : ∀ y ∈ fstS (dd k P) r, 0 ≤ y.Voted := fun y hy => by
  have h1 := (mem_fst r (dd k P) y).1 hy
  have h2 := List.find?_some h1
  simp only [Bool.and_eq_true, decide_eq_true_eq] at h2
  exact (hb y (dd_mem (List.mem_of_find?_eq_some h1)).1).2 h2.1.1
 unfold ableP ableS
 rw [Bool.or_comm]
 have e1 : cntI (fun y => decide (y.Voted = 0)) (fstS (dd k P) r) = cntI (fun x => decide (x.Voted ≤ 0)) (prmS c P k r) := by
  rw [← cntI_perm hp]
  refine cntI_congr fun y hy => ?_
  have := hv y hy
  rw [Bool.eq_iff_iff, decide_eq_true_eq, decide_eq_true_eq]
  omega
 rw [e1]
 congr 1
 rw [Bool.eq_iff_iff, List.any_eq_true, List.any_eq_true]
 have e2 : ∀ x ∈ fstS (dd k P) r, goodP c (dd k P) r n x = (decide (0 < x.Voted) && decide (x.Finding = n) && decide (majS c ≤ cntI (fun y => decide (y.Voted ≤ x.Voted)) (prmS c P k r))) := fun x hx => by
  unfold goodP lowS
  rw [cntI_perm hp]
  have := hv x hx
  have e3 : (!decide (x.Voted = 0)) = decide (0 < x.Voted) := by
   rw [Bool.eq_iff_iff]; simp; omega
  rw [e3, Bool.and_assoc]
 constructor
 ·rintro ⟨x, h1, h2⟩
  exact ⟨x, hp.mem_iff.1 h1, by rw [← e2 x h1]; exact h2⟩
 ·rintro ⟨x, h1, h2⟩
  have h3 := hp.mem_iff.2 h1
  exact ⟨x, h3, by rw [e2 x h3]; exact h2⟩
def LawTo (c : api_Court) (l : List api_Letter) : Prop := ∀ i (h : i < l.length), lawS c (l.take i) l[i] = true
theorem LawTo_nil (c : api_Court) : LawTo c [] := fun i h => by simp at h
theorem LawTo_snoc {c : api_Court} {P : List api_Letter} {x : api_Letter} : LawTo c (P ++ [x]) ↔ LawTo c P ∧ lawS c P x = true := by
 constructor
 ·intro h
  refine ⟨fun i hi => ?_, ?_⟩
  ·have := h i (by simp; omega)
   rw [List.getElem_append_left hi, List.take_append_of_le_length (by omega)] at this
   exact this
  ·have := h P.length (by simp)
   simpa using this
 ·rintro ⟨h1, h2⟩ i hi
  by_cases c : i < P.length
  ·rw [List.getElem_append_left c, List.take_append_of_le_length (by omega)]
   exact h1 i c
  ·have e : i = P.length := by simp at hi; omega
   subst e
   simpa using h2
theorem LawTo_take {c : api_Court} {l : List api_Letter} (h : LawTo c l) (n : Nat) : LawTo c (l.take n) := fun i hi => by
 have h2 : i < n ∧ i < l.length := by rw [List.length_take] at hi; omega
 have := h i h2.2
 rw [List.getElem_take, List.take_take, Nat.min_eq_left (by omega)]
 exact this
structure Fm (c : api_Court) (x : api_Letter) : Prop where
 from_ : 0 ≤ x.From ∧ x.From < c.Arbiters
 round : 1 ≤ x.Round ∧ x.Round ≤ 1048576
 case : 1 ≤ x.Case
 kind : x.Kind = 1 ∨ x.Kind = 2 ∨ x.Kind = 3 ∨ x.Kind = 4
 voted : x.Kind = 2 → 0 ≤ x.Voted ∧ x.Voted < x.Round
theorem fm_of {c : api_Court} {x : api_Letter} (h : fmB c x = true) : Fm c x := by
 unfold fmB at h
 simp only [Bool.and_eq_true] at h
 obtain ⟨⟨⟨⟨⟨⟨⟨h0, h1⟩, h2⟩, h3⟩, h4⟩, h5⟩, h6⟩, h7⟩ := h
 have g1 := inI_spec.1 h1
 have g2 := inI_spec.1 h2
 have g3 := inI_spec.1 h3
 refine ⟨⟨g3.1, by omega⟩, g2, g1.1, ?_, fun k => ?_⟩
 ·unfold kdB at h7
  by_cases k1 : x.Kind = 1
  ·exact .inl k1
  ·by_cases k2 : x.Kind = 2
   ·exact .inr (.inl k2)
   ·by_cases k3 : x.Kind = 3
    ·exact .inr (.inr (.inl k3))
    ·rw [if_neg k1, if_neg k2, if_neg k3] at h7
     simp only [Bool.and_eq_true, decide_eq_true_eq] at h7
     exact .inr (.inr (.inr h7.1))
 ·unfold kdB at h7
  rw [if_neg (by omega), if_pos k] at h7
  simp only [Bool.and_eq_true] at h7
  have := inI_spec.1 h7.1.2
  omega
theorem prop_uniq {c : api_Court} {P : List api_Letter} : LawTo c P → ∀ {y z : api_Letter} {k r : Int}, y ∈ P → z ∈ P → isK 3 k r y = true → isK 3 k r z = true → y.Finding = z.Finding := by
 refine snoc_rec (motive := fun P => LawTo c P → ∀ {y z : api_Letter} {k r : Int}, y ∈ P → z ∈ P → isK 3 k r y = true → isK 3 k r z = true → y.Finding = z.Finding) (fun _ y z k r h => by cases h) (fun P x ih => ?_) P
 intro hL y z k r hy hz ky kz
 obtain ⟨hL1, hL2⟩ := LawTo_snoc.1 hL
 -- what stands for the new letter
 have key : ∀ w, w ∈ P → isK 3 k r w = true → isK 3 k r x = true → w.Finding = x.Finding := by
  intro w hw kw kx
  unfold lawS at hL2
  have hx : x.Kind = 3 ∧ x.Case = k ∧ x.Round = r := by simpa [isK, and_assoc] using kx
  split at hL2
  ·rename_i ha
   obtain ⟨v, v1, v2⟩ := List.any_eq_true.1 ha
   rw [alike_said] at v2
   have h3 := said_iff.1 (by simpa using v2 : arbiter_said v = arbiter_said x)
   have kv : isK 3 k r v = true := by simp [isK, h3.1, h3.2.1, h3.2.2.1, hx.1, hx.2.1, hx.2.2]
   exact (ih hL1 hw v1 kw kv).trans h3.2.2.2.2.2
  ·rw [if_neg (by omega), if_neg (by omega), if_pos hx.1] at hL2
   simp only [Bool.and_eq_true, Bool.not_eq_true'] at hL2
   have := List.any_eq_false.1 hL2.1 w hw
   rw [hx.2.1, hx.2.2] at this
   exact absurd kw this
 rcases List.mem_append.1 hy with y1 | y1
 ·rcases List.mem_append.1 hz with z1 | z1
  ·exact ih hL1 y1 z1 ky kz
  ·rw [List.mem_singleton.1 z1] at kz ⊢; exact key y y1 ky kz
 ·rcases List.mem_append.1 hz with z1 | z1
  ·rw [List.mem_singleton.1 y1] at ky ⊢; exact (key z z1 kz ky).symm
  ·rw [List.mem_singleton.1 y1, List.mem_singleton.1 z1]
theorem law_same {c : api_Court} {P : List api_Letter} {x : api_Letter} (hP : ∀ y ∈ P, fmB c y = true) (hx : fmB c x = true) (hL : LawTo c P) (ha : P.any (fun y => ref09_Alike y x) = false) : lawP c (dd x.Case P) x = lawS c P x := by
 have hF := fm_of hx
 have hw : ∀ q : api_Letter → Bool, Resp q → (dd x.Case P).any q = P.any (fun y => decide (y.Case = x.Case) && q y) := fun q hq => any_dd hq P
 have ac : ∀ (q q' : api_Letter → Bool), (∀ y, q y = q' y) → P.any q = P.any q' := fun q q' h => by rw [show q = q' from funext h]
 unfold lawS
 rw [if_neg (by rw [ha]; simp)]
 unfold lawP
 rcases hF.kind with k | k | k | k
 ·rw [if_neg (by omega), if_neg (by omega), if_neg (by omega), if_pos k]
 ·rw [if_pos k, if_neg (by omega), if_pos k, las_dd, hw _ (fun y z h => by have h := said_iff.1 h; unfold arbiter_lawful_2; rw [h.2.1, h.2.2.1]), hw _ (fun y z h => by have h := said_iff.1 h; unfold arbiter_lawful_3 arbiter_word; rw [h.2.1, h.2.2.1, h.2.2.2.1])]
  have e1 : P.any (fun y => decide (y.Case = x.Case) && arbiter_lawful_2 y x) = P.any (isK 1 x.Case x.Round) := ac _ _ fun y => by
   unfold arbiter_lawful_2 isK
   cases decide (y.Case = x.Case) <;> cases decide (y.Kind = 1) <;> rfl
  have e2 : (!P.any (fun y => decide (y.Case = x.Case) && arbiter_lawful_3 y x)) = decide (spkS P x.From x.Case < x.Round) := by
   rw [Bool.eq_iff_iff, decide_eq_true_eq, spk_lt _ _ _ _ (by have := hF.round; omega), Bool.not_eq_true', List.any_eq_false]
   unfold arbiter_lawful_3 arbiter_word wrdS
   constructor
   ·intro h y hy hyw
    have := h y hy
    simp only [Bool.and_eq_true, Bool.or_eq_true, decide_eq_true_eq] at this hyw
    rcases Int.lt_or_le y.Round x.Round with q | q
    ·exact q
    ·exact absurd ⟨hyw.1.1, ⟨hyw.2, hyw.1.2⟩, q⟩ this
   ·intro h y hy hyw
    simp only [Bool.and_eq_true, Bool.or_eq_true, decide_eq_true_eq] at hyw
    have := h y hy (by simp only [Bool.and_eq_true, Bool.or_eq_true, decide_eq_true_eq]; exact ⟨⟨hyw.1, hyw.2.1.2⟩, hyw.2.1.1⟩)
    omega
  rw [e1, e2]
  cases P.any (isK 1 x.Case x.Round) <;> cases decide (spkS P x.From x.Case < x.Round) <;> simp
 ·rw [if_neg (by omega), if_pos k, if_neg (by omega), if_neg (by omega), if_pos k, hw _ (fun y z h => by have h := said_iff.1 h; unfold arbiter_lawful_4; rw [h.2.1, h.2.2.1]), able_same hP (fun y hy => ⟨(fm_of (hP y hy)).from_, fun k => ((fm_of (hP y hy)).voted k).1⟩)]
  have e1 : P.any (fun y => decide (y.Case = x.Case) && arbiter_lawful_4 y x) = P.any (isK 3 x.Case x.Round) := ac _ _ fun y => by
   unfold arbiter_lawful_4 isK
   cases decide (y.Case = x.Case) <;> cases decide (y.Kind = 3) <;> rfl
  rw [e1, Bool.and_comm]
 ·rw [if_neg (by omega), if_neg (by omega), if_pos k, if_neg (by omega), if_neg (by omega), if_neg (by omega), hw _ (fun y z h => by have h := said_iff.1 h; unfold arbiter_lawful_5; rw [h.2.1, h.2.2.1, h.2.2.2.2.2]), hw _ (fun y z h => by have h := said_iff.1 h; unfold arbiter_lawful_6 arbiter_word; rw [h.2.1, h.2.2.1, h.2.2.2.1])]
  have e1 : P.any (fun y => decide (y.Case = x.Case) && arbiter_lawful_5 y x) = (match prpS P x.Case x.Round with | some y => decide (y.Finding = x.Finding) | none => false) := by
   unfold prpS
   cases hf : P.find? (isK 3 x.Case x.Round) with
   | none =>
    refine List.any_eq_false.2 fun y hy h => ?_
    have := List.find?_eq_none.1 hf y hy
    unfold arbiter_lawful_5 at h
    simp only [Bool.and_eq_true, decide_eq_true_eq] at h
    exact this (by simp [isK, h.1, h.2.1.1, h.2.1.2])
   | some w =>
    have h1 := List.find?_some hf
    have h2 := List.mem_of_find?_eq_some hf
    rw [Bool.eq_iff_iff, List.any_eq_true, decide_eq_true_eq]
    constructor
    ·rintro ⟨y, hy, h⟩
     unfold arbiter_lawful_5 at h
     simp only [Bool.and_eq_true, decide_eq_true_eq] at h
     rw [← h.2.2]
     exact prop_uniq hL h2 hy h1 (by simp [isK, h.1, h.2.1.1, h.2.1.2])
    ·intro h
     have h1' : w.Kind = 3 ∧ w.Case = x.Case ∧ w.Round = x.Round := by simpa [isK, and_assoc] using h1
     exact ⟨w, h2, by simp [arbiter_lawful_5, h1'.1, h1'.2.1, h1'.2.2, h]⟩
  have e2 : (!P.any (fun y => decide (y.Case = x.Case) && arbiter_lawful_6 y x)) = (decide (spkS P x.From x.Case ≤ x.Round) && decide ((lastS P x.From x.Case).1 < x.Round)) := by
   have hle : spkS P x.From x.Case ≤ x.Round ↔ ∀ y ∈ P, wrdS x.From x.Case y = true → y.Round < x.Round + 1 := by
    rw [← spk_lt _ _ _ _ (by have := hF.round; omega)]; omega
   rw [Bool.eq_iff_iff, Bool.and_eq_true, decide_eq_true_eq, decide_eq_true_eq, hle, Bool.not_eq_true', List.any_eq_false]
   constructor
   ·intro h
    refine ⟨fun y hy hyw => ?_, ?_⟩
    ·have := h y hy
     unfold arbiter_lawful_6 arbiter_word at this
     unfold wrdS at hyw
     simp only [Bool.and_eq_true, Bool.or_eq_true, decide_eq_true_eq] at this hyw
     rcases Int.lt_or_le x.Round y.Round with q | q
     ·exact absurd ⟨hyw.1.1, ⟨hyw.2, hyw.1.2⟩, .inl q⟩ this
     ·omega
    ·rcases last_mem P x.From x.Case with e | ⟨y, hy, q1, q2, q3, q4, q5, q6⟩
     ·rw [e]; have := hF.round; simp only; omega
     ·rw [← q4]
      have := h y hy
      unfold arbiter_lawful_6 arbiter_word at this
      simp only [Bool.and_eq_true, Bool.or_eq_true, decide_eq_true_eq] at this
      rcases Int.lt_trichotomy y.Round x.Round with q | q | q
      ·exact q
      ·exact absurd ⟨q2, ⟨.inr q1, q3⟩, .inr ⟨q1, q⟩⟩ this
      ·exact absurd ⟨q2, ⟨.inr q1, q3⟩, .inl q⟩ this
   ·rintro ⟨h1, h2⟩ y hy h
    unfold arbiter_lawful_6 arbiter_word at h
    simp only [Bool.and_eq_true, Bool.or_eq_true, decide_eq_true_eq] at h
    obtain ⟨q1, ⟨q2, q3⟩, q4⟩ := h
    have := h1 y hy (by unfold wrdS; simp only [Bool.and_eq_true, Bool.or_eq_true, decide_eq_true_eq]; exact ⟨⟨q1, q3⟩, q2⟩)
    rcases q4 with q4 | ⟨q4, q5⟩
    ·omega
    ·have := (last_ge (l := P) (a := x.From) (k := x.Case)).2 y hy q4 q1 q3
     omega
  rw [e1, e2, Bool.and_assoc]
  rfl
def LawRes (c : api_Court) (l : List api_Letter) (r : Int × Bool × Int) : Prop := (r = (-1, true, 0) ∧ LawTo c l) ∨ ∃ i, ∃ h : i < l.length, r = ((i : Int), false, 0) ∧ LawTo c (l.take i) ∧ lawS c (l.take i) l[i] = false
theorem LawRes_uniq {c : api_Court} {l : List api_Letter} {r r' : Int × Bool × Int} (h : LawRes c l r) (h' : LawRes c l r') : r = r' := by
 have key : ∀ {i j : Nat} (hi : i < l.length) (hj : j < l.length), i < j → LawTo c (l.take j) → lawS c (l.take i) l[i] = false → False := fun {i j} hi hj hij hL hb => by
  have := hL i (by rw [List.length_take]; omega)
  rw [List.getElem_take, List.take_take, Nat.min_eq_left (by omega)] at this
  rw [this] at hb; cases hb
 rcases h with ⟨rfl, h⟩ | ⟨i, hi, rfl, h1, h2⟩
 ·rcases h' with ⟨rfl, h'⟩ | ⟨i, hi, rfl, h1, h2⟩
  ·rfl
  ·have := h i hi; rw [this] at h2; cases h2
 ·rcases h' with ⟨rfl, h'⟩ | ⟨j, hj, rfl, h3, h4⟩
  ·have := h' i hi; rw [this] at h2; cases h2
  ·have : i = j := by
    rcases Nat.lt_trichotomy i j with q | q | q
    ·exact (key hi hj q h3 h2).elim
    ·exact q
    ·exact (key hj hi q h1 h4).elim
   subst this; rfl
theorem LawTo_step {c : api_Court} {l : List api_Letter} {i : Nat} (hi : i < l.length) (h : LawTo c (l.take i)) (h2 : lawS c (l.take i) l[i] = true) : LawTo c (l.take (i + 1)) := by
 rw [List.take_succ_eq_append_getElem hi]
 exact LawTo_snoc.2 ⟨h, h2⟩
theorem rLawful_loop {c : api_Court} (hc : okC c = true) {l : List api_Letter} (hl : l.length ≤ 4000) : ∃ r, Lp (ref09_Lawful_b2 c l) fuel 0 = some r ∧ LawRes c l r := by
 refine lp_inv' (fun (i : Nat) (s : Int) => s = (i : Int) ∧ LawTo c (l.take i)) _ l.length (by omega) ⟨rfl, by simpa using LawTo_nil c⟩ fun i s hi hI => ?_
 obtain ⟨rfl, hI⟩ := hI
 by_cases hlt : i < l.length
 ·have htl : (l.take i).length ≤ 4000 := by rw [List.length_take]; omega
  unfold ref09_Lawful_b2
  simp only [dlt hlt, if_true, sub_to (by omega : i ≤ l.length), ix_nat hlt, Option.bind_some, rlawful_eq c hc _ htl, w64i hlt hl]
  cases hs : lawS c (l.take i) l[i] with
  | true => exact .inl ⟨hlt, _, by simp, rfl, LawTo_step hlt hI hs⟩
  | false => exact .inr ⟨_, by simp, .inr ⟨i, hlt, rfl, hI, hs⟩⟩
 ·have e : i = l.length := by omega
  subst e
  rw [List.take_length] at hI
  refine .inr ⟨(-1, true, 0), ?_, .inl ⟨rfl, hI⟩⟩
  unfold ref09_Lawful_b2
  simp [dge, ref09_Lawful_j1]
theorem Lawful_loop {c : api_Court} {l : List api_Letter} (hl : l.length ≤ 4000) (hf : ∀ y ∈ l, fmB c y = true) : ∃ r, Lp (arbiter_Lawful_b2 c l) fuel (0, [], []) = some r ∧ LawRes c l r := by
 refine lp_inv' (fun (i : Nat) (s : Int × List (api_Letter × Bool) × List (Int × List api_Letter)) => ∃ kn of_, s = ((i : Int), kn, of_) ∧ (∀ x, (lookM x kn).getD false = (l.take i).any (fun y => decide (arbiter_said y = x))) ∧ (∀ k, (lookM k of_).getD [] = dd k (l.take i)) ∧ LawTo c (l.take i)) _ l.length (by omega) ⟨[], [], rfl, fun x => by simp [lookM], fun k => by simp [lookM, dd], by simpa using LawTo_nil c⟩ fun i s hi hI => ?_
 obtain ⟨kn, of_, rfl, h1, h2, h3⟩ := hI
 by_cases hlt : i < l.length
 ·have htl : (l.take i).length = i := by rw [List.length_take]; omega
  have hP : ∀ y ∈ l.take i, fmB c y = true := fun y hy => hf y (List.mem_of_mem_take hy)
  have hx := hf l[i] (List.getElem_mem hlt)
  have hdl := dd_len l[i].Case (l.take i)
  unfold arbiter_Lawful_b2
  simp only [dlt hlt, if_true, ix_nat hlt, Option.bind_some, h1 (arbiter_said l[i]), h2 l[i].Case, arbiter_Lawful_j3, w64i hlt hl]
  have ea : (l.take i).any (fun y => ref09_Alike y l[i]) = (l.take i).any (fun y => decide (arbiter_said y = arbiter_said l[i])) := by
   congr 1; funext y; exact alike_said y l[i]
  cases hk : (l.take i).any (fun y => decide (arbiter_said y = arbiter_said l[i])) with
  | true =>
   have hs : lawS c (l.take i) l[i] = true := by unfold lawS; rw [if_pos (by rw [ea]; exact hk)]
   refine .inl ⟨hlt, (((i + 1 : Nat) : Int), kn, of_), by simp, kn, of_, rfl, fun x => ?_, fun k => ?_, LawTo_step hlt h3 hs⟩
   ·rw [h1 x, List.take_succ_eq_append_getElem hlt, List.any_append]
    by_cases e : arbiter_said l[i] = x
    ·subst e; rw [hk]; simp
    ·simp [e]
   ·rw [h2 k, List.take_succ_eq_append_getElem hlt, dd_snoc]
    unfold ddF
    rw [if_neg]
    rintro ⟨e, e2⟩
    subst e
    rw [any_dd (fun y z h => by rw [h])] at e2
    obtain ⟨y, q1, q2⟩ := List.any_eq_true.1 hk
    have := List.any_eq_false.1 e2 y q1
    rw [q2, (said_iff.1 (by simpa using q2 : arbiter_said y = arbiter_said l[i])).1] at this
    simp at this
  | false =>
   have ls := law_same hP hx h3 (by rw [ea]; exact hk)
   rw [lawful_eq c _ (by omega), ls, Option.bind_some]
   cases hs : lawS c (l.take i) l[i] with
   | false => exact .inr ⟨_, by simp [arbiter_Lawful_j1], .inr ⟨i, hlt, rfl, h3, hs⟩⟩
   | true =>
    have hap : app (dd l[i].Case (l.take i)) [l[i]] = some (dd l[i].Case (l.take i) ++ [l[i]]) := app_ok (by simp; omega)
    have hdd : dd l[i].Case (l.take (i + 1)) = dd l[i].Case (l.take i) ++ [l[i]] := by
     rw [List.take_succ_eq_append_getElem hlt, dd_snoc]
     unfold ddF
     rw [if_pos]
     refine ⟨rfl, ?_⟩
     rw [any_dd (fun y z h => by rw [h])]
     refine List.any_eq_false.2 fun y hy h => ?_
     have := List.any_eq_false.1 hk y hy
     simp only [Bool.and_eq_true] at h
     exact this h.2
    refine .inl ⟨hlt, (((i + 1 : Nat) : Int), putM posE kn (arbiter_said l[i]) true, putM posI of_ l[i].Case (dd l[i].Case (l.take i) ++ [l[i]])), by simp [hap], _, _, rfl, fun x => ?_, fun k => ?_, LawTo_step hlt h3 hs⟩
    ·rw [lookM_put, List.take_succ_eq_append_getElem hlt, List.any_append]
     by_cases e : x = arbiter_said l[i]
     ·subst e; simp
     ·have : ¬ arbiter_said l[i] = x := fun q => e q.symm
      rw [if_neg e, h1 x]; simp [this]
    ·rw [lookM_put]
     by_cases e : k = l[i].Case
     ·subst e; rw [if_pos rfl, hdd]; rfl
     ·rw [if_neg e, h2 k, List.take_succ_eq_append_getElem hlt, dd_snoc]
      unfold ddF
      rw [if_neg (fun h => e h.1.symm)]
 ·have e : i = l.length := by omega
  subst e
  rw [List.take_length] at h3
  refine .inr ⟨(-1, true, 0), ?_, .inl ⟨rfl, h3⟩⟩
  unfold arbiter_Lawful_b2
  simp [dge, arbiter_Lawful_j1]
theorem Lawful_spec (c : api_Court) (l : List api_Letter) (hl : l.length ≤ 4000) : ∃ r, arbiter_Lawful c l = some r ∧ ref09_Lawful c l = some r ∧ ((readS c l ≠ 0 ∧ r = (0, false, readS c l)) ∨ (readS c l = 0 ∧ LawRes c l r)) := by
 unfold arbiter_Lawful ref09_Lawful
 rw [read_eq c l hl, listed_eq c l hl]
 simp only [Option.bind_some]
 by_cases e : readS c l = 0
 ·obtain ⟨h1, h2, h3⟩ := readS_ok e
  obtain ⟨r, q1, q2⟩ := Lawful_loop hl h3
  obtain ⟨r', q3, q4⟩ := rLawful_loop h1 hl
  have := LawRes_uniq q2 q4
  subst this
  simp only [e, decide_true, Bool.not_true, Bool.false_eq_true, if_false]
  exact ⟨r, q1, q3, .inr ⟨trivial, q2⟩⟩
 ·simp only [e, decide_false, Bool.not_false, if_true]
  exact ⟨_, rfl, rfl, .inl ⟨e, rfl⟩⟩
end Go.Mx
