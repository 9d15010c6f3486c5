/- Plain laws, arbiters: searches and sums over lists; what a court, and a letter, is. Conditions: none. -/
import Derived.Test.YtkomoedegnckhaaLawZa
import Derived.Test.YtkomoedegnckhaaLawB0
set_option linter.unusedVariables false
set_option linter.unusedSimpArgs false
namespace Go.Mx
theorem find_loop {α ρ : Type} (p : α → Bool) (l : List α) (hl : l.length ≤ 4000) {body : Int → Option (Int ⊕ ρ)} (R : Nat → ρ) (r0 : ρ)
  (step : ∀ (i : Nat) (h : i < l.length), body (i : Int) = some (if p l[i] = true then .inr (R i) else .inl ((i + 1 : Nat) : Int))) (last : body (l.length : Int) = some (.inr r0)) : Lp body fuel 0 = some (match l.findIdx? p with | some i => R i | none => r0) := by
 suffices h : ∃ r, Lp body fuel 0 = some r ∧ r = (match l.findIdx? p with | some i => R i | none => r0) by obtain ⟨r, h, rfl⟩ := h; exact h
 refine lp_inv' (fun (i : Nat) (s : Int) => s = (i : Int) ∧ ∀ j (h : j < l.length), j < i → p l[j] = false) _ l.length (by omega) ⟨rfl, fun j h hj => by omega⟩ fun i s hi hI => ?_
 obtain ⟨rfl, hk⟩ := hI
 by_cases hlt : i < l.length
 ·by_cases hp : p l[i] = true
  ·refine .inr ⟨R i, by rw [step i hlt, if_pos hp], ?_⟩
   rw [List.findIdx?_eq_some_iff_getElem.2 ⟨hlt, hp, fun j hj => by rw [hk j (by omega) hj]; simp⟩]
  ·refine .inl ⟨hlt, _, by rw [step i hlt, if_neg hp], rfl, fun j h hj => ?_⟩
   by_cases e : j = i
   ·subst e; simpa using hp
   ·exact hk j h (by omega)
 ·have e : i = l.length := by omega
  subst e
  refine .inr ⟨r0, last, ?_⟩
  rw [List.findIdx?_eq_none_iff.2 fun x hx => by obtain ⟨j, hj, rfl⟩ := List.getElem_of_mem hx; exact hk j hj hj]
def ixOf {α : Type} (p : α → Bool) (l : List α) : Int := match l.findIdx? p with
 | some i => (i : Int)
 | none => -1
theorem ixOf_any {α : Type} (p : α → Bool) (l : List α) : decide (0 ≤ ixOf p l) = l.any p := by
 unfold ixOf
 cases h : l.findIdx? p with
 | none =>
  have h2 := List.findIdx?_eq_none_iff.1 h
  have : l.any p = false := List.any_eq_false.2 fun x hx => by rw [h2 x hx]; simp
  rw [this]; rfl
 | some i =>
  obtain ⟨hi, hp, _⟩ := List.findIdx?_eq_some_iff_getElem.1 h
  have : l.any p = true := List.any_eq_true.2 ⟨l[i], List.getElem_mem hi, hp⟩
  rw [this]; simp
theorem ixOf_loop {α : Type} (p : α → Bool) (l : List α) (hl : l.length ≤ 4000) {body : Int → Option (Int ⊕ Int)}
  (step : ∀ (i : Nat) (h : i < l.length), body (i : Int) = some (if p l[i] = true then .inr (i : Int) else .inl ((i + 1 : Nat) : Int))) (last : body (l.length : Int) = some (.inr (-1))) : Lp body fuel 0 = some (ixOf p l) :=
 find_loop p l hl (fun i => (i : Int)) (-1) step last
theorem any_loop {α : Type} (p : α → Bool) (l : List α) (hl : l.length ≤ 4000) {body : Int → Option (Int ⊕ Bool)}
  (step : ∀ (i : Nat) (h : i < l.length), body (i : Int) = some (if p l[i] = true then .inr true else .inl ((i + 1 : Nat) : Int))) (last : body (l.length : Int) = some (.inr false)) : Lp body fuel 0 = some (l.any p) := by
 rw [find_loop p l hl (fun _ => true) false step last]
 congr 1
 cases h : l.findIdx? p with
 | none => exact (List.any_eq_false.2 fun x hx => by rw [List.findIdx?_eq_none_iff.1 h x hx]; simp).symm
 | some i =>
  obtain ⟨hi, hp, _⟩ := List.findIdx?_eq_some_iff_getElem.1 h
  exact (List.any_eq_true.2 ⟨l[i], List.getElem_mem hi, hp⟩).symm
theorem sum_loop {α τ σ ρ : Type} {body : σ → Option (σ ⊕ ρ)} (l : List α) (hl : l.length ≤ 4000) (st : τ → Int → σ) (g : τ → α → τ) (fin : τ → ρ) (J : Nat → τ → Prop) {a : τ} {s0 : σ} (e0 : s0 = st a 0) (h0 : J 0 a)
  (step : ∀ a (i : Nat) (hi : i < l.length), J i a → body (st a (i : Int)) = some (.inl (st (g a l[i]) ((i + 1 : Nat) : Int))) ∧ J (i + 1) (g a l[i])) (last : ∀ a, J l.length a → body (st a (l.length : Int)) = some (.inr (fin a))) : Lp body fuel s0 = some (fin (l.foldl g a)) :=
 lp_list l (by omega) st (fun a l => fin (l.foldl g a)) J e0 h0 (fun a i hi hJ => .inl ⟨g a l[i], (step a i hi hJ).1, rfl, (step a i hi hJ).2⟩) (fun a hJ => last a hJ)
theorem ix_nat {α : Type} {l : List α} {i : Nat} (h : i < l.length) : ix l (i : Int) = some l[i] := ix_lt h
theorem dlt {i : Nat} {n : Nat} (h : i < n) : decide ((i : Int) < (n : Int)) = true := by simpa using h
theorem dge (n : Nat) : decide ((n : Int) < (n : Int)) = false := by simp
theorem w64i {i n : Nat} (h : i < n) (hn : n ≤ 4000) : w64 ((i : Int) + 1) = ((i + 1 : Nat) : Int) := w64s i (by omega)
def inI (n lo hi : Int) : Bool := decide (lo ≤ n) && decide (n ≤ hi)
theorem inI_spec {n lo hi : Int} : inI n lo hi = true ↔ lo ≤ n ∧ n ≤ hi := by simp [inI]
def okC (c : api_Court) : Bool := inI c.Arbiters 3 7
def chkS (c : api_Court) : Int := if okC c = true then 0 else 1
def majS (c : api_Court) : Int := if okC c = true then c.Arbiters / 2 + 1 else 0
def chairS (c : api_Court) (r : Int) : Int := if okC c = true ∧ inI r 1 1048576 = true then (r - 1) % c.Arbiters else 0
theorem okC_spec {c : api_Court} (h : okC c = true) : 3 ≤ c.Arbiters ∧ c.Arbiters ≤ 7 := inI_spec.1 h
theorem Check_eq (c : api_Court) : arbiter_Check c = chkS c := by
 unfold arbiter_Check chkS
 show (if (!okC c) = true then _ else _) = _
 cases okC c <;> rfl
theorem rCheck_eq (c : api_Court) : ref09_Check c = chkS c := by
 unfold ref09_Check chkS
 show (if (!okC c) = true then _ else _) = _
 cases okC c <;> rfl
theorem chk0 (c : api_Court) : (!decide (chkS c = 0)) = !okC c := by
 unfold chkS
 cases okC c <;> rfl
theorem Maj_eq (c : api_Court) : arbiter_Majority c = some (majS c) := by
 unfold arbiter_Majority majS
 rw [Check_eq, chk0]
 cases h : okC c with
 | false => rfl
 | true =>
  have := okC_spec h
  simp only [Bool.not_true, Bool.false_eq_true, if_false, if_true, quo, (by decide : (2 : Int) ≠ 0), Option.bind_some]
  rw [Int.tdiv_eq_ediv_of_nonneg (by omega), w64_id (n := c.Arbiters / 2) (by omega) (by omega), w64_id (by omega) (by omega)]
theorem rMaj_eq (c : api_Court) : ref09_Majority c = some (majS c) := by
 have : ref09_Majority c = arbiter_Majority c := by
  unfold ref09_Majority arbiter_Majority
  rw [Check_eq, rCheck_eq]
 rw [this, Maj_eq]
theorem Chair_eq (c : api_Court) (r : Int) : arbiter_Chair c r = some (chairS c r) := by
 unfold arbiter_Chair chairS
 rw [Check_eq, chk0]
 show (if (!okC c || !inI r 1 1048576) = true then _ else _) = _
 cases h : okC c with
 | false => simp
 | true =>
  cases h2 : inI r 1 1048576 with
  | false => simp
  | true =>
   have := okC_spec h
   have := inI_spec.1 h2
   simp only [Bool.not_true, Bool.or_self, Bool.false_eq_true, if_false, and_self, if_true, rem]
   rw [if_neg (by omega), Option.bind_some, w64_id (by omega) (by omega), Int.tmod_eq_emod_of_nonneg (by omega)]
theorem rChair_eq (c : api_Court) (r : Int) : ref09_Chair c r = some (chairS c r) := by
 have : ref09_Chair c r = arbiter_Chair c r := by
  unfold ref09_Chair arbiter_Chair
  rw [Check_eq, rCheck_eq]; rfl
 rw [this, Chair_eq]
def kdB (c : api_Court) (l : api_Letter) : Bool :=
 if l.Kind = 1 then decide (l.From = chairS c l.Round) && decide (l.Voted = 0) && decide (l.Finding = 0)
 else if l.Kind = 2 then decide (l.To = chairS c l.Round) && inI l.Voted 0 (l.Round - 1) && (decide (0 < l.Voted) || decide (l.Finding = 0))
 else if l.Kind = 3 then decide (l.From = chairS c l.Round) && decide (l.Voted = 0)
 else decide (l.Kind = 4) && decide (l.Voted = 0)
def fmB (c : api_Court) (l : api_Letter) : Bool := okC c && inI l.Case 1 1099511627776 && inI l.Round 1 1048576 && inI l.From 0 (c.Arbiters - 1) && inI l.To 0 (c.Arbiters - 1) && inI l.ID 0 1099511627776 && inI l.Finding 0 65536 && kdB c l
theorem Formed_eq (c : api_Court) (l : api_Letter) : arbiter_Formed c l = some (fmB c l) := by
 unfold arbiter_Formed fmB
 rw [Check_eq, chk0]
 cases h : okC c with
 | false => simp
 | true =>
  have hA := okC_spec h
  have e1 : w64 (c.Arbiters - 1) = c.Arbiters - 1 := w64_id (by omega) (by omega)
  simp only [arbiter_topic, arbiter_judge, arbiter_finding, e1]
  show (if (false || !inI l.Case 1 1099511627776 || !inI l.Round 1 1048576 || !inI l.From 0 (c.Arbiters - 1) || !inI l.To 0 (c.Arbiters - 1) || !inI l.ID 0 1099511627776 || !inI l.Finding 0 65536) = true then _ else _) = _
  by_cases g : (inI l.Case 1 1099511627776 && inI l.Round 1 1048576 && inI l.From 0 (c.Arbiters - 1) && inI l.To 0 (c.Arbiters - 1) && inI l.ID 0 1099511627776 && inI l.Finding 0 65536) = true
  ·simp only [Bool.and_eq_true] at g
   obtain ⟨⟨⟨⟨⟨g1, g2⟩, g3⟩, g4⟩, g5⟩, g6⟩ := g
   have hr := inI_spec.1 g2
   simp only [g1, g2, g3, g4, g5, g6, Bool.not_true, Bool.or_self, Bool.false_eq_true, if_false, Bool.and_self, Bool.true_and]
   rw [Chair_eq, Option.bind_some, w64_id (n := l.Round - 1) (by omega) (by omega)]
   unfold kdB
   by_cases k1 : l.Kind = 1
   ·simp [k1]
   ·by_cases k2 : l.Kind = 2
    ·simp [k2]; rfl
    ·by_cases k3 : l.Kind = 3
     ·simp [k3]
     ·by_cases k4 : l.Kind = 4 <;> simp [k1, k2, k3, k4]
  ·have g' : (inI l.Case 1 1099511627776 && inI l.Round 1 1048576 && inI l.From 0 (c.Arbiters - 1) && inI l.To 0 (c.Arbiters - 1) && inI l.ID 0 1099511627776 && inI l.Finding 0 65536) = false := by simpa using g
   have e : (false || !inI l.Case 1 1099511627776 || !inI l.Round 1 1048576 || !inI l.From 0 (c.Arbiters - 1) || !inI l.To 0 (c.Arbiters - 1) || !inI l.ID 0 1099511627776 || !inI l.Finding 0 65536) = !(inI l.Case 1 1099511627776 && inI l.Round 1 1048576 && inI l.From 0 (c.Arbiters - 1) && inI l.To 0 (c.Arbiters - 1) && inI l.ID 0 1099511627776 && inI l.Finding 0 65536) := by simp [Bool.not_and]
   rw [e, g']
   simp only [Bool.not_false, if_true, Bool.true_and, g', Bool.false_and]
theorem rFormed_eq (c : api_Court) (l : api_Letter) : ref09_Formed c l = some (fmB c l) := by
 rw [← Formed_eq]
 unfold ref09_Formed arbiter_Formed
 rw [Check_eq, rCheck_eq, Chair_eq, rChair_eq]
 have e : ∀ a b1 b2 b3 b4 b5 b6 : Bool, (((((((a || !b1) || !b2) || !b3) || !b4) || !b5) || !b6)) = (((((((a || !b2) || !b3) || !b4) || !b5) || !b1) || !b6)) := by decide
 show (if (!decide (chkS c = 0) || !inI l.ID 0 1099511627776 || !inI l.Case 1 1099511627776 || !inI l.Round 1 1048576 || !inI l.From 0 (w64 (c.Arbiters - 1)) || !inI l.To 0 (w64 (c.Arbiters - 1)) || !inI l.Finding 0 65536) = true then _ else _) = (if (!decide (chkS c = 0) || !inI l.Case 1 1099511627776 || !inI l.Round 1 1048576 || !inI l.From 0 (w64 (c.Arbiters - 1)) || !inI l.To 0 (w64 (c.Arbiters - 1)) || !inI l.ID 0 1099511627776 || !inI l.Finding 0 65536) = true then _ else _)
 rw [e]
 split
 ·rfl
 ·simp only [Option.bind_some]
  by_cases k1 : l.Kind = 1
  ·simp [k1]
  ·by_cases k2 : l.Kind = 2
   ·simp [k2]; rfl
   ·by_cases k3 : l.Kind = 3
    ·simp [k3]
    ·by_cases k4 : l.Kind = 4 <;> simp [k1, k2, k3, k4]
def readS (c : api_Court) (l : List api_Letter) : Int := if okC c = true then if 2000 < l.length then 2 else if l.all (fmB c) = true then 0 else 7 else 1
theorem any_not_all {α : Type} (p : α → Bool) (l : List α) : l.any (fun x => !p x) = !l.all p := by
 induction l with
 | nil => rfl
 | cons a r ih => simp only [List.any_cons, List.all_cons, ih]; cases p a <;> simp
theorem read_eq (c : api_Court) (l : List api_Letter) (hl : l.length ≤ 4000) : arbiter_read c l = some (readS c l) := by
 unfold arbiter_read readS
 rw [Check_eq, chk0]
 cases h : okC c with
 | false => simp [chkS, h]
 | true =>
  simp only [Bool.not_true, Bool.false_eq_true, if_false, if_true]
  have hI : slices_IndexFunc_api_Letter__arbiter_read_1 l c = some (ixOf (fun x => !fmB c x) l) := by
   unfold slices_IndexFunc_api_Letter__arbiter_read_1
   refine ixOf_loop _ l hl (fun i hi => ?_) ?_
   ·unfold slices_IndexFunc_api_Letter__arbiter_read_1_b2
    simp only [dlt hi, if_true, ix_nat hi, Option.bind_some, arbiter_read_1, Formed_eq, w64i hi hl]
    split <;> rfl
   ·unfold slices_IndexFunc_api_Letter__arbiter_read_1_b2
    simp [dge, slices_IndexFunc_api_Letter__arbiter_read_1_j1]
  unfold slices_ContainsFunc_api_Letter__arbiter_read_1
  rw [hI]
  simp only [Option.bind_some, ixOf_any, any_not_all]
  by_cases h2 : 2000 < l.length
  ·have : (2000 : Int) < (l.length : Int) := by omega
   simp only [h2, this, decide_true, if_true]
  ·have : ¬ (2000 : Int) < (l.length : Int) := by omega
   simp only [h2, this, decide_false, Bool.false_eq_true, if_false]
   cases l.all (fmB c) <;> simp
theorem listed_eq (c : api_Court) (l : List api_Letter) (hl : l.length ≤ 4000) : ref09_listed c l = some (readS c l) := by
 unfold ref09_listed readS
 rw [rCheck_eq, chk0]
 cases h : okC c with
 | false => simp [chkS, h]
 | true =>
  simp only [Bool.not_true, Bool.false_eq_true, if_false, if_true]
  by_cases h2 : 2000 < l.length
  ·have : (2000 : Int) < (l.length : Int) := by omega
   simp [h2, this]
  ·have : ¬ (2000 : Int) < (l.length : Int) := by omega
   simp only [h2, this, decide_false, Bool.false_eq_true, if_false]
   have hL := find_loop (fun x => !fmB c x) l hl (body := ref09_listed_b2 c l) (fun _ => (7 : Int)) 0 (fun i hi => by
    unfold ref09_listed_b2
    simp only [dlt hi, if_true, ix_nat hi, Option.bind_some, rFormed_eq, w64i hi hl]
    split <;> rfl) (by
    unfold ref09_listed_b2
    simp [dge, ref09_listed_j1])
   rw [hL]
   congr 1
   cases h3 : l.findIdx? (fun x => !fmB c x) with
   | none =>
    have : l.all (fmB c) = true := List.all_eq_true.2 fun x hx => by have := List.findIdx?_eq_none_iff.1 h3 x hx; simpa using this
    rw [if_pos this]
   | some i =>
    obtain ⟨hi, hp, _⟩ := List.findIdx?_eq_some_iff_getElem.1 h3
    have : ¬ l.all (fmB c) = true := fun e => by have := List.all_eq_true.1 e l[i] (List.getElem_mem hi); rw [this] at hp; cases hp
    rw [if_neg this]
theorem readS_ok {c : api_Court} {l : List api_Letter} (h : readS c l = 0) : okC c = true ∧ l.length ≤ 2000 ∧ ∀ x ∈ l, fmB c x = true := by
 unfold readS at h
 split at h
 ·rename_i h1
  split at h
  ·cases h
  ·split at h
   ·rename_i h2 h3; exact ⟨h1, by omega, fun x hx => List.all_eq_true.1 h3 x hx⟩
   ·cases h
 ·cases h
end Go.Mx
