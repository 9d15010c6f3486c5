/- Plain laws, arbiters: what is lawful behind letters, as the specification says it. Conditions: none. -/
import Derived.Test.YtkomoedegnckhaaLawZb
set_option linter.unusedVariables false
set_option linter.unusedSimpArgs false
namespace Go.Mx
theorem gb_some {α β : Type} [Inhabited α] {b : Bool} {v : α} {k : α → Option β} (h : b = false → k default = k v) : gb b (some v) k = k v := by
 cases b with
 | true => rfl
 | false => exact h rfl
theorem snoc_rec {α : Type} {motive : List α → Prop} (nil : motive []) (snoc : ∀ l x, motive l → motive (l ++ [x])) (l : List α) : motive l := by
 have key : ∀ (l : List α), motive l.reverse := by
  intro l
  induction l with
  | nil => exact nil
  | cons a r ih => rw [List.reverse_cons]; exact snoc _ _ ih
 have := key l.reverse
 rwa [List.reverse_reverse] at this
def lastF (a k : Int) (p : Int × Int) (x : api_Letter) : Int × Int := if x.Kind = 4 ∧ x.Case = k ∧ x.From = a ∧ p.1 < x.Round then (x.Round, x.Finding) else p
def lastS (l : List api_Letter) (a k : Int) : Int × Int := l.foldl (lastF a k) (0, 0)
theorem rlast_eq (l : List api_Letter) (hl : l.length ≤ 4000) (a k : Int) : ref09_last l a k = some (lastS l a k) := by
 unfold ref09_last
 refine (sum_loop l hl (fun p i => (p.1, p.2, i)) (lastF a k) (fun p => p) (fun _ _ => True) (a := (0, 0)) rfl trivial (fun p i hi _ => ⟨?_, trivial⟩) (fun p _ => ?_))
 ·unfold ref09_last_b2
  simp only [dlt hi, if_true, ix_nat hi, Option.bind_some, ref09_last_j3, w64i hi hl, lastF]
  by_cases c1 : l[i].Kind = 4
  ·by_cases c2 : l[i].Case = k
   ·by_cases c3 : l[i].From = a
    ·by_cases c4 : p.1 < l[i].Round
     ·simp [c1, c2, c3, c4, gb]
     ·simp [c1, c2, c3, c4, gb]
    ·simp [c1, c2, c3, gb]
   ·simp [c1, c2, gb]
  ·simp [c1, gb]
 ·unfold ref09_last_b2
  simp [dge, ref09_last_j1]
def wrdS (a k : Int) (x : api_Letter) : Bool := decide (x.Case = k) && decide (x.From = a) && (decide (x.Kind = 2) || decide (x.Kind = 4))
def spkF (a k : Int) (n : Int) (x : api_Letter) : Int := if wrdS a k x = true then max n x.Round else n
def spkS (l : List api_Letter) (a k : Int) : Int := l.foldl (spkF a k) 0
theorem rspoken_eq (l : List api_Letter) (hl : l.length ≤ 4000) (a k : Int) : ref09_spoken l a k = some (spkS l a k) := by
 unfold ref09_spoken
 refine (sum_loop l hl (fun p i => (p, i)) (spkF a k) (fun p => p) (fun _ _ => True) (a := (0 : Int)) rfl trivial (fun p i hi _ => ⟨?_, trivial⟩) (fun p _ => ?_))
 ·unfold ref09_spoken_b2
  simp only [dlt hi, if_true, ix_nat hi, Option.bind_some, ref09_spoken_j3, w64i hi hl, spkF]
  show (if wrdS a k l[i] = true then _ else _) = _
  split <;> rfl
 ·unfold ref09_spoken_b2
  simp [dge, ref09_spoken_j1]
def isK (kd k r : Int) (x : api_Letter) : Bool := decide (x.Kind = kd) && decide (x.Case = k) && decide (x.Round = r)
theorem rthere_eq (l : List api_Letter) (hl : l.length ≤ 4000) (kd k r : Int) : ref09_there l kd k r = some (l.any (isK kd k r)) := by
 unfold ref09_there
 refine any_loop _ l hl (fun i hi => ?_) ?_
 ·unfold ref09_there_b2
  simp only [dlt hi, if_true, ix_nat hi, Option.bind_some, w64i hi hl, isK]
  by_cases c1 : l[i].Kind = kd
  ·by_cases c2 : l[i].Case = k
   ·by_cases c3 : l[i].Round = r <;> simp [c1, c2, c3, gb]
   ·simp [c1, c2, gb]
  ·simp [c1, gb]
 ·unfold ref09_there_b2
  simp [dge, ref09_there_j1]
def prpS (l : List api_Letter) (k r : Int) : Option api_Letter := l.find? (isK 3 k r)
theorem find_idx {α : Type} (p : α → Bool) : ∀ l : List α, l.find? p = (l.findIdx? p).bind fun i => l[i]?
 | [] => rfl
 | a :: r => by
  rw [List.find?_cons, List.findIdx?_cons]
  cases h : p a with
  | true => rfl
  | false =>
   simp only [Bool.false_eq_true, if_false]
   rw [find_idx p r]
   cases r.findIdx? p <;> rfl
theorem rproposal_eq (l : List api_Letter) (hl : l.length ≤ 4000) (k r : Int) : ref09_proposal l k r = some (match prpS l k r with | some x => (x.Finding, true) | none => (0, false)) := by
 unfold ref09_proposal
 have h := find_loop (isK 3 k r) l hl (body := ref09_proposal_b2 l k r) (fun i => ((l.getD i default).Finding, true)) (0, false) (fun i hi => by
  unfold ref09_proposal_b2
  simp only [dlt hi, if_true, ix_nat hi, Option.bind_some, w64i hi hl, isK, List.getD_eq_getElem?_getD, List.getElem?_eq_getElem hi, Option.getD_some]
  by_cases c1 : l[i].Kind = 3
  ·by_cases c2 : l[i].Case = k
   ·by_cases c3 : l[i].Round = r <;> simp [c1, c2, c3, gb]
   ·simp [c1, c2, gb]
  ·simp [c1, gb]) (by
  unfold ref09_proposal_b2
  simp [dge, ref09_proposal_j1])
 rw [h]
 unfold prpS
 rw [find_idx]
 cases hf : l.findIdx? (isK 3 k r) with
 | none => rfl
 | some i =>
  obtain ⟨hi, _⟩ := List.findIdx?_eq_some_iff_getElem.1 hf
  simp [List.getElem?_eq_getElem hi]
def isP (k r a : Int) (x : api_Letter) : Bool := isK 2 k r x && decide (x.From = a)
def prmS (c : api_Court) (l : List api_Letter) (k r : Int) : List api_Letter := (List.range c.Arbiters.toNat).filterMap fun a : Nat => l.find? (isP k r (a : Int))
theorem rprom_in (l : List api_Letter) (hl : l.length ≤ 4000) (k r a : Int) (o : List api_Letter) (ho : o.length ≤ 100) : Lp (ref09_promises_b4 l k r a) fuel (false, 0, o) = some (.inl (w64 (a + 1), o ++ (l.find? (isP k r a)).toList)) := by
 have hj : ∀ o, ref09_promises_j3 a o = some (.inl (w64 (a + 1), o)) := fun _ => rfl
 suffices h : ∃ s, Lp (ref09_promises_b4 l k r a) fuel (false, 0, o) = some s ∧ s = .inl (w64 (a + 1), o ++ (l.find? (isP k r a)).toList) by obtain ⟨s, h, rfl⟩ := h; exact h
 refine lp_inv' (fun (i : Nat) (s : Bool × Int × List api_Letter) => ∃ f m, s = (f, ((m : Nat) : Int), o ++ (if f = true then (l.find? (isP k r a)).toList else [])) ∧ m = i ∧ (f = false → ∀ j (h : j < l.length), j < i → isP k r a l[j] = false) ∧ (f = true → (l.find? (isP k r a)).isSome = true)) _ (l.length + 1) (by omega) ⟨false, 0, by simp, rfl, fun _ j h hj => by omega, fun h => by cases h⟩ fun i s hi hI => ?_
 obtain ⟨f, m, rfl, rfl, h1, h2⟩ := hI
 cases f with
 | true =>
  refine .inr ⟨_, ?_, rfl⟩
  unfold ref09_promises_b4
  simp [hj]
 | false =>
  by_cases hlt : m < l.length
  ·unfold ref09_promises_b4
   simp only [dlt hlt, Bool.not_false, Bool.and_self, if_true, ix_nat hlt, Option.bind_some, ref09_promises_j5, w64i hlt hl, Bool.false_eq_true, if_false, List.append_nil]
   by_cases c : isP k r a l[m] = true
   ·have c' := c
    simp only [isP, isK, Bool.and_eq_true, decide_eq_true_eq] at c'
    obtain ⟨⟨⟨c1, c2⟩, c3⟩, c4⟩ := c'
    have hfi : l.find? (isP k r a) = some l[m] := by
     rw [find_idx, List.findIdx?_eq_some_iff_getElem.2 ⟨hlt, c, fun j hj => by rw [h1 rfl j (by omega) hj]; simp⟩]
     simp [List.getElem?_eq_getElem hlt]
    refine .inl ⟨by omega, (true, ((m + 1 : Nat) : Int), o ++ [l[m]]), ?_, true, m + 1, ?_, rfl, fun h => (by cases h), fun _ => by rw [hfi]; rfl⟩
    ·simp only [c1, c2, c3, c4, decide_true, Bool.and_self, gb, if_true, Option.bind_some]
     rw [app_ok (by simp; omega)]; rfl
    ·rw [hfi]; rfl
   ·refine .inl ⟨by omega, (false, ((m + 1 : Nat) : Int), o), ?_, false, m + 1, by simp, rfl, fun _ j h hj => ?_, fun h => by cases h⟩
    ·have c' : ¬ (l[m].Kind = 2 ∧ l[m].Case = k ∧ l[m].Round = r ∧ l[m].From = a) := fun e => c (by simp [isP, isK, e.1, e.2.1, e.2.2.1, e.2.2.2])
     by_cases c1 : l[m].Kind = 2
     ·by_cases c2 : l[m].Case = k
      ·by_cases c3 : l[m].Round = r
       ·have c4 : ¬ l[m].From = a := fun e => c' ⟨c1, c2, c3, e⟩
        simp [c1, c2, c3, c4, gb]
       ·simp [c1, c2, c3, gb]
      ·simp [c1, c2, gb]
     ·simp [c1, gb]
    ·by_cases e : j = m
     ·subst e; simpa using c
     ·exact h1 rfl j h (by omega)
  ·have hfi : l.find? (isP k r a) = none := by
    rw [find_idx, List.findIdx?_eq_none_iff.2 fun x hx => by obtain ⟨j, hj, rfl⟩ := List.getElem_of_mem hx; exact h1 rfl j hj (by omega)]
    rfl
   refine .inr ⟨.inl (w64 (a + 1), o), ?_, by rw [hfi]; simp⟩
   unfold ref09_promises_b4
   have : ¬ (m : Int) < (l.length : Int) := by omega
   simp [this, hj]
theorem rpromises_eq (c : api_Court) (hc : okC c = true) (l : List api_Letter) (hl : l.length ≤ 4000) (k r : Int) : ref09_promises c l k r = some (prmS c l k r) := by
 obtain ⟨g1, g2⟩ := okC_spec hc
 unfold ref09_promises prmS
 suffices h : ∃ s, Lp (ref09_promises_b2 c l k r) fuel (0, []) = some s ∧ s = (List.range c.Arbiters.toNat).filterMap fun a : Nat => l.find? (isP k r (a : Int)) by obtain ⟨s, h, rfl⟩ := h; exact h
 refine lp_inv' (fun (i : Nat) (s : Int × List api_Letter) => s = ((i : Int), (List.range i).filterMap fun a : Nat => l.find? (isP k r (a : Int))) ∧ i ≤ c.Arbiters.toNat) _ c.Arbiters.toNat (by omega) ⟨rfl, Nat.zero_le _⟩ fun i s hi hI => ?_
 obtain ⟨rfl, hI⟩ := hI
 by_cases hlt : i < c.Arbiters.toNat
 ·refine .inl ⟨hlt, _, ?_, rfl, by omega⟩
  have : ((i : Int) < c.Arbiters) := by omega
  unfold ref09_promises_b2
  simp only [this, decide_true, if_true]
  rw [rprom_in l hl k r (i : Int) _ (Nat.le_trans (List.length_filterMap_le _ _) (by simp; omega))]
  rw [w64s i (by omega), List.range_succ, List.filterMap_append]
  congr 4
 ·have : i = c.Arbiters.toNat := by omega
  subst this
  refine .inr ⟨_, ?_, rfl⟩
  have : ¬ ((c.Arbiters.toNat : Nat) : Int) < c.Arbiters := by omega
  unfold ref09_promises_b2
  simp only [this, decide_false, Bool.false_eq_true, if_false]
  rfl
def cntI (p : api_Letter → Bool) (l : List api_Letter) : Int := (l.countP p : Int)
theorem cntI_le (p : api_Letter → Bool) (l : List api_Letter) : 0 ≤ cntI p l ∧ cntI p l ≤ l.length := by
 have := List.countP_le_length (p := p) (l := l)
 unfold cntI; omega
theorem cntI_snoc (p : api_Letter → Bool) (l : List api_Letter) (x : api_Letter) : cntI p (l ++ [x]) = cntI p l + if p x = true then 1 else 0 := by
 unfold cntI
 rw [List.countP_append]
 simp only [List.countP_cons, List.countP_nil]
 split <;> simp
theorem cntI_take {p : api_Letter → Bool} {l : List api_Letter} {i : Nat} (h : i < l.length) : cntI p (l.take (i + 1)) = cntI p (l.take i) + if p l[i] = true then 1 else 0 := by
 rw [List.take_succ_eq_append_getElem h, cntI_snoc]
theorem cnt_loop {σ ρ : Type} {body : σ → Option (σ ⊕ ρ)} (p : api_Letter → Bool) (l : List api_Letter) (hl : l.length ≤ 4000) (st : Int → Int → σ) (fin : Int → ρ)
  (step : ∀ n (i : Nat) (hi : i < l.length), 0 ≤ n → n ≤ 4000 → body (st n (i : Int)) = some (.inl (st (n + if p l[i] = true then 1 else 0) ((i + 1 : Nat) : Int)))) (last : ∀ n, body (st n (l.length : Int)) = some (.inr (fin n))) : Lp body fuel (st 0 0) = some (fin (cntI p l)) := by
 suffices h : ∃ r, Lp body fuel (st 0 0) = some r ∧ r = fin (cntI p l) by obtain ⟨r, h, rfl⟩ := h; exact h
 refine lp_inv' (fun (i : Nat) (s : σ) => s = st (cntI p (l.take i)) (i : Int)) _ l.length (by omega) (by simp [cntI]) fun i s hi hI => ?_
 subst hI
 by_cases hlt : i < l.length
 ·have h1 := cntI_le p (l.take i)
  refine .inl ⟨hlt, _, step _ i hlt h1.1 (by have := List.length_take_le i l; omega), by rw [cntI_take hlt]⟩
 ·have e : i = l.length := by omega
  subst e
  rw [List.take_length]
  exact .inr ⟨_, last _, rfl⟩
theorem rupTo_eq (l : List api_Letter) (hl : l.length ≤ 4000) (v : Int) : ref09_upTo l v = some (cntI (fun x => decide (x.Voted ≤ v)) l) := by
 unfold ref09_upTo
 refine cnt_loop _ l hl (fun n i => (n, i)) (fun n => n) (fun n i hi q1 q2 => ?_) (fun n => ?_)
 ·unfold ref09_upTo_b2
  simp only [dlt hi, if_true, ix_nat hi, Option.bind_some, ref09_upTo_j3, w64i hi hl]
  split
  ·rw [w64_id (n := n + 1) (by omega) (by omega)]
  ·simp
 ·unfold ref09_upTo_b2
  simp [dge, ref09_upTo_j1]
def ableS (c : api_Court) (p : List api_Letter) (f : Int) : Bool := decide (majS c ≤ cntI (fun x => decide (x.Voted ≤ 0)) p) || p.any fun x => decide (0 < x.Voted) && decide (x.Finding = f) && decide (majS c ≤ cntI (fun y => decide (y.Voted ≤ x.Voted)) p)
theorem rproposable_eq (c : api_Court) (p : List api_Letter) (hl : p.length ≤ 4000) (f : Int) : ref09_proposable c p f = some (ableS c p f) := by
 unfold ref09_proposable ableS
 rw [rMaj_eq, Option.bind_some, rupTo_eq p hl, Option.bind_some]
 by_cases h : majS c ≤ cntI (fun x => decide (x.Voted ≤ 0)) p
 ·simp [h]
 ·simp only [h, decide_false, Bool.false_eq_true, if_false, Bool.false_or]
  refine any_loop _ p hl (fun i hi => ?_) ?_
  ·unfold ref09_proposable_b2
   simp only [dlt hi, if_true, ix_nat hi, Option.bind_some, w64i hi hl, rupTo_eq p hl]
   by_cases c1 : 0 < p[i].Voted
   ·by_cases c2 : p[i].Finding = f
    ·simp only [c1, c2, gb, rupTo_eq p hl, decide_true, Bool.and_self, if_true, Option.bind_some, Bool.true_and]
     split <;> rfl
    ·simp [c1, c2, gb]
   ·simp [c1, gb]
  ·unfold ref09_proposable_b2
   simp [dge, ref09_proposable_j1]
def lawS (c : api_Court) (l : List api_Letter) (x : api_Letter) : Bool :=
 if l.any (fun y => ref09_Alike y x) = true then true
 else if x.Kind = 1 then true
 else if x.Kind = 2 then l.any (isK 1 x.Case x.Round) && decide (spkS l x.From x.Case < x.Round) && decide (x.Voted = (lastS l x.From x.Case).1) && decide (x.Finding = (lastS l x.From x.Case).2)
 else if x.Kind = 3 then !l.any (isK 3 x.Case x.Round) && ableS c (prmS c l x.Case x.Round) x.Finding
 else (match prpS l x.Case x.Round with | some y => decide (y.Finding = x.Finding) | none => false) && decide (spkS l x.From x.Case ≤ x.Round) && decide ((lastS l x.From x.Case).1 < x.Round)
theorem prmS_len (c : api_Court) (hc : okC c = true) (l : List api_Letter) (k r : Int) : (prmS c l k r).length ≤ 7 := by
 obtain ⟨g1, g2⟩ := okC_spec hc
 unfold prmS
 exact Nat.le_trans (List.length_filterMap_le _ _) (by simp; omega)
theorem rlawful_eq (c : api_Court) (hc : okC c = true) (l : List api_Letter) (hl : l.length ≤ 4000) (x : api_Letter) : ref09_lawful c l x = some (lawS c l x) := by
 unfold ref09_lawful
 have hj : ref09_lawful_j1 c l x = some (if x.Kind = 1 then true
   else if x.Kind = 2 then l.any (isK 1 x.Case x.Round) && decide (spkS l x.From x.Case < x.Round) && decide (x.Voted = (lastS l x.From x.Case).1) && decide (x.Finding = (lastS l x.From x.Case).2)
   else if x.Kind = 3 then !l.any (isK 3 x.Case x.Round) && ableS c (prmS c l x.Case x.Round) x.Finding
   else (match prpS l x.Case x.Round with | some y => decide (y.Finding = x.Finding) | none => false) && decide (spkS l x.From x.Case ≤ x.Round) && decide ((lastS l x.From x.Case).1 < x.Round)) := by
  unfold ref09_lawful_j1
  by_cases k1 : x.Kind = 1
  ·simp [k1]
  ·by_cases k2 : x.Kind = 2
   ·simp only [k1, k2, decide_false, decide_true, Bool.false_eq_true, if_false, if_true, rlast_eq l hl, Option.bind_some, rthere_eq l hl, rspoken_eq l hl]
    rw [gb_some]
    ·rfl
    ·intro h; rw [h]; rfl
   ·by_cases k3 : x.Kind = 3
    ·simp only [k1, k2, k3, decide_false, decide_true, Bool.false_eq_true, if_false, if_true, rlast_eq l hl, Option.bind_some, rthere_eq l hl, rpromises_eq c hc l hl, rproposable_eq c _ (Nat.le_trans (prmS_len c hc l _ _) (by omega))]
     cases l.any (isK 3 x.Case x.Round) with
     | true => simp [gb]
     | false => simp [gb, rproposable_eq c _ (Nat.le_trans (prmS_len c hc l _ _) (by omega))]
    ·simp only [k1, k2, k3, decide_false, decide_true, Bool.false_eq_true, if_false, if_true, rlast_eq l hl, Option.bind_some, rproposal_eq l hl, rspoken_eq l hl]
     cases prpS l x.Case x.Round with
     | none => simp [gb]
     | some y =>
      simp only [Bool.true_and]
      rw [gb_some]
      ·intro h; rw [h]; rfl
 have h := find_loop (fun y => ref09_Alike y x) l hl (body := ref09_lawful_b2 c l x) (fun _ => true) (if x.Kind = 1 then true
   else if x.Kind = 2 then l.any (isK 1 x.Case x.Round) && decide (spkS l x.From x.Case < x.Round) && decide (x.Voted = (lastS l x.From x.Case).1) && decide (x.Finding = (lastS l x.From x.Case).2)
   else if x.Kind = 3 then !l.any (isK 3 x.Case x.Round) && ableS c (prmS c l x.Case x.Round) x.Finding
   else (match prpS l x.Case x.Round with | some y => decide (y.Finding = x.Finding) | none => false) && decide (spkS l x.From x.Case ≤ x.Round) && decide ((lastS l x.From x.Case).1 < x.Round)) (fun i hi => by
  unfold ref09_lawful_b2
  simp only [dlt hi, if_true, ix_nat hi, Option.bind_some, w64i hi hl]
  split <;> rfl) (by
  unfold ref09_lawful_b2
  simp only [dge, Bool.false_eq_true, if_false, hj, Option.map_some])
 rw [h]
 unfold lawS
 cases hf : l.findIdx? (fun y => ref09_Alike y x) with
 | none =>
  have : ¬ l.any (fun y => ref09_Alike y x) = true := fun e => by
   obtain ⟨y, hy, e⟩ := List.any_eq_true.1 e
   rw [List.findIdx?_eq_none_iff.1 hf y hy] at e; cases e
  rw [if_neg this]
 | some i =>
  obtain ⟨hi, hp, _⟩ := List.findIdx?_eq_some_iff_getElem.1 hf
  rw [if_pos (List.any_eq_true.2 ⟨l[i], List.getElem_mem hi, hp⟩)]
end Go.Mx
