/- Plain laws, arbiters: proofs of rulings, and checking them. Conditions: none. -/
import Derived.Test.YtkomoedegnckhaaLawZh
set_option linter.unusedVariables false
set_option linter.unusedSimpArgs false
namespace Go.Mx
def sameFrom (L : List api_Letter) (x : api_Letter) : Bool := L.any fun y => decide (y.From = x.From)
theorem Seen_at {m : List (Int × Bool)} {P : List api_Letter} (h : Seen m P) (x : api_Letter) : (lookM x.From m).getD false = sameFrom P x := h x.From
def prF (c : api_Court) (r : api_Ruling) (acc : List api_Letter) (x : api_Letter) : List api_Letter := if (acc.length : Int) < majS c ∧ ref09_votesFor x r = true ∧ sameFrom acc x = false then acc ++ [x] else acc
def prfS (c : api_Court) (l : List api_Letter) (r : api_Ruling) : List api_Letter := l.foldl (prF c r) []
theorem prfS_snoc (c : api_Court) (l : List api_Letter) (x : api_Letter) (r : api_Ruling) : prfS c (l ++ [x]) r = prF c r (prfS c l r) x := by simp [prfS, List.foldl_append]
theorem prfS_take {c : api_Court} {l : List api_Letter} {i : Nat} (h : i < l.length) (r : api_Ruling) : prfS c (l.take (i + 1)) r = prF c r (prfS c (l.take i) r) l[i] := by rw [List.take_succ_eq_append_getElem h, prfS_snoc]
theorem prf_len (c : api_Court) (l : List api_Letter) (r : api_Ruling) : (prfS c l r).length ≤ l.length := by
 refine snoc_rec (motive := fun l => (prfS c l r).length ≤ l.length) (by simp [prfS]) (fun l x ih => ?_) l
 rw [prfS_snoc]
 unfold prF
 split <;> simp <;> omega
theorem prf_full {c : api_Court} {r : api_Ruling} : ∀ {l acc : List api_Letter}, majS c ≤ (acc.length : Int) → l.foldl (prF c r) acc = acc
 | [], acc, _ => rfl
 | x :: l, acc, h => by
  have e : prF c r acc x = acc := by unfold prF; rw [if_neg (by omega)]
  rw [List.foldl_cons, e]
  exact prf_full h
theorem prf_stop {c : api_Court} {r : api_Ruling} {l : List api_Letter} {i : Nat} (h : majS c ≤ ((prfS c (l.take i) r).length : Int)) : prfS c l r = prfS c (l.take i) r := by
 have e : prfS c l r = (l.drop i).foldl (prF c r) (prfS c (l.take i) r) := by
  unfold prfS
  rw [← List.foldl_append, List.take_append_drop]
 rw [e, prf_full h]
theorem shw_iff {x : api_Letter} {r : api_Ruling} (hr : r.Case ≠ 0) : decide (arbiter_shows x = r) = ref09_votesFor x r := by
 rw [Bool.eq_iff_iff, decide_eq_true_eq, vf_iff]
 unfold arbiter_shows
 by_cases k : x.Kind = 4
 ·simp only [k, decide_true, Bool.not_true, Bool.false_eq_true, if_false, true_and]
  rfl
 ·simp only [k, decide_false, Bool.not_false, if_true, false_and, iff_false]
  intro h; subst h; exact hr rfl
def prfA (c : api_Court) (l : List api_Letter) (o : List api_Ruling) (id : Int) : List api_Letter × Int := if readS c l = 0 then (if inI id 1 1099511627776 = true then (match o.find? fun r => decide (r.Case = id) with | some r => (prfS c l r, 0) | none => ([], 5)) else ([], 1)) else ([], readS c l)
theorem prf_in (c : api_Court) (l acc : List api_Letter) (i : Nat) (hi : i < l.length) (ha : acc.length ≤ 4000) (b : Bool) : Lp (ref09_Proof_b6 l (i : Int) acc) fuel (b, 0) = some (.inl (w64 ((i : Int) + 1), if (b && !sameFrom acc l[i]) = true then acc ++ [l[i]] else acc)) := by
 rw [sum_loop (body := ref09_Proof_b6 l (i : Int) acc) acc ha (fun f n => (f, n)) (fun f y => f && !decide (y.From = l[i].From)) (fun f => Sum.inl (w64 ((i : Int) + 1), if f = true then acc ++ [l[i]] else acc)) (fun _ _ => True) (a := b) rfl trivial (fun f n hn _ => ⟨?_, trivial⟩) (fun f _ => ?_)]
 ·congr 3
  have key : ∀ (L : List api_Letter) (b : Bool), L.foldl (fun f y => f && !decide (y.From = l[i].From)) b = (b && !sameFrom L l[i]) := by
   intro L
   induction L with
   | nil => intro b; simp [sameFrom]
   | cons y L ih =>
    intro b
    rw [List.foldl_cons, ih]
    unfold sameFrom
    rw [List.any_cons, Bool.not_or, Bool.and_assoc]
  rw [key]
 ·unfold ref09_Proof_b6
  simp only [dlt hn, if_true, ix_nat hn, ix_nat hi, w64i hn ha]
  cases f <;> simp [gb]
 ·unfold ref09_Proof_b6
  simp only [dge, Bool.false_eq_true, if_false, ref09_Proof_j5, ix_nat hi, Option.bind_some]
  cases f with
  | true =>
   simp only [if_true]
   rw [app_ok (by simp; omega)]; rfl
  | false => rfl
theorem rprf_loop (c : api_Court) (l : List api_Letter) (hl : l.length ≤ 4000) (o : List api_Ruling) (k : Nat) (hk : k < o.length) : Lp (ref09_Proof_b3 c l o (k : Int)) fuel (0, []) = some ⟨prfS c l o[k], 0⟩ := by
 suffices h : ∃ s, Lp (ref09_Proof_b3 c l o (k : Int)) fuel (0, []) = some s ∧ s = ⟨prfS c l o[k], 0⟩ by obtain ⟨s, h, rfl⟩ := h; exact h
 refine lp_inv' (fun (i : Nat) (s : Int × List api_Letter) => s = ((i : Int), prfS c (l.take i) o[k])) _ l.length (by omega) rfl fun i s hi hI => ?_
 subst hI
 have hpl : (prfS c (l.take i) o[k]).length ≤ 4000 := by
  have := prf_len c (l.take i) o[k]
  rw [List.length_take] at this; omega
 unfold ref09_Proof_b3
 simp only [rMaj_eq]
 by_cases hlt : i < l.length
 ·by_cases hm : ((prfS c (l.take i) o[k]).length : Int) < majS c
  ·refine .inl ⟨hlt, _, ?_, rfl⟩
   simp only [dlt hlt, gb, if_true, Option.bind_some, Bool.true_and, decide_eq_true_eq, hm, ix_nat hlt, ix_nat hk]
   rw [prf_in c l _ i hlt hpl, prfS_take hlt, w64i hlt hl]
   unfold prF
   simp [hm]
  ·refine .inr ⟨⟨prfS c l o[k], 0⟩, ?_, rfl⟩
   simp only [dlt hlt, gb, if_true, Option.bind_some, Bool.true_and, decide_eq_true_eq, hm, if_false, ref09_Proof_j2, Option.map_some]
   rw [prf_stop (l := l) (i := i) (by omega)]
 ·have e : i = l.length := by omega
  subst e
  refine .inr ⟨⟨prfS c l o[k], 0⟩, ?_, rfl⟩
  simp only [dge, gb, Bool.false_eq_true, if_false, Option.bind_some, Bool.false_and, ref09_Proof_j2, Option.map_some, List.take_length]
theorem prf_loop (c : api_Court) (l : List api_Letter) (hl : l.length ≤ 4000) (o : List api_Ruling) (k : Nat) (hk : k < o.length) (hr : o[k].Case ≠ 0) : Lp (arbiter_Proof_b2 c l o (k : Int)) fuel (0, [], []) = some (prfS c l o[k], 0) := by
 suffices h : ∃ s, Lp (arbiter_Proof_b2 c l o (k : Int)) fuel (0, [], []) = some s ∧ s = (prfS c l o[k], 0) by obtain ⟨s, h, rfl⟩ := h; exact h
 refine lp_inv' (fun (i : Nat) (s : Int × List api_Letter × List (Int × Bool)) => ∃ m, s = ((i : Int), prfS c (l.take i) o[k], m) ∧ Seen m (prfS c (l.take i) o[k])) _ l.length (by omega) ⟨[], rfl, Seen_nil⟩ fun i s hi hI => ?_
 obtain ⟨m, rfl, hs⟩ := hI
 have hpl : (prfS c (l.take i) o[k]).length ≤ 4000 := by
  have := prf_len c (l.take i) o[k]
  rw [List.length_take] at this; omega
 unfold arbiter_Proof_b2
 by_cases hlt : i < l.length
 ·refine .inl ⟨hlt, ?_⟩
  simp only [dlt hlt, if_true, ix_nat hlt, ix_nat hk, Option.bind_some, Maj_eq, arbiter_Proof_j3, w64i hlt hl, prfS_take hlt, Seen_at hs]
  unfold prF
  by_cases hm : ((prfS c (l.take i) o[k]).length : Int) < majS c
  ·simp only [hm, gb, decide_true, if_true, Option.bind_some, Bool.true_and, shw_iff hr, true_and]
   cases hv : ref09_votesFor l[i] o[k] with
   | false => exact ⟨_, by simp, m, rfl, by simpa using hs⟩
   | true =>
    cases hf : sameFrom (prfS c (l.take i) o[k]) l[i] with
    | true => exact ⟨_, by simp, m, rfl, by simpa using hs⟩
    | false =>
     simp only [Bool.not_false, Bool.and_self, if_true, true_and]
     rw [app_ok (by simp; omega), Option.bind_some]
     exact ⟨_, rfl, _, rfl, Seen_put hs _⟩
  ·simp only [hm, gb, decide_false, Bool.false_eq_true, if_false, Option.bind_some, Bool.false_and, false_and]
   exact ⟨_, rfl, m, rfl, hs⟩
 ·have e : i = l.length := by omega
  subst e
  refine .inr ⟨(prfS c l o[k], 0), ?_, rfl⟩
  simp only [dge, Bool.false_eq_true, if_false, arbiter_Proof_j1, Option.map_some, List.take_length]
theorem Proof_eq (c : api_Court) (l : List api_Letter) (hl : l.length ≤ 4000) (o : List api_Ruling) (ho : o.length ≤ 4000) (h : readS c l = 0 → arbiter_rulings c l = some o ∧ ref09_rulings c l = some o ∧ RulOK c l o) (id : Int) : arbiter_Proof c l id = some (prfA c l o id) ∧ ref09_Proof c l id = some ⟨(prfA c l o id).1, (prfA c l o id).2⟩ := by
 unfold arbiter_Proof ref09_Proof prfA
 rw [read_eq c l hl, listed_eq c l hl]
 simp only [Option.bind_some]
 by_cases e : readS c l = 0
 ·obtain ⟨h1, h2, h3⟩ := h e
  have hro := readS_ok e
  simp only [e, decide_true, Bool.not_true, Bool.false_eq_true, if_false, if_true]
  show (if (!inI id 1 1099511627776) = true then _ else _) = _ ∧ (if (!inI id 1 1099511627776) = true then _ else _) = _
  cases e1 : inI id 1 1099511627776 with
  | false => simp
  | true =>
   simp only [Bool.not_true, Bool.false_eq_true, if_false, if_true, h1, h2, Option.bind_some]
   have hx : slices_IndexFunc_api_Ruling__arbiter_Proof_1 o id = some (ixOf (fun r => decide (r.Case = id)) o) := by
    unfold slices_IndexFunc_api_Ruling__arbiter_Proof_1
    refine ixOf_loop _ o ho (fun i hi => ?_) ?_
    ·unfold slices_IndexFunc_api_Ruling__arbiter_Proof_1_b2
     simp only [dlt hi, if_true, ix_nat hi, Option.bind_some, w64i hi ho, arbiter_Proof_1]
     by_cases hc' : o[i].Case = id <;> simp [hc']
    ·unfold slices_IndexFunc_api_Ruling__arbiter_Proof_1_b2
     simp [dge, slices_IndexFunc_api_Ruling__arbiter_Proof_1_j1]
   have hy : Lp (ref09_Proof_b7 c l id o) fuel 0 = ref09_Proof_j1 c l o (match o.findIdx? (fun r => decide (r.Case = id)) with | some k => (k : Int) | none => (o.length : Int)) := by
    have hz : ∀ k : Nat, (hk : k ≤ o.length) → ∃ v, ref09_Proof_j1 c l o (k : Int) = some v := fun k hk => by
     unfold ref09_Proof_j1
     by_cases q : k = o.length
     ·subst q; exact ⟨⟨[], 5⟩, by simp⟩
     ·have q' : ¬ (k : Int) = (o.length : Int) := by omega
      simp only [q', decide_false, Bool.false_eq_true, if_false]
      exact ⟨_, rprf_loop c l hl o k (by omega)⟩
    have hz2 : ∀ k : Nat, k ≤ o.length → ref09_Proof_j1 c l o (k : Int) = some ((ref09_Proof_j1 c l o (k : Int)).getD default) := fun k hk => by
     obtain ⟨v, hv⟩ := hz k hk
     rw [hv]; rfl
    have := find_loop (fun r : api_Ruling => decide (r.Case = id)) o ho (body := ref09_Proof_b7 c l id o) (fun k => (ref09_Proof_j1 c l o (k : Int)).getD default) ((ref09_Proof_j1 c l o (o.length : Int)).getD default) (fun i hi => by
     unfold ref09_Proof_b7
     simp only [dlt hi, gb, if_true, ix_nat hi, Option.bind_some, Bool.true_and, w64i hi ho]
     by_cases hc' : o[i].Case = id
     ·simp only [hc', decide_true, Bool.not_true, Bool.false_eq_true, if_false, if_true]
      rw [hz2 i (by omega)]; rfl
     ·simp [hc']) (by
     unfold ref09_Proof_b7
     simp only [dge, gb, Bool.false_eq_true, if_false, Option.bind_some, Bool.false_and]
     rw [hz2 o.length (Nat.le_refl _)]; rfl)
    rw [this]
    cases hf : o.findIdx? (fun r => decide (r.Case = id)) with
    | none => exact (hz2 _ (Nat.le_refl _)).symm
    | some k =>
     obtain ⟨q1, _⟩ := List.findIdx?_eq_some_iff_getElem.1 hf
     exact (hz2 k (by omega)).symm
   rw [hx, hy, Option.bind_some, find_idx]
   unfold ixOf
   cases hf : o.findIdx? (fun r => decide (r.Case = id)) with
   | none => exact ⟨by simp, by simp [ref09_Proof_j1]⟩
   | some k =>
    obtain ⟨q1, q2, _⟩ := List.findIdx?_eq_some_iff_getElem.1 hf
    have hk0 : o[k].Case ≠ 0 := by
     obtain ⟨⟨x, hx1, _, hx2⟩, _⟩ := (h3.mem o[k]).1 (List.getElem_mem q1)
     have := (fm_of (hro.2.2 x hx1)).case
     rw [← hx2]
     show x.Case ≠ 0
     omega
    have n1 : ¬ (k : Int) < 0 := by omega
    have n2 : ¬ (k : Int) = (o.length : Int) := by omega
    simp only [n1, decide_false, Bool.false_eq_true, if_false, prf_loop c l hl o k q1 hk0, ref09_Proof_j1, n2, rprf_loop c l hl o k q1, Option.bind_some, List.getElem?_eq_getElem q1]
    exact ⟨trivial, trivial⟩
 ·simp [e]
theorem RulOK.len {c : api_Court} {l : List api_Letter} {o : List api_Ruling} (h : RulOK c l o) (hc : okC c = true) (hl : l.length ≤ 4000) : o.length ≤ l.length := by
 obtain ⟨o', _, h2, h3⟩ := rrul_eq c hc l hl
 rw [h.uniq h2]; exact h3
theorem same_loop {α : Type} [DecidableEq α] (a : List α) (ha : a.length ≤ 4000) {body : Int → Option (Int ⊕ Bool)} (step : ∀ i (hi : i < a.length), body (i : Int) = some (.inl ((i + 1 : Nat) : Int))) (last : body (a.length : Int) = some (.inr true)) : Lp body fuel 0 = some true := by
 suffices h : ∃ s, Lp body fuel 0 = some s ∧ s = true by obtain ⟨s, h, rfl⟩ := h; exact h
 refine lp_inv' (fun (i : Nat) (s : Int) => s = (i : Int)) _ a.length (by omega) rfl fun i s hi hI => ?_
 subst hI
 by_cases hlt : i < a.length
 ·exact .inl ⟨hlt, _, step i hlt, rfl⟩
 ·have e : i = a.length := by omega
  subst e
  exact .inr ⟨true, last, rfl⟩
theorem SameR_refl (a : List api_Ruling) (ha : a.length ≤ 4000) : ref09_SameRulings a a = some true := by
 unfold ref09_SameRulings
 simp only [decide_true, Bool.not_true, Bool.false_eq_true, if_false]
 refine same_loop a ha (fun i hi => ?_) ?_
 ·unfold ref09_SameRulings_b2
  simp only [dlt hi, if_true, ix_nat hi, w64i hi ha, Option.bind_some, decide_true, Bool.not_true, Bool.false_eq_true, if_false]
 ·unfold ref09_SameRulings_b2
  simp [dge, ref09_SameRulings_j1]
theorem SameL_refl (a : List api_Letter) (ha : a.length ≤ 4000) : ref09_SameLetters a a = some true := by
 unfold ref09_SameLetters
 simp only [decide_true, Bool.not_true, Bool.false_eq_true, if_false]
 refine same_loop a ha (fun i hi => ?_) ?_
 ·unfold ref09_SameLetters_b2
  simp only [dlt hi, if_true, ix_nat hi, w64i hi ha, Option.bind_some, decide_true, Bool.not_true, Bool.false_eq_true, if_false]
 ·unfold ref09_SameLetters_b2
  simp [dge, ref09_SameLetters_j1]
end Go.Mx
