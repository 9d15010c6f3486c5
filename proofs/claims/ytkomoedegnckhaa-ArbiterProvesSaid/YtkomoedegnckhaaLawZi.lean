/- Plain laws, arbiters: proofs of rulings, and checking them. Conditions: none. -/
import Derived.Test.YtkomoedegnckhaaLawZh
set_option linter.unusedVariables false
set_option linter.unusedSimpArgs false
namespace Go.Mx
def sameFrom (L : List api_Letter) (x : api_Letter) : Bool := L.any fun y => decide (y.From = x.From)
theorem Seen_at {m : List (Int × Bool)} {P : List api_Letter} (h : Seen m P) (x : api_Letter) : (lookM x.From m).getD false = sameFrom P x := h x.From
def prF (c : api_Court) (r : api_Ruling) (acc : List api_Letter) (x : api_Letter) : List api_Letter := if (acc.length : Int) < majS c ∧ ref09_votesFor x r = true ∧ sameFrom acc x = false then acc ++ [x] else acc
def prfS (c : api_Court) (l : List api_Letter) (r : api_Ruling) : List api_Letter := l.foldl (prF c r) []
theorem prfS_snoc (c : api_Court) (l : List api_Letter) (x : api_Letter) (r : api_Ruling) : prfS c (l ++ [x]) r = prF c r (prfS c l r) x := by simp [prfS, List.foldl_append]
theorem prfS_take {c : api_Court} {l : List api_Letter} {i : Nat} (h : i < l.length) (r : api_Ruling) : prfS c (l.take (i + 1)) r = prF c r (prfS c (l.take i) r) l[i] := by rw [List.take_succ_eq_append_getElem h, prfS_snoc]
theorem prf_len (c : api_Court) (l : List api_Letter) (r : api_Ruling) : (prfS c l r).length ≤ l.length := by
 refine snoc_rec (motive := fun l => (prfS c l r).length ≤ l.length) (by simp [prfS]) (fun l x ih => ?_) l
 rw [prfS_snoc]
 unfold prF
 split <;> simp <;> omega
theorem prf_full {c : api_Court} {r : api_Ruling} : ∀ {l acc : List api_Letter}, majS c ≤ (acc.length : Int) → l.foldl (prF c r) acc = acc
 | [], acc, _ => rfl
 | x :: l, acc, h => by
  have e : prF c r acc x = acc := by unfold prF; rw [if_neg (by omega)]
  rw [List.foldl_cons, e]
  exact prf_full h
theorem prf_stop {c : api_Court} {r : api_Ruling} {l : List api_Letter} {i : Nat} (h : majS c ≤ ((prfS c (l.take i) r).length : Int)) : prfS c l r = prfS c (l.take i) r := by
 have e : prfS c l r = (l.drop i).foldl (prF c r) (prfS c (l.take i) r) := by
  unfold prfS
  rw [← List.foldl_append, List.take_append_drop]
 rw [e, prf_full h]
theorem shw_iff {x : api_Letter} {r : api_Ruling} (hr : r.Case ≠ 0) : decide (arbiter_shows x = r) = ref09_votesFor x r := by
 rw [Bool.eq_iff_iff, decide_eq_true_eq, vf_iff]
 unfold arbiter_shows
 by_cases k : x.Kind = 4
 ·simp only [k, decide_true, Bool.not_true, Bool.false_eq_true, if_false, true_and]
  rfl
 ·simp only [k, decide_false, Bool.not_false, if_true, false_and, iff_false]
  intro h; subst h; exact hr rfl
def prfA (c : api_Court) (l : List api_Letter) (o : List api_Ruling) (id : Int) : List api_Letter × Int := if readS c l = 0 then (if inI id 1 1099511627776 = true then (match o.find? fun r => decide (r.Case = id) with | some r => (prfS c l r, 0) | none => ([], 5)) else ([], 1)) else ([], readS c l)
theorem prf_in (c : api_Court) (l acc : List api_Letter) (i : Nat) (hi : i < l.length) (ha : acc.length ≤ 4000) (b : Bool) : Lp (ref09_Proof_b6 l (i : Int) acc) fuel (b, 0) = some (.inl (w64 ((i : Int) + 1), if (b && !sameFrom acc l[i]) = true then acc ++ [l[i]] else acc)) := by
 rw [sum_loop (body := ref09_Proof_b6 l (i : Int) acc) acc ha (fun f n => (f, n)) (fun f y => f && !decide (y.From = l[i].From)) (fun f => Sum.inl (w64 ((i : Int) + 1), if f = true then acc ++ [l[i]] else acc)) (fun _ _ => True) (a := b) rfl trivial (fun f n hn _ => ⟨?_, trivial⟩) (fun f _ => ?_)]
 ·congr 3
  have key : ∀ (L : List api_Letter) (b : Bool), L.foldl (fun f y => f && !decide (y.From = l[i].From)) b = (b && !sameFrom L l[i]) := by
   intro L
   induction L with
   | nil => intro b; simp [sameFrom]
   | cons y L ih =>
    intro b
    rw [List.foldl_cons, ih]
    unfold sameFrom
    rw [List.any_cons, Bool.not_or, Bool.and_assoc]
  rw [key]
 ·unfold ref09_Proof_b6
  simp only [dlt hn, if_true, ix_nat hn, ix_nat hi, w64i hn ha]
  cases f <;> simp [gb]
 ·unfold ref09_Proof_b6
  simp only [dge, Bool.false_eq_true, if_false, ref09_Proof_j5, ix_nat hi, Option.bind_some]
  cases f with
  | true =>
   simp only [if_true]
   rw [app_ok (by simp; omega)]; rfl
  | false => rfl
theorem rprf_loop (c : api_Court) (l : List api_Letter) (hl : l.length ≤ 4000) (o : List api_Ruling) (k : Nat) (hk : k < o.length) : Lp (ref09_Proof_b3 c l o (k : Int)) fuel (0, []) = some ⟨prfS c l o[k], 0⟩ := by
 suffices h : ∃ s, Lp (ref09_Proof_b3 c l o (k : Int)) fuel (0, []) = some s ∧ s = ⟨prfS c l o[k], 0⟩ by obtain ⟨s, h, rfl⟩ := h; exact h
 refine lp_inv' (fun (i : Nat) (s : Int × List api_Letter) => s = ((i : Int), prfS c (l.take i) o[k])) _ l.length (by omega) rfl fun i s hi hI => ?_
 subst hI
 have hpl : (prfS c (l.take i) o[k]).length ≤ 4000 := by
  have := prf_len c (l.take i) o[k]
  rw [List.length_take] at this; omega
 unfold ref09_Proof_b3
 simp only [rMaj_eq]
 by_cases hlt : i < l.length
 ·by_cases hm : ((prfS c (l.take i) o[k]).length : Int) < majS c
  ·refine .inl ⟨hlt, _, ?_, rfl⟩
   simp only [dlt hlt, gb, if_true, Option.bind_some, Bool.true_and, decide_eq_true_eq, hm, ix_nat hlt, ix_nat hk]
   rw [prf_in c l _ i hlt hpl, prfS_take hlt, w64i hlt hl]
   unfold prF
   simp [hm]
  ·refine .inr ⟨⟨prfS c l o[k], 0⟩, ?_, rfl⟩
   simp only [dlt hlt, gb, if_true, Option.bind_some, Bool.true_and, decide_eq_true_eq, hm, if_false, ref09_Proof_j2, Option.map_some]
   rw [prf_stop (l := l) (i := i) (by omega)]
 ·have e : i = l.length := by omega
  subst e
  refine .inr ⟨⟨prfS c l o[k], 0⟩, ?_, rfl⟩
  simp only [dge, gb, Bool.false_eq_true, if_false, Option.bind_some, Bool.false_and, ref09_Proof_j2, Option.map_some, List.take_length]
theorem prf_loop (c : api_Court) (l : List api_Letter) (hl : l.length ≤ 4000) (o : List api_Ruling) (k : Nat) (hk : k < o.length) (hr : o[k].Case ≠ 0) : Lp (arbiter_Proof_b2 c l o (k : Int)) fuel (0, [], []) = some (prfS c l o[k], 0) := by
 suffices h : ∃ s, Lp (arbiter_Proof_b2 c l o (k : Int)) fuel (0, [], []) = some s ∧ s = (prfS c l o[k], 0) by obtain ⟨s, h, rfl⟩ := h; exact h
 refine lp_inv' (fun (i : Nat) (s : Int × List api_Letter × List (Int × Bool)) => ∃ m, s = ((i : Int), prfS c (l.take i) o[k], m) ∧ Seen m (prfS c (l.take i) o[k])) _ l.length (by omega) ⟨[], rfl, Seen_nil⟩ fun i s hi hI => ?_
 obtain ⟨m, rfl, hs⟩ := hI
 have hpl : (prfS c (l.take i) o[k]).length ≤ 4000 := by
  have := prf_len c (l.take i) o[k]
  rw [List.length_take] at this; omega
 unfold arbiter_Proof_b2
 by_cases hlt : i < l.length
 ·refine .inl ⟨hlt, ?_⟩
  simp only [dlt hlt, if_true, ix_nat hlt, ix_nat hk, Option.bind_some, Maj_eq, arbiter_Proof_j3, w64i hlt hl, prfS_take hlt, Seen_at hs]
  unfold prF
  by_cases hm : ((prfS c (l.take i) o[k]).length : Int) < majS c
  ·simp only [hm, gb, decide_true, if_true, Option.bind_some, Bool.true_and, shw_iff hr, true_and]
   cases hv : ref09_votesFor l[i] o[k] with
   | false => exact ⟨_, by simp, m, rfl, by simpa using hs⟩
   | true =>
    cases hf : sameFrom (prfS c (l.take i) o[k]) l[i] with
    | true => exact ⟨_, by simp, m, rfl, by simpa using hs⟩
    | false =>
     simp only [Bool.not_false, Bool.and_self, if_true, true_and]
     rw [app_ok (by simp; omega), Option.bind_some]
     exact ⟨_, rfl, _, rfl, Seen_put hs _⟩
  ·simp only [hm, gb, decide_false, Bool.false_eq_true, if_false, Option.bind_some, Bool.false_and, false_and]
   exact ⟨_, rfl, m, rfl, hs⟩
 ·have e : i = l.length := by omega
  subst e
  refine .inr ⟨(prfS c l o[k], 0), ?_, rfl⟩
  simp only [dge, Bool.false_eq_true, if_false, arbiter_Proof_j1, Option.map_some, List.take_length]
theorem Proof_eq (c : api_Court) (l : List api_Letter) (hl : l.length ≤ 4000) (o : List api_Ruling) (ho : o.length ≤ 4000) (h : readS c l = 0 → arbiter_rulings c l = some o ∧ ref09_rulings c l = some o ∧ RulOK c l o) (id : Int) : arbiter_Proof c l id = some (prfA c l o id) ∧ ref09_Proof c l id = some ⟨(prfA c l o id).1, (prfA c l o id).2⟩ := by
 unfold arbiter_Proof ref09_Proof prfA
 rw [read_eq c l hl, listed_eq c l hl]
 simp only [Option.bind_some]
 by_cases e : readS c l = 0
 ·obtain ⟨h1, h2, h3⟩ := h e
  have hro := readS_ok e
  simp only [e, decide_true, Bool.not_true, Bool.false_eq_true, if_false, if_true]
  show (if (!inI id 1 1099511627776) = true then _ else _) = _ ∧ (if (!inI id 1 1099511627776) = true then _ else _) = _
  cases e1 : inI id 1 1099511627776 with
  | false => simp
  | true =>
   simp only [Bool.not_true, Bool.false_eq_true, if_false, if_true, h1, h2, Option.bind_some]
   have hx : slices_IndexFunc_api_Ruling__arbiter_Proof_1 o id = some (ixOf (fun r => decide (r.Case = id)) o) := by
    unfold slices_IndexFunc_api_Ruling__arbiter_Proof_1
    refine ixOf_loop _ o ho (fun i hi => ?_) ?_
    ·unfold slices_IndexFunc_api_Ruling__arbiter_Proof_1_b2
     simp only [dlt hi, if_true, ix_nat hi, Option.bind_some, w64i hi ho, arbiter_Proof_1]
     by_cases hc' : o[i].Case = id <;> simp [hc']
    ·unfold slices_IndexFunc_api_Ruling__arbiter_Proof_1_b2
     simp [dge, slices_IndexFunc_api_Ruling__arbiter_Proof_1_j1]
   have hy : Lp (ref09_Proof_b7 c l id o) fuel 0 = ref09_Proof_j1 c l o (match o.findIdx? (fun r => decide (r.Case = id)) with | some k => (k : Int) | none => (o.length : Int)) := by
    have hz : ∀ k : Nat, (hk : k ≤ o.length) → ∃ v, ref09_Proof_j1 c l o (k : Int) = some v := fun k hk => by
     unfold ref09_Proof_j1
     by_cases q : k = o.length
     ·subst q; exact ⟨⟨[], 5⟩, by simp⟩
     ·have q' : ¬ (k : Int) = (o.length : Int) := by omega
      simp only [q', decide_false, Bool.false_eq_true, if_false]
      exact ⟨_, rprf_loop c l hl o k (by omega)⟩
    have hz2 : ∀ k : Nat, k ≤ o.length → ref09_Proof_j1 c l o (k : Int) = some ((ref09_Proof_j1 c l o (k : Int)).getD default) := fun k hk => by
     obtain ⟨v, hv⟩ := hz k hk
     rw [hv]; rfl
    have := find_loop (fun r : api_Ruling => decide (r.Case = id)) o ho (body := ref09_Proof_b7 c l id o) (fun k => (ref09_Proof_j1 c l o (k : Int)).getD default) ((ref09_Proof_j1 c l o (o.length : Int)).getD default) (fun i hi => by
     unfold ref09_Proof_b7
     simp only [dlt hi, gb, if_true, ix_nat hi, Option.bind_some, Bool.true_and, w64i hi ho]
     by_cases hc' : o[i].Case = id
     ·simp only [hc', decide_true, Bool.not_true, Bool.false_eq_true, if_false, if_true]
      rw [hz2 i (by omega)]; rfl
     ·simp [hc']) (by
     unfold ref09_Proof_b7
     simp only [dge, gb, Bool.false_eq_true, if_false, Option.bind_some, Bool.false_and]
     rw [hz2 o.length (Nat.le_refl _)]; rfl)
    rw [this]
    cases hf : o.findIdx? (fun r => decide (r.Case = id)) with
    | none => exact (hz2 _ (Nat.le_refl _)).symm
    | some k =>
     obtain ⟨q1, _⟩ := List.findIdx?_eq_some_iff_getElem.1 hf
     exact (hz2 k (by omega)).symm
   rw [hx, hy, Option.bind_some, find_idx]
   unfold ixOf
   cases hf : o.findIdx? (fun r => decide (r.Case = id)) with
   | none => exact ⟨by simp, by simp [ref09_Proof_j1]⟩
   | some k =>
    obtain ⟨q1, q2, _⟩ := List.findIdx?_eq_some_iff_getElem.1 hf
    have hk0 : o[k].Case ≠ 0 := by
     obtain ⟨⟨x, hx1, _, hx2⟩, _⟩ := (h3.mem o[k]).1 (List.getElem_mem q1)
     have := (fm_of (hro.2.2 x hx1)).case
     rw [← hx2]
     show x.Case ≠ 0
     omega
    have n1 : ¬ (k : Int) < 0 := by omega
    have n2 : ¬ (k : Int) = (o.length : Int) := by omega
    simp only [n1, decide_false, Bool.false_eq_true, if_false, prf_loop c l hl o k q1 hk0, ref09_Proof_j1, n2, rprf_loop c l hl o k q1, Option.bind_some, List.getElem?_eq_getElem q1]
    exact ⟨trivial, trivial⟩
 ·simp [e]
def ChkOK (c : api_Court) (l : List api_Letter) (x0 : api_Letter) : Prop := majS c ≤ (l.length : Int) ∧ l[0]? = some x0 ∧ ∀ i (h : i < l.length), ref09_votesFor l[i] (rulR x0) = true ∧ sameFrom (l.take i) l[i] = false
def ChkRes (c : api_Court) (l : List api_Letter) (r : api_Ruling × Int) : Prop := (∃ x0, ChkOK c l x0 ∧ r = (rulR x0, 0)) ∨ ((¬ ∃ x0, ChkOK c l x0) ∧ r = (⟨0, 0, 0⟩, 8))
theorem ChkRes_uniq {c : api_Court} {l : List api_Letter} {r r' : api_Ruling × Int} (h : ChkRes c l r) (h' : ChkRes c l r') : r = r' := by
 rcases h with ⟨x0, h1, rfl⟩ | ⟨h1, rfl⟩
 ·rcases h' with ⟨x1, h2, rfl⟩ | ⟨h2, rfl⟩
  ·have := h1.2.1.symm.trans h2.2.1
   simp only [Option.some.injEq] at this
   rw [this]
  ·exact absurd ⟨x0, h1⟩ h2
 ·rcases h' with ⟨x1, h2, rfl⟩ | ⟨h2, rfl⟩
  ·exact absurd ⟨x1, h2⟩ h1
  ·rfl
theorem maj_pos {c : api_Court} (hc : okC c = true) : 2 ≤ majS c ∧ majS c ≤ 4 := by
 obtain ⟨g1, g2⟩ := okC_spec hc
 unfold majS
 rw [if_pos hc]
 omega
theorem rchk_loop {c : api_Court} (hc : okC c = true) {l : List api_Letter} (hl : l.length ≤ 4000) (hm : majS c ≤ (l.length : Int)) : ∃ r, (Option.bind (ix l 0) fun x => Option.bind (ix l 0) fun x1 => Option.bind (ix l 0) fun x2 => Lp (ref09_CheckRuling_b2 l x x1 x2) fuel 0) = some r ∧ ChkRes c l r := by
 have h0 : 0 < l.length := by have := (maj_pos hc).1; omega
 have hix : ix l 0 = some l[0] := ix_nat h0
 simp only [hix, Option.bind_some]
 refine lp_inv' (fun (i : Nat) (s : Int) => s = (i : Int) ∧ ∀ j (h : j < l.length), j < i → ref09_votesFor l[j] (rulR l[0]) = true ∧ sameFrom (l.take j) l[j] = false) _ l.length (by omega) ⟨rfl, fun j _ h => by omega⟩ fun i s hi hI => ?_
 obtain ⟨rfl, hI⟩ := hI
 unfold ref09_CheckRuling_b2
 by_cases hlt : i < l.length
 ·simp only [dlt hlt, if_true, ix_nat hlt, Option.bind_some]
  have hin : ∀ b : Bool, Lp (ref09_CheckRuling_b4 l (i : Int)) fuel (b, 0) = some (if (b && !sameFrom (l.take i) l[i]) = true then .inl (w64 ((i : Int) + 1)) else .inr (⟨0, 0, 0⟩, 8)) := fun b => by
   have htl : (l.take i).length = i := by rw [List.length_take]; omega
   rw [sum_loop (body := ref09_CheckRuling_b4 l (i : Int)) (l.take i) (by omega) (fun f n => (f, n)) (fun f y => f && !decide (y.From = l[i].From)) (fun f => if f = true then Sum.inl (w64 ((i : Int) + 1)) else Sum.inr (⟨0, 0, 0⟩, 8)) (fun _ _ => True) (a := b) rfl trivial (fun f n hn _ => ⟨?_, trivial⟩) (fun f _ => ?_)]
   ·congr 2
    have key : ∀ (L : List api_Letter) (b : Bool), L.foldl (fun f y => f && !decide (y.From = l[i].From)) b = (b && !sameFrom L l[i]) := by
     intro L
     induction L with
     | nil => intro b; simp [sameFrom]
     | cons y L ih =>
      intro b
      rw [List.foldl_cons, ih]
      unfold sameFrom
      rw [List.any_cons, Bool.not_or, Bool.and_assoc]
    rw [key]
   ·rw [htl] at hn
    have hnl : n < l.length := by omega
    have hni : (n : Int) < (i : Int) := by omega
    unfold ref09_CheckRuling_b4
    simp only [hni, decide_true, if_true, ix_nat hnl, ix_nat hlt, w64i hnl hl, List.getElem_take]
    cases f <;> simp [gb]
   ·unfold ref09_CheckRuling_b4
    simp only [htl, dge, Bool.false_eq_true, if_false, ref09_CheckRuling_j3]
    cases f <;> rfl
  rw [hin]
  show _ ∨ _
  cases hb : (ref09_votesFor l[i] (rulR l[0]) && !sameFrom (l.take i) l[i]) with
  | true =>
   simp only [Bool.and_eq_true, Bool.not_eq_true'] at hb
   refine .inl ⟨hlt, ((i + 1 : Nat) : Int), ?_, rfl, fun j hj hji => ?_⟩
   ·have : (ref09_votesFor l[i] (rulR l[0]) && !sameFrom (l.take i) l[i]) = true := by rw [hb.1, hb.2]; rfl
    rw [if_pos (by exact this), w64i hlt hl]
   ·by_cases e : j = i
    ·subst e; exact hb
    ·exact hI j hj (by omega)
  | false =>
   refine .inr ⟨(⟨0, 0, 0⟩, 8), ?_, .inr ⟨?_, rfl⟩⟩
   ·rw [if_neg (by show ¬ (ref09_votesFor l[i] (rulR l[0]) && !sameFrom (l.take i) l[i]) = true; rw [hb]; simp)]
   ·rintro ⟨x0, _, h2, h3⟩
    rw [List.getElem?_eq_getElem h0] at h2
    simp only [Option.some.injEq] at h2
    have := h3 i hlt
    rw [← h2] at this
    rw [this.1, this.2] at hb
    cases hb
 ·have e : i = l.length := by omega
  subst e
  refine .inr ⟨(rulR l[0], 0), ?_, .inl ⟨l[0], ⟨hm, List.getElem?_eq_getElem h0, fun i h => hI i h h⟩, rfl⟩⟩
  simp only [dge, Bool.false_eq_true, if_false]
  rfl
theorem shw_eq {x : api_Letter} (h : x.Kind = 4) : arbiter_shows x = rulR x := by
 unfold arbiter_shows rulR
 simp [h]
theorem chk_loop {c : api_Court} (hc : okC c = true) {l : List api_Letter} (hl : l.length ≤ 4000) : ∃ r, Lp (arbiter_CheckRuling_b2 c l) fuel (0, []) = some r ∧ ChkRes c l r := by
 refine lp_inv' (fun (i : Nat) (s : Int × List (Int × Bool)) => ∃ m, s = ((i : Int), m) ∧ Seen m (l.take i) ∧ ∀ (h0 : 0 < l.length) j (h : j < l.length), j < i → ref09_votesFor l[j] (rulR l[0]) = true ∧ sameFrom (l.take j) l[j] = false) _ l.length (by omega) ⟨[], rfl, Seen_nil, fun _ j _ h => by omega⟩ fun i s hi hI => ?_
 obtain ⟨m, rfl, hs, hI⟩ := hI
 unfold arbiter_CheckRuling_b2
 by_cases hlt : i < l.length
 ·have h0 : 0 < l.length := by omega
  have hix : ix l 0 = some l[0] := ix_nat h0
  simp only [dlt hlt, if_true, ix_nat hlt, Option.bind_some, hix, w64i hlt hl, Seen_at hs]
  have bad : ¬ (ref09_votesFor l[i] (rulR l[0]) = true ∧ sameFrom (l.take i) l[i] = false) → ¬ ∃ x0, ChkOK c l x0 := fun hn ⟨x0, _, h2, h3⟩ => by
   rw [List.getElem?_eq_getElem h0] at h2
   simp only [Option.some.injEq] at h2
   have := h3 i hlt
   rw [← h2] at this
   exact hn this
  by_cases k4 : l[i].Kind = 4
  ·have k0 : l[0].Kind = 4 := by
    by_cases e : i = 0
    ·subst e; exact k4
    ·exact (vf_iff.1 (hI h0 0 h0 (by omega)).1).1
   simp only [k4, gb, decide_true, Bool.not_true, Bool.not_false, if_true, Option.bind_some, Bool.false_or, shw_eq k4, shw_eq k0]
   by_cases e2 : rulR l[i] = rulR l[0]
   ·cases e3 : sameFrom (l.take i) l[i] with
    | false =>
     refine .inl ⟨hlt, (((i + 1 : Nat) : Int), putM posI m l[i].From true), by simp [e2], _, rfl, ?_, fun _ j hj hji => ?_⟩
     ·rw [List.take_succ_eq_append_getElem hlt]; exact Seen_put hs _
     ·by_cases e : j = i
      ·subst e; exact ⟨vf_iff.2 ⟨k4, e2⟩, e3⟩
      ·exact hI h0 j hj (by omega)
    | true => exact .inr ⟨_, by simp, .inr ⟨bad (by rw [e3]; simp), rfl⟩⟩
   ·exact .inr ⟨_, by simp [e2], .inr ⟨bad fun h => e2 (vf_iff.1 h.1).2, rfl⟩⟩
  ·exact .inr ⟨_, by simp [k4, gb], .inr ⟨bad fun h => k4 (vf_iff.1 h.1).1, rfl⟩⟩
 ·have e : i = l.length := by omega
  subst e
  simp only [dge, Bool.false_eq_true, if_false, arbiter_CheckRuling_j1, Maj_eq, Option.bind_some, decide_eq_true_eq]
  by_cases hm : (l.length : Int) < majS c
  ·exact .inr ⟨_, by rw [if_pos hm]; rfl, .inr ⟨fun ⟨x0, h1, _⟩ => by omega, rfl⟩⟩
  ·have h0 : 0 < l.length := by have := (maj_pos hc).1; omega
   have hix : ix l 0 = some l[0] := ix_nat h0
   have := hI h0 0 h0 h0
   refine .inr ⟨(rulR l[0], 0), ?_, .inl ⟨l[0], ⟨by omega, List.getElem?_eq_getElem h0, fun i h => hI h0 i h h⟩, rfl⟩⟩
   rw [if_neg hm, hix, Option.bind_some, shw_eq (vf_iff.1 this.1).1]; rfl
theorem Chk_spec (c : api_Court) (l : List api_Letter) (hl : l.length ≤ 4000) : ∃ r, arbiter_CheckRuling c l = some r ∧ ref09_CheckRuling c l = some r ∧ ((readS c l ≠ 0 ∧ r = (⟨0, 0, 0⟩, readS c l)) ∨ (readS c l = 0 ∧ ChkRes c l r)) := by
 unfold arbiter_CheckRuling ref09_CheckRuling
 rw [read_eq c l hl, listed_eq c l hl]
 simp only [Option.bind_some]
 by_cases e : readS c l = 0
 ·have hc := (readS_ok e).1
  obtain ⟨r, h1, h2⟩ := chk_loop hc hl
  simp only [e, decide_true, Bool.not_true, Bool.false_eq_true, if_false, rMaj_eq, Option.bind_some, decide_eq_true_eq]
  refine ⟨r, h1, ?_, .inr ⟨trivial, h2⟩⟩
  by_cases hm : (l.length : Int) < majS c
  ·rw [if_pos hm]
   have : ChkRes c l (⟨0, 0, 0⟩, 8) := .inr ⟨fun ⟨x0, h1, _⟩ => by omega, rfl⟩
   rw [ChkRes_uniq h2 this]
  ·rw [if_neg hm]
   obtain ⟨r', h3, h4⟩ := rchk_loop hc hl (by omega)
   rw [h3, ChkRes_uniq h2 h4]
 ·simp only [e, decide_false, Bool.not_false, if_true]
  exact ⟨_, rfl, rfl, .inl ⟨e, rfl⟩⟩
theorem RulOK.len {c : api_Court} {l : List api_Letter} {o : List api_Ruling} (h : RulOK c l o) (hc : okC c = true) (hl : l.length ≤ 4000) : o.length ≤ l.length := by
 obtain ⟨o', _, h2, h3⟩ := rrul_eq c hc l hl
 rw [h.uniq h2]; exact h3
end Go.Mx
