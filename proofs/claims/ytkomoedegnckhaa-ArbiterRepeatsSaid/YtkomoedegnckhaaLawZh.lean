/- Plain laws, arbiters: what can still be ruled; the last vote. Conditions: none. -/
import Derived.Test.YtkomoedegnckhaaLawZg
set_option linter.unusedVariables false
set_option linter.unusedSimpArgs false
namespace Go.Mx
theorem del_loop {ρ : Type} (p : api_Letter → Bool) (l : List api_Letter) (hl : l.length ≤ 4000) {body : Int × Int × List api_Letter → Option ((Int × Int × List api_Letter) ⊕ ρ)} {r : ρ} (i0 : Nat) (hi0 : i0 < l.length) (hp0 : p l[i0] = false) (hp : ∀ j (h : j < l.length), j < i0 → p l[j] = true)
  (step : ∀ (i j : Nat) (L : List api_Letter) (hi : i < L.length) (hj : j < L.length), L.length = l.length → body ((i : Int), (j : Int), L) = some (.inl (if p L[j] = true then (((i + 1 : Nat) : Int), ((j + 1 : Nat) : Int), L.set i L[j]) else ((i : Int), ((j + 1 : Nat) : Int), L))))
  (last : ∀ L : List api_Letter, L.length = l.length → L.take (l.filter p).length = l.filter p → body (((l.filter p).length : Int), (L.length : Int), L) = some (.inr r)) : Lp body fuel ((i0 : Int), ((i0 + 1 : Nat) : Int), l) = some r := by
 suffices h : ∃ s, Lp body fuel ((i0 : Int), ((i0 + 1 : Nat) : Int), l) = some s ∧ s = r by obtain ⟨s, h, rfl⟩ := h; exact h
 have hfi : l.take i0 = (l.take i0).filter p := by
  rw [List.filter_eq_self.2]
  intro x hx
  obtain ⟨j, hj, rfl⟩ := List.getElem_of_mem hx
  rw [List.length_take] at hj
  rw [List.getElem_take]
  exact hp j (by omega) (by omega)
 refine lp_inv' (fun (n : Nat) (s : Int × Int × List api_Letter) => ∃ (j : Nat) (L : List api_Letter), s = ((((l.take j).filter p).length : Int), (j : Int), L) ∧ j = n + (i0 + 1) ∧ j ≤ l.length ∧ L.length = l.length ∧ L.take ((l.take j).filter p).length = (l.take j).filter p ∧ (∀ k, j ≤ k → L[k]? = l[k]?) ∧ ((l.take j).filter p).length < j) _ (l.length - (i0 + 1)) (by omega) ⟨i0 + 1, l, ?_, by omega, by omega, rfl, ?_, fun _ _ => rfl, ?_⟩ fun n s hn hI => ?_
 ·have e : (l.take (i0 + 1)).filter p = l.take i0 := by
   rw [List.take_succ_eq_append_getElem hi0, List.filter_append, ← hfi]
   simp [hp0]
  rw [e, List.length_take, Nat.min_eq_left (by omega)]
 ·have e : (l.take (i0 + 1)).filter p = l.take i0 := by
   rw [List.take_succ_eq_append_getElem hi0, List.filter_append, ← hfi]
   simp [hp0]
  rw [e, List.length_take, Nat.min_eq_left (by omega)]
 ·have e : (l.take (i0 + 1)).filter p = l.take i0 := by
   rw [List.take_succ_eq_append_getElem hi0, List.filter_append, ← hfi]
   simp [hp0]
  rw [e, List.length_take]; omega
 ·obtain ⟨j, L, rfl, hj, hjl, hL, h1, h2, h3⟩ := hI
  by_cases hlt : j < l.length
  ·have hjL : j < L.length := by omega
   have he : L[j] = l[j] := by
    have := h2 j (Nat.le_refl _)
    rw [List.getElem?_eq_getElem hjL, List.getElem?_eq_getElem hlt] at this
    exact Option.some.inj this
   refine .inl ⟨by omega, _, step _ j L (by omega) hjL hL, ?_⟩
   rw [he]
   by_cases hpj : p l[j] = true
   ·have ef : (l.take (j + 1)).filter p = (l.take j).filter p ++ [l[j]] := by
     rw [List.take_succ_eq_append_getElem hlt, List.filter_append]; simp [hpj]
    rw [if_pos hpj]
    refine ⟨j + 1, L.set ((l.take j).filter p).length l[j], ?_, by omega, by omega, by rw [List.length_set]; exact hL, ?_, fun k hk => ?_, ?_⟩
    ·rw [ef, List.length_append]; rfl
    ·rw [ef, List.length_append, List.length_singleton, List.take_succ_eq_append_getElem (by rw [List.length_set]; omega)]
     rw [List.take_set_of_le (Nat.le_refl _), h1]
     simp
    ·rw [List.getElem?_set_ne (by omega)]; exact h2 k (by omega)
    ·rw [ef, List.length_append, List.length_singleton]; omega
   ·have ef : (l.take (j + 1)).filter p = (l.take j).filter p := by
     rw [List.take_succ_eq_append_getElem hlt, List.filter_append]; simp [hpj]
    rw [if_neg hpj]
    exact ⟨j + 1, L, by rw [ef], by omega, by omega, hL, by rw [ef]; exact h1, fun k hk => h2 k (by omega), by rw [ef]; omega⟩
  ·have e : j = l.length := by omega
   subst e
   rw [List.take_length] at h1 h3 ⊢
   refine .inr ⟨r, ?_, rfl⟩
   have := last L hL h1
   rw [hL] at this
   exact this
theorem sub_clr {α : Type} {β : Type} {L : List α} {k : Nat} {z : α} (hk : k ≤ L.length) (h0 : 0 < L.length) (K : List α → Option β) : (Option.bind (sub L (k : Int) (L.length : Int)) fun _ => Option.bind (clrE L (k : Int) z) fun l4 => Option.bind (sub l4 0 (k : Int)) K) = K (L.take k) := by
 rw [sub_from hk, Option.bind_some]
 unfold clrE
 rw [if_pos ⟨h0, by omega, by omega⟩, Option.bind_some]
 have : k ≤ (L.take (k : Int).toNat ++ List.replicate (L.length - (k : Int).toNat) z).length := by simp; omega
 rw [sub_to this, Option.bind_some]
 congr 1
 simp [List.take_append_of_le_length, Nat.min_eq_left hk]
theorem ixOf_none {α : Type} {p : α → Bool} {l : List α} (h : ixOf p l = -1) : ∀ x ∈ l, p x = false := by
 unfold ixOf at h
 cases hf : l.findIdx? p with
 | none => exact fun x hx => List.findIdx?_eq_none_iff.1 hf x hx
 | some i => rw [hf] at h; simp only at h; omega
theorem ixOf_some {α : Type} {p : α → Bool} {l : List α} (h : ixOf p l ≠ -1) : ∃ i, ∃ hi : i < l.length, ixOf p l = (i : Int) ∧ p l[i] = true ∧ ∀ j (hj : j < l.length), j < i → p l[j] = false := by
 unfold ixOf at h ⊢
 cases hf : l.findIdx? p with
 | none => rw [hf] at h; exact absurd rfl h
 | some i =>
  obtain ⟨h1, h2, h3⟩ := List.findIdx?_eq_some_iff_getElem.1 hf
  exact ⟨i, h1, rfl, h2, fun j hj hji => by have := h3 j hji; simpa using this⟩
def inCase (k : Int) (x : api_Letter) : Bool := decide (x.Case = k)
def opS (l : List api_Letter) (a k r : Int) : Bool := !l.any fun x => wrdS a k x && (decide (r < x.Round) || (decide (x.Round = r) && decide (x.Kind = 4)))
def caS (l : List api_Letter) (k r : Int) (a : Nat) : Bool := opS l (a : Int) k r || (match prpS l k r with | some y => vtB l ⟨k, r, y.Finding⟩ a | none => false)
def canN (c : api_Court) (l : List api_Letter) (k r : Int) : Int := (cnt (caS l k r) c.Arbiters.toNat : Nat)
def canE (c : api_Court) (l : List api_Letter) (k r : Int) : Int × Bool × Bool × Int := match prpS l k r with
 | some y => if majS c ≤ canN c l k r then (y.Finding, true, false, 0) else (0, false, false, 0)
 | none => (0, false, decide (majS c ≤ canN c l k r), 0)
def canS (c : api_Court) (l : List api_Letter) (k r : Int) : Int × Bool × Bool × Int := if readS c l = 0 then (if inI k 1 1099511627776 = true ∧ inI r 1 1048576 = true then canE c l k r else (0, false, false, 1)) else (0, false, false, readS c l)
theorem putM_end {m : List (Int × Bool)} {a : Int} {v : Bool} (h : ∀ p ∈ m, p.1 < a) : putM posI m a v = m ++ [(a, v)] := by
 have hno : findK a m = none := by
  cases hf : findK a m with
  | none => rfl
  | some i =>
   have hs := findK_spec (k := a) (l := m)
   rw [hf] at hs
   obtain ⟨w, h1, _⟩ := hs
   have := h _ (List.mem_of_getElem? h1)
   simp only at this; omega
 have hpos : posI a (m.map (·.1)) = m.length := by
  clear hno
  induction m with
  | nil => rfl
  | cons p r ih =>
   simp only [List.map_cons, posI, List.length_cons]
   rw [if_pos (h p List.mem_cons_self), ih fun q hq => h q (List.mem_cons_of_mem _ hq)]
 unfold putM
 rw [hno, hpos]
 clear hno hpos h
 induction m with
 | nil => rfl
 | cons p r ih => simp only [List.length_cons, insL, List.cons_append, ih]
theorem has_Can2 (l : List api_Letter) (hl : l.length ≤ 4000) (a r : Int) : slices_ContainsFunc_api_Letter__arbiter_Can_2 l a r = some (l.any fun x => arbiter_Can_2 x a r) := by
 unfold slices_ContainsFunc_api_Letter__arbiter_Can_2 slices_IndexFunc_api_Letter__arbiter_Can_2
 rw [ixOf_loop (fun x => arbiter_Can_2 x a r) l hl (fun i hi => by
  unfold slices_IndexFunc_api_Letter__arbiter_Can_2_b2
  simp only [dlt hi, if_true, ix_nat hi, Option.bind_some, w64i hi hl]
  split <;> rfl) (by
  unfold slices_IndexFunc_api_Letter__arbiter_Can_2_b2
  simp [dge, slices_IndexFunc_api_Letter__arbiter_Can_2_j1])]
 simp only [Option.bind_some, ixOf_any]
theorem ix_Can3 (l : List api_Letter) (hl : l.length ≤ 4000) (r : Int) : slices_IndexFunc_api_Letter__arbiter_Can_3 l r = some (ixOf (fun x => arbiter_Can_3 x r) l) := by
 unfold slices_IndexFunc_api_Letter__arbiter_Can_3
 refine ixOf_loop (fun x => arbiter_Can_3 x r) l hl (fun i hi => ?_) ?_
 ·unfold slices_IndexFunc_api_Letter__arbiter_Can_3_b2
  simp only [dlt hi, if_true, ix_nat hi, Option.bind_some, w64i hi hl]
  split <;> rfl
 ·unfold slices_IndexFunc_api_Letter__arbiter_Can_3_b2
  simp [dge, slices_IndexFunc_api_Letter__arbiter_Can_3_j1]
def can4 (a r f : Int) (x : api_Letter) : Bool := decide (x.Kind = 4) && decide (x.From = a) && decide (x.Round = r) && decide (x.Finding = f)
theorem has_Can4 (l : List api_Letter) (hl : l.length ≤ 4000) (a r : Int) {i : Nat} (hi : i < l.length) : slices_ContainsFunc_api_Letter__arbiter_Can_4 l a r l (i : Int) = some (l.any (can4 a r l[i].Finding)) := by
 unfold slices_ContainsFunc_api_Letter__arbiter_Can_4 slices_IndexFunc_api_Letter__arbiter_Can_4
 have h4 : ∀ x, arbiter_Can_4 x a r l (i : Int) = some (can4 a r l[i].Finding x) := fun x => by
  unfold arbiter_Can_4 can4
  rw [ix_nat hi, gb_some]
  intro h; rw [h]; rfl
 rw [ixOf_loop (can4 a r l[i].Finding) l hl (fun j hj => by
  unfold slices_IndexFunc_api_Letter__arbiter_Can_4_b2
  simp only [dlt hj, if_true, ix_nat hj, Option.bind_some, w64i hj hl, h4]
  split <;> rfl) (by
  unfold slices_IndexFunc_api_Letter__arbiter_Can_4_b2
  simp [dge, slices_IndexFunc_api_Letter__arbiter_Can_4_j1])]
 simp only [Option.bind_some, ixOf_any]
theorem fold_can (q : Nat → Bool) (r : Int) (x : List api_Letter) (y1 : Int) : ∀ (n m : Nat) (s : Int), m + n ≤ 7 → 0 ≤ s → s ≤ m → (∀ a v k, arbiter_Can_b4 r x y1 ((a : Nat), v) k = some (if (v || q a) = true then w64 (k + 1) else k)) → ∀ (op : Nat → Bool), foldO (arbiter_Can_b4 r x y1) ((List.range' m n).map fun a : Nat => ((a : Int), op a)) s = some (s + (((List.range' m n).filter fun a => op a || q a).length : Nat))
 | 0, m, s, _, _, _, _, op => by simp [foldO]
 | n + 1, m, s, h1, h2, h3, hb, op => by
  simp only [List.range'_succ, List.map_cons, foldO, hb, Option.bind_some, List.filter_cons]
  cases hq : op m || q m with
  | true =>
   simp only [if_true]
   rw [w64_id (by omega) (by omega), fold_can q r x y1 n (m + 1) (s + 1) (by omega) (by omega) (by omega) hb op]
   simp only [List.length_cons]
   congr 1; omega
  | false =>
   simp only [Bool.false_eq_true, if_false]
   exact fold_can q r x y1 n (m + 1) s (by omega) (by omega) (by omega) hb op
theorem canJ_eq (c : api_Court) (hc : okC c = true) (l : List api_Letter) (hl : l.length ≤ 4000) (k r : Int) : arbiter_Can_j1 c r (l.filter (inCase k)) = some (canE c l k r) := by
 obtain ⟨g1, g2⟩ := okC_spec hc
 have hX : (l.filter (inCase k)).length ≤ 4000 := Nat.le_trans (List.length_filter_le _ _) hl
 have hop : ∀ a : Int, (!(l.filter (inCase k)).any fun x => arbiter_Can_2 x a r) = opS l a k r := fun a => by
  unfold opS
  rw [List.any_filter]
  congr 2
  funext x
  unfold inCase arbiter_Can_2 wrdS arbiter_word
  cases decide (x.Case = k) <;> cases decide (x.From = a) <;> cases decide (x.Kind = 2) <;> cases decide (x.Kind = 4) <;> cases decide (x.Round = r) <;> cases decide (r < x.Round) <;> rfl
 have hprp : (l.filter (inCase k)).find? (fun x => arbiter_Can_3 x r) = prpS l k r := by
  unfold prpS
  rw [List.find?_filter]
  congr 1
  funext x
  unfold inCase arbiter_Can_3 isK
  cases decide (x.Case = k) <;> cases decide (x.Kind = 3) <;> cases decide (x.Round = r) <;> rfl
 have hfin : arbiter_Can_j2 c r (l.filter (inCase k)) ((List.range' 0 c.Arbiters.toNat).map fun a : Nat => ((a : Int), opS l (a : Int) k r)) = some (canE c l k r) := by
  unfold arbiter_Can_j2
  rw [ix_Can3 _ hX, Option.bind_some]
  cases hf : (l.filter (inCase k)).findIdx? (fun x => arbiter_Can_3 x r) with
  | none =>
   have hn : ixOf (fun x => arbiter_Can_3 x r) (l.filter (inCase k)) = -1 := by unfold ixOf; rw [hf]
   have hp : prpS l k r = none := by rw [← hprp, find_idx, hf]; rfl
   rw [hn, fold_can (fun _ => false) r _ (-1) c.Arbiters.toNat 0 0 (by omega) (Int.le_refl _) (Int.le_refl _) (fun a v n => by
    unfold arbiter_Can_b4 arbiter_Can_j5
    simp only [gb]
    cases v <;> simp), Option.bind_some]
   unfold arbiter_Can_j6 arbiter_Can_j3
   simp only [Maj_eq, Option.bind_some]
   unfold canE canN caS
   rw [hp]
   simp only [Bool.or_false, cnt_filter, ← List.range_eq_range']
   simp
  | some i =>
   obtain ⟨hi, h1, _⟩ := List.findIdx?_eq_some_iff_getElem.1 hf
   have hn : ixOf (fun x => arbiter_Can_3 x r) (l.filter (inCase k)) = (i : Int) := by unfold ixOf; rw [hf]
   have hp : prpS l k r = some (l.filter (inCase k))[i] := by rw [← hprp, find_idx, hf]; simp [List.getElem?_eq_getElem hi]
   have hq : ∀ a : Nat, (l.filter (inCase k)).any (can4 (a : Int) r (l.filter (inCase k))[i].Finding) = vtB l ⟨k, r, (l.filter (inCase k))[i].Finding⟩ a := fun a => by
    unfold vtB
    rw [List.any_filter]
    congr 1
    funext x
    unfold inCase can4 ref09_votesFor
    cases decide (x.Case = k) <;> cases decide (x.Kind = 4) <;> cases decide (x.From = (a : Int)) <;> cases decide (x.Round = r) <;> simp
   rw [hn, fold_can (fun a => vtB l ⟨k, r, (l.filter (inCase k))[i].Finding⟩ a) r _ (i : Int) c.Arbiters.toNat 0 0 (by omega) (Int.le_refl _) (Int.le_refl _) (fun a v n => by
    unfold arbiter_Can_b4 arbiter_Can_j5
    dsimp only
    rw [has_Can4 _ hX _ _ hi, hq]
    have hi0 : (0 : Int) ≤ (i : Int) := by omega
    simp only [hi0, decide_true, Bool.and_true, Bool.true_and, gb]
    cases v with
    | true => simp
    | false =>
     simp only [Bool.not_false, if_true, Option.bind_some, Bool.false_or]
     split <;> rfl), Option.bind_some]
   unfold arbiter_Can_j6 arbiter_Can_j3
   have hneg : ¬ (i : Int) < 0 := by omega
   simp only [hneg, decide_false, Bool.false_eq_true, if_false, Maj_eq, Option.bind_some, ix_nat hi, decide_eq_true_eq]
   unfold canE canN caS
   rw [hp]
   simp only [cnt_filter, ← List.range_eq_range', Int.zero_add]
   split <;> rfl
 unfold arbiter_Can_j1
 suffices h : ∃ s, Lp (arbiter_Can_b7 c r (l.filter (inCase k))) fuel (0, []) = some s ∧ s = canE c l k r by obtain ⟨s, h, rfl⟩ := h; exact h
 refine lp_inv' (fun (i : Nat) (s : Int × List (Int × Bool)) => s = ((i : Int), (List.range' 0 i).map fun a : Nat => ((a : Int), opS l (a : Int) k r))) _ c.Arbiters.toNat (by omega) rfl fun i s hi hI => ?_
 subst hI
 by_cases hlt : i < c.Arbiters.toNat
 ·have : (i : Int) < c.Arbiters := by omega
  refine .inl ⟨hlt, _, ?_, rfl⟩
  unfold arbiter_Can_b7
  simp only [this, decide_true, if_true, has_Can2 _ hX, Option.bind_some, hop, w64s i (by omega)]
  rw [putM_end fun p hp => by
   obtain ⟨a, ha, rfl⟩ := List.mem_map.1 hp
   have := List.mem_range'_1.1 ha
   simp only; omega]
  rw [List.range'_concat, List.map_append]
  simp
 ·have : i = c.Arbiters.toNat := by omega
  subst this
  have : ¬ ((c.Arbiters.toNat : Nat) : Int) < c.Arbiters := by omega
  refine .inr ⟨_, ?_, rfl⟩
  unfold arbiter_Can_b7
  simp only [this, decide_false, Bool.false_eq_true, if_false, hfin, Option.map_some]
theorem Can_eq (c : api_Court) (l : List api_Letter) (hl : l.length ≤ 4000) (k r : Int) : arbiter_Can c l k r = some (canS c l k r) := by
 unfold arbiter_Can canS
 rw [read_eq c l hl, Option.bind_some]
 by_cases e : readS c l = 0
 ·have hc := (readS_ok e).1
  simp only [e, decide_true, Bool.not_true, Bool.false_eq_true, if_false, if_true]
  show (if (!inI k 1 1099511627776 || !inI r 1 1048576) = true then _ else _) = _
  cases e1 : inI k 1 1099511627776 with
  | false => simp
  | true =>
   cases e2 : inI r 1 1048576 with
   | false => simp
   | true =>
    simp only [Bool.not_true, Bool.or_self, Bool.false_eq_true, if_false, and_self, if_true]
    rw [app_ok (by simp; omega), Option.bind_some, List.nil_append]
    have hx : slices_IndexFunc_api_Letter__arbiter_Can_1 l k = some (ixOf (fun x => !inCase k x) l) := by
     unfold slices_IndexFunc_api_Letter__arbiter_Can_1
     refine ixOf_loop _ l hl (fun i hi => ?_) ?_
     ·unfold slices_IndexFunc_api_Letter__arbiter_Can_1_b2
      simp only [dlt hi, if_true, ix_nat hi, Option.bind_some, w64i hi hl, arbiter_Can_1, inCase]
      by_cases hc' : l[i].Case = k <;> simp [hc']
     ·unfold slices_IndexFunc_api_Letter__arbiter_Can_1_b2
      simp [dge, slices_IndexFunc_api_Letter__arbiter_Can_1_j1]
    rw [hx, Option.bind_some]
    by_cases hn : ixOf (fun x => !inCase k x) l = -1
    ·simp only [hn, decide_true, if_true]
     have := canJ_eq c hc l hl k r
     rw [List.filter_eq_self.2 fun x hx => by have := ixOf_none hn x hx; simpa using this] at this
     exact this
    ·simp only [hn, decide_false, Bool.false_eq_true, if_false]
     obtain ⟨i0, hi0, h1, h2, h3⟩ := ixOf_some hn
     rw [h1, w64i hi0 hl]
     refine del_loop (inCase k) l hl i0 hi0 (by simpa using h2) (fun j hj hji => by have := h3 j hj hji; simpa using this) (fun i j L hi hj' hL => ?_) (fun L hL hT => ?_)
     ·unfold arbiter_Can_b9
      simp only [dlt hj', if_true, ix_nat hj', Option.bind_some, arbiter_Can_1, ix_nat hi, arbiter_Can_j10, w64i hi (by omega), w64i hj' (by omega), Bool.not_not, put_nat, inCase]
      by_cases hc' : L[j].Case = k <;> simp [hc']
     ·unfold arbiter_Can_b9
      simp only [dge, Bool.false_eq_true, if_false]
      have hfl : (l.filter (inCase k)).length ≤ L.length := by rw [hL]; exact List.length_filter_le _ _
      have : arbiter_Can_j8 c r ((l.filter (inCase k)).length : Int) L = arbiter_Can_j1 c r (L.take (l.filter (inCase k)).length) := sub_clr hfl (by omega) _
      rw [this, hT, canJ_eq c hc l hl k r]
      rfl
 ·simp [e]
end Go.Mx
