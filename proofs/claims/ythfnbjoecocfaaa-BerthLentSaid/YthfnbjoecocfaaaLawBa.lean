/- Plain laws of leases, first part: they are checked, and put in order. Conditions: none. -/
import Derived.Test.YthfnbjoecocfaaaLawB0
set_option linter.unusedVariables false
set_option linter.unusedSimpArgs false
namespace Go.Mx

/-- An element, or nothing there. -/
def gL (l : List api_Lease) (i : Nat) : api_Lease := l.getD i default
theorem gL_get {l : List api_Lease} {i : Nat} (h : i < l.length) : gL l i = l[i] := by simp [gL, List.getD_eq_getElem?_getD, h]
theorem ix_gL {l : List api_Lease} {i : Nat} (h : i < l.length) : ix l (i : Int) = some (gL l i) := by rw [ix_lt h, gL_get h]

/-! Leases are checked. -/
def badL (x : api_Lease) : Bool := ((((!(decide (1 ≤ x.ID) && decide (x.ID ≤ 1099511627776))) || (!(decide (1 ≤ x.Heap) && decide (x.Heap ≤ 1099511627776)))) || (decide (x.Span.Lo < 0))) || (decide (x.Span.Hi < x.Span.Lo))) || (decide (1048576 < x.Span.Hi))
def hasID (p : List api_Lease) (id : Int) : Bool := p.any fun y => decide (y.ID = id)
def chkL : List api_Lease → List api_Lease → Int
  | _, [] => 0
  | p, x :: r => if badL x = true then 1 else if hasID p x.ID = true then 6 else chkL (p ++ [x]) r
def chk (l : List api_Lease) : Int := if 40 < (l.length : Int) then 2 else chkL [] l
theorem firstL (l : List api_Lease) (hl : Len l) (id : Int) : ∃ r, berth_first_api_Lease__berth_leaseID l id = some r ∧ ((∃ k : Nat, r = (k : Int) ∧ k < l.length ∧ (gL l k).ID = id ∧ ∀ j, j < k → (gL l j).ID ≠ id) ∨ (r = -1 ∧ ∀ j, j < l.length → (gL l j).ID ≠ id)) := by
  unfold berth_first_api_Lease__berth_leaseID slices_IndexFunc_api_Lease__berth_first_api_Lease_1__berth_leaseID
  unfold Len at hl
  suffices h : ∃ r, Lp (slices_IndexFunc_api_Lease__berth_first_api_Lease_1__berth_leaseID_b2 l id) fuel 0 = some r ∧ ((∃ k : Nat, r = (k : Int) ∧ k < l.length ∧ (gL l k).ID = id ∧ ∀ j, j < k → (gL l j).ID ≠ id) ∨ (r = -1 ∧ ∀ j, j < l.length → (gL l j).ID ≠ id)) by
    obtain ⟨r, h1, h2⟩ := h
    exact ⟨r, by rw [h1]; rfl, h2⟩
  refine lp_inv' (fun i s => s = (i : Int) ∧ ∀ j, j < i → (gL l j).ID ≠ id) _ l.length (by omega) ⟨rfl, fun j h => by omega⟩ fun i s hi hI => ?_
  obtain ⟨rfl, hI⟩ := hI
  unfold slices_IndexFunc_api_Lease__berth_first_api_Lease_1__berth_leaseID_b2
  by_cases h : i < l.length
  · rw [if_pos (by simpa using h), ix_gL h, Option.bind_some]
    by_cases hc : (gL l i).ID = id
    · rw [if_pos (by unfold berth_first_api_Lease_1__berth_leaseID berth_leaseID; simpa using hc)]
      exact .inr ⟨_, rfl, .inl ⟨i, rfl, h, hc, hI⟩⟩
    · rw [if_neg (by unfold berth_first_api_Lease_1__berth_leaseID berth_leaseID; simpa using hc), w64s' h hl]
      refine .inl ⟨h, _, rfl, rfl, fun j hj => ?_⟩
      by_cases e : j = i
      · subst e; exact hc
      · exact hI j (by omega)
  · rw [if_neg (by simpa using h)]
    exact .inr ⟨-1, rfl, .inr ⟨rfl, fun j hj => hI j (by omega)⟩⟩
theorem hasID_take (l : List api_Lease) (i : Nat) (hi : i ≤ l.length) (id : Int) : hasID (l.take i) id = true ↔ ∃ j, j < i ∧ (gL l j).ID = id := by
  unfold hasID
  rw [List.any_eq_true]
  constructor
  · rintro ⟨x, hx, hd⟩
    obtain ⟨j, hj, rfl⟩ := List.getElem_of_mem hx
    rw [List.length_take] at hj
    refine ⟨j, by omega, ?_⟩
    rw [gL_get (by omega)]
    simpa using hd
  · rintro ⟨j, hj, e⟩
    refine ⟨gL l j, ?_, by simpa using e⟩
    rw [gL_get (by omega), List.mem_iff_getElem]
    exact ⟨j, by rw [List.length_take]; omega, by simp⟩
theorem bcheck_eq (l : List api_Lease) (hl : Len l) : berth_CheckLeases l = some (chk l) := by
  unfold berth_CheckLeases chk
  by_cases h1 : 40 < (l.length : Int)
  · rw [if_pos (by simpa using h1), if_pos h1]
  · rw [if_neg (by simpa using h1), if_neg h1]
    refine lp_list (body := berth_CheckLeases_b2 l) l hl (fun (_ : List api_Lease) i => i) chkL (fun i p => p = l.take i) rfl (by simp) (fun p i hi hJ => ?_) (fun p hJ => ?_)
    · subst hJ
      unfold berth_CheckLeases_b2
      simp only [chkL]
      rw [if_pos (by simpa using hi), ix_lt hi, Option.bind_some, w64s' hi hl]
      by_cases hb : badL l[i] = true
      · exact .inr (by rw [if_pos (by simpa [badL, berth_within] using hb), if_pos hb])
      · rw [if_neg (by simpa [badL, berth_within] using hb), if_neg hb]
        obtain ⟨r, e, hr⟩ := firstL l hl l[i].ID
        rw [e, Option.bind_some]
        have hg := gL_get hi
        by_cases hh : hasID (l.take i) l[i].ID = true
        · right
          rw [if_pos hh]
          obtain ⟨j, hj, hj2⟩ := (hasID_take l i (by omega) _).1 hh
          rw [if_pos]
          rw [decide_eq_true_eq]
          rcases hr with ⟨k, rfl, h3, h4, h5⟩ | ⟨rfl, h3⟩
          · rcases Nat.lt_or_ge j k with h | h
            · exact absurd hj2 (h5 j h)
            · omega
          · exact absurd hj2 (h3 j (by omega))
        · left
          rw [if_neg hh, if_neg]
          · exact ⟨_, rfl, rfl, (List.take_append_getElem hi)⟩
          · rw [decide_eq_true_eq]
            intro hlt
            rcases hr with ⟨k, rfl, h3, h4, h5⟩ | ⟨rfl, h3⟩
            · exact hh ((hasID_take l i (by omega) _).2 ⟨k, by omega, h4⟩)
            · exact h3 i hi (by rw [hg])
    · unfold berth_CheckLeases_b2; simp only; rw [if_neg (by simp)]; rfl
/-- Leases that are right. -/
structure GoodL (x : api_Lease) : Prop where
  i0 : 1 ≤ x.ID
  i1 : x.ID ≤ 1099511627776
  h0 : 1 ≤ x.Heap
  h1 : x.Heap ≤ 1099511627776
  lo : 0 ≤ x.Span.Lo
  lh : x.Span.Lo ≤ x.Span.Hi
  hi : x.Span.Hi ≤ 1048576
theorem badL_good {x : api_Lease} (h : ¬ badL x = true) : GoodL x := by
  unfold badL at h
  simp only [Bool.or_eq_true, Bool.not_eq_true', Bool.and_eq_false_iff, decide_eq_false_iff_not, decide_eq_true_eq, not_or] at h
  exact ⟨by omega, by omega, by omega, by omega, by omega, by omega, by omega⟩
theorem GoodL.bad {x : api_Lease} (h : GoodL x) : ¬ badL x = true := by
  have := h.i0
  have := h.i1
  have := h.h0
  have := h.h1
  have := h.lo
  have := h.lh
  have := h.hi
  unfold badL
  simp only [Bool.or_eq_true, Bool.not_eq_true', Bool.and_eq_false_iff, decide_eq_false_iff_not, decide_eq_true_eq, not_or]
  omega
theorem chkL_zero : ∀ (r p : List api_Lease), (∀ x ∈ r, GoodL x) → (∀ x ∈ r, hasID p x.ID = false) → (r.Pairwise fun x y => x.ID ≠ y.ID) → chkL p r = 0
  | [], p, _, _, _ => rfl
  | x :: r, p, h1, h2, h3 => by
    rw [List.pairwise_cons] at h3
    unfold chkL
    rw [if_neg (h1 x List.mem_cons_self).bad, if_neg (by rw [h2 x List.mem_cons_self]; decide)]
    refine chkL_zero r (p ++ [x]) (fun y hy => h1 y (List.mem_cons_of_mem _ hy)) (fun y hy => ?_) h3.2
    have := h2 y (List.mem_cons_of_mem _ hy)
    unfold hasID at this ⊢
    rw [List.any_append, this]
    simpa using h3.1 y hy
theorem chkL_good : ∀ (r p : List api_Lease), chkL p r = 0 → (∀ x ∈ r, GoodL x) ∧ (∀ x ∈ r, hasID p x.ID = false) ∧ r.Pairwise fun x y => x.ID ≠ y.ID
  | [], p, h => by simp
  | x :: r, p, h => by
    unfold chkL at h
    split at h
    · cases h
    · rename_i hb
      split at h
      · cases h
      · rename_i hh
        obtain ⟨h1, h2, h3⟩ := chkL_good r (p ++ [x]) h
        have h4 : ∀ y ∈ r, hasID p y.ID = false ∧ x.ID ≠ y.ID := fun y hy => by
          have := h2 y hy
          unfold hasID at this ⊢
          rw [List.any_append, Bool.or_eq_false_iff] at this
          exact ⟨this.1, by simpa using this.2⟩
        refine ⟨fun y hy => ?_, fun y hy => ?_, List.pairwise_cons.2 ⟨fun y hy => (h4 y hy).2, h3⟩⟩
        · rcases List.mem_cons.1 hy with rfl | hy
          · exact badL_good hb
          · exact h1 y hy
        · rcases List.mem_cons.1 hy with rfl | hy
          · simpa using hh
          · exact (h4 y hy).1
theorem chk_good {l : List api_Lease} (h : chk l = 0) : l.length ≤ 40 ∧ (∀ x ∈ l, GoodL x) ∧ l.Pairwise fun x y => x.ID ≠ y.ID := by
  unfold chk at h
  split at h
  · cases h
  · have := chkL_good l [] h
    exact ⟨by omega, this.1, this.2.2⟩

/-! Their order: by beginnings, and of equal ones by places. -/
/-- Numbers as the program has them. -/
def cN (l : List Nat) : List Int := l.map fun (i : Nat) => (i : Int)
theorem cN_len (l : List Nat) : (cN l).length = l.length := by simp [cN]
def loL (l : List api_Lease) (i : Nat) : Int := (gL l i).Span.Lo
def ordL (l : List api_Lease) : Nat → List Nat
  | 0 => []
  | n + 1 => insB (fun k => decide (loL l k ≤ loL l n)) (ordL l n) n
theorem ordL_perm (l : List api_Lease) : ∀ n, (ordL l n).Perm (List.range n)
  | 0 => List.Perm.refl _
  | n + 1 => by
    unfold ordL
    refine (insB_perm _ _ _).trans ?_
    rw [List.range_succ]
    exact (List.Perm.cons n (ordL_perm l n)).trans (List.perm_append_comm (l₁ := [n]))
theorem ordL_len (l : List api_Lease) (n : Nat) : (ordL l n).length = n := by rw [(ordL_perm l n).length_eq, List.length_range]
theorem ordL_lt {l : List api_Lease} {n k : Nat} (h : k ∈ ordL l n) : k < n := by rw [(ordL_perm l n).mem_iff, List.mem_range] at h; exact h
theorem ordL_sorted (l : List api_Lease) : ∀ n, (ordL l n).Pairwise fun a b => loL l a ≤ loL l b
  | 0 => List.Pairwise.nil
  | n + 1 => by
    unfold ordL
    exact insB_sorted (le := fun a b => loL l a ≤ loL l b) (fun a b c h1 h2 => Int.le_trans h1 h2) (fun a h => of_decide_eq_true h) (fun a h => by have := of_decide_eq_false h; omega) (ordL_sorted l n)
/-- The order of leases. -/
def ord (l : List api_Lease) : List Nat := ordL l l.length
/-- A lease with its place. -/
def tn (l : List api_Lease) (i : Nat) : berth_turn := ⟨gL l i, (i : Int)⟩
def tls (l : List api_Lease) (o : List Nat) : List berth_turn := o.map (tn l)
theorem tls_len (l : List api_Lease) (o : List Nat) : (tls l o).length = o.length := by simp [tls]
theorem compare_neg (x y : Int) : (cmp_Compare_int x y < 0) ↔ x < y := by
  unfold cmp_Compare_int cmp_isNaN_int
  simp only [decide_true, Bool.not_true, Bool.false_eq_true, if_false, decide_eq_true_eq]
  split
  · exact ⟨fun _ => by assumption, fun _ => by omega⟩
  · split <;> exact ⟨fun h => by omega, fun h => by omega⟩
def ltL (l : List api_Lease) (a b : Nat) : Bool := decide (loL l a < loL l b)
theorem turn_ins {ρ : Type} (l : List api_Lease) {body : (Int × List berth_turn) → Option ((Int × List berth_turn) ⊕ ρ)} (i : Nat) (fin : List berth_turn → ρ)
    (hb : ∀ (j : Int) (x : List berth_turn), body (j, x) = gb (decide ((0 : Int) < j)) (ix x j) fun a => gb (decide ((0 : Int) < j)) (ix x (w64 (j - 1))) fun b => if decide ((0 : Int) < j) && decide (berth_turns_1 a b < 0) then Option.bind (ix x (w64 (j - 1))) fun x2 => Option.bind (ix x j) fun x3 => Option.bind (ix x j) fun _ => Option.bind (ix (put x j x2) (w64 (j - 1))) fun _ => some (.inl (w64 (j - 1), put (put x j x2) (w64 (j - 1)) x3)) else some (.inr (fin x))) (rest : List Nat) :
    ∀ (A B : List Nat) (m : Nat), A.length < m → A.length ≤ 40 → Lp body m ((A.length : Int), tls l (A.reverse ++ i :: (B ++ rest))) = some (fin (tls l (insR (ltL l) i A B ++ rest)))
  | [], B, m, hm, _ => by
    obtain ⟨n, rfl⟩ : ∃ n, m = n + 1 := ⟨m - 1, by simp at hm; omega⟩
    refine lp_done n ?_
    rw [hb]
    simp only [List.length_nil, Int.natCast_zero, Int.lt_irrefl, decide_false, gb, Bool.false_eq_true, if_false, Option.bind_some, Bool.false_and]
    rfl
  | a :: A, B, m, hm, h8 => by
    obtain ⟨n, rfl⟩ : ∃ n, m = n + 1 := ⟨m - 1, by simp at hm; omega⟩
    have hlen : A.length ≤ 39 := by simp at h8; omega
    have e1 : tls l ((a :: A).reverse ++ i :: (B ++ rest)) = tls l A.reverse ++ tn l a :: tn l i :: tls l (B ++ rest) := by simp [tls]
    have eP : (tls l A.reverse).length = A.length := by simp [tls]
    have hj : (((a :: A).length : Nat) : Int) = ((A.length + 1 : Nat) : Int) := by simp
    have hj1 : w64 (((A.length + 1 : Nat) : Int) - 1) = (A.length : Int) := by rw [w64_id (by omega) (by omega)]; omega
    have i0 := ix_mid0 (tls l A.reverse) (tls l (B ++ rest)) (tn l a) (tn l i)
    have i1 := ix_mid1 (tls l A.reverse) (tls l (B ++ rest)) (tn l a) (tn l i)
    rw [eP] at i0 i1
    have hpos : decide ((0 : Int) < ((A.length + 1 : Nat) : Int)) = true := by rw [decide_eq_true_eq]; omega
    have hcm : decide (berth_turns_1 (tn l i) (tn l a) < 0) = ltL l i a := by
      unfold ltL berth_turns_1
      rw [decide_eq_decide]
      exact compare_neg _ _
    rw [hj, e1]
    by_cases hc : ltL l i a = true
    · have hst : body (((A.length + 1 : Nat) : Int), tls l A.reverse ++ tn l a :: tn l i :: tls l (B ++ rest)) = some (.inl ((A.length : Int), tls l (A.reverse ++ i :: (a :: B ++ rest)))) := by
        rw [hb]
        simp only [hpos, gb, if_true, Bool.true_and]
        rw [i1, hj1, i0]
        simp only [Option.bind_some]
        rw [hcm, if_pos hc, put_nat, put_nat]
        have h2 : A.length < ((tls l A.reverse ++ tn l a :: tn l i :: tls l (B ++ rest)).set (A.length + 1) (tn l a)).length := by simp [tls]
        rw [ix_lt h2, Option.bind_some]
        have e3 := set_mid2 (tls l A.reverse) (tls l (B ++ rest)) (tn l a) (tn l i)
        rw [eP] at e3
        rw [e3]
        simp [tls]
      rw [lp_next n hst]
      unfold insR
      rw [if_pos hc]
      exact turn_ins l i fin hb rest A (a :: B) n (by simp at hm; omega) (by omega)
    · have hst : body (((A.length + 1 : Nat) : Int), tls l A.reverse ++ tn l a :: tn l i :: tls l (B ++ rest)) = some (.inr (fin (tls l A.reverse ++ tn l a :: tn l i :: tls l (B ++ rest)))) := by
        rw [hb]
        simp only [hpos, gb, if_true, Bool.true_and]
        rw [i1, hj1, i0]
        simp only [Option.bind_some]
        rw [hcm, if_neg hc]
      rw [lp_done n hst]
      unfold insR
      rw [if_neg hc]
      simp [tls]
theorem insR_ord (l : List api_Lease) (n : Nat) : insR (ltL l) n (ordL l n).reverse [] = ordL l (n + 1) := by
  rw [insR_eq (fun a b h1 h2 => by unfold ltL at *; simp at *; omega) (ordL l n).reverse [] (by
    rw [List.reverse_reverse, List.append_nil]
    exact (ordL_sorted l n).imp fun h => by unfold ltL; simpa using h) (fun b hb => by cases hb)]
  rw [List.reverse_reverse, List.append_nil]
  have e : ordL l (n + 1) = insB (fun k => decide (loL l k ≤ loL l n)) (ordL l n) n := rfl
  rw [e]
  congr 1
  funext a
  unfold ltL
  rw [← decide_not]
  congr 1
  exact propext (by omega)
theorem turns_eq (l : List api_Lease) (hl : l.length ≤ 20) : berth_turns l = some (tls l (ord l)) := by
  have hn := ordL_len l l.length
  -- behind the sort
  have j2 : ∀ z : List berth_turn, z.length = l.length → berth_turns_j2 z (tls l (ord l)) = some (tls l (ord l)) := fun z hz => by
    unfold berth_turns_j2
    rw [sameO_ok (by rw [hz, tls_len]; exact hn.symm)]; rfl
  have j4 : ∀ z : List berth_turn, z.length = l.length → berth_turns_j4 z (tls l (ord l)) = some (tls l (ord l)) := fun z hz => by
    unfold berth_turns_j4
    refine lp_once ?_
    unfold berth_turns_b5
    rw [if_neg (by rw [hz]; simp; omega), j2 z hz]; rfl
  -- insertion from a place on, all in order up to there
  have sort : ∀ {ρ : Type} {body : (Int × List berth_turn) → Option ((Int × List berth_turn) ⊕ ρ)} (b : Nat) (hb : b ≤ l.length) (res : ρ), (∀ (i : Nat), i < b → body ((i : Int), tls l (ordL l i ++ (List.range l.length).drop i)) = some (.inl (((i + 1 : Nat) : Int), tls l (ordL l (i + 1) ++ (List.range l.length).drop (i + 1))))) → body ((b : Int), tls l (ordL l b ++ (List.range l.length).drop b)) = some (.inr res) → ∀ a, a ≤ b → Lp body fuel ((a : Int), tls l (ordL l a ++ (List.range l.length).drop a)) = some res := by
    intro ρ body b hb res h1 h2 a ha
    suffices h : ∃ r, Lp body fuel ((a : Int), tls l (ordL l a ++ (List.range l.length).drop a)) = some r ∧ r = res by obtain ⟨r, h, rfl⟩ := h; exact h
    refine lp_inv' (fun i s => ∃ k, k = a + i ∧ k ≤ b ∧ s = ((k : Int), tls l (ordL l k ++ (List.range l.length).drop k))) _ b (by omega) ⟨a, rfl, ha, rfl⟩ fun i s hi hI => ?_
    obtain ⟨k, e, hk, rfl⟩ := hI
    by_cases hc : k < b
    · exact .inl ⟨by omega, _, h1 k hc, k + 1, by omega, by omega, rfl⟩
    · have : k = b := by omega
      subst this
      exact .inr ⟨_, h2, rfl⟩
  have step : ∀ i, i < l.length → ∀ {ρ : Type} (fin : List berth_turn → ρ) {body : (Int × List berth_turn) → Option ((Int × List berth_turn) ⊕ ρ)}, (∀ (j : Int) (x : List berth_turn), body (j, x) = gb (decide ((0 : Int) < j)) (ix x j) fun a => gb (decide ((0 : Int) < j)) (ix x (w64 (j - 1))) fun b => if decide ((0 : Int) < j) && decide (berth_turns_1 a b < 0) then Option.bind (ix x (w64 (j - 1))) fun x2 => Option.bind (ix x j) fun x3 => Option.bind (ix x j) fun _ => Option.bind (ix (put x j x2) (w64 (j - 1))) fun _ => some (.inl (w64 (j - 1), put (put x j x2) (w64 (j - 1)) x3)) else some (.inr (fin x))) →
      Lp body fuel ((i : Int), tls l (ordL l i ++ (List.range l.length).drop i)) = some (fin (tls l (ordL l (i + 1) ++ (List.range l.length).drop (i + 1)))) := by
    intro i hi ρ fin body hb
    have hd : (List.range l.length).drop i = i :: (List.range l.length).drop (i + 1) := by
      rw [List.drop_eq_getElem_cons (by rw [List.length_range]; exact hi), List.getElem_range]
    have := turn_ins l i fin hb ((List.range l.length).drop (i + 1)) (ordL l i).reverse [] fuel (by rw [List.length_reverse, ordL_len]; unfold fuel; omega) (by rw [List.length_reverse, ordL_len]; omega)
    rw [List.length_reverse, ordL_len, List.reverse_reverse, List.nil_append, insR_ord] at this
    rw [hd, this]
  by_cases h0 : l.length = 0
  · have : l = [] := List.eq_nil_of_length_eq_zero h0
    subst this
    decide +kernel
  have o1 : tls l (List.range l.length) = tls l (ordL l 1 ++ (List.range l.length).drop 1) := by
    obtain ⟨n, hc⟩ : ∃ n, l.length = n + 1 := ⟨l.length - 1, by omega⟩
    rw [hc]
    simp [ordL, insB, List.range_succ_eq_map]
  have oN : ∀ b, b = l.length → tls l (ordL l b ++ (List.range l.length).drop b) = tls l (ord l) := fun b hb => by
    subst hb
    rw [List.drop_eq_nil_of_le (by simp), List.append_nil]; rfl
  have zl : (tls l (List.range l.length)).length = l.length := by simp [tls]
  have ol : (tls l (ord l)).length = l.length := by rw [tls_len]; exact hn
  have j1 : berth_turns_j1 (tls l (List.range l.length)) = some (tls l (ord l)) := by
    unfold berth_turns_j1
    by_cases hc : l.length = 20
    · have s13 : Lp (berth_turns_b13 0 20 (tls l (List.range l.length))) fuel (1, tls l (List.range l.length)) = some (.inl (20, 40, tls l (ord l))) := by
        rw [o1]
        refine sort l.length (Nat.le_refl _) _ (fun i hi => ?_) ?_ 1 (by omega)
        · unfold berth_turns_b13
          simp only
          rw [if_pos (by rw [decide_eq_true_eq]; omega)]
          refine (step i hi (fun x => (.inl (((i + 1 : Nat) : Int), x) : ((Int × List berth_turn) ⊕ ((Int × Int × List berth_turn) ⊕ List berth_turn)))) (fun j x => ?_))
          rw [← w64s' hi (by omega)]
          rfl
        · unfold berth_turns_b13
          simp only
          rw [if_neg (by rw [decide_eq_true_eq]; omega), oN l.length rfl, ← o1, sameO_ok (by rw [zl, ol]), Option.bind_some]
          rfl
      have e20 : w64 (0 + 1) = 1 := by decide
      suffices h : ∃ r, Lp (berth_turns_b11 (tls l (List.range l.length))) fuel (0, 20, tls l (List.range l.length)) = some r ∧ r = tls l (ord l) by obtain ⟨r, h, rfl⟩ := h; exact h
      refine lp_inv' (fun i s => (i = 0 ∧ s = (0, 20, tls l (List.range l.length))) ∨ (i = 1 ∧ s = (20, 40, tls l (ord l)))) _ 1 (by omega) (.inl ⟨rfl, rfl⟩) fun i s hi hI => ?_
      rcases hI with ⟨rfl, rfl⟩ | ⟨rfl, rfl⟩
      · refine .inl ⟨by omega, _, ?_, .inr ⟨rfl, rfl⟩⟩
        unfold berth_turns_b11
        simp only
        rw [if_pos (by rw [zl, decide_eq_true_eq]; omega), e20, s13]
      · refine .inr ⟨_, ?_, rfl⟩
        unfold berth_turns_b11
        simp only
        rw [if_neg (by rw [zl, decide_eq_true_eq]; omega)]
        have : berth_turns_j3 (tls l (List.range l.length)) 20 (tls l (ord l)) = some (tls l (ord l)) := by
          unfold berth_turns_j3
          refine lp_once ?_
          unfold berth_turns_b8
          simp only
          rw [if_neg (by rw [zl, decide_eq_true_eq, show w64 (20 + 1) = 21 by decide]; omega), sameO_ok rfl, Option.bind_some, j4 _ zl]; rfl
        rw [this]; rfl
    · refine lp_once ?_
      unfold berth_turns_b11
      simp only
      rw [if_neg (by rw [zl, decide_eq_true_eq]; omega)]
      have : berth_turns_j3 (tls l (List.range l.length)) 0 (tls l (List.range l.length)) = some (tls l (ord l)) := by
        unfold berth_turns_j3
        rw [show w64 (0 + 1) = ((1 : Nat) : Int) by decide]
        have e2 : Lp (berth_turns_b8 (tls l (List.range l.length)) 0 (tls l (List.range l.length))) fuel (((1 : Nat) : Int), tls l (ordL l 1 ++ (List.range l.length).drop 1)) = some (tls l (ord l)) := by
          refine sort l.length (Nat.le_refl _) _ (fun i hi => ?_) ?_ 1 (by omega)
          · unfold berth_turns_b8
            simp only
            rw [if_pos (by rw [zl, decide_eq_true_eq]; omega)]
            refine (step i hi (fun x => (.inl (((i + 1 : Nat) : Int), x) : ((Int × List berth_turn) ⊕ List berth_turn))) (fun j x => ?_))
            rw [← w64s' hi (by omega)]
            rfl
          · unfold berth_turns_b8
            simp only
            rw [if_neg (by rw [zl]; simp), oN l.length rfl, sameO_ok (by rw [zl, ol]), Option.bind_some, j4 _ zl]; rfl
        rw [← o1] at e2
        exact e2
      rw [this]; rfl
  unfold berth_turns
  refine lp_list (body := berth_turns_b16 l) l (by omega) (fun (o : List berth_turn) i => (i, o)) (fun o r => tls l (ord l)) (fun i o => o = tls l (List.range i)) (a := []) rfl rfl (fun o i hi hJ => ?_) (fun o hJ => ?_)
  · left
    subst hJ
    refine ⟨_, ?_, rfl, rfl⟩
    unfold berth_turns_b16
    simp only
    rw [if_pos (by simpa using hi), ix_gL hi, Option.bind_some, app_ok (by simp [tls]; omega), Option.bind_some, w64s' hi (by omega)]
    simp [tls, tn, List.range_succ]
  · subst hJ
    unfold berth_turns_b16
    simp only
    rw [if_neg (by simp), j1]; rfl
end Go.Mx
