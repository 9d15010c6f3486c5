/- Plain laws of leases, second part: lighters. Conditions: none. -/
import Derived.Test.YthfnbjoecocfaaaLawBa
set_option linter.unusedVariables false
set_option linter.unusedSimpArgs false
namespace Go.Mx

/-- Whether two leases have a minute in common. -/
def onc (a b : api_Lease) : Bool := decide (a.Span.Lo ≤ b.Span.Hi) && decide (b.Span.Lo ≤ a.Span.Hi)
/-- Whether a lighter is in use when a lease is. -/
def useL (l : List api_Lease) (out : List Int) (i m : Nat) : Bool := (List.range out.length).any fun k => decide (gI out k = (m : Int)) && onc (gL l k) (gL l i)
theorem useL_iff {l : List api_Lease} {out : List Int} {i m : Nat} : useL l out i m = true ↔ ∃ k, k < out.length ∧ gI out k = (m : Int) ∧ onc (gL l k) (gL l i) = true := by
  unfold useL
  simp [List.any_eq_true]
/-- The first lighter that is free. -/
def litN (l : List api_Lease) (out : List Int) (i : Nat) : Nat := lst (useL l out i) 0 40
theorem use_len {l : List api_Lease} {out : List Int} {i n : Nat} (h : ∀ m, m < n → useL l out i m = true) : n ≤ out.length := by
  have := sub_len (l := cN (List.range n)) (r := out) (by
    unfold cN
    rw [List.nodup_iff_pairwise_ne, List.pairwise_map]
    exact List.nodup_range.imp fun h e => h (by omega)) fun x hx => by
    unfold cN at hx
    rw [List.mem_map] at hx
    obtain ⟨m, hm, rfl⟩ := hx
    obtain ⟨k, hk, h1, _⟩ := useL_iff.1 (h m (List.mem_range.1 hm))
    rw [← h1, gI_get hk]; exact List.getElem_mem hk
  rw [cN_len, List.length_range] at this
  exact this
theorem litN_eq {l : List api_Lease} {out : List Int} {i n : Nat} (ho : out.length ≤ 40) (h1 : useL l out i n = false) (h2 : ∀ m, m < n → useL l out i m = true) : litN l out i = n := lst_uniq h1 h2 (Nat.le_trans (use_len h2) ho)
theorem litN_spec {l : List api_Lease} {out : List Int} (i : Nat) (ho : out.length ≤ 39) : useL l out i (litN l out i) = false ∧ litN l out i ≤ out.length ∧ ∀ m, m < litN l out i → useL l out i m = true := by
  have hex : ∃ m, 0 ≤ m ∧ m ≤ 0 + 40 ∧ useL l out i m = false := by
    apply Classical.byContradiction
    intro hn
    have : ∀ m, m < 40 → useL l out i m = true := fun m hm => by
      cases hc : useL l out i m with
      | true => rfl
      | false => exact absurd ⟨m, Nat.zero_le _, by omega, hc⟩ hn
    have := use_len this
    omega
  obtain ⟨q1, _, q3, q4⟩ := lst_spec (useL l out i) 40 0 hex
  have q5 : ∀ m, m < litN l out i → useL l out i m = true := fun m hm => q4 m (Nat.zero_le _) hm
  exact ⟨q1, use_len q5, q5⟩
/-- Lighters for leases, one after the other. -/
def litF (l : List api_Lease) : List Nat → List Int × Int → List Int × Int
  | [], s => s
  | i :: r, s => litF l r (s.1.set i (litN l s.1 i : Nat), max s.2 ((litN l s.1 i : Nat) + 1))
def lits (l : List api_Lease) : List Int × Int := litF l (ord l) (List.replicate l.length (-1), 0)

theorem lighters_j1 (l : List api_Lease) (hl : l.length ≤ 20) : berth_Lighters_j1 l (List.replicate l.length (-1)) = some ((lits l).1, (lits l).2, 0) := by
  unfold berth_Lighters_j1
  rw [turns_eq l hl, Option.bind_some]
  have hol := ordL_len l l.length
  refine (lp_list (body := berth_Lighters_b3 l (tls l (ord l))) (ord l) (by unfold ord; omega) (fun (s : List Int × Int) i => (s.2, i, s.1)) (fun s r => ((litF l r s).1, (litF l r s).2, (0 : Int))) (fun i s => s.1.length = l.length ∧ 0 ≤ s.2 ∧ s.2 ≤ 40) (a := (List.replicate l.length (-1), 0)) rfl ⟨by simp, by simp, by simp⟩ (fun s i hi hJ => ?_) (fun s hJ => ?_))
  · left
    obtain ⟨out, most⟩ := s
    obtain ⟨e1, e2, e3⟩ := hJ
    simp only at e1 e2 e3
    have hi' : i < (tls l (ord l)).length := by rw [tls_len]; exact hi
    have hv : (ord l)[i] < l.length := ordL_lt (List.getElem_mem hi)
    have et : (tls l (ord l))[i] = tn l (ord l)[i] := by simp [tls]
    obtain ⟨z1, z2, z3⟩ := litN_spec (l := l) (out := out) (ord l)[i] (by omega)
    generalize hv' : (ord l)[i] = v at hv et z1 z2 z3 ⊢
    refine ⟨(out.set v (litN l out v : Nat), max most ((litN l out v : Nat) + 1)), ?_, by simp only [litF], by simp [e1], by simp only; omega, by simp only; omega⟩
    unfold berth_Lighters_b3
    simp only
    rw [if_pos (by simpa using hi'), ix_lt hi', Option.bind_some, et]
    -- the lighters in use
    have fin : ∀ m : List (Int × Bool), (∀ n : Nat, (lookM (n : Int) m).getD false = useL l out v n) → berth_Lighters_j4 most (i : Int) out (tn l v) m = some (.inl (max most ((litN l out v : Nat) + 1), ((i + 1 : Nat) : Int), out.set v (litN l out v : Nat))) := fun m hm => by
      unfold berth_Lighters_j4
      suffices h : ∃ r, Lp (berth_Lighters_b6 most (i : Int) out (tn l v) m) fuel 0 = some r ∧ r = (.inl (max most ((litN l out v : Nat) + 1), ((i + 1 : Nat) : Int), out.set v (litN l out v : Nat)) : (Int × Int × List Int) ⊕ (List Int × Int × Int)) by obtain ⟨r, h, rfl⟩ := h; exact h
      refine lp_inv' (fun k s => s = (k : Int) ∧ ∀ j, j < k → useL l out v j = true) _ 40 (by omega) ⟨rfl, fun j h => by omega⟩ fun k s hk hI => ?_
      obtain ⟨rfl, hI⟩ := hI
      unfold berth_Lighters_b6
      have hk2 := use_len hI
      by_cases hc : useL l out v k = true
      · left
        rw [if_pos (by rw [hm]; exact hc), w64s k (by omega)]
        refine ⟨by omega, _, rfl, rfl, fun j hj => ?_⟩
        by_cases e : j = k
        · subst e; exact hc
        · exact hI j (by omega)
      · right
        have hN : litN l out v = k := litN_eq (by omega) (by simpa using hc) hI
        rw [if_neg (by rw [hm]; exact hc)]
        refine ⟨_, ?_, rfl⟩
        unfold berth_Lighters_j5
        have hv3 : v < out.length := by omega
        have ep : (tn l v).place = (v : Int) := rfl
        rw [ep, ix_gI hv3, Option.bind_some, put_nat, w64s k (by omega), w64s' hi (by unfold ord; omega), hN]
        simp
    refine (lp_list (body := berth_Lighters_b7 l most (i : Int) out (tn l v)) out (by omega) (fun (m : List (Int × Bool)) k => (k, m)) (fun m r => (.inl (max most ((litN l out v : Nat) + 1), ((i + 1 : Nat) : Int), out.set v (litN l out v : Nat)) : (Int × Int × List Int) ⊕ (List Int × Int × Int))) (fun k m => ∀ n : Nat, (lookM (n : Int) m).getD false = (List.range k).any fun k => decide (gI out k = (n : Int)) && onc (gL l k) (gL l v)) (a := []) rfl (fun n => by simp [lookM]) (fun m k hk hJ => ?_) (fun m hJ => ?_))
    · left
      have hk2 : k < l.length := by omega
      have hr : ∀ n : Nat, ((List.range (k + 1)).any fun k => decide (gI out k = (n : Int)) && onc (gL l k) (gL l v)) = (((List.range k).any fun k => decide (gI out k = (n : Int)) && onc (gL l k) (gL l v)) || (decide (gI out k = (n : Int)) && onc (gL l k) (gL l v))) := fun n => by
        rw [List.range_succ, List.any_append]; simp
      have hx : (berth_atOnce (gL l k) (gL l v)) = onc (gL l k) (gL l v) := rfl
      have e5 : (tn l v).Lease = gL l v := rfl
      unfold berth_Lighters_b7
      simp only
      rw [if_pos (by simpa using hk), ix_gI hk, Option.bind_some, ix_gL hk2, e5]
      by_cases hc : (decide (0 ≤ gI out k) && onc (gL l k) (gL l v)) = true
      · refine ⟨putM posI m (gI out k) true, ?_, trivial, fun n => ?_⟩
        · have h0 : decide (0 ≤ gI out k) = true := by
            rw [Bool.and_eq_true] at hc; exact hc.1
          simp only [h0, gb, if_true, Option.bind_some, Bool.true_and, hx]
          rw [if_pos (by rw [Bool.and_eq_true] at hc; exact hc.2)]
          unfold berth_Lighters_j8
          rw [w64s' hk (by omega)]
        · rw [lookM_put, hr n]
          rw [Bool.and_eq_true] at hc
          by_cases e : (n : Int) = gI out k
          · rw [if_pos e]; simp [e, hc.2]
          · rw [if_neg e, hJ n]
            have : decide (gI out k = (n : Int)) = false := by rw [decide_eq_false_iff_not]; exact fun q => e q.symm
            rw [this]; simp
      · refine ⟨m, ?_, trivial, fun n => ?_⟩
        · cases h0 : decide (0 ≤ gI out k) with
          | false =>
            simp only [gb, Bool.false_eq_true, if_false, Option.bind_some, Bool.false_and]
            unfold berth_Lighters_j8
            rw [w64s' hk (by omega)]
          | true =>
            rw [h0] at hc
            simp only [gb, if_true, Option.bind_some, Bool.true_and, hx] at hc ⊢
            rw [if_neg hc]
            unfold berth_Lighters_j8
            rw [w64s' hk (by omega)]
        · rw [hJ n, hr n]
          have : (decide (gI out k = (n : Int)) && onc (gL l k) (gL l v)) = false := by
            cases h1 : onc (gL l k) (gL l v) with
            | false => simp
            | true =>
              rw [h1, Bool.and_true] at hc
              simp only [Bool.and_true, decide_eq_false_iff_not]
              intro e
              exact hc (by rw [decide_eq_true_eq]; omega)
          rw [this]; simp
    · unfold berth_Lighters_b7
      simp only
      rw [if_neg (by simp), fin m hJ]; rfl
  · obtain ⟨out, most⟩ := s
    unfold berth_Lighters_b3
    simp only
    rw [if_neg (by rw [tls_len]; simp)]; rfl
theorem rep_snoc {α : Type} (n : Nat) (x : α) : List.replicate n x ++ [x] = List.replicate (n + 1) x := by rw [List.replicate_succ']
theorem blighters_eq (l : List api_Lease) (hl : l.length ≤ 20) : berth_Lighters l = some (if chk l = 0 then ((lits l).1, (lits l).2, 0) else ([], 0, chk l)) := by
  unfold berth_Lighters
  rw [bcheck_eq l (by unfold Len; omega), Option.bind_some]
  by_cases h : chk l = 0
  · rw [if_neg (by simp [h]), if_pos h]
    refine (lp_list (body := berth_Lighters_b9 l) l (by omega) (fun (o : List Int) i => (i, o)) (fun o r => ((lits l).1, (lits l).2, (0 : Int))) (fun i o => o = List.replicate i (-1)) (a := []) rfl rfl (fun o i hi hJ => ?_) (fun o hJ => ?_))
    · left
      subst hJ
      refine ⟨_, ?_, rfl, rfl⟩
      unfold berth_Lighters_b9
      simp only
      rw [if_pos (by simpa using hi), app_ok (by simp; omega), Option.bind_some, w64s' hi (by omega), rep_snoc]
    · subst hJ
      unfold berth_Lighters_b9
      simp only
      rw [if_neg (by simp), lighters_j1 l hl]; rfl
  · rw [if_pos (by simp [h]), if_neg h]

/-! The specification's. -/
/-- What a step of it keeps: who was looked at has a lighter, who was not has none. -/
def Half (l : List api_Lease) (p : Nat) (out : List Int) : Prop := out.length = l.length ∧ ∀ q (hq : q < (ord l).length), (q < p → 0 ≤ gI out (ord l)[q]) ∧ (p ≤ q → gI out (ord l)[q] = -1)
theorem ord_mem {l : List api_Lease} {k : Nat} (h : k < l.length) : ∃ q, ∃ hq : q < (ord l).length, (ord l)[q] = k := List.getElem_of_mem (by rw [ord, (ordL_perm l l.length).mem_iff, List.mem_range]; exact h)
theorem ord_nodup (l : List api_Lease) : (ord l).Nodup := (ordL_perm l l.length).nodup_iff.2 List.nodup_range
theorem ord_inj {l : List api_Lease} {p q : Nat} (hp : p < (ord l).length) (hq : q < (ord l).length) (e : (ord l)[p] = (ord l)[q]) : p = q := by
  have h := List.pairwise_iff_getElem.1 (ord_nodup l)
  rcases Nat.lt_trichotomy p q with h1 | h1 | h1
  · exact absurd e (h p q hp hq h1)
  · exact h1
  · exact absurd e.symm (h q p hq hp h1)
theorem Half.step {l : List api_Lease} {p : Nat} {out : List Int} (h : Half l p out) (hp : p < (ord l).length) (n : Nat) : Half l (p + 1) (out.set (ord l)[p] (n : Int)) := by
  obtain ⟨h1, h2⟩ := h
  have hv : (ord l)[p] < l.length := ordL_lt (List.getElem_mem hp)
  refine ⟨by simpa using h1, fun q hq => ⟨fun hlt => ?_, fun hge => ?_⟩⟩
  · rw [gI_set (by omega)]
    split
    · omega
    · rename_i hne
      refine (h2 q hq).1 ?_
      rcases Nat.lt_or_ge q p with h | h
      · exact h
      · have : q = p := by omega
        subst this; exact absurd rfl hne
  · rw [gI_set (by omega), if_neg (fun e => by have := ord_inj hq hp e; omega)]
    exact (h2 q hq).2 (by omega)
theorem useL_half {l : List api_Lease} {p : Nat} {out : List Int} (h : Half l p out) (hp : p ≤ (ord l).length) (i m : Nat) : useL l out i m = true ↔ ∃ q, ∃ hq : q < (ord l).length, q < p ∧ gI out (ord l)[q] = (m : Int) ∧ onc (gL l (ord l)[q]) (gL l i) = true := by
  obtain ⟨h1, h2⟩ := h
  rw [useL_iff]
  constructor
  · rintro ⟨k, hk, q1, q2⟩
    obtain ⟨q, hq, rfl⟩ := ord_mem (l := l) (k := k) (by omega)
    refine ⟨q, hq, ?_, q1, q2⟩
    rcases Nat.lt_or_ge q p with h | h
    · exact h
    · have := (h2 q hq).2 h; omega
  · rintro ⟨q, hq, _, q1, q2⟩
    exact ⟨_, by rw [h1]; exact ordL_lt (List.getElem_mem hq), q1, q2⟩
end Go.Mx
