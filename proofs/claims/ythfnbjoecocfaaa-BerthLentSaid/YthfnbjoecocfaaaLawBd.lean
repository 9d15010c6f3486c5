/- Plain laws of leases, fourth part: clashes, and queues. Conditions: none. -/
import Derived.Test.YthfnbjoecocfaaaLawBc
set_option linter.unusedVariables false
set_option linter.unusedSimpArgs false
namespace Go.Mx

/-! Clashes. -/
def prc (l : List api_Lease) (i k : Nat) : Bool := decide ((gL l i).Heap = (gL l k).Heap) && onc (gL l i) (gL l k)
def prp (l : List api_Lease) (i k : Nat) : Arr_2_int := ⟨min (gL l i).ID (gL l k).ID, max (gL l i).ID (gL l k).ID⟩
/-- The pairs of a lease with the first ones. -/
def prK (l : List api_Lease) (i k : Nat) : List Arr_2_int := (List.range k).filterMap fun k => if prc l i k = true then some (prp l i k) else none
def prA (l : List api_Lease) (i : Nat) : List Arr_2_int := (List.range i).flatMap fun i => prK l i i
theorem prK_succ (l : List api_Lease) (i k : Nat) : prK l i (k + 1) = prK l i k ++ if prc l i k = true then [prp l i k] else [] := by
  unfold prK
  rw [List.range_succ, List.filterMap_append]
  congr 1
  by_cases h : prc l i k = true <;> simp [h]
theorem prA_succ (l : List api_Lease) (i : Nat) : prA l (i + 1) = prA l i ++ prK l i i := by
  unfold prA
  rw [List.range_succ, List.flatMap_append]; simp
theorem prK_len (l : List api_Lease) (i k : Nat) : (prK l i k).length ≤ k := by
  unfold prK
  exact Nat.le_trans (List.length_filterMap_le _ _) (by simp)
theorem prA_len (l : List api_Lease) : ∀ i, i ≤ 40 → (prA l i).length ≤ i * 40
  | 0, _ => by simp [prA]
  | i + 1, h => by
    rw [prA_succ, List.length_append]
    have := prA_len l i (by omega)
    have := prK_len l i i
    omega
theorem lt_pair_swo : Go.Sort.SWO lt_pair := ⟨fun x => by unfold lt_pair; simp, fun x y z h1 h2 => by unfold lt_pair at *; simp at *; omega, fun x y z h1 h2 => by unfold lt_pair at *; simp at *; omega⟩
theorem bclash_eq (l : List api_Lease) (hl : l.length ≤ 40) : berth_Clashes l = some (if chk l = 0 then (srtF lt_pair (prA l l.length), 0) else ([], chk l)) := by
  unfold berth_Clashes
  rw [bcheck_eq l (by unfold Len; omega), Option.bind_some]
  by_cases h : chk l = 0
  · rw [if_neg (by simp [h]), if_pos h]
    refine (lp_list (body := berth_Clashes_b2 l) l (by omega) (fun (o : List Arr_2_int) i => (i, o)) (fun o r => (srtF lt_pair (prA l l.length), (0 : Int))) (fun i o => o = prA l i) (a := []) rfl rfl (fun o i hi hJ => ?_) (fun o hJ => ?_))
    · left
      subst hJ
      refine ⟨_, ?_, rfl, rfl⟩
      unfold berth_Clashes_b2
      simp only
      rw [if_pos (by simpa using hi), ix_gL hi, Option.bind_some, sub_to (Nat.le_of_lt hi), Option.bind_some]
      have hlen : (l.take i).length = i := by rw [List.length_take]; omega
      have hA := prA_len l i (by omega)
      refine (lp_list (body := berth_Clashes_b4 (i : Int) (gL l i) (l.take i)) (l.take i) (by omega) (fun (o : List Arr_2_int) k => (k, o)) (fun o r => (.inl (((i + 1 : Nat) : Int), prA l (i + 1)) : (Int × List Arr_2_int) ⊕ (List Arr_2_int × Int))) (fun k o => o = prA l i ++ prK l i k) (a := prA l i) rfl (by simp [prK]) (fun o k hk hJ => ?_) (fun o hJ => ?_))
      · left
        subst hJ
        rw [hlen] at hk
        have hK := prK_len l i k
        have e1 : ix (l.take i) (k : Int) = some (gL l k) := by
          rw [ix_lt (by rw [hlen]; exact hk), gL_get (show k < l.length by omega)]; simp
        have ex : berth_atOnce (gL l i) (gL l k) = onc (gL l i) (gL l k) := rfl
        refine ⟨prA l i ++ prK l i (k + 1), ?_, rfl, rfl⟩
        unfold berth_Clashes_b4
        simp only
        rw [if_pos (by rw [hlen]; simpa using hk), e1, Option.bind_some, ex, prK_succ]
        unfold prc
        by_cases hc : (decide ((gL l i).Heap = (gL l k).Heap) && onc (gL l i) (gL l k)) = true
        · rw [if_pos hc, app_ok (by simp; omega), Option.bind_some, if_pos hc]
          unfold berth_Clashes_j5
          rw [w64s' hk (by omega), List.append_assoc]; rfl
        · rw [if_neg hc, if_neg hc]
          unfold berth_Clashes_j5
          rw [w64s' hk (by omega), List.append_nil]
      · subst hJ
        rw [hlen, prA_succ]
        unfold berth_Clashes_b4
        simp only
        rw [if_neg (by rw [hlen]; simp)]
        unfold berth_Clashes_j3
        rw [w64s' hi (by omega)]; rfl
    · subst hJ
      unfold berth_Clashes_b2
      simp only
      have := prA_len l l.length hl
      rw [if_neg (by simp)]
      unfold berth_Clashes_j1 srtFO
      rw [if_pos (by omega)]; rfl
  · rw [if_pos (by simp [h]), if_neg h]
/-! Queues. -/
def quF (l : List api_Lease) : List Nat → List api_Lease → (Int → Int) → List api_Lease × Int
  | [], out, _ => (out, 0)
  | i :: r, out, nx => if 1048576 < max (gL l i).Span.Lo (nx (gL l i).Heap) + (gL l i).Span.Hi - (gL l i).Span.Lo then ([], 2) else quF l r (out.set i ⟨(gL l i).ID, (gL l i).Heap, ⟨max (gL l i).Span.Lo (nx (gL l i).Heap), max (gL l i).Span.Lo (nx (gL l i).Heap) + (gL l i).Span.Hi - (gL l i).Span.Lo⟩⟩) (fun h => if h = (gL l i).Heap then max (gL l i).Span.Lo (nx (gL l i).Heap) + (gL l i).Span.Hi - (gL l i).Span.Lo + 1 else nx h)
def que (l : List api_Lease) : List api_Lease × Int := quF l (ord l) l (fun _ => 0)
theorem gL_set {l : List api_Lease} {i : Nat} (h : i < l.length) (v : api_Lease) (j : Nat) : gL (l.set i v) j = if j = i then v else gL l j := by
  unfold gL
  rw [List.getD_eq_getElem?_getD, List.getD_eq_getElem?_getD, List.getElem?_set]
  by_cases e : j = i
  · subst e; simp [h]
  · rw [if_neg (fun q => e q.symm), if_neg e]
/-- What was not looked at is as before. -/
def Left (l : List api_Lease) (p : Nat) (out : List api_Lease) : Prop := out.length = l.length ∧ ∀ q (hq : q < (ord l).length), p ≤ q → gL out (ord l)[q] = gL l (ord l)[q]
theorem Left.step {l : List api_Lease} {p : Nat} {out : List api_Lease} (h : Left l p out) (hp : p < (ord l).length) (v : api_Lease) : Left l (p + 1) (out.set (ord l)[p] v) := by
  have hv : (ord l)[p] < l.length := ordL_lt (List.getElem_mem hp)
  refine ⟨by simpa using h.1, fun q hq hpq => ?_⟩
  rw [gL_set (by rw [h.1]; exact hv), if_neg (fun e => by have := ord_inj hq hp e; omega)]
  exact h.2 q hq (by omega)
def Nx (nx : Int → Int) : Prop := ∀ h, 0 ≤ nx h ∧ nx h ≤ 1048577
theorem Nx.step {nx : Int → Int} (h : Nx nx) {x : api_Lease} (hx : GoodL x) (hc : ¬ 1048576 < max x.Span.Lo (nx x.Heap) + x.Span.Hi - x.Span.Lo) : Nx (fun h => if h = x.Heap then max x.Span.Lo (nx x.Heap) + x.Span.Hi - x.Span.Lo + 1 else nx h) := fun h' => by
  have := h x.Heap
  have := hx.lo
  have := hx.lh
  simp only
  split
  · omega
  · exact h h'
theorem bque_eq (l : List api_Lease) (hl : l.length ≤ 20) : berth_Queue l = some (if chk l = 0 then que l else ([], chk l)) := by
  unfold berth_Queue
  rw [bcheck_eq l (by unfold Len; omega), Option.bind_some]
  by_cases h : chk l = 0
  · have hg := chk_good h
    have hol : (ord l).length = l.length := ordL_len l l.length
    rw [if_neg (by simp [h]), if_pos h, app_ok (by simp; omega), Option.bind_some, turns_eq l hl, Option.bind_some, List.nil_append]
    refine (lp_list (body := berth_Queue_b2 (tls l (ord l))) (ord l) (by omega) (fun (s : List api_Lease × List (Int × Int) × (Int → Int)) i => (i, s.1, s.2.1)) (fun s r => quF l r s.1 s.2.2) (fun i s => Left l i s.1 ∧ Nx s.2.2 ∧ ∀ h, (lookM h s.2.1).getD 0 = s.2.2 h) (a := (l, [], fun _ => 0)) rfl ⟨⟨rfl, fun _ _ _ => rfl⟩, fun h => ⟨by simp, by simp⟩, fun h => rfl⟩ (fun s i hi hJ => ?_) (fun s hJ => ?_))
    · obtain ⟨out, m, nx⟩ := s
      obtain ⟨e1, e2, e3⟩ := hJ
      simp only at e1 e2 e3
      have hi' : i < (tls l (ord l)).length := by rw [tls_len]; exact hi
      have et : (tls l (ord l))[i] = tn l (ord l)[i] := by simp [tls]
      have hv : (ord l)[i] < l.length := ordL_lt (List.getElem_mem hi)
      have hx : GoodL (gL l (ord l)[i]) := by rw [gL_get hv]; exact hg.2.1 _ (List.getElem_mem hv)
      have hnx := e2 (gL l (ord l)[i]).Heap
      have el : (tn l (ord l)[i]).Lease = gL l (ord l)[i] := rfl
      have ep : (tn l (ord l)[i]).place = (((ord l)[i] : Nat) : Int) := rfl
      have b1 := hx.lo
      have b2 := hx.lh
      have b3 := hx.hi
      have hout := e1.2 i hi (Nat.le_refl _)
      have w1 : w64 (max (gL l (ord l)[i]).Span.Lo (nx (gL l (ord l)[i]).Heap) + (gL l (ord l)[i]).Span.Hi) = max (gL l (ord l)[i]).Span.Lo (nx (gL l (ord l)[i]).Heap) + (gL l (ord l)[i]).Span.Hi := w64_id (by omega) (by omega)
      have w2 : w64 (max (gL l (ord l)[i]).Span.Lo (nx (gL l (ord l)[i]).Heap) + (gL l (ord l)[i]).Span.Hi - (gL l (ord l)[i]).Span.Lo) = max (gL l (ord l)[i]).Span.Lo (nx (gL l (ord l)[i]).Heap) + (gL l (ord l)[i]).Span.Hi - (gL l (ord l)[i]).Span.Lo := w64_id (by omega) (by omega)
      have w3 : w64 (max (gL l (ord l)[i]).Span.Lo (nx (gL l (ord l)[i]).Heap) + (gL l (ord l)[i]).Span.Hi - (gL l (ord l)[i]).Span.Lo + 1) = max (gL l (ord l)[i]).Span.Lo (nx (gL l (ord l)[i]).Heap) + (gL l (ord l)[i]).Span.Hi - (gL l (ord l)[i]).Span.Lo + 1 := w64_id (by omega) (by omega)
      unfold berth_Queue_b2
      simp only
      rw [if_pos (by simpa using hi'), ix_lt hi', Option.bind_some, et, el, ep, e3, w1, w2]
      simp only [quF]
      by_cases hc : 1048576 < max (gL l (ord l)[i]).Span.Lo (nx (gL l (ord l)[i]).Heap) + (gL l (ord l)[i]).Span.Hi - (gL l (ord l)[i]).Span.Lo
      · right
        rw [if_pos (by simpa using hc), if_pos hc]
      · left
        rw [if_neg (by simpa using hc), if_neg hc, ix_gL (show (ord l)[i] < out.length by rw [e1.1]; exact hv), Option.bind_some, hout, put_nat, w3, w64s' hi (by omega)]
        refine ⟨(_, putM posI m (gL l (ord l)[i]).Heap _, fun h => if h = (gL l (ord l)[i]).Heap then _ else nx h), rfl, rfl, e1.step hi _, e2.step hx hc, fun h' => ?_⟩
        simp only
        rw [lookM_put]
        by_cases e : h' = (gL l (ord l)[i]).Heap
        · rw [if_pos e, if_pos e]; rfl
        · rw [if_neg e, if_neg e]; exact e3 h'
    · obtain ⟨out, m, nx⟩ := s
      unfold berth_Queue_b2
      simp only
      rw [if_neg (by rw [tls_len]; simp)]; rfl
  · rw [if_pos (by simp [h]), if_neg h]
/-- What stands behind a heap, as its leases that were looked at say. -/
def Heaps (l : List api_Lease) (p : Nat) (out : List api_Lease) (nx : Int → Int) : Prop := (∀ q (hq : q < (ord l).length), q < p → 0 ≤ (gL out (ord l)[q]).Span.Hi ∧ (gL out (ord l)[q]).Span.Hi + 1 ≤ nx (gL l (ord l)[q]).Heap) ∧ ∀ h, nx h = 0 ∨ ∃ q, ∃ hq : q < (ord l).length, q < p ∧ (gL l (ord l)[q]).Heap = h ∧ (gL out (ord l)[q]).Span.Hi + 1 = nx h
theorem Heaps.step {l : List api_Lease} {p : Nat} {out : List api_Lease} {nx : Int → Int} (h : Heaps l p out nx) (ho : out.length = l.length) (hp : p < (ord l).length) (v : api_Lease) (n : Int) (hn : n = v.Span.Hi + 1) (hv0 : 0 ≤ v.Span.Hi) (hge : nx (gL l (ord l)[p]).Heap ≤ n) : Heaps l (p + 1) (out.set (ord l)[p] v) (fun h => if h = (gL l (ord l)[p]).Heap then n else nx h) := by
  have hv : (ord l)[p] < l.length := ordL_lt (List.getElem_mem hp)
  obtain ⟨h1, h2⟩ := h
  refine ⟨fun q hq hqp => ?_, fun h' => ?_⟩
  · simp only
    rw [gL_set (by rw [ho]; exact hv)]
    by_cases e : (ord l)[q] = (ord l)[p]
    · rw [if_pos e, e, if_pos rfl]; exact ⟨hv0, by omega⟩
    · rw [if_neg e]
      have hqp2 : q < p := by
        rcases Nat.lt_or_ge q p with h | h
        · exact h
        · have : q = p := by omega
          subst this; exact absurd rfl e
      have := h1 q hq hqp2
      split
      · rename_i e2; rw [e2] at this; exact ⟨this.1, by omega⟩
      · exact this
  · simp only
    by_cases e : h' = (gL l (ord l)[p]).Heap
    · rw [if_pos e]
      exact .inr ⟨p, hp, by omega, e.symm, by rw [gL_set (by rw [ho]; exact hv), if_pos rfl]; omega⟩
    · rw [if_neg e]
      rcases h2 h' with h | ⟨q, hq, q1, q2, q3⟩
      · exact .inl h
      · refine .inr ⟨q, hq, by omega, q2, ?_⟩
        rw [gL_set (by rw [ho]; exact hv), if_neg (fun e2 => e (by rw [← q2, e2]))]
        exact q3
end Go.Mx
