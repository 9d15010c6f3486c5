/- Plain laws of leases, fifth part: as many lighters as are needed; what queues keep. Conditions: none. -/
import Derived.Test.YthfnbjoecocfaaaLawBd
set_option linter.unusedVariables false
set_option linter.unusedSimpArgs false
namespace Go.Mx

/-! As many lighters as the busiest minute needs. -/
def hasT (x : api_Lease) (t : Int) : Bool := decide (x.Span.Lo ≤ t) && decide (t ≤ x.Span.Hi)
/-- The leases that have a minute, by their places. -/
def atT (l : List api_Lease) (t : Int) : List Nat := (List.range l.length).filter fun k => hasT (gL l k) t
theorem range_gL (l : List api_Lease) : (List.range l.length).map (gL l) = l := by
  apply List.ext_getElem
  · simp
  · intro i h1 h2
    simp only [List.getElem_map, List.getElem_range]
    exact gL_get h2
theorem atT_len (l : List api_Lease) (t : Int) : (atT l t).length = cntL l t := by
  unfold atT cntL
  rw [← List.countP_eq_length_filter]
  conv => rhs; rw [← range_gL l]
  rw [List.countP_map]
  rfl
theorem atT_mem {l : List api_Lease} {t : Int} {k : Nat} : k ∈ atT l t ↔ k < l.length ∧ hasT (gL l k) t = true := by unfold atT; rw [List.mem_filter, List.mem_range]
theorem atT_nodup (l : List api_Lease) (t : Int) : (atT l t).Nodup := List.nodup_range.filter _
theorem hasT_onc {a b : api_Lease} {t : Int} (h1 : hasT a t = true) (h2 : hasT b t = true) : onc a b = true := by
  unfold hasT at h1 h2
  unfold onc
  simp only [Bool.and_eq_true, decide_eq_true_eq] at *
  omega
theorem okX_spec {l : List api_Lease} {x : List Int} (h : okX l x = true) : x.length = l.length ∧ (∀ i, i < l.length → 0 ≤ gI x i) ∧ ∀ i k, i < l.length → k < l.length → i ≠ k → onc (gL l i) (gL l k) = true → gI x i ≠ gI x k := by
  unfold okX at h
  rw [Bool.and_eq_true, decide_eq_true_eq, List.all_eq_true] at h
  obtain ⟨h1, h2⟩ := h
  have h3 : ∀ i, i < l.length → 0 ≤ gI x i ∧ ∀ k, k < i → clashB l x i k = false := fun i hi => by
    have := h2 i (List.mem_range.2 hi)
    unfold badX at this
    rw [Bool.not_eq_true', Bool.or_eq_false_iff, decide_eq_false_iff_not, List.any_eq_false] at this
    exact ⟨by omega, fun k hk => by simpa using this.2 k (List.mem_range.2 hk)⟩
  have h4 : ∀ i k, i < l.length → k < i → onc (gL l i) (gL l k) = true → gI x i ≠ gI x k := fun i k hi hk ho e => by
    have := (h3 i hi).2 k hk
    unfold clashB at this
    rw [ho, Bool.and_true, decide_eq_false_iff_not] at this
    exact this e
  refine ⟨h1, fun i hi => (h3 i hi).1, fun i k hi hk hne ho => ?_⟩
  rcases Nat.lt_or_ge k i with h | h
  · exact h4 i k hi h ho
  · exact fun e => h4 k i hk (by omega) (by rw [onc_comm]; exact ho) e.symm
/-- The lighters of the leases that have a minute: all different. -/
theorem labels_nodup {l : List api_Lease} {x : List Int} (h : okX l x = true) (t : Int) : ((atT l t).map fun k => gI x k).Nodup := by
  obtain ⟨h1, h2, h3⟩ := okX_spec h
  rw [List.nodup_iff_pairwise_ne, List.pairwise_map]
  refine (atT_nodup l t).imp_of_mem fun {a b} ha hb hab => ?_
  rw [atT_mem] at ha hb
  exact h3 a b ha.1 hb.1 hab (hasT_onc ha.2 hb.2)
theorem cnt_le {l : List api_Lease} {x : List Int} (h : okX l x = true) (t : Int) (r : List Int) (hr : ∀ i, i < l.length → gI x i ∈ r) : cntL l t ≤ r.length := by
  have := sub_len (labels_nodup h t) (r := r) fun v hv => by
    rw [List.mem_map] at hv
    obtain ⟨k, hk, rfl⟩ := hv
    exact hr k (atT_mem.1 hk).1
  rwa [List.length_map, atT_len] at this
/-- What holds behind so many steps. -/
structure LInv (l : List api_Lease) (p : Nat) (s : List Int × Int) : Prop where
  half : Half l p s.1
  apart : ∀ a b (ha : a < (ord l).length) (hb : b < (ord l).length), a < b → b < p → gI s.1 (ord l)[a] = gI s.1 (ord l)[b] → onc (gL l (ord l)[a]) (gL l (ord l)[b]) = false
  low : ∀ a (ha : a < (ord l).length), a < p → gI s.1 (ord l)[a] < s.2
  few : 0 ≤ s.2 ∧ s.2 ≤ (bus l).2
theorem LInv.step {l : List api_Lease} (hl : l.length ≤ 20) (hg : ∀ x ∈ l, GoodL x) {p : Nat} {s : List Int × Int} (h : LInv l p s) (hp : p < (ord l).length) : LInv l (p + 1) (s.1.set (ord l)[p] (litN l s.1 (ord l)[p] : Nat), max s.2 ((litN l s.1 (ord l)[p] : Nat) + 1)) := by
  obtain ⟨out, N⟩ := s
  obtain ⟨h1, h2, h3, h4⟩ := h
  simp only at h1 h2 h3 h4 ⊢
  have hv : (ord l)[p] < l.length := ordL_lt (List.getElem_mem hp)
  have ho := h1.1
  obtain ⟨z1, z2, z3⟩ := litN_spec (l := l) (out := out) (ord l)[p] (by omega)
  have hgx : GoodL (gL l (ord l)[p]) := by rw [gL_get hv]; exact hg _ (List.getElem_mem hv)
  -- those whose lighters are taken have the first minute
  have hcnt : litN l out (ord l)[p] + 1 ≤ cntL l (loL l (ord l)[p]) := by
    have := sub_len (l := cN (List.range (litN l out (ord l)[p] + 1))) (r := (atT l (loL l (ord l)[p])).map fun k => if k = (ord l)[p] then ((litN l out (ord l)[p] : Nat) : Int) else gI out k) (by
      unfold cN
      rw [List.nodup_iff_pairwise_ne, List.pairwise_map]
      exact List.nodup_range.imp fun h e => h (by omega)) fun v hv' => by
      unfold cN at hv'
      rw [List.mem_map] at hv'
      obtain ⟨m, hm, rfl⟩ := hv'
      rw [List.mem_range] at hm
      rw [List.mem_map]
      by_cases e : m = litN l out (ord l)[p]
      · subst e
        refine ⟨(ord l)[p], atT_mem.2 ⟨hv, ?_⟩, by rw [if_pos rfl]⟩
        unfold hasT loL
        have := hgx.lh
        simp; omega
      · obtain ⟨q, hq, q1, q2, q3⟩ := (useL_half h1 (Nat.le_of_lt hp) _ _).1 (z3 m (by omega))
        have hne : (ord l)[q] ≠ (ord l)[p] := fun e => by have := ord_inj hq hp e; omega
        refine ⟨(ord l)[q], atT_mem.2 ⟨ordL_lt (List.getElem_mem hq), ?_⟩, by rw [if_neg hne]; exact q2⟩
        have hs := List.pairwise_iff_getElem.1 (ordL_sorted l l.length) q p hq hp q1
        unfold onc at q3
        unfold hasT
        simp only [Bool.and_eq_true, decide_eq_true_eq] at q3 ⊢
        exact ⟨hs, q3.2⟩
    rw [cN_len, List.length_range, List.length_map, atT_len] at this
    exact this
  have hb := (bus_ok hg).1 (loL l (ord l)[p]) (by
    unfold begs
    rw [List.mem_map]
    exact ⟨_, List.getElem_mem hv, by unfold loL; rw [gL_get hv]⟩)
  refine ⟨h1.step hp _, fun a b ha hb' hab hbp e => ?_, fun a ha hap => ?_, ?_⟩
  · simp only at e
    rw [gI_set (by omega), gI_set (by omega)] at e
    have hna : (ord l)[a] ≠ (ord l)[p] := fun e => by have := ord_inj ha hp e; omega
    rw [if_neg hna] at e
    by_cases e2 : b = p
    · subst e2
      rw [if_pos rfl] at e
      cases hc : onc (gL l (ord l)[a]) (gL l (ord l)[b]) with
      | false => rfl
      | true =>
        have := (useL_half h1 (Nat.le_of_lt hp) (ord l)[b] (litN l out (ord l)[b])).2 ⟨a, ha, hab, e, hc⟩
        rw [z1] at this; cases this
    · have hnb : (ord l)[b] ≠ (ord l)[p] := fun e => by have := ord_inj hb' hp e; omega
      rw [if_neg hnb] at e
      exact h2 a b ha hb' hab (by omega) e
  · simp only
    rw [gI_set (by omega)]
    by_cases e : (ord l)[a] = (ord l)[p]
    · rw [if_pos e]; omega
    · rw [if_neg e]
      have hne : a ≠ p := fun q => e (by subst q; rfl)
      have := h3 a ha (by omega)
      omega
  · simp only; omega
theorem LInv.all {l : List api_Lease} (hl : l.length ≤ 20) (hg : ∀ x ∈ l, GoodL x) : ∀ (n p : Nat) (s : List Int × Int), n + p = (ord l).length → LInv l p s → LInv l (ord l).length (litF l ((ord l).drop p) s)
  | 0, p, s, e, h => by
    have : p = (ord l).length := by omega
    subst this
    rw [List.drop_length]; exact h
  | n + 1, p, s, e, h => by
    have hp : p < (ord l).length := by omega
    rw [List.drop_eq_getElem_cons hp]
    simp only [litF]
    exact LInv.all hl hg n (p + 1) _ (by omega) (h.step hl hg hp)
theorem lits_inv {l : List api_Lease} (hl : l.length ≤ 20) (hg : ∀ x ∈ l, GoodL x) : LInv l (ord l).length (lits l) := by
  have := LInv.all hl hg (ord l).length 0 (List.replicate l.length (-1), 0) (by omega) ⟨⟨by simp, fun q hq => ⟨fun h => by omega, fun _ => by
    have : (ord l)[q] < l.length := ordL_lt (List.getElem_mem hq)
    rw [gI_get (by simpa using this)]; simp⟩⟩, fun a b _ _ _ h => by omega, fun a _ h => by omega, ⟨by simp, by
      rcases (bus_ok hg).2 with ⟨h, _⟩ | ⟨_, _, h⟩
      · rw [h]; simp
      · simp only; omega⟩⟩
  rwa [List.drop_zero] at this
theorem lits_ok {l : List api_Lease} (hl : l.length ≤ 20) (hg : ∀ x ∈ l, GoodL x) : okX l (lits l).1 = true := by
  have h := lits_inv hl hg
  have hol : (ord l).length = l.length := ordL_len l l.length
  unfold okX
  rw [Bool.and_eq_true, decide_eq_true_eq, List.all_eq_true]
  refine ⟨h.half.1, fun i hi => ?_⟩
  rw [List.mem_range] at hi
  obtain ⟨a, ha, rfl⟩ := ord_mem hi
  unfold badX
  rw [Bool.not_eq_true', Bool.or_eq_false_iff, decide_eq_false_iff_not, List.any_eq_false]
  refine ⟨by have := (h.half.2 a ha).1 ha; omega, fun k hk => ?_⟩
  rw [List.mem_range] at hk
  obtain ⟨b, hb, rfl⟩ := ord_mem (l := l) (k := k) (by omega)
  unfold clashB
  rw [Bool.and_eq_true, decide_eq_true_eq]
  rintro ⟨e, ho⟩
  rcases Nat.lt_trichotomy a b with hab | hab | hab
  · rw [h.apart a b ha hb hab hb e] at ho; cases ho
  · subst hab; omega
  · rw [onc_comm, h.apart b a hb ha hab ha e.symm] at ho; cases ho
theorem bus_cnt {l : List api_Lease} (hg : ∀ x ∈ l, GoodL x) : (bus l).2 = (cntL l (bus l).1 : Int) := by
  rcases (bus_ok hg).2 with ⟨h, h2⟩ | ⟨_, h, _⟩
  · rw [h]
    cases l with
    | nil => rfl
    | cons x r =>
      have h3 := h2 x.Span.Lo (by simp [begs])
      have : 0 < cntL (x :: r) x.Span.Lo := by
        unfold cntL
        rw [List.countP_cons]
        have := (hg x List.mem_cons_self).lh
        rw [if_pos (by simp; omega)]; omega
      omega
  · exact h
theorem lits_bus {l : List api_Lease} (hl : l.length ≤ 20) (hg : ∀ x ∈ l, GoodL x) : (lits l).2 = (bus l).2 := by
  have h := lits_inv hl hg
  have hf := h.few
  have hc := cnt_le (lits_ok hl hg) (bus l).1 (cN (List.range (lits l).2.toNat)) fun i hi => by
    obtain ⟨a, ha, rfl⟩ := ord_mem hi
    have h1 := h.low a ha ha
    have h2 := (h.half.2 a ha).1 ha
    unfold cN
    rw [List.mem_map]
    exact ⟨(gI (lits l).1 (ord l)[a]).toNat, by rw [List.mem_range]; omega, by omega⟩
  rw [cN_len, List.length_range] at hc
  have := bus_cnt hg
  omega
theorem different_eq (x : List Int) (hx : x.length ≤ 1000) : ∃ d, law06_different x = some d ∧ ∀ W : List Int, W.Nodup → (∀ v ∈ W, v ∈ x) → (W.length : Int) ≤ d := by
  unfold law06_different
  refine lp_inv' (fun i (s : Int × List (Int × Bool)) => s.1 = (i : Int) ∧ ∀ v ∈ x.take i, lookM v s.2 ≠ none) _ x.length (by omega) ⟨rfl, fun v h => by simp at h⟩ fun i s hi hI => ?_
  obtain ⟨i0, m⟩ := s
  obtain ⟨e, hI⟩ := hI
  simp only at e hI
  subst e
  unfold law06_different_b2
  simp only
  by_cases hc : i < x.length
  · left
    rw [if_pos (by simpa using hc), ix_lt hc, Option.bind_some, w64s' hc (by omega)]
    refine ⟨hc, _, rfl, rfl, fun v hv => ?_⟩
    rw [← List.take_append_getElem hc, List.mem_append, List.mem_singleton] at hv
    simp only
    rw [lookM_put]
    by_cases e : v = x[i]
    · rw [if_pos e]; simp
    · rw [if_neg e]; exact hI v (hv.resolve_right e)
  · right
    have e : i = x.length := by omega
    subst e
    rw [if_neg (by simp)]
    refine ⟨(m.length : Int), rfl, fun W hn hs => ?_⟩
    have hk : ∀ v ∈ W, v ∈ m.map (·.1) := fun v hv => by
      have := hI v (by rw [List.take_length]; exact hs v hv)
      have key : ∀ m : List (Int × Bool), lookM v m ≠ none → v ∈ m.map (·.1) := fun m => by
        induction m with
        | nil => intro h; exact absurd rfl h
        | cons p r ih =>
          intro h
          simp only [lookM] at h
          by_cases e : v = p.1
          · rw [e]; simp
          · rw [if_neg e] at h; exact List.mem_cons_of_mem _ (ih h)
      exact key m this
    have := sub_len hn hk
    rw [List.length_map] at this
    omega

/-! What queues keep. -/
structure QInv (l : List api_Lease) (p : Nat) (out : List api_Lease) (nx : Int → Int) : Prop where
  left : Left l p out
  nxs : Nx nx
  heaps : Heaps l p out nx
  same : ∀ a (ha : a < (ord l).length), a < p → (gL out (ord l)[a]).ID = (gL l (ord l)[a]).ID ∧ (gL out (ord l)[a]).Heap = (gL l (ord l)[a]).Heap ∧ (gL out (ord l)[a]).Span.Hi - (gL out (ord l)[a]).Span.Lo = (gL l (ord l)[a]).Span.Hi - (gL l (ord l)[a]).Span.Lo ∧ (gL l (ord l)[a]).Span.Lo ≤ (gL out (ord l)[a]).Span.Lo ∧ (gL out (ord l)[a]).Span.Hi ≤ 1048576
  apart : ∀ a b (ha : a < (ord l).length) (hb : b < (ord l).length), a < b → b < p → (gL l (ord l)[a]).Heap = (gL l (ord l)[b]).Heap → (gL out (ord l)[a]).Span.Hi < (gL out (ord l)[b]).Span.Lo
theorem QInv.step {l : List api_Lease} (hg : ∀ x ∈ l, GoodL x) {p : Nat} {out : List api_Lease} {nx : Int → Int} (h : QInv l p out nx) (hp : p < (ord l).length) (hc : ¬ 1048576 < max (gL l (ord l)[p]).Span.Lo (nx (gL l (ord l)[p]).Heap) + (gL l (ord l)[p]).Span.Hi - (gL l (ord l)[p]).Span.Lo) :
    QInv l (p + 1) (out.set (ord l)[p] ⟨(gL l (ord l)[p]).ID, (gL l (ord l)[p]).Heap, ⟨max (gL l (ord l)[p]).Span.Lo (nx (gL l (ord l)[p]).Heap), max (gL l (ord l)[p]).Span.Lo (nx (gL l (ord l)[p]).Heap) + (gL l (ord l)[p]).Span.Hi - (gL l (ord l)[p]).Span.Lo⟩⟩) (fun h => if h = (gL l (ord l)[p]).Heap then max (gL l (ord l)[p]).Span.Lo (nx (gL l (ord l)[p]).Heap) + (gL l (ord l)[p]).Span.Hi - (gL l (ord l)[p]).Span.Lo + 1 else nx h) := by
  have hv : (ord l)[p] < l.length := ordL_lt (List.getElem_mem hp)
  have ho := h.left.1
  have hgx : GoodL (gL l (ord l)[p]) := by rw [gL_get hv]; exact hg _ (List.getElem_mem hv)
  have b1 := hgx.lo
  have b2 := hgx.lh
  have hn := h.nxs (gL l (ord l)[p]).Heap
  refine ⟨h.left.step hp _, h.nxs.step hgx hc, h.heaps.step ho hp _ _ rfl (by show (0:Int) ≤ max (gL l (ord l)[p]).Span.Lo (nx (gL l (ord l)[p]).Heap) + (gL l (ord l)[p]).Span.Hi - (gL l (ord l)[p]).Span.Lo; omega) (by omega), fun a ha hap => ?_, fun a b ha hb hab hbp e => ?_⟩
  · rw [gL_set (by omega)]
    by_cases e : (ord l)[a] = (ord l)[p]
    · rw [if_pos e, e]
      exact ⟨rfl, rfl, by simp only; omega, by simp only; omega, by simp only; omega⟩
    · rw [if_neg e]
      have hne : a ≠ p := fun q => e (by subst q; rfl)
      exact h.same a ha (by omega)
  · rw [gL_set (by omega), gL_set (by omega)]
    have hna : (ord l)[a] ≠ (ord l)[p] := fun e => by have := ord_inj ha hp e; omega
    rw [if_neg hna]
    by_cases e2 : b = p
    · subst e2
      rw [if_pos rfl]
      have := h.heaps.1 a ha hab
      rw [e] at this
      simp only; omega
    · have hnb : (ord l)[b] ≠ (ord l)[p] := fun e => by have := ord_inj hb hp e; omega
      rw [if_neg hnb]
      exact h.apart a b ha hb hab (by omega) e
theorem QInv.all {l : List api_Lease} (hg : ∀ x ∈ l, GoodL x) : ∀ (n p : Nat) (out : List api_Lease) (nx : Int → Int), n + p = (ord l).length → QInv l p out nx → quF l ((ord l).drop p) out nx = ([], 2) ∨ ∃ q nx', quF l ((ord l).drop p) out nx = (q, 0) ∧ QInv l (ord l).length q nx'
  | 0, p, out, nx, e, h => by
    have : p = (ord l).length := by omega
    subst this
    rw [List.drop_length]
    exact .inr ⟨out, nx, rfl, h⟩
  | n + 1, p, out, nx, e, h => by
    have hp : p < (ord l).length := by omega
    rw [List.drop_eq_getElem_cons hp]
    simp only [quF]
    by_cases hc : 1048576 < max (gL l (ord l)[p]).Span.Lo (nx (gL l (ord l)[p]).Heap) + (gL l (ord l)[p]).Span.Hi - (gL l (ord l)[p]).Span.Lo
    · rw [if_pos hc]; exact .inl rfl
    · rw [if_neg hc]
      exact QInv.all hg n (p + 1) _ _ (by omega) (h.step hg hp hc)
theorem que_inv {l : List api_Lease} (hg : ∀ x ∈ l, GoodL x) : que l = ([], 2) ∨ ∃ q nx', que l = (q, 0) ∧ QInv l (ord l).length q nx' := by
  have := QInv.all hg (ord l).length 0 l (fun _ => 0) (by omega) ⟨⟨rfl, fun _ _ _ => rfl⟩, fun h => ⟨by simp, by simp⟩, ⟨fun q _ h => by omega, fun h => .inl rfl⟩, fun a _ h => by omega, fun a b _ _ _ h => by omega⟩
  rwa [List.drop_zero] at this
/-- Leases of one heap are apart. -/
def Calm (q : List api_Lease) : Prop := ∀ i k, i < q.length → k < q.length → i ≠ k → (gL q i).Heap = (gL q k).Heap → onc (gL q i) (gL q k) = false
structure QOut (l q : List api_Lease) : Prop where
  len : q.length = l.length
  same : ∀ i, i < l.length → (gL q i).ID = (gL l i).ID ∧ (gL q i).Span.Hi - (gL q i).Span.Lo = (gL l i).Span.Hi - (gL l i).Span.Lo ∧ (gL l i).Span.Lo ≤ (gL q i).Span.Lo
  good : ∀ x ∈ q, GoodL x
  calm : Calm q
theorem QInv.out {l : List api_Lease} (hg : ∀ x ∈ l, GoodL x) {q : List api_Lease} {nx : Int → Int} (h : QInv l (ord l).length q nx) : QOut l q := by
  have ho := h.left.1
  have hgi : ∀ i, i < l.length → GoodL (gL l i) := fun i hi => by rw [gL_get hi]; exact hg _ (List.getElem_mem hi)
  have hs : ∀ i, i < l.length → (gL q i).ID = (gL l i).ID ∧ (gL q i).Heap = (gL l i).Heap ∧ (gL q i).Span.Hi - (gL q i).Span.Lo = (gL l i).Span.Hi - (gL l i).Span.Lo ∧ (gL l i).Span.Lo ≤ (gL q i).Span.Lo ∧ (gL q i).Span.Hi ≤ 1048576 := fun i hi => by
    obtain ⟨a, ha, rfl⟩ := ord_mem hi
    exact h.same a ha ha
  refine ⟨ho, fun i hi => ⟨(hs i hi).1, (hs i hi).2.2.1, (hs i hi).2.2.2.1⟩, fun x hx => ?_, fun i k hi hk hne e => ?_⟩
  · obtain ⟨i, hi, rfl⟩ := List.getElem_of_mem hx
    rw [ho] at hi
    obtain ⟨s1, s2, s3, s4, s5⟩ := hs i hi
    have g := hgi i hi
    have g1 := g.i0
    have g2 := g.i1
    have g3 := g.h0
    have g4 := g.h1
    have g5 := g.lo
    have g6 := g.lh
    rw [gL_get (show i < q.length by omega)] at s1 s2 s3 s4 s5
    exact ⟨by omega, by omega, by omega, by omega, by omega, by omega, by omega⟩
  · rw [ho] at hi hk
    obtain ⟨a, ha, rfl⟩ := ord_mem hi
    obtain ⟨b, hb, rfl⟩ := ord_mem hk
    have e2 : (gL l (ord l)[a]).Heap = (gL l (ord l)[b]).Heap := by rw [← (hs _ hi).2.1, ← (hs _ hk).2.1]; exact e
    unfold onc
    rw [Bool.and_eq_false_iff, decide_eq_false_iff_not, decide_eq_false_iff_not]
    rcases Nat.lt_trichotomy a b with hab | hab | hab
    · have := h.apart a b ha hb hab hb e2; omega
    · subst hab; exact absurd rfl hne
    · have := h.apart b a hb ha hab ha e2.symm; omega
theorem QOut.chk {l q : List api_Lease} (h : QOut l q) (hl : l.length ≤ 20) (hd : l.Pairwise fun x y => x.ID ≠ y.ID) : chk q = 0 := by
  unfold Mx.chk
  rw [if_neg (by rw [h.len]; omega)]
  refine chkL_zero q [] h.good (fun x _ => rfl) ?_
  rw [List.pairwise_iff_getElem]
  intro i j hi hj hij
  have e1 := (h.same i (by rw [← h.len]; exact hi)).1
  have e2 := (h.same j (by rw [← h.len]; exact hj)).1
  rw [gL_get hi, gL_get (show i < l.length by rw [← h.len]; exact hi)] at e1
  rw [gL_get hj, gL_get (show j < l.length by rw [← h.len]; exact hj)] at e2
  rw [e1, e2]
  exact List.pairwise_iff_getElem.1 hd i j _ _ hij
theorem calm_prA {q : List api_Lease} (h : Calm q) : ∀ i, i ≤ q.length → prA q i = []
  | 0, _ => rfl
  | i + 1, hi => by
    rw [prA_succ, calm_prA h i (by omega), List.nil_append]
    unfold prK
    rw [List.filterMap_eq_nil_iff]
    intro k hk
    rw [List.mem_range] at hk
    rw [if_neg]
    unfold prc
    rw [Bool.and_eq_true, decide_eq_true_eq]
    rintro ⟨e, ho⟩
    rw [h i k (by omega) (by omega) (by omega) e] at ho; cases ho
theorem srt_nil : srtF lt_pair [] = [] := (srtF_spec lt_pair_swo []).1.eq_nil
theorem calm_que {q : List api_Lease} (hg : ∀ x ∈ q, GoodL x) (h : Calm q) : que q = (q, 0) := by
  have key : ∀ (n p : Nat) (nx : Int → Int), n + p = (ord q).length → Heaps q p q nx → quF q ((ord q).drop p) q nx = (q, 0) := fun n => by
    induction n with
    | zero =>
      intro p nx e _
      have : p = (ord q).length := by omega
      subst this
      rw [List.drop_length]; rfl
    | succ n ih =>
      intro p nx e hh
      have hp : p < (ord q).length := by omega
      have hv : (ord q)[p] < q.length := ordL_lt (List.getElem_mem hp)
      have hgx : GoodL (gL q (ord q)[p]) := by rw [gL_get hv]; exact hg _ (List.getElem_mem hv)
      have b1 := hgx.lo
      have b2 := hgx.lh
      have b3 := hgx.hi
      have hn : nx (gL q (ord q)[p]).Heap ≤ (gL q (ord q)[p]).Span.Lo := by
        rcases hh.2 (gL q (ord q)[p]).Heap with h0 | ⟨a, ha, a1, a2, a3⟩
        · omega
        · have hav : (ord q)[a] < q.length := ordL_lt (List.getElem_mem ha)
          have hne : (ord q)[a] ≠ (ord q)[p] := fun e => by have := ord_inj ha hp e; omega
          have ho := h _ _ hav hv hne a2
          have hs := List.pairwise_iff_getElem.1 (ordL_sorted q q.length) a p ha hp a1
          change (gL q (ord q)[a]).Span.Lo ≤ (gL q (ord q)[p]).Span.Lo at hs
          unfold onc at ho
          rw [Bool.and_eq_false_iff, decide_eq_false_iff_not, decide_eq_false_iff_not] at ho
          omega
      have em : max (gL q (ord q)[p]).Span.Lo (nx (gL q (ord q)[p]).Heap) = (gL q (ord q)[p]).Span.Lo := by omega
      have ee : (gL q (ord q)[p]).Span.Lo + (gL q (ord q)[p]).Span.Hi - (gL q (ord q)[p]).Span.Lo = (gL q (ord q)[p]).Span.Hi := by omega
      have es : q.set (ord q)[p] (gL q (ord q)[p]) = q := by rw [gL_get hv]; exact List.set_getElem_self hv
      rw [List.drop_eq_getElem_cons hp]
      simp only [quF]
      rw [em, ee, if_neg (by omega), es]
      have hst := hh.step rfl hp (gL q (ord q)[p]) ((gL q (ord q)[p]).Span.Hi + 1) rfl (by omega) (by omega)
      rw [es] at hst
      exact ih (p + 1) _ (by omega) hst
  have := key (ord q).length 0 (fun _ => 0) (by omega) ⟨fun q _ h => by omega, fun h => .inl rfl⟩
  rwa [List.drop_zero] at this
end Go.Mx
