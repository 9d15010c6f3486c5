/- Plain laws of ships, nineteenth part: the search for steps finds them if there are some. Conditions: none. -/
import Derived.Test.YthfnbjoecocfaaaGreatLawHu
set_option linter.unusedVariables false
set_option linter.unusedSimpArgs false
namespace Go.Mx

/-! Counting. -/
theorem nodup_sub_len {α : Type} [DecidableEq α] : ∀ (l m : List α), l.Nodup → (∀ x ∈ l, x ∈ m) → l.length ≤ m.length
 | [], m, _, _ => by simp
 | x :: r, m, hn, hs => by
  rw [List.nodup_cons] at hn
  have hx := hs x List.mem_cons_self
  have h1 := nodup_sub_len r (m.erase x) hn.2 fun y hy => (List.mem_erase_of_ne (fun e => by subst e; exact hn.1 hy)).2 (hs y (List.mem_cons_of_mem _ hy))
  have h2 := List.length_erase_of_mem hx
  have h3 := List.length_pos_of_mem hx
  simp only [List.length_cons]; omega
def allL : List Int → List (List Int)
 | [] => [[]]
 | e :: es => (List.range (e + 1).toNat).flatMap fun (k : Nat) => (allL es).map fun r => (k : Int) :: r
def prodE : List Int → Nat
 | [] => 1
 | e :: es => (e + 1).toNat * prodE es
theorem flat_len {α β : Type} (f : α → List β) (c : Nat) (hf : ∀ x, (f x).length = c) : ∀ l : List α, (l.flatMap f).length = l.length * c
 | [] => by simp
 | x :: r => by rw [List.flatMap_cons, List.length_append, hf, flat_len f c hf r, List.length_cons, Nat.add_mul]; omega
theorem allL_len : ∀ e : List Int, (allL e).length = prodE e
 | [] => rfl
 | e :: es => by
  unfold allL prodE
  rw [flat_len _ (prodE es) (fun k => by rw [List.length_map, allL_len es]), List.length_range]
theorem allL_mem : ∀ (e d : List Int), d.length = e.length → (∀ i, i < e.length → 0 ≤ gI d i ∧ gI d i ≤ gI e i) → d ∈ allL e
 | [], [], _, _ => by simp [allL]
 | [], _ :: _, h, _ => by simp at h
 | _ :: _, [], h, _ => by simp at h
 | e :: es, d :: ds, h, hh => by
  have h0 : 0 ≤ d ∧ d ≤ e := hh 0 (by simp)
  have ih := allL_mem es ds (by simpa using h) fun i hi => hh (i + 1) (by simpa using hi)
  unfold allL
  rw [List.mem_flatMap]
  refine ⟨d.toNat, by rw [List.mem_range]; omega, ?_⟩
  rw [List.mem_map]
  exact ⟨ds, ih, by rw [Int.toNat_of_nonneg h0.1]⟩
theorem count_le {en : hull_done} (l : List hull_done) (hn : l.Nodup) (hv : ∀ d ∈ l, Val en d) : l.length ≤ prodE en.toL := by
 have h1 := nodup_sub_len (l.map hull_done.toL) (allL en.toL) (List.pairwise_map.2 (List.Pairwise.imp (fun {a b} hab e => hab (done_ext fun i _ => by unfold gD; rw [e])) hn)) fun x hx => by
  obtain ⟨d, hd, rfl⟩ := List.mem_map.1 hx
  exact allL_mem en.toL d.toL rfl fun i hi => hv d hd i hi
 rw [List.length_map, allL_len] at h1
 exact h1

/-! Entries. -/
theorem lookM_snoc {α β : Type} [DecidableEq α] (k k' : α) (v : β) : ∀ m : List (α × β), lookM k' m ≠ none → lookM k' (m ++ [(k, v)]) = lookM k' m
 | [], h => absurd rfl h
 | p :: r, h => by
  simp only [List.cons_append, lookM] at h ⊢
  by_cases e : k' = p.1
  ·simp [e]
  ·rw [if_neg e] at h ⊢
   rw [if_neg e]
   exact lookM_snoc k k' v r h
theorem lookM_snoc' {α β : Type} [DecidableEq α] (k k' : α) (v : β) : ∀ m : List (α × β), lookM k' m = none → lookM k' (m ++ [(k, v)]) = if k' = k then some v else none
 | [], h => rfl
 | p :: r, h => by
  simp only [List.cons_append, lookM] at h ⊢
  by_cases e : k' = p.1
  ·simp [e] at h
  ·rw [if_neg e] at h ⊢
   exact lookM_snoc' k k' v r h
theorem insL_end {α : Type} : ∀ (l : List α) (x : α), insL l l.length x = l ++ [x]
 | [], x => rfl
 | y :: r, x => by simp only [List.length_cons, insL, insL_end r x, List.cons_append]
theorem putM_new {α β : Type} [DecidableEq α] (m : List (α × β)) (k : α) (v : β) (h : lookM k m = none) : putM posE m k v = m ++ [(k, v)] := by
 have hf := findK_spec (k := k) (l := m)
 unfold putM
 cases hc : findK k m with
 | some i => rw [hc] at hf; obtain ⟨w, _, h2⟩ := hf; rw [h] at h2; cases h2
 | none =>
  simp only [posE, List.length_map]
  exact insL_end m _
theorem lookM_mem {α β : Type} [DecidableEq α] {k : α} : ∀ {m : List (α × β)}, k ∈ m.map (·.1) → lookM k m ≠ none
 | [], h => by simp at h
 | p :: r, h => by
  simp only [lookM]
  by_cases e : k = p.1
  ·simp [e]
  ·rw [if_neg e]
   simp only [List.map_cons, List.mem_cons] at h
   exact lookM_mem (h.resolve_left e)
/-! Turned round. -/
theorem rev_loop (l : List api_Drop) (hl : l.length ≤ 1000) : hull_unloading_search_j2 l = some (l.reverse, 0) := by
 unfold hull_unloading_search_j2
 rw [w64_u (by omega)]
 suffices h : ∃ r, Lp (hull_unloading_search_b4 l) fuel (0, (l.length : Int) - 1, l) = some r ∧ r = (l.reverse, 0) by obtain ⟨r, h, rfl⟩ := h; exact h
 refine lp_inv' (fun t (s : Int × Int × List api_Drop) => s.1 = (t : Int) ∧ s.2.1 = (l.length : Int) - 1 - (t : Int) ∧ s.2.2.length = l.length ∧ ∀ k, k < l.length → s.2.2[k]? = if k < t ∨ l.length < k + 1 + t then l[l.length - 1 - k]? else l[k]?) _ l.length (by omega) ⟨rfl, by simp only; omega, rfl, fun k hk => by simp only; rw [if_neg (by omega)]⟩ fun t s ht hI => ?_
 obtain ⟨i, j, l2⟩ := s
 obtain ⟨e1, e2, e3, e4⟩ := hI
 simp only at e1 e2 e3 e4
 subst e1 e2
 unfold hull_unloading_search_b4
 simp only
 by_cases hc : (t : Int) < (l.length : Int) - 1 - (t : Int)
 ·left
  have hj : ((l.length : Int) - 1 - (t : Int)) = ((l.length - 1 - t : Nat) : Int) := by omega
  have h1 : t < l2.length := by omega
  have h2 : l.length - 1 - t < l2.length := by omega
  have q1 := e4 t (by omega)
  have q2 := e4 (l.length - 1 - t) (by omega)
  rw [if_neg (by omega)] at q1 q2
  rw [List.getElem?_eq_getElem h1, List.getElem?_eq_getElem (show t < l.length by omega), Option.some.injEq] at q1
  rw [List.getElem?_eq_getElem h2, List.getElem?_eq_getElem (show l.length - 1 - t < l.length by omega), Option.some.injEq] at q2
  rw [if_pos (by simpa using hc), hj, ix_lt h2, Option.bind_some, ix_lt h1, Option.bind_some, Option.bind_some, put_nat]
  have h3 : l.length - 1 - t < (l2.set t l2[l.length - 1 - t]).length := by simpa using h2
  rw [ix_lt h3, Option.bind_some, put_nat, w64s t (by omega), w64_u (by omega)]
  refine ⟨by omega, _, rfl, rfl, by simp only; omega, by simp [e3], fun k hk => ?_⟩
  simp only [List.getElem?_set, List.length_set]
  by_cases c1 : l.length - 1 - t = k
  ·rw [if_pos c1, if_pos (by omega), if_pos (by omega), q1, show l.length - 1 - k = t by omega, List.getElem?_eq_getElem]
  ·rw [if_neg c1]
   by_cases c2 : t = k
   ·rw [if_pos c2, if_pos (by omega), if_pos (by omega), q2, ← c2, List.getElem?_eq_getElem]
   ·rw [if_neg c2, e4 k hk]
    by_cases c3 : k < t ∨ l.length < k + 1 + t
    ·rw [if_pos c3, if_pos (by omega)]
    ·rw [if_neg c3, if_neg (by omega)]
 ·right
  rw [if_neg (by simpa using hc)]
  have hr : l2 = l.reverse := List.ext_getElem? fun k => by
   by_cases hk : k < l.length
   ·rw [e4 k hk, List.getElem?_reverse hk]
    split
    ·rfl
    ·rw [show l.length - 1 - k = k by omega]
   ·rw [List.getElem?_eq_none (by omega), List.getElem?_eq_none (by simp; omega)]
  unfold sameO
  rw [if_pos e3.symm, Option.bind_some, hr]
  exact ⟨_, rfl, rfl⟩

/-! What can be reached. -/
inductive Reach (u : hull_unloading) (en : hull_done) : hull_done → Prop
 | zero : Reach u en zeroD
 | step {d : hull_done} {k : Nat} : Reach u en d → k < u.from_.length → gD d k < gD en k → steadyB u.ship (bhL u (incD d k)) = true → Reach u en (incD d k)
/-- What is known of the entries. -/
structure Ents (u : hull_unloading) (en : hull_done) (m : List (hull_done × Int)) : Prop where
 zero : lookM zeroD m = some (-1)
 keys : ∀ d v, lookM d m = some v → (d = zeroD ∧ v = -1) ∨ ∃ k : Nat, k < u.from_.length ∧ v = (k : Int) ∧ Val en d ∧ 1 ≤ gD d k ∧ steadyB u.ship (bhL u d) = true ∧ lookM (decD d k) m ≠ none
 nodup : (m.map (·.1)).Nodup
theorem Ents.val {u : hull_unloading} {en : hull_done} (he : End u en) {m : List (hull_done × Int)} (h : Ents u en m) {d : hull_done} (hd : lookM d m ≠ none) : Val en d := by
 cases hc : lookM d m with
 | none => exact absurd hc hd
 | some v =>
  rcases h.keys d v hc with ⟨rfl, _⟩ | ⟨k, _, _, hv, _⟩
  ·exact Val.zero he
  ·exact hv
theorem Ents.count {u : hull_unloading} {en : hull_done} (he : End u en) {m : List (hull_done × Int)} (h : Ents u en m) : m.length ≤ prodE en.toL := by
 have := count_le (en := en) (m.map (·.1)) h.nodup fun d hd => h.val he (lookM_mem hd)
 rwa [List.length_map] at this
theorem Ents.put {u : hull_unloading} {en : hull_done} (he : End u en) {m : List (hull_done × Int)} (h : Ents u en m) {d : hull_done} {k : Nat} (hk : k < u.from_.length) (hn : u.from_.length ≤ 8) (hd : lookM d m ≠ none) (hnew : lookM (incD d k) m = none) (hlt : gD d k < gD en k) (hst : steadyB u.ship (bhL u (incD d k)) = true) : Ents u en (m ++ [(incD d k, (k : Int))]) := by
 have hv := h.val he hd
 refine ⟨by rw [lookM_snoc _ _ _ _ (by rw [h.zero]; simp)]; exact h.zero, fun e v hev => ?_, ?_⟩
 ·by_cases hold : lookM e m = none
  ·rw [lookM_snoc' _ _ _ _ hold] at hev
   split at hev
   ·rename_i e1
    subst e1
    cases hev
    refine .inr ⟨k, hk, rfl, hv.inc (by omega) hlt, ?_, hst, ?_⟩
    ·rw [gD_inc d k (by omega), if_pos rfl]; have := hv k (by omega); omega
    ·have e2 : decD (incD d k) k = d := done_ext fun i _ => by
      rw [gD_dec _ k (by omega), gD_inc d k (by omega), gD_inc d k (by omega), if_pos rfl]
      split
      ·rename_i e; subst e; omega
      ·rfl
     rw [e2, lookM_snoc _ _ _ _ hd]; exact hd
   ·cases hev
  ·rw [lookM_snoc _ _ _ _ hold] at hev
   rcases h.keys e v hev with q | ⟨j, j1, j2, j3, j4, j5, j6⟩
   ·exact .inl q
   ·exact .inr ⟨j, j1, j2, j3, j4, j5, by rw [lookM_snoc _ _ _ _ j6]; exact j6⟩
 ·rw [List.map_append, List.nodup_append]
  refine ⟨h.nodup, by simp, fun a ha b hb hab => ?_⟩
  simp only [List.map_cons, List.map_nil, List.mem_singleton] at hb
  subst hb; subst hab
  exact lookM_mem ha hnew
/-- The way back. -/
theorem way_back {u : hull_unloading} {en : hull_done} (hu : Unl u) (he : End u en) (hsum : sumD en ≤ 60) {m : List (hull_done × Int)} (h : Ents u en m) (hen : lookM en m ≠ none) : ∃ l, hull_unloading_search_j1 u en m = some (l, 0) ∧ Trail u en zeroD l := by
 have hn := hu.n
 have hsm : ∀ d, Val en d → 0 ≤ sumD d := fun d hd => by
  unfold sumD
  have : ∀ l : List Int, (∀ i, i < l.length → 0 ≤ gI l i) → 0 ≤ l.sum := by
   intro l
   induction l with
   | nil => intro _; simp
   | cons a r ih =>
    intro hh
    have h0 : 0 ≤ a := hh 0 (by simp)
    have := ih fun i hi => hh (i + 1) (by simpa using hi)
    simp only [List.sum_cons]; omega
  exact this _ fun i hi => (hd i (by rw [toL_len] at hi; exact hi)).1
 unfold hull_unloading_search_j1
 rw [if_neg (by cases hc : lookM en m with
  | none => exact absurd hc hen
  | some v => simp)]
 suffices hh : ∃ r, Lp (hull_unloading_search_b5 u m) fuel ([], en) = some r ∧ ∃ l, r = (l, 0) ∧ Trail u en zeroD l by
  obtain ⟨r, q1, l, rfl, q2⟩ := hh; exact ⟨l, q1, q2⟩
 refine lp_inv' (fun i (s : List api_Drop × hull_done) => s.1.length = i ∧ lookM s.2 m ≠ none ∧ sumD s.2 + (i : Int) = sumD en ∧ Trail u en s.2 s.1.reverse) _ 60 (by omega) ⟨rfl, hen, by simp, rfl⟩ fun i s hi hI => ?_
 obtain ⟨l4, at_⟩ := s
 obtain ⟨e1, e2, e3, e4⟩ := hI
 simp only at e1 e2 e3 e4
 have hv := h.val he e2
 unfold hull_unloading_search_b5
 simp only
 cases hc : lookM at_ m with
 | none => exact absurd hc e2
 | some v =>
  simp only [Option.getD_some]
  rcases h.keys at_ v hc with ⟨rfl, rfl⟩ | ⟨k, k1, rfl, k3, k4, k5, k6⟩
  ·right
   rw [if_neg (by decide), rev_loop l4 (by omega)]
   exact ⟨_, rfl, _, rfl, e4⟩
  ·left
   have hk8 : k < 8 := by omega
   have hdv : Val en (decD at_ k) := h.val he k6
   have hb := gD_dec at_ k hk8
   have hbk : k < at_.toL.length := by rw [toL_len]; exact hk8
   have hid : incD (decD at_ k) k = at_ := inc_dec at_ k hk8
   have hlt : gD (decD at_ k) k < gD en k := by rw [hb k, if_pos rfl]; have := k3 k hk8; omega
   have hset : hull_done.set at_ (k : Int) (w64 (gD at_ k - 1)) = decD at_ k := by
    unfold decD
    rw [w64_u (by have := k3 k hk8; have := he.c k hk8; omega)]
   have hms := mass_step hu he hdv k1 hlt
   rw [hid] at hms
   have b1 := bh_rng hu (hdv.small he) k k1
   have b2 := bh_rng hu (k3.small he) k k1
   have hr := hu.rng k k1
   have hs0 := hsm _ hdv
   have hs1 := sumD_inc (decD at_ k) k hk8
   rw [hid] at hs1
   rw [if_pos (by rw [decide_eq_true_eq]; omega), ix_gI hbk, show gI at_.toL k = gD at_ k from rfl, Option.bind_some, Option.bind_some, hset, hbehindD_eq hu (hdv.small he), Option.bind_some, ix_gI (by rw [bhL_len]; exact k1), gI_bhL u _ k k1, Option.bind_some, hbehindD_eq hu (k3.small he), Option.bind_some, ix_gI (by rw [bhL_len]; exact k1), gI_bhL u _ k k1, Option.bind_some, app_ok (by simp; omega), Option.bind_some, w64_u (by omega)]
   refine ⟨by omega, _, rfl, by simp [e1], k6, by simp only; omega, ?_⟩
   simp only [List.reverse_append, List.reverse_cons, List.reverse_nil, List.nil_append, List.cons_append]
   exact ⟨k, k1, rfl, hlt, by rw [hid], by rw [hid]; exact k5, by rw [hid]; exact e4⟩

/-! The search. -/
def Nbr (u : hull_unloading) (en : hull_done) (m : List (hull_done × Int)) (d : hull_done) (n : Nat) : Prop := ∀ j, j < n → gD d j < gD en j → steadyB u.ship (bhL u (incD d j)) = true → lookM (incD d j) m ≠ none
structure Sea (u : hull_unloading) (en : hull_done) (m : List (hull_done × Int)) (q : List hull_done) (ex : hull_done → Prop) : Prop where
 ents : Ents u en m
 qk : ∀ d ∈ q, lookM d m ≠ none
 nbr : ∀ d, lookM d m ≠ none → d ∉ q → ¬ ex d → Nbr u en m d u.from_.length
 noend : en = zeroD ∨ lookM en m = none
theorem look_mono {m : List (hull_done × Int)} {k : hull_done} {v : Int} {d : hull_done} (h : lookM d m ≠ none) : lookM d (m ++ [(k, v)]) ≠ none := by rw [lookM_snoc _ _ _ _ h]; exact h
/-- What the search hands back. -/
def Found (u : hull_unloading) (en : hull_done) (r : List api_Drop × Int) : Prop := (r.2 = 0 ∧ Trail u en zeroD r.1) ∨ (r = ([], 5) ∧ ¬ Reach u en en)
theorem search_in {u : hull_unloading} {en : hull_done} (hu : Unl u) (he : End u en) (hsum : sumD en ≤ 60) (hN : prodE en.toL ≤ 2000) {x : hull_done} {P : Nat} {a : Int} {m : List (hull_done × Int)} {l : List hull_done} (h : Sea u en m (l.drop a.toNat) (fun d => d = x)) (hx : lookM x m ≠ none) (ha : 0 ≤ a ∧ a ≤ (P : Int)) (hal : a.toNat ≤ l.length) (hc : m.length = P + (l.drop a.toNat).length) :
  ∃ r, Lp (hull_unloading_search_b7 u en x) fuel (a, 0, m, l) = some r ∧ ((∃ a' m' l', r = .inl (a', m', l') ∧ Sea u en m' (l'.drop a'.toNat) (fun _ => False) ∧ (0 ≤ a' ∧ a' ≤ (P : Int)) ∧ a'.toNat ≤ l'.length ∧ m'.length = P + (l'.drop a'.toNat).length) ∨ ∃ y, r = .inr y ∧ Found u en y) := by
 have hn := hu.n
 have hs := GoodS.of hu.chk
 refine lp_inv' (fun k (s : Int × Int × List (hull_done × Int) × List hull_done) => s.2.1 = (k : Int) ∧ Sea u en s.2.2.1 (s.2.2.2.drop s.1.toNat) (fun d => d = x) ∧ lookM x s.2.2.1 ≠ none ∧ Nbr u en s.2.2.1 x k ∧ (0 ≤ s.1 ∧ s.1 ≤ (P : Int)) ∧ s.1.toNat ≤ s.2.2.2.length ∧ s.2.2.1.length = P + (s.2.2.2.drop s.1.toNat).length) _ u.from_.length (by omega) ⟨rfl, h, hx, fun j hj => by omega, ha, hal, hc⟩ fun k s hk hI => ?_
 obtain ⟨a, k0, m, l⟩ := s
 obtain ⟨e0, h, hx, hnb, ha, hal, hc⟩ := hI
 simp only at e0 h hx hnb ha hal hc
 subst e0
 have hxv := h.ents.val he hx
 have hcount := h.ents.count he
 unfold hull_unloading_search_b7
 simp only
 by_cases hkn : k < u.from_.length
 ·have hk8 : k < 8 := by omega
  have hkx : k < x.toL.length := by rw [toL_len]; exact hk8
  have hxk := hxv k hk8
  have hek := he.c k hk8
  have hset : hull_done.set x (k : Int) (w64 (gD x k + 1)) = incD x k := by unfold incD; rw [w64_u (by omega)]
  have hg1 := gD_inc x k hk8 k
  rw [if_pos rfl] at hg1
  rw [if_pos (by simpa using hkn), ix_gI hkx, show gI x.toL k = gD x k from rfl, Option.bind_some, Option.bind_some, hset, ix_gI (show k < (incD x k).toL.length by rw [toL_len]; exact hk8), show gI (incD x k).toL k = gD (incD x k) k from rfl, hg1, ix_gI (show k < en.toL.length by rw [toL_len]; exact hk8), show gI en.toL k = gD en k from rfl]
  have j8 : ∀ a m l, hull_unloading_search_j8 (k : Int) a m l = some (.inl (a, ((k + 1 : Nat) : Int), m, l)) := fun a m l => by unfold hull_unloading_search_j8; rw [w64s k (by omega)]
  by_cases hmet : lookM (incD x k) m = none
  ·have e1 : (lookM (incD x k) m).isSome = false := by rw [hmet]; rfl
   rw [e1]
   simp only [Bool.not_false, gb, if_true, Option.bind_some, Bool.false_or]
   by_cases hlt : gD x k < gD en k
   ·have e2 : decide (gD en k < gD x k + 1) = false := by rw [decide_eq_false_iff_not]; omega
    have hv2 := hxv.inc hk8 hlt
    rw [e2]
    simp only [Bool.not_false, if_true, Bool.false_or]
    rw [hbehindD_eq hu (hv2.small he), Option.bind_some, hsteady_eq hs (bh_rms hu (hv2.small he)), Option.bind_some]
    by_cases hst : steadyB u.ship (bhL u (incD x k)) = true
    ·rw [if_neg (by simp [hst])]
     have hput : putM posE m (incD x k) (k : Int) = m ++ [(incD x k, (k : Int))] := putM_new m _ _ hmet
     have hents := h.ents.put he hkn hn hx hmet hlt hst
     by_cases hend : incD x k = en
     ·right
      rw [if_pos (by simpa using hend), hput]
      obtain ⟨dr, q1, q2⟩ := way_back hu he hsum hents (by rw [← hend, lookM_snoc' _ _ _ _ hmet, if_pos rfl]; simp)
      rw [q1]
      exact ⟨_, rfl, .inr ⟨_, rfl, .inl ⟨rfl, q2⟩⟩⟩
     ·left
      have hlen : l.length ≤ 4000 := by
       rw [List.length_drop] at hc; omega
      have hq : qapp l a [incD x k] = some (l.drop a.toNat ++ [incD x k]) := by unfold qapp; rw [if_pos ⟨hal, by simp; omega⟩]
      rw [if_neg (by simpa using hend), hq, Option.bind_some, hput, j8]
      refine ⟨hkn, _, rfl, rfl, ⟨hents, fun d hd => ?_, fun d hd hdq hex => ?_, ?_⟩, look_mono hx, fun j hj hjl hjs => ?_, by simp only; omega, by simp, ?_⟩
      ·simp only [Int.toNat_zero, List.drop_zero] at hd
       rcases List.mem_append.1 hd with hd | hd
       ·exact look_mono (h.qk d hd)
       ·rw [List.mem_singleton] at hd
        subst hd
        rw [lookM_snoc' _ _ _ _ hmet, if_pos rfl]; simp
      ·simp only [Int.toNat_zero, List.drop_zero, List.mem_append, List.mem_singleton, not_or] at hdq
       have hold : lookM d m ≠ none := fun hno => by
        simp only at hd
        rw [lookM_snoc' _ _ _ _ hno, if_neg hdq.2] at hd
        exact hd rfl
       have := h.nbr d hold hdq.1 hex
       exact fun j hj h1 h2 => look_mono (this j hj h1 h2)
      ·rcases h.noend with hz | hz
       ·exact .inl hz
       ·refine .inr ?_
        simp only
        rw [lookM_snoc' _ _ _ _ hz, if_neg (fun e => hend e.symm)]
      ·by_cases e : j = k
       ·subst e
        simp only
        rw [lookM_snoc' _ _ _ _ hmet, if_pos rfl]; simp
       ·exact look_mono (hnb j (by omega) hjl hjs)
      ·simp only [Int.toNat_zero, List.drop_zero, List.length_append, List.length_singleton]
       omega
    ·left
     rw [if_pos (by simpa using hst), j8]
     refine ⟨hkn, _, rfl, rfl, h, hx, fun j hj hjl hjs => ?_, ha, hal, hc⟩
     by_cases e : j = k
     ·subst e; exact absurd hjs hst
     ·exact hnb j (by omega) hjl hjs
   ·left
    have e2 : decide (gD en k < gD x k + 1) = true := by rw [decide_eq_true_eq]; omega
    rw [e2]
    simp only [Bool.not_true, Bool.false_eq_true, if_false, Option.bind_some, Bool.true_or, if_true]
    rw [j8]
    refine ⟨hkn, _, rfl, rfl, h, hx, fun j hj hjl hjs => ?_, ha, hal, hc⟩
    by_cases e : j = k
    ·subst e; exact absurd hjl hlt
    ·exact hnb j (by omega) hjl hjs
  ·left
   have e1 : (lookM (incD x k) m).isSome = true := by
    cases hcc : lookM (incD x k) m with
    | none => exact absurd hcc hmet
    | some v => rfl
   rw [e1]
   simp only [Bool.not_true, gb, Bool.false_eq_true, if_false, Option.bind_some, Bool.true_or, if_true]
   rw [j8]
   refine ⟨hkn, _, rfl, rfl, h, hx, fun j hj hjl hjs => ?_, ha, hal, hc⟩
   by_cases e : j = k
   ·subst e; exact hmet
   ·exact hnb j (by omega) hjl hjs
 ·right
  have e : k = u.from_.length := by omega
  subst e
  rw [if_neg (by simp)]
  refine ⟨_, rfl, .inl ⟨a, m, l, rfl, ⟨h.ents, h.qk, fun d hd hdq _ => ?_, h.noend⟩, ha, hal, hc⟩⟩
  by_cases e : d = x
  ·subst e; exact hnb
  ·exact h.nbr d hd hdq e
theorem search_spec {u : hull_unloading} {en : hull_done} (hu : Unl u) (he : End u en) (hsum : sumD en ≤ 60) (hN : prodE en.toL ≤ 2000) : ∃ r, hull_unloading_search u en = some r ∧ Found u en r := by
 have hn := hu.n
 have hp0 : putM posE ([] : List (hull_done × Int)) (⟨0, 0, 0, 0, 0, 0, 0, 0⟩ : hull_done) (-1) = [(zeroD, -1)] := rfl
 unfold hull_unloading_search
 rw [hp0]
 have hE0 : Ents u en [(zeroD, -1)] := by
  refine ⟨by simp [lookM], fun d v hdv => ?_, by simp⟩
  simp only [lookM] at hdv
  split at hdv
  ·rename_i e; cases hdv; exact .inl ⟨e, rfl⟩
  ·cases hdv
 refine lp_inv' (fun i (s : Int × List (hull_done × Int) × List hull_done) => Sea u en s.2.1 (s.2.2.drop s.1.toNat) (fun _ => False) ∧ (0 ≤ s.1 ∧ s.1 ≤ (i : Int)) ∧ s.1.toNat ≤ s.2.2.length ∧ s.2.1.length = i + (s.2.2.drop s.1.toNat).length) _ 2000 (by omega) ⟨⟨hE0, fun d hd => ?_, fun d hd hdq _ => ?_, ?_⟩, by simp only; omega, by simp, by simp⟩ fun i s hi hI => ?_
 ·have hd' : d ∈ [zeroD] := hd
  rw [List.mem_singleton] at hd'
  subst hd'
  simp [lookM]
 ·exfalso
  simp only at hd
  have hz : d = zeroD := by
   rcases Classical.em (d = zeroD) with e | e
   ·exact e
   ·exact absurd (by simp [lookM, e]) hd
  subst hz
  exact hdq (by show zeroD ∈ [zeroD]; simp)
 ·by_cases e : en = zeroD
  ·exact .inl e
  ·exact .inr (by simp [lookM, e])
 ·obtain ⟨a, m, l⟩ := s
  obtain ⟨h, ha, hal, hc⟩ := hI
  simp only at h ha hal hc
  have hcount := h.ents.count he
  unfold hull_unloading_search_b6
  simp only
  by_cases hq : 0 < (l.drop a.toNat).length
  ·have hq2 : a.toNat < l.length := by rw [List.length_drop] at hq; omega
   have hix : ix (l.drop a.toNat) 0 = some (l[a.toNat]) := by
    have := ix_lt (l := l.drop a.toNat) (i := 0) hq
    simpa using this
   have hsl : qsl l a 1 = some ((a.toNat : Int) + 1) := by unfold qsl; rw [if_pos ⟨by omega, by simp; omega⟩]
   have ea : (a.toNat : Int) + 1 = a + 1 := by omega
   have hd := List.drop_eq_getElem_cons hq2
   have hxm : lookM l[a.toNat] m ≠ none := h.qk _ (by rw [hd]; exact List.mem_cons_self)
   have ha1 : (a + 1).toNat = a.toNat + 1 := by omega
   rw [if_pos (by rw [decide_eq_true_eq]; omega), hix, Option.bind_some, hsl, Option.bind_some, ea]
   have h2 : Sea u en m (l.drop (a + 1).toNat) (fun d => d = l[a.toNat]) := by
    rw [ha1]
    refine ⟨h.ents, fun d hdm => h.qk d (by rw [hd]; exact List.mem_cons_of_mem _ hdm), fun d hdm hdq hex => h.nbr d hdm ?_ (fun hf => hf), h.noend⟩
    rw [hd, List.mem_cons, not_or]
    exact ⟨hex, hdq⟩
   obtain ⟨r, q1, q2⟩ := search_in hu he hsum hN (P := i + 1) h2 hxm (by omega) (by omega) (by rw [hc, hd, ha1, List.length_cons]; omega)
   rw [q1]
   rcases q2 with ⟨a', m', l', rfl, s1, s2, s3, s4⟩ | ⟨y, rfl, hy⟩
   ·exact .inl ⟨by omega, _, rfl, s1, s2, s3, s4⟩
   ·exact .inr ⟨y, rfl, hy⟩
  ·right
   have hemp : l.drop a.toNat = [] := List.length_eq_zero_iff.1 (by omega)
   rw [if_neg (by rw [decide_eq_true_eq]; omega)]
   rw [hemp] at h
   have hall : ∀ d, Reach u en d → lookM d m ≠ none := fun d hd => by
    induction hd with
    | zero => rw [h.ents.zero]; simp
    | step hr hk hl hst ih => exact h.nbr _ ih (by simp) (fun hf => hf) _ hk hl hst
   rcases h.noend with hz | hz
   ·obtain ⟨dr, q1, q2⟩ := way_back hu he hsum h.ents (by rw [hz, h.ents.zero]; simp)
    rw [q1]
    exact ⟨_, rfl, .inl ⟨rfl, q2⟩⟩
   ·have : hull_unloading_search_j1 u en m = some ([], 5) := by
     unfold hull_unloading_search_j1
     rw [if_pos (by rw [hz]; rfl)]
    rw [this]
    exact ⟨_, rfl, .inr ⟨rfl, fun hr => hall _ hr hz⟩⟩
end Go.Mx
