/- Plain laws of ships, twenty-second part: the loadings by how many steps lead to them. Conditions: none. -/
import Derived.Test.YthfnbjoecocfaaaGreatLawHx
set_option linter.unusedVariables false
set_option linter.unusedSimpArgs false
namespace Go.Mx
theorem rsteps_eq {u : hull_unloading} (h : Unl u) (i : Nat) (hi : i < u.from_.length) : ref03_steps (w64 (gI u.from_ i - gI u.to i)) u.step = some (stN u i) := by
 have hr := h.rng i hi
 have hst := h.st
 unfold ref03_steps stN
 rw [w64_u (a := gI u.from_ i - gI u.to i) (by omega), w64_u (a := gI u.from_ i - gI u.to i + u.step) (by omega), w64_u (by omega), quo_eq (by omega) (by omega) (by omega)]
 rfl
/-! What is asked. -/
theorem asked_b4 {s : api_Ship} {from_ to : List Int} {step : Int} (hl : from_.length ≤ 8) (ht : to.length = from_.length) {r : Int} (hr : leB from_ to = true → ref03_asked_j1 s from_ to step = some r) (hr2 : ¬ leB from_ to = true → r = 1) : ref03_asked s from_ to step = some r := by
 unfold ref03_asked
 suffices h : ∃ q, Lp (ref03_asked_b4 s from_ to step) fuel 0 = some q ∧ q = r by obtain ⟨q, h, rfl⟩ := h; exact h
 refine lp_inv' (fun i (x : Int) => x = (i : Int) ∧ ∀ j, j < i → gI to j ≤ gI from_ j) _ from_.length (by omega) ⟨rfl, fun j hj => by omega⟩ fun i x hi hI => ?_
 obtain ⟨rfl, e⟩ := hI
 unfold ref03_asked_b4
 simp only
 by_cases hc : i < from_.length
 ·rw [if_pos (by simpa using hc), ix_gI (by omega), Option.bind_some, ix_gI hc, Option.bind_some]
  by_cases h : gI from_ i < gI to i
  ·right
   rw [if_pos (by simpa using h)]
   exact ⟨_, rfl, (hr2 fun hh => by have := (leB_iff _ _).1 hh i hc; omega).symm⟩
  ·left
   rw [if_neg (by simpa using h), w64s i (by omega)]
   refine ⟨hc, _, rfl, rfl, fun j hj => ?_⟩
   by_cases e2 : j = i
   ·subst e2; omega
   ·exact e j (by omega)
 ·right
  have e3 : i = from_.length := by omega
  subst e3
  rw [if_neg (by simp), hr ((leB_iff _ _).2 e)]
  exact ⟨_, rfl, rfl⟩
theorem asked_b3 {u : hull_unloading} (h : Unl u) {r : Int} (hr : ref03_asked_j2 u.ship u.from_ u.to (min (prodE (endK u u.from_.length).toL : Int) 3000) (sumD (endK u u.from_.length)) = some r) : Lp (ref03_asked_b3 u.ship u.from_ u.to u.step) fuel (1, 0, 0) = some r := by
 have hn := h.n
 suffices hq : ∃ q, Lp (ref03_asked_b3 u.ship u.from_ u.to u.step) fuel (1, 0, 0) = some q ∧ q = r by obtain ⟨q, hq, rfl⟩ := hq; exact hq
 refine lp_inv' (fun i (x : Int × Int × Int) => x = (min (prodE (endK u i).toL : Int) 3000, sumD (endK u i), (i : Int))) _ u.from_.length (by omega) (by rw [show endK u 0 = zeroD from rfl, sumD_zero, show prodE zeroD.toL = 1 by decide, show min ((1 : Nat) : Int) 3000 = 1 by omega]; rfl) fun i x hi hI => ?_
 subst hI
 unfold ref03_asked_b3
 simp only
 by_cases hc : i < u.from_.length
 ·left
  have hi8 : i < 8 := by omega
  have h1 := stN_rng h i hc
  have h2 := sumD_rng h i hi
  rw [if_pos (by simpa using hc), ix_gI hc, Option.bind_some, ix_gI (show i < u.to.length by rw [h.tl]; exact hc), Option.bind_some, rsteps_eq h i hc, Option.bind_some, Int.min_comm, sat _ _ _ ⟨h1.1, h1.2.1⟩ (by omega), w64_u (a := sumD (endK u i) + stN u i) (by omega), w64s i (by omega), ← prodE_endK u i hi8, ← sumD_endK u i hi8]
  exact ⟨hc, _, rfl, rfl⟩
 ·right
  have e3 : i = u.from_.length := by omega
  subst e3
  rw [if_neg (by simp), hr]
  exact ⟨_, rfl, rfl⟩
theorem order_asked {s : api_Ship} {from_ to : List Int} {step : Int} (h0 : loadedE s [from_, to] = 0) : ref03_asked s from_ to step = some (ordE s from_ to step) := by
 obtain ⟨hc, hf, ht⟩ := loaded_two h0
 have hs := GoodS.of hc
 have hnh := hs.nh
 have l1 := hf.len
 have l2 := ht.len
 unfold ordE
 rw [if_pos h0]
 by_cases h1 : leB from_ to = true
 ·by_cases h2 : 1 ≤ step ∧ step ≤ 65536
  ·have hu : Unl ⟨s, from_, to, step⟩ := ⟨hc, hf, ht, (leB_iff _ _).1 h1, h2⟩
   rw [if_pos ⟨h1, h2⟩]
   have hw : ref03_in step 1 65536 = true := by unfold ref03_in; simp only [Bool.and_eq_true, decide_eq_true_eq]; exact h2
   refine asked_b4 (by omega) (by omega) (fun _ => ?_) (fun h => absurd h1 h)
   unfold ref03_asked_j1
   rw [hw, if_neg (by simp)]
   refine asked_b3 hu ?_
   unfold ref03_asked_j2
   by_cases h3 : prodE (endK ⟨s, from_, to, step⟩ from_.length).toL ≤ 2000 ∧ sumD (endK ⟨s, from_, to, step⟩ from_.length) ≤ 60
   ·rw [if_pos h3, if_neg (by simp only [Bool.or_eq_true, decide_eq_true_eq]; omega), rsteady_eq hs hf, Option.bind_some, rsteady_eq hs ht, Option.bind_some]
    cases steadyB s from_ <;> cases steadyB s to <;> rfl
   ·rw [if_neg h3, if_pos (by simp only [Bool.or_eq_true, decide_eq_true_eq]; omega)]
  ·rw [if_neg fun h => h2 h.2]
   refine asked_b4 (by omega) (by omega) (fun _ => ?_) (fun _ => rfl)
   unfold ref03_asked_j1
   have hw : ref03_in step 1 65536 = false := by
    rw [Bool.eq_false_iff]; unfold ref03_in; simp only [ne_eq, Bool.and_eq_true, decide_eq_true_eq]; exact h2
   rw [hw]; rfl
 ·rw [if_neg fun h => h1 h.1]
  exact asked_b4 (by omega) (by omega) (fun h => absurd h h1) (fun _ => rfl)

/-! Steps done as lists. -/
def toX (u : hull_unloading) (d : hull_done) : List Int := d.toL.take u.from_.length
theorem toX_len {u : hull_unloading} (h : Unl u) (d : hull_done) : (toX u d).length = u.from_.length := by unfold toX; rw [List.length_take, toL_len]; have := h.n; omega
theorem gI_toX {u : hull_unloading} (h : Unl u) (d : hull_done) (i : Nat) (hi : i < u.from_.length) : gI (toX u d) i = gD d i := by
 unfold toX gD gI
 rw [List.getD_eq_getElem?_getD, List.getD_eq_getElem?_getD, List.getElem?_take, if_pos hi]
theorem toX_inc {u : hull_unloading} (h : Unl u) (d : hull_done) {k : Nat} (hk : k < u.from_.length) : (toX u d).set k (gD d k + 1) = toX u (incD d k) := by
 have hn := h.n
 refine list_ext_g (by rw [List.length_set, toX_len h, toX_len h]) fun i hi => ?_
 rw [List.length_set, toX_len h] at hi
 rw [gI_set (by rw [toX_len h]; exact hk), gI_toX h (incD d k) i hi, gD_inc d k (by omega)]
 split
 ·rfl
 ·exact gI_toX h d i hi
theorem toX_inj {u : hull_unloading} (h : Unl u) {en d e : hull_done} (he : End u en) (hd : Val en d) (hv : Val en e) (hx : toX u d = toX u e) : d = e := done_ext fun i hi => by
 by_cases c : i < u.from_.length
 ·rw [← gI_toX h d i c, ← gI_toX h e i c, hx]
 ·have h1 := hd i hi
  have h2 := hv i hi
  have h3 := he.b i (by omega) hi
  omega
theorem Reach.val {u : hull_unloading} {en d : hull_done} (hu : Unl u) (he : End u en) (h : Reach u en d) : Val en d := by
 induction h with
 | zero => exact Val.zero he
 | step _ hk hl _ ih => exact ih.inc (by have := hu.n; omega) hl
theorem Reach.sum {u : hull_unloading} {en d : hull_done} (hu : Unl u) (h : Reach u en d) : 0 ≤ sumD d ∧ (sumD d = 0 → d = zeroD) := by
 induction h with
 | zero => exact ⟨by rw [sumD_zero]; omega, fun _ => rfl⟩
 | step _ hk _ _ ih =>
  have := hu.n
  rw [sumD_inc _ _ (by omega)]
  exact ⟨by omega, fun e => by omega⟩
theorem left_eq {u : hull_unloading} (h : Unl u) {d : hull_done} (hd : Small d) : ref03_left u.from_ u.to u.step (toX u d) = some (bhL u d) := by
 have hn := h.n
 unfold ref03_left bhL
 refine lp_app (body := ref03_left_b2 u.from_ u.to u.step (toX u d)) (List.range u.from_.length) (by rw [List.length_range]; omega) (bh u d) (fun acc i => (i, acc)) (fun acc => acc) rfl (fun acc i hi hJ => ?_) ?_
 ·rw [List.length_range] at hi
  have hb := bh_rng h hd i hi
  have hr := h.rng i hi
  have hm : u.step * gD d i = gD d i * u.step := Int.mul_comm _ _
  unfold ref03_left_b2
  simp only
  rw [if_pos (by simpa using hi), ix_gI (show i < u.to.length by rw [h.tl]; exact hi), Option.bind_some, ix_gI hi, Option.bind_some, ix_gI (show i < (toX u d).length by rw [toX_len h]; exact hi), Option.bind_some, gI_toX h d i hi, hm, w64_u (a := gD d i * u.step) (by omega), w64_u (by omega), app_ok (by rw [hJ]; simp; omega), Option.bind_some, w64s i (by omega), List.getElem_range, Int.max_comm]
  rfl
 ·unfold ref03_left_b2
  simp only
  rw [List.length_range, if_neg (by simp)]; rfl
theorem met_eq (l : List (List Int)) (x : List Int) (hl : l.length ≤ 9223372036854775807) (hx : ∀ y ∈ l, Len y) : ref03_met l x = some (decide (x ∈ l)) := by
 unfold ref03_met
 refine (lp_list (body := ref03_met_b2 l x) (s0 := 0) l hl (fun (_ : Unit) i => i) (fun _ r => decide (x ∈ r)) (fun i _ => True) (a := ()) rfl trivial (fun a i hi _ => ?_) (fun a _ => ?_)).trans rfl
 ·unfold ref03_met_b2
  simp only
  rw [if_pos (by simpa using hi), ix_lt hi, Option.bind_some, sameInts_eq _ _ (hx _ (List.getElem_mem hi)), Option.bind_some]
  by_cases e : l[i] = x
  ·right
   rw [if_pos (by simpa using e)]
   simp [e]
  ·left
   rw [if_neg (by simpa using e), w64s' hi hl]
   refine ⟨(), rfl, ?_, trivial⟩
   simp only [List.mem_cons]
   congr 1
   simp only [eq_iff_iff]
   exact ⟨fun h => h.resolve_left fun h => e h.symm, .inr⟩
 ·unfold ref03_met_b2
  simp only
  rw [if_neg (by simp)]; simp [ref03_met_j1]

/-! The levels. -/
structure Lev (u : hull_unloading) (en : hull_done) (k : Int) (L : List (List Int)) : Prop where
 mem : ∀ x ∈ L, ∃ d, Reach u en d ∧ sumD d = k ∧ x = toX u d
 nodup : L.Nodup
theorem Lev.few {u : hull_unloading} {en : hull_done} (hu : Unl u) (he : End u en) {k : Int} {L : List (List Int)} (h : Lev u en k L) : L.length ≤ prodE en.toL := by
 have := nodup_sub_len L ((allL en.toL).map fun l => l.take u.from_.length) h.nodup fun x hx => by
  obtain ⟨d, hd, _, rfl⟩ := h.mem x hx
  rw [List.mem_map]
  exact ⟨d.toL, allL_mem en.toL d.toL rfl fun i hi => (hd.val hu he) i hi, rfl⟩
 rwa [List.length_map, allL_len] at this
/-- What is met of the steps behind one. -/
def Behd (u : hull_unloading) (en d : hull_done) (n : Nat) (acc : List (List Int)) : Prop := ∀ i, i < n → gD d i < gD en i → steadyB u.ship (bhL u (incD d i)) = true → toX u (incD d i) ∈ acc
theorem further_in {u : hull_unloading} {en d : hull_done} (hu : Unl u) (he : End u en) (hN : prodE en.toL ≤ 2000) {k : Int} {L acc : List (List Int)} {a : Nat} (ha : a < L.length) (hL : L.length ≤ 2000) (hd : Reach u en d) (hk : sumD d = k) (hx : L[a] = toX u d) (hacc : Lev u en (k + 1) acc) :
  ∃ acc', Lp (ref03_further_b4 u.ship u.from_ u.to u.step L (a : Int)) fuel (0, acc) = some (.inl (((a + 1 : Nat) : Int), acc')) ∧ Lev u en (k + 1) acc' ∧ (∀ x ∈ acc, x ∈ acc') ∧ Behd u en d u.from_.length acc' := by
 have hn := hu.n
 have hs := GoodS.of hu.chk
 have hv := hd.val hu he
 suffices h : ∃ r, Lp (ref03_further_b4 u.ship u.from_ u.to u.step L (a : Int)) fuel (0, acc) = some r ∧ ∃ acc', r = .inl (((a + 1 : Nat) : Int), acc') ∧ Lev u en (k + 1) acc' ∧ (∀ x ∈ acc, x ∈ acc') ∧ Behd u en d u.from_.length acc' by
  obtain ⟨r, q, acc', rfl, h⟩ := h; exact ⟨acc', q, h⟩
 refine lp_inv' (fun i (st : Int × List (List Int)) => st.1 = (i : Int) ∧ Lev u en (k + 1) st.2 ∧ (∀ x ∈ acc, x ∈ st.2) ∧ Behd u en d i st.2) _ u.from_.length (by omega) ⟨rfl, hacc, fun _ h => h, fun i hi => by omega⟩ fun i st hi hI => ?_
 obtain ⟨i0, l⟩ := st
 obtain ⟨e0, h1, h2, h3⟩ := hI
 simp only at e0 h1 h2 h3
 subst e0
 have hfew := h1.few hu he
 unfold ref03_further_b4
 simp only
 by_cases hc : i < u.from_.length
 ·left
  have hi8 : i < 8 := by omega
  have hix : i < (toX u d).length := by rw [toX_len hu]; exact hc
  have j5 : ∀ q : List (List Int), ref03_further_j5 (i : Int) q = some (.inl (((i + 1 : Nat) : Int), q)) := fun q => by unfold ref03_further_j5; rw [w64s i (by omega)]
  rw [if_pos (by simpa using hc), ix_lt ha, Option.bind_some, hx, ix_gI hix, Option.bind_some, gI_toX hu d i hc, ix_gI hc, Option.bind_some, ix_gI (show i < u.to.length by rw [hu.tl]; exact hc), Option.bind_some, rsteps_eq hu i hc, Option.bind_some, ← he.a i hc]
  by_cases hle : gD en i ≤ gD d i
  ·rw [if_pos (by simpa using hle), j5]
   refine ⟨hc, _, rfl, rfl, h1, h2, fun j hj hjl hjs => ?_⟩
   by_cases e : j = i
   ·subst e; omega
   ·exact h3 j (by omega) hjl hjs
  ·have hlt : gD d i < gD en i := by omega
   have hv2 := hv.inc hi8 hlt
   have hc2 := he.c i hi8
   have hvi := hv i hi8
   rw [if_neg (by simpa using hlt), Option.bind_some, app_ok (by rw [toX_len hu]; simp; omega), Option.bind_some, List.nil_append, ix_gI hix, Option.bind_some, Option.bind_some, gI_toX hu d i hc, w64_u (by omega), put_nat, toX_inc hu d hc, left_eq hu (hv2.small he), Option.bind_some, rsteady_eq hs (bh_rms hu (hv2.small he)), Option.bind_some]
   cases hst : steadyB u.ship (bhL u (incD d i)) with
   | false =>
    simp only [gb, Bool.false_eq_true, if_false, Option.bind_some, Bool.false_and]
    rw [j5]
    refine ⟨hc, _, rfl, rfl, h1, h2, fun j hj hjl hjs => ?_⟩
    by_cases e : j = i
    ·subst e; rw [hst] at hjs; cases hjs
    ·exact h3 j (by omega) hjl hjs
   | true =>
    rw [met_eq l _ (by omega) (fun y hy => by obtain ⟨c, _, _, rfl⟩ := h1.mem y hy; unfold Len; rw [toX_len hu]; omega)]
    simp only [gb, if_true, Option.bind_some, Bool.true_and]
    by_cases hm : toX u (incD d i) ∈ l
    ·rw [if_neg (by simp [hm]), j5]
     refine ⟨hc, _, rfl, rfl, h1, h2, fun j hj hjl hjs => ?_⟩
     by_cases e : j = i
     ·subst e; exact hm
     ·exact h3 j (by omega) hjl hjs
    ·rw [if_pos (by simp [hm]), app_ok (by simp; omega), Option.bind_some, j5]
     refine ⟨hc, _, rfl, rfl, ⟨fun x hxm => ?_, ?_⟩, fun x hxm => List.mem_append_left _ (h2 x hxm), fun j hj hjl hjs => ?_⟩
     ·rcases List.mem_append.1 hxm with q | q
      ·exact h1.mem x q
      ·rw [List.mem_singleton] at q
       exact ⟨incD d i, .step hd hc hlt hst, by rw [sumD_inc d i hi8, hk], q⟩
     ·simp only
      rw [List.nodup_append]
      refine ⟨h1.nodup, by simp, fun x hxm y hym hxy => ?_⟩
      rw [List.mem_singleton] at hym
      subst hym; subst hxy
      exact hm hxm
     ·by_cases e : j = i
      ·subst e; exact List.mem_append_right _ (by simp)
      ·exact List.mem_append_left _ (h3 j (by omega) hjl hjs)
 ·right
  have e : i = u.from_.length := by omega
  subst e
  rw [if_neg (by simp)]
  unfold ref03_further_j3
  rw [w64s a (by omega)]
  exact ⟨_, rfl, l, rfl, h1, h2, h3⟩
theorem further_eq {u : hull_unloading} {en : hull_done} (hu : Unl u) (he : End u en) (hN : prodE en.toL ≤ 2000) {k : Int} {L : List (List Int)} (h : Lev u en k L) (hall : ∀ d, Reach u en d → sumD d = k → toX u d ∈ L) (hk0 : 0 ≤ k) :
  ∃ L', ref03_further u.ship u.from_ u.to u.step L = some L' ∧ Lev u en (k + 1) L' ∧ ∀ d, Reach u en d → sumD d = k + 1 → toX u d ∈ L' := by
 have hn := hu.n
 have hfew := h.few hu he
 unfold ref03_further
 refine lp_inv' (fun a (st : Int × List (List Int)) => st.1 = (a : Int) ∧ Lev u en (k + 1) st.2 ∧ ∀ b (hb : b < L.length), b < a → ∀ d, Reach u en d → sumD d = k → L[b] = toX u d → Behd u en d u.from_.length st.2) _ L.length (by omega) ⟨rfl, ⟨fun x hx => by simp at hx, by simp⟩, fun b hb hba => by omega⟩ fun a st hi hI => ?_
 obtain ⟨a0, acc⟩ := st
 obtain ⟨e0, h1, h2⟩ := hI
 simp only at e0 h1 h2
 subst e0
 unfold ref03_further_b2
 simp only
 by_cases hc : a < L.length
 ·left
  obtain ⟨d, d1, d2, d3⟩ := h.mem _ (List.getElem_mem hc)
  obtain ⟨acc', q1, q2, q3, q4⟩ := further_in hu he hN hc (by omega) d1 d2 d3 h1
  rw [if_pos (by simpa using hc), q1]
  refine ⟨hc, _, rfl, rfl, q2, fun b hb hba c c1 c2 c3 => ?_⟩
  by_cases e : b = a
  ·subst e
   have : c = d := toX_inj hu he (c1.val hu he) (d1.val hu he) (by rw [← c3, ← d3])
   subst this
   exact q4
  ·exact fun j hj hjl hjs => q3 _ (h2 b hb (by omega) c c1 c2 c3 j hj hjl hjs)
 ·right
  rw [if_neg (by simpa using hc)]
  refine ⟨_, rfl, h1, fun d hd hdk => ?_⟩
  cases hd with
  | zero => rw [sumD_zero] at hdk; omega
  | step hr hj hl hst =>
   rename_i c j
   rw [sumD_inc c j (by omega)] at hdk
   have hm := hall c hr (by omega)
   obtain ⟨b, hb, hbe⟩ := List.getElem_of_mem hm
   exact h2 b hb (by omega) c hr (by omega) hbe j hj hl hst
end Go.Mx
