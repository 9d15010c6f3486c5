/- HullOrders: the plain law. Conditions: none. -/
import Derived.Test.YthfnbjoecocfaaaGreatLawHy
set_option linter.unusedVariables false
set_option linter.unusedSimpArgs false
namespace Go.Mx
theorem rorder_err {s : api_Ship} {from_ to : List Int} {step : Int} (hl : Len s.Holds) (hf : Len from_) (ht : Len to) (h : ordE s from_ to step ≠ 0) : ref03_Order s from_ to step = some ⟨0, ordE s from_ to step⟩ := by
 unfold ref03_Order
 rw [rgiven_eq s from_ hl hf, Option.bind_some, rgiven_eq s to hl ht]
 by_cases h0 : loadedE s [from_, to] = 0
 ·obtain ⟨hc, h1, h2⟩ := loaded_two h0
  have e1 : loadedE s [from_] = 0 := by unfold loadedE; rw [if_pos hc, if_pos (by simp [(rmB_iff s from_).2 h1])]
  have e2 : loadedE s [to] = 0 := by unfold loadedE; rw [if_pos hc, if_pos (by simp [(rmB_iff s to).2 h2])]
  rw [e1, e2, if_neg (by simp), Option.bind_some, if_neg (by simp), order_asked h0, Option.bind_some, if_pos (by simpa using h)]
 ·have eo : ordE s from_ to step = loadedE s [from_, to] := by unfold ordE; rw [if_neg h0]
  rw [eo]
  by_cases hc : chk s = 0
  ·have e0 : loadedE s [from_, to] = 1 := by
    unfold loadedE at h0 ⊢
    rw [if_pos hc] at h0 ⊢
    split
    ·rename_i q; rw [if_pos q] at h0; omega
    ·rfl
   by_cases h1 : rmB s from_ = true
   ·have e1 : loadedE s [from_] = 0 := by unfold loadedE; rw [if_pos hc, if_pos (by simp [h1])]
    have e2 : loadedE s [to] = 1 := by
     unfold loadedE at e0 ⊢
     rw [if_pos hc] at e0 ⊢
     by_cases h2 : rmB s to = true
     ·rw [if_pos (by simp [h1, h2])] at e0; omega
     ·rw [if_neg (by simp [h2])]
    rw [e0, e1, e2, if_neg (by simp), Option.bind_some, if_pos (by simp)]
   ·have e1 : loadedE s [from_] = 1 := by unfold loadedE; rw [if_pos hc, if_neg (by simp [h1])]
    rw [e0, e1, if_pos (by simp)]
  ·have e0 : ∀ q, loadedE s q = chk s := fun q => by unfold loadedE; rw [if_neg hc]
   rw [e0 [from_], e0 [from_, to], if_pos (by simpa using hc)]
theorem sum_same : ∀ (x y : List Int), x.length = y.length → (∀ i, i < x.length → gI x i ≤ gI y i) → x.sum ≤ y.sum ∧ (x.sum = y.sum → x = y)
 | [], [], _, _ => ⟨by simp, fun _ => rfl⟩
 | [], _ :: _, h, _ => by simp at h
 | _ :: _, [], h, _ => by simp at h
 | a :: r, b :: t, h, hh => by
  have h0 : a ≤ b := hh 0 (by simp)
  obtain ⟨i1, i2⟩ := sum_same r t (by simpa using h) fun i hi => hh (i + 1) (by simpa using hi)
  simp only [List.sum_cons]
  exact ⟨by omega, fun e => by rw [i2 (by omega), show a = b by omega]⟩
theorem reach_end {u : hull_unloading} {en d : hull_done} (hu : Unl u) (he : End u en) (h : Reach u en d) : sumD d ≤ sumD en ∧ (sumD d = sumD en → d = en) := by
 have hv := h.val hu he
 obtain ⟨a, b⟩ := sum_same d.toL en.toL rfl fun i hi => (hv i hi).2
 refine ⟨a, fun e => done_ext fun i _ => ?_⟩
 unfold gD
 rw [b e]
theorem toX_zero {u : hull_unloading} (h : Unl u) : toX u zeroD = List.replicate u.from_.length 0 := list_ext_g (by rw [toX_len h]; simp) fun i hi => by
 rw [toX_len h] at hi
 rw [gI_toX h _ i hi, gD_zero, gI_get (by simpa using hi), List.getElem_replicate]
theorem rorder_ok {u : hull_unloading} {en : hull_done} (hu : Unl u) (hen : en = endK u u.from_.length) (he : End u en) (hsum : sumD en ≤ 60) (hN : prodE en.toL ≤ 2000) (ho : ordE u.ship u.from_ u.to u.step = 0) :
  ∃ r, ref03_Order u.ship u.from_ u.to u.step = some r ∧ ((Reach u en en ∧ r = ⟨sumD en, 0⟩) ∨ (¬ Reach u en en ∧ r = ⟨0, 5⟩)) := by
 have hn := hu.n
 have htl := hu.tl
 have hlH := (GoodS.of hu.chk).lenH
 have e1 : loadedE u.ship [u.from_] = 0 := by unfold loadedE; rw [if_pos hu.chk, if_pos (by simp [(rmB_iff _ _).2 hu.rf])]
 have e2 : loadedE u.ship [u.to] = 0 := by unfold loadedE; rw [if_pos hu.chk, if_pos (by simp [(rmB_iff _ _).2 hu.rt])]
 have e3 : loadedE u.ship [u.from_, u.to] = 0 := by unfold loadedE; rw [if_pos hu.chk, if_pos (by simp [(rmB_iff _ _).2 hu.rf, (rmB_iff _ _).2 hu.rt])]
 unfold ref03_Order
 rw [rgiven_eq _ _ hlH (by unfold Len; omega), Option.bind_some, e1, if_neg (by simp), rgiven_eq _ _ hlH (by unfold Len; omega), Option.bind_some, e2, if_neg (by simp), order_asked e3, Option.bind_some, ho, if_neg (by simp)]
 refine lp_inv' (fun i (x : Int × Int × List Int) => x = (sumD (endK u i), (i : Int), List.replicate i 0)) _ u.from_.length (by omega) rfl fun i x hi hI => ?_
 subst hI
 unfold ref03_Order_b4
 simp only
 by_cases hc : i < u.from_.length
 ·left
  have h1 := stN_rng hu i hc
  have h2 := sumD_rng hu i hi
  rw [if_pos (by simpa using hc), ix_gI hc, Option.bind_some, ix_gI (show i < u.to.length by omega), Option.bind_some, rsteps_eq hu i hc, Option.bind_some, app_ok (by simp; omega), Option.bind_some, w64_u (a := sumD (endK u i) + stN u i) (by omega), w64s i (by omega), ← sumD_endK u i (by omega)]
  exact ⟨hc, _, rfl, by rw [List.replicate_succ']⟩
 ·right
  have e4 : i = u.from_.length := by omega
  subst e4
  rw [if_neg (by simp), ← hen, ← toX_zero hu]
  unfold ref03_Order_j1
  have hz := (sum_ge en.toL fun i hi => (he.c i (by rw [toL_len] at hi; exact hi)).1).1
  have hz : 0 ≤ sumD en := hz
  obtain ⟨N, hNn⟩ : ∃ N : Nat, sumD en = (N : Int) := ⟨(sumD en).toNat, by omega⟩
  have key : ∃ r, Lp (ref03_Order_b3 u.ship u.from_ u.to u.step (sumD en)) fuel ([toX u zeroD], 0) = some r ∧ ((Reach u en en ∧ r = ⟨sumD en, 0⟩) ∨ (¬ Reach u en en ∧ r = ⟨0, 5⟩)) := by
   refine lp_inv' (fun k (x : List (List Int) × Int) => x.2 = (k : Int) ∧ Lev u en (k : Int) x.1 ∧ ∀ d, Reach u en d → sumD d = (k : Int) → toX u d ∈ x.1) _ N (by omega) ⟨rfl, ⟨fun x hx => ⟨zeroD, .zero, sumD_zero, by simpa using hx⟩, by simp⟩, fun d hd hk => by rw [(hd.sum hu).2 hk]; simp⟩ fun k x hk hI => ?_
   obtain ⟨L, k0⟩ := x
   obtain ⟨q0, q1, q2⟩ := hI
   simp only at q0 q1 q2
   subst q0
   unfold ref03_Order_b3
   simp only
   by_cases hkn : k < N
   ·left
    obtain ⟨L', p1, p2, p3⟩ := further_eq hu he hN q1 q2 (by omega)
    rw [if_pos (by rw [decide_eq_true_eq]; omega), p1, Option.bind_some, w64s k (by omega)]
    exact ⟨hkn, _, rfl, rfl, p2, p3⟩
   ·right
    have ek : (k : Int) = sumD en := by omega
    rw [if_neg (by rw [decide_eq_true_eq]; omega)]
    unfold ref03_Order_j2
    by_cases hL : L.length = 0
    ·rw [if_pos (by simpa using hL)]
     refine ⟨_, rfl, .inr ⟨fun hr => ?_, rfl⟩⟩
     have := q2 en hr ek.symm
     rw [List.length_eq_zero_iff.1 hL] at this
     simp at this
    ·rw [if_neg (by simpa using hL)]
     refine ⟨_, rfl, .inl ⟨?_, rfl⟩⟩
     obtain ⟨d, d1, d2, _⟩ := q1.mem _ (List.getElem_mem (show 0 < L.length by omega))
     have := (reach_end hu he d1).2 (by omega)
     rw [this] at d1; exact d1
  obtain ⟨r, k1, k2⟩ := key
  rw [k1]
  exact ⟨r, rfl, k2⟩
theorem Trail.reach {u : hull_unloading} {en : hull_done} : ∀ (l : List api_Drop) (d : hull_done), Reach u en d → Trail u en d l → Reach u en en
 | [], d, h, ht => by have e : d = en := ht; rw [e] at h; exact h
 | p :: r, d, h, ht => by
  obtain ⟨k, k1, k2, k3, k4, k5, k6⟩ := ht
  exact Trail.reach r (incD d k) (.step h k1 k3 k5) k6
theorem orders_b2 {u : hull_unloading} {en : hull_done} (hu : Unl u) (he : End u en) (y : List api_Drop × Int) (hl : y.1.length ≤ 60) (h : Trail u en zeroD y.1) {v : Bool} (hv : law03_HullOrders_j1 u.ship u.from_ u.to y = some v) : Lp (law03_HullOrders_b2 u.ship u.from_ u.to u.step y) fuel 0 = some v := by
 have hn8 := hu.n
 refine (lp_list (body := law03_HullOrders_b2 u.ship u.from_ u.to u.step y) (s0 := 0) y.1 (by omega) (fun (d : hull_done) i => i) (fun _ _ => v) (fun i d => Val en d ∧ Trail u en d (y.1.drop i)) (a := zeroD) rfl ⟨Val.zero he, h⟩ (fun d i hi hJ => ?_) (fun d hJ => ?_)).trans rfl
 ·left
  obtain ⟨hv, ht⟩ := hJ
  rw [List.drop_eq_getElem_cons hi] at ht
  obtain ⟨k, k1, k2, k3, k4, k5, k6⟩ := ht
  have hm := mass_step hu he hv k1 k3
  unfold law03_HullOrders_b2
  simp only
  rw [if_pos (by simpa using hi), ix_lt hi, Option.bind_some, if_neg (by rw [decide_eq_true_eq]; omega), w64s' hi (by omega)]
  exact ⟨incD d k, rfl, trivial, hv.inc (by omega) k3, k6⟩
 ·unfold law03_HullOrders_b2
  simp only
  rw [if_neg (by simp), hv]; rfl
theorem holds_HullOrders {s : api_Ship} {from_ to : List Int} {step : Int} {drops : List api_Drop} (h0 : ok_api_Ship s) (h1 : ok_28 from_) (h2 : ok_28 to) (h3 : OkI .i64 step) (h4 : ok_59 drops) : law03_HullOrders s from_ to step drops = some true := by
 have hl : Len s.Holds := h0.2.2.2.2.1.1
 have hf : Len from_ := h1.1
 have ht : Len to := h2.1
 unfold law03_HullOrders
 split
 ·rw [sanity3_true]; rfl
 ·obtain ⟨c, c1, c2, c3⟩ := checkOrder_eq hl hf drops
  obtain ⟨r, q1, q2⟩ := order_spec (s := s) (from_ := from_) (to := to) (step := step) hl
  rw [c1, Option.bind_some, c2, Option.bind_some, q1, Option.bind_some]
  simp only
  have same : ref03_SameInts c.1 c.1 = some true := by rw [sameInts_eq _ _ c3]; simp
  rcases q2 with ⟨e1, rfl⟩ | ⟨e1, hu, he, hsum, hprod, hs1, hs2, hF⟩
  ·rw [rorder_err hl hf ht e1, Option.bind_some, same, Option.bind_some]
   simp only [Bool.not_true, decide_true, Bool.or_self, List.length_nil]
   rw [if_neg (by simp), if_pos (by simpa using e1), sanity3_true]; rfl
  ·obtain ⟨w, w1, w2⟩ := rorder_ok hu rfl he hsum hprod e1
   rw [show ref03_Order s from_ to step = some w from w1, Option.bind_some, same, Option.bind_some]
   rcases hF with ⟨e2, hT⟩ | ⟨rfl, hnr⟩
   ·have hR := Trail.reach r.1 zeroD .zero hT
    rcases w2 with ⟨_, rfl⟩ | ⟨hno, _⟩
    ·have hlen : (r.1.length : Int) = sumD (endK ⟨s, from_, to, step⟩ from_.length) := by
      have := hT.len hu.n
      rw [sumD_zero] at this; omega
     have hco : hull_CheckOrder s from_ r.1 = some (to, -1, 0) := checkOrder_trail hu he r.1 (by omega) hT
     obtain ⟨c', p1, p2, _⟩ := checkOrder_eq hl hf r.1
     rw [hco] at p1
     have p1 := Option.some.inj p1
     subst p1
     have hj : law03_HullOrders_j1 s from_ to r = some true := by
      unfold law03_HullOrders_j1
      rw [p2, Option.bind_some, sanity3_true, Option.bind_some]
      simp only [decide_true, Bool.and_self, gb, if_true]
      rw [sameInts_eq _ _ ht]; simp
     have hb := orders_b2 hu he r (by omega) hT hj
     simp only [Bool.not_true, decide_true, Bool.or_self, e2]
     rw [if_neg (by simpa using hlen), if_neg (by simp)]
     exact hb
    ·exact absurd hR hno
   ·rcases w2 with ⟨hR, _⟩ | ⟨_, rfl⟩
    ·exact absurd hR hnr
    ·simp only [Bool.not_true, decide_true, Bool.or_self, List.length_nil]
     rw [if_neg (by simp), if_pos (by simp), sanity3_true]; rfl
end Go.Mx
