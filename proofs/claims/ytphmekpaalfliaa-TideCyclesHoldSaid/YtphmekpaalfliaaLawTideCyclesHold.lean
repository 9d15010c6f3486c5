/- TideCyclesHold: the plain law. Conditions: none. -/
import Derived.Test.YtphmekpaalfliaaLawD
set_option linter.unusedVariables false
namespace Go.Mx
def tv (a b : api_Cycle) (g k : Int) : Int := val a (a.Begin + k * g) + val b (a.Begin + k * g)
theorem togS_get (a b : api_Cycle) (g : Int) : ∀ (n : Nat) (k : Int) (l r : List Int), togS a b g n k l = some r → (∀ i, i < l.length → r[i]? = l[i]?) ∧ ∀ i : Nat, i < n → r[l.length + i]? = some (tv a b g (k + i)) ∧ -4000 ≤ tv a b g (k + i) ∧ tv a b g (k + i) ≤ 4000
  | 0, k, l, r, h => by
    unfold togS at h
    cases h
    exact ⟨fun _ _ => rfl, fun i hi => by omega⟩
  | n + 1, k, l, r, h => by
    unfold togS at h
    split at h
    · rename_i hb
      obtain ⟨h1, h2⟩ := togS_get a b g n (k + 1) _ r h
      simp only [List.length_append, List.length_cons, List.length_nil] at h1 h2
      refine ⟨fun i hi => ?_, fun i hi => ?_⟩
      · rw [h1 i (by omega), List.getElem?_append_left hi]
      · cases i with
        | zero =>
          have := h1 l.length (by omega)
          rw [List.getElem?_append_right (Nat.le_refl _), Nat.sub_self] at this
          refine ⟨?_, ?_⟩
          · rw [Nat.add_zero, this]
            simp [tv]
          · simpa [tv] using hb
        | succ i =>
          have := h2 i (by omega)
          rw [show l.length + (i + 1) = l.length + (0 + 1) + i by omega, show k + ((i + 1 : Nat) : Int) = k + 1 + i by omega]
          exact this
    · cases h
theorem tog_val {a b : api_Cycle} (h : (togetherS a b).2 = 0) (ha : Len a.Heights) (hb : Len b.Heights) : Good (togetherS a b).1 ∧ ∀ t, val (togetherS a b).1 t = val a t + val b t := by
  unfold togetherS at h ⊢
  by_cases hg : goodB a = true ∧ goodB b = true
  · rw [if_pos hg] at h ⊢
    have GA := goodB_Good ha hg.1
    have GB := goodB_Good hb hg.2
    have P := tog_p GA GB
    by_cases hn : 60 < allS a b
    · rw [if_pos hn] at h; cases h
    · rw [if_neg hn] at h ⊢
      cases ht : togS a b (divS a b) (left (allS a b - 1) 0) 0 [] with
      | none => rw [ht] at h; simp [togO] at h
      | some l =>
        have hlen := togS_len _ _ _ _ _ _ _ ht
        obtain ⟨_, hget⟩ := togS_get _ _ _ _ _ _ _ ht
        simp only [List.length_nil, Nat.zero_add, Int.zero_add] at hlen hget
        simp only [togO]
        have GA' := GA
        have GB' := GB
        obtain ⟨a0, a1, a2, a3, a4, a5, a6, a7, a8⟩ := GA'
        obtain ⟨b0, b1, b2, b3, b4, b5, b6, b7, b8⟩ := GB'
        obtain ⟨x0, x1, y0, y1, d0, d1, c0, q0, q1, r0, r1, n0, n1⟩ := P
        have g1 := gcdI_le (g := a.Every) (n := b.Every) (by omega) (by omega)
        obtain ⟨v1, v2⟩ := gcdI_dvd (g := gcdI a.Every b.Every) (n := max (a.Begin - b.Begin) (b.Begin - a.Begin)) g1.1 (by omega)
        obtain ⟨v3, v4⟩ := gcdI_dvd (g := a.Every) (n := b.Every) (by omega) (by omega)
        obtain ⟨v5, v6⟩ := gcdI_dvd (g := a.Every * a.Heights.length) (n := b.Every * b.Heights.length) (by omega) (by omega)
        obtain ⟨e, he⟩ := Int.dvd_trans v1 v3
        obtain ⟨f, hf⟩ := Int.dvd_trans v1 v4
        rw [show gcdI (gcdI a.Every b.Every) (max (a.Begin - b.Begin) (b.Begin - a.Begin)) = divS a b from rfl] at he hf v2
        have hD : ∃ D, a.Begin - b.Begin = D * divS a b := by
          obtain ⟨D, hD⟩ := v2
          rcases Int.le_total b.Begin a.Begin with hh | hh
          · exact ⟨D, by rw [Int.mul_comm]; omega⟩
          · exact ⟨-D, by rw [Int.neg_mul, Int.mul_comm]; omega⟩
        obtain ⟨D, hD⟩ := hD
        have hall : allS a b = (a.Every * a.Heights.length) / gcdI (a.Every * a.Heights.length) (b.Every * b.Heights.length) * (b.Every * b.Heights.length) / divS a b := rfl
        generalize hgc : gcdI (a.Every * a.Heights.length) (b.Every * b.Heights.length) = gc at *
        obtain ⟨u, hu⟩ := v5
        obtain ⟨v, hv⟩ := v6
        have hu2 : (a.Every * a.Heights.length) / gc = u := by rw [hu]; exact Int.mul_ediv_cancel_left _ (by omega)
        rw [hu2] at hall q0 r0
        generalize hgd : divS a b = g at *
        generalize hnn : allS a b = n at *
        have n2 : n = f * b.Heights.length * u := by
          rw [hall, hf, show u * (g * f * (b.Heights.length : Int)) = g * (f * b.Heights.length * u) by
            rw [Int.mul_comm u]; simp only [Int.mul_assoc]]
          exact Int.mul_ediv_cancel_left _ (by omega)
        have n3 : n = e * a.Heights.length * v := by
          rw [hall, hv, show u * (gc * v) = g * (e * a.Heights.length * v) by
            rw [← Int.mul_assoc, Int.mul_comm u gc, ← hu, he]; simp only [Int.mul_assoc]]
          exact Int.mul_ediv_cancel_left _ (by omega)
        have e0 : 0 < e := by
          rcases Int.lt_or_le 0 e with hh | hh
          · exact hh
          · have := Int.mul_nonpos_of_nonneg_of_nonpos (show 0 ≤ g by omega) hh; omega
        have f0 : 0 < f := by
          rcases Int.lt_or_le 0 f with hh | hh
          · exact hh
          · have := Int.mul_nonpos_of_nonneg_of_nonpos (show 0 ≤ g by omega) hh; omega
        have u0 : 0 < u := by
          rcases Int.lt_or_le 0 u with hh | hh
          · exact hh
          · have := Int.mul_nonpos_of_nonneg_of_nonpos (show 0 ≤ gc by omega) hh; omega
        have n4 : 0 < n := by
          rw [n2]
          exact Int.mul_pos (Int.mul_pos f0 (by omega)) u0
        have hl2 : (l.length : Int) = n := by unfold left at hlen; omega
        refine ⟨⟨a0, a1, d0, d1, by simp only; omega, by simp only; omega, a6, a7, fun x hx => ?_⟩, fun t => ?_⟩
        · obtain ⟨i, hi, rfl⟩ := List.getElem_of_mem (show x ∈ l from hx)
          obtain ⟨q, r⟩ := hget i (by omega)
          rw [List.getElem?_eq_getElem hi, Option.some.injEq] at q
          omega
        · rw [val_rnd]
          simp only
          unfold rnd
          rw [hl2]
          have k0 := Int.emod_nonneg ((t - a.Begin) / g) (show n ≠ 0 by omega)
          have k1 := Int.emod_lt_of_pos ((t - a.Begin) / g) n4
          obtain ⟨q, _⟩ := hget (((t - a.Begin) / g) % n).toNat (by omega)
          rw [List.getD_eq_getElem?_getD, q, Option.getD_some, show (((((t - a.Begin) / g) % n).toNat : Nat) : Int) = ((t - a.Begin) / g) % n by omega]
          unfold tv
          congr 1
          · rw [val_rnd, val_rnd, he]
            have := fine_val a.Heights (D := 0) (s := t - a.Begin) (w := v) (n := n) (show 0 < g by omega) e0 n3
            simp only [Int.zero_mul, Int.zero_add] at this
            rw [← this]
            congr 2
            omega
          · rw [val_rnd, val_rnd, hf]
            have := fine_val b.Heights (D := D) (s := t - a.Begin) (w := u) (n := n) (show 0 < g by omega) f0 n2
            rw [show t - b.Begin = D * g + (t - a.Begin) by omega, ← this]
            congr 2
            omega
  · rw [if_neg hg] at h; cases h
theorem hold_j1 {a b : api_Cycle} {tick : Int} (ha : Len a.Heights) (hb : Len b.Heights) (hv : (valueS a tick).2 = 0) : law02_TideCyclesHold_j1 a b tick (valueS a tick) (valueS b tick) true = some true := by
  have hg : goodB a = true ∧ 0 ≤ tick ∧ tick ≤ 1048576 := by
    unfold valueS at hv
    split at hv
    · assumption
    · cases hv
  have GA := goodB_Good ha hg.1
  have ev : valueS a tick = (val a tick, 0) := by unfold valueS; rw [if_pos hg]
  have va := val_bound GA tick
  have okv : ∀ c, Good c → valueS c tick = (val c tick, 0) := fun c g => by unfold valueS; rw [if_pos ⟨g.goodB, hg.2⟩]
  have t3 : Len (apartS a).2.1.Heights := by
    unfold apartS Len
    split
    · have := apF_len a (leastS a) a.Heights []
      have := GA.l1
      simp only [List.length_nil] at *
      omega
    · simp
  have t2 : Len (togetherS a b).1.Heights := by
    by_cases h : (togetherS a b).2 = 0
    · have := (tog_val h ha hb).1.l1
      unfold Len; omega
    · unfold togetherS at h ⊢
      split
      · rename_i hh
        rw [if_pos hh] at h
        split
        · unfold Len; simp
        · rename_i h60
          rw [if_neg h60] at h
          cases ht : togS a b (divS a b) (left (allS a b - 1) 0) 0 [] with
          | none => unfold Len; simp [togO]
          | some l => rw [ht] at h; simp [togO] at h
      · unfold Len; simp
  unfold law02_TideCyclesHold_j1
  rw [Apart_eq a ha, Option.bind_some, Value_eq _ t3, Option.bind_some, if_neg]
  · rw [Together_eq a b ha hb, Option.bind_some, Value_eq _ t2, sanity_true]
    simp only [Option.bind_some, Bool.true_and, Option.some.injEq]
    by_cases hb0 : (valueS b tick).2 = 0
    · by_cases ht0 : (togetherS a b).2 = 0
      · obtain ⟨gd, hd⟩ := tog_val ht0 ha hb
        have hgb : goodB b = true := by
          unfold valueS at hb0
          split at hb0
          · rename_i q; exact q.1
          · cases hb0
        have GB := goodB_Good hb hgb
        have vb := val_bound GB tick
        rw [okv _ gd, ev, okv b GB, hd, w64_id (by omega) (by omega)]
        simp
      · simp [ht0]
    · simp [hb0]
  · by_cases h0 : (apartS a).2.2 = 0
    · obtain ⟨p1, p2, p3⟩ := apart_val GA h0 tick
      have vc := val_bound p2 tick
      obtain ⟨m0, m1⟩ := least_b GA
      rw [okv _ p2, ev, p1, h0]
      have e : w64 (val (apartS a).2.1 tick + leastS a) = val a tick := by rw [p3]; exact w64_id (by omega) (by omega)
      simp [e]
    · simp [h0]
theorem holds_TideCyclesHold {a b : api_Cycle} {tick k : Int} (h0 : ok_api_Cycle a) (h1 : ok_api_Cycle b) (h2 : OkI .i64 tick) (h3 : OkI .u8 k) : law02_TideCyclesHold a b tick k = some true := by
  have ha : Len a.Heights := h0.2.2.2.1.1
  have hb : Len b.Heights := h1.2.2.2.1.1
  have hk := h3.u8
  unfold law02_TideCyclesHold
  split
  · rw [sanity_true]; rfl
  · rw [Value_eq a ha, Value_eq b hb, Option.bind_some, Option.bind_some]
    by_cases hv : (valueS a tick).2 = 0
    · rw [if_neg (by simp [hv])]
      have hg : goodB a = true ∧ 0 ≤ tick ∧ tick ≤ 1048576 := by
        unfold valueS at hv
        split at hv
        · assumption
        · cases hv
      have GA := goodB_Good ha hg.1
      have l0 := GA.l0
      have l1 := GA.l1
      have sp := short_p (h := a.Heights) l0
      have es : shortestS a = (⟨a.ID, a.Begin, a.Every, a.Heights.take (shortK a.Heights (left (a.Heights.length - 1) 1) 1).toNat⟩, 0) := by unfold shortestS; rw [if_pos hg.1]; rfl
      generalize a.Heights.take (shortK a.Heights (left (a.Heights.length - 1) 1) 1).toNat = h' at *
      obtain ⟨s0, s1, sd, se, sm, ss⟩ := sp
      have GC : Good ⟨a.ID, a.Begin, a.Every, h'⟩ := ⟨GA.b0, GA.b1, GA.e0, GA.e1, s0, by simp only; omega, GA.i0, GA.i1, fun x hx => GA.hs x (ss x hx)⟩
      have hc : Len h' := by unfold Len; omega
      have e5 : valueS ⟨a.ID, a.Begin, a.Every, h'⟩ tick = valueS a tick := by
        unfold valueS
        rw [if_pos ⟨GC.goodB, hg.2⟩, if_pos hg, val_rnd, val_rnd]
        simp only
        rw [se]
      have e6 : shortestS ⟨a.ID, a.Begin, a.Every, h'⟩ = (⟨a.ID, a.Begin, a.Every, h'⟩, 0) := by
        unfold shortestS
        rw [if_pos GC.goodB]
        simp only
        obtain ⟨p1, p2, p3, p4⟩ := shortK_spec h' (left (h'.length - 1) 1) 1 (by omega) (by unfold left; omega)
        generalize shortK h' (left (h'.length - 1) 1) 1 = kk at *
        have ek : kk = h'.length := by
          rcases p3 with e | hr
          · exact e
          · obtain ⟨j, rfl⟩ : ∃ j : Nat, kk = j := ⟨kk.toNat, by omega⟩
            rcases Nat.lt_or_ge j h'.length with hj | hj
            · rw [sm j (by omega) hj] at hr; cases hr
            · omega
        subst ek
        unfold shortR
        simp
      rw [Shortest_eq a ha, es, Option.bind_some]
      simp only
      rw [Value_eq _ hc, e5, Option.bind_some, Shortest_eq _ hc, e6, Option.bind_some]
      simp only [hv, decide_true, Bool.not_true, Bool.or_self, Bool.not_false, gb, if_true]
      rw [SameCycle_self _ hc]
      have z0 : decide ((h'.length : Int) = 0) = false := by simp; intro h; rw [h] at s0; simp at s0
      have er : rem (a.Heights.length : Int) (h'.length : Int) = some 0 := by
        unfold rem; rw [if_neg (by omega), Int.tmod_eq_emod_of_nonneg (by omega), sd]
      simp only [Option.bind_some, Bool.not_true, Bool.or_self, z0, Bool.not_false, if_true, er, decide_true, Bool.false_eq_true, if_false]
      have er2 : rem (w64 k) (h'.length : Int) = some (k % h'.length) := by
        rw [w64_id (n := k) (by omega) (by omega)]
        unfold rem; rw [if_neg (by omega), Int.tmod_eq_emod_of_nonneg hk.1]
      have m0 := Int.emod_nonneg k (show (h'.length : Int) ≠ 0 by omega)
      have m1 := Int.emod_lt_of_pos k (show 0 < (h'.length : Int) by omega)
      rw [er2, Option.bind_some]
      generalize k % (h'.length : Int) = q at *
      obtain ⟨m, hm⟩ : ∃ m : Nat, 1 + q = m := ⟨(1 + q).toNat, by omega⟩
      rw [w64_id (n := 1 + q) (by omega) (by omega), hm, sub_pre (by omega), Option.bind_some]
      have hml : (h'.take m).length = m := by simp; omega
      have hmul : m * h'.length ≤ 60 * 60 := Nat.mul_le_mul (by omega) (by omega)
      have hmi : ((m * h'.length : Nat) : Int) = (m : Int) * (h'.length : Int) := Int.natCast_mul _ _
      rw [hml]
      suffices h : ∃ r, Lp (law02_TideCyclesHold_b2 a b tick (valueS a tick) (valueS b tick) (⟨a.ID, a.Begin, a.Every, h'⟩, 0) (h'.take m)) fuel (decide ((m : Int) = (h'.length : Int)), 0) = some r ∧ r = true by obtain ⟨r, h, rfl⟩ := h; exact h
      refine lp_inv' (fun (i : Nat) (s : Bool × Int) => s.2 = (i : Int) ∧ (s.1 = true ∨ (m < h'.length ∧ ∀ n : Nat, n < i → rnd (h'.take m) n = rnd h' n))) _ (m * h'.length) (by omega) ⟨rfl, ?_⟩ fun i s hi hI => ?_
      · rcases Nat.lt_or_ge m h'.length with hh | hh
        · exact .inr ⟨hh, fun n hn => by omega⟩
        · left; simp only [decide_eq_true_eq]; omega
      · obtain ⟨d, i'⟩ := s
        simp only at hI
        obtain ⟨rfl, hI⟩ := hI
        unfold law02_TideCyclesHold_b2
        simp only
        rw [hml, w64_id (n := (m : Int) * (h'.length : Int)) (by omega) (by omega)]
        by_cases h : i < m * h'.length
        · left
          have hx1 : rem (i : Int) (m : Int) = some ((i : Int) % m) := by unfold rem; rw [if_neg (by omega), Int.tmod_eq_emod_of_nonneg (by omega)]
          have hx2 : rem (i : Int) (h'.length : Int) = some ((i : Int) % h'.length) := by unfold rem; rw [if_neg (by omega), Int.tmod_eq_emod_of_nonneg (by omega)]
          have ixr : ∀ (L : List Int), 0 < L.length → ix L ((i : Int) % (L.length : Int)) = some (rnd L i) := by
            intro L hL
            have r0 := Int.emod_nonneg (i : Int) (show (L.length : Int) ≠ 0 by omega)
            have r1 := Int.emod_lt_of_pos (i : Int) (show 0 < (L.length : Int) by omega)
            unfold ix rnd
            rw [if_pos r0, List.getElem?_eq_getElem (by omega), List.getD_eq_getElem?_getD, List.getElem?_eq_getElem (by omega)]
            rfl
          have i1 := ixr (h'.take m) (by omega)
          rw [hml] at i1
          have i2 := ixr h' (by omega)
          refine ⟨h, ?_⟩
          rw [if_pos (by rw [decide_eq_true_eq]; omega), w64_id (n := (i : Int) + 1) (by omega) (by omega)]
          cases d with
          | true =>
            simp only [gb, Bool.not_true, Bool.false_eq_true, if_false, Option.bind_some, Bool.true_or]
            exact ⟨_, rfl, by simp only; omega, .inl rfl⟩
          | false =>
            simp only [gb, Bool.not_false, if_true, hx1, hx2, i1, i2, Option.bind_some, Bool.false_or]
            refine ⟨_, rfl, by simp only; omega, ?_⟩
            by_cases e : rnd (h'.take m) i = rnd h' i
            · right
              rcases hI with hI | ⟨q1, q2⟩
              · cases hI
              · refine ⟨q1, fun n hn => ?_⟩
                by_cases en : n = i
                · subst en; exact e
                · exact q2 n (by omega)
            · left; simp [e]
        · right
          rw [if_neg (by rw [decide_eq_true_eq]; omega)]
          have hd : d = true := by
            rcases hI with hI | ⟨q1, q2⟩
            · exact hI
            · exact (short_min sm (by omega) q1 fun n hn => q2 n (by omega)).elim
          subst hd
          rw [hold_j1 ha hb hv]
          exact ⟨true, rfl, rfl⟩
    · rw [if_pos (by simp [hv]), sanity_true]; rfl
end Go.Mx
