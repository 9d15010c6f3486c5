/- HullTaken: the plain law. Conditions: none. -/
import Derived.Test.YthfnbjoecocfaaaLawHi
set_option linter.unusedVariables false
set_option linter.unusedSimpArgs false
namespace Go.Mx
theorem outsB_iff : ∀ (rs : List api_Hold) (hs out : List api_Span), out.length = hs.length → out.length = rs.length → outsB rs hs out = true → ∀ i (h : i < out.length) (h1 : i < hs.length) (h2 : i < rs.length), 0 ≤ out[i].Lo ∧ out[i].Lo ≤ out[i].Hi ∧ out[i].Hi ≤ rs[i].Room ∧ out[i].Lo ≤ hs[i].Hi
  | _, _, [], _, _, _ => fun i h => by simp at h
  | [], _, _ :: _, _, h, _ => by simp at h
  | _ :: _, [], _ :: _, h, _, _ => by simp at h
  | r :: rs, h :: hs, x :: xs, e1, e2, hb => fun i q q1 q2 => by
    simp only [outsB, spanB, Bool.and_eq_true, decide_eq_true_eq, Bool.not_eq_true', decide_eq_false_iff_not] at hb
    cases i with
    | zero => simp only [List.getElem_cons_zero]; omega
    | succ i => exact outsB_iff rs hs xs (by simpa using e1) (by simpa using e2) hb.2 i (by simpa using q) (by simpa using q1) (by simpa using q2)
theorem sub_sum : ∀ (a b : List Int), a.length = b.length → (List.zipWith (· - ·) a b).sum = a.sum - b.sum
  | [], [], _ => rfl
  | [], _ :: _, h => by simp at h
  | _ :: _, [], h => by simp at h
  | x :: a, y :: b, h => by
    have := sub_sum a b (by simpa using h)
    simp only [List.zipWith_cons_cons, List.sum_cons]; omega
theorem holds_HullTaken {s : api_Ship} {l : api_Load} {by_ : List Int} {out : List api_Span} {some_ : List Int} (h0 : ok_api_Ship s) (h1 : ok_api_Load l) (h2 : ok_50 by_) (h3 : ok_28 out) (h4 : ok_50 some_) : law03_HullTaken s l by_ out some_ = some true := by
  have hl : Len s.Holds := h0.2.2.2.2.1.1
  have hw := LoadW.ok h1
  unfold law03_HullTaken
  split
  · rw [sanity3_true]; rfl
  · rename_i hc
    have ho : out.length ≤ 4294967295 := by simp at hc; omega
    rw [hBehind_eq s l out hl hw ho, Option.bind_some]
    by_cases he : (behindR s l out).2 = 0
    · rw [if_neg (by simp [he])]
      -- what is known
      have hk : chkL s l = 0 ∧ out.length = s.Holds.length ∧ outsB s.Holds l.Holds out = true ∧ w64 (loSum out) ≤ l.All.Hi ∧ loadE s (leftL l out) = 0 ∧ (behindR s l out).1 = leftL l out := by
        unfold behindR behindJ at he ⊢
        by_cases c1 : chkL s l = 0
        · simp only [if_pos c1] at he ⊢
          by_cases c2 : (out.length : Int) = (s.Holds.length : Int)
          · simp only [if_pos c2] at he ⊢
            by_cases c3 : outsB s.Holds l.Holds out = true
            · simp only [if_pos c3] at he ⊢
              by_cases c4 : l.All.Hi < w64 (loSum out)
              · simp only [if_pos c4] at he; omega
              · simp only [if_neg c4] at he ⊢
                by_cases c5 : loadE s (leftL l out) = 0
                · simp only [if_pos c5]; exact ⟨c1, by omega, c3, by omega, c5, trivial⟩
                · simp only [if_neg c5] at he; exact absurd he c5
            · simp only [if_neg c3] at he; omega
          · simp only [if_neg c2] at he; omega
        · simp only [if_neg c1] at he; exact absurd he c1
      obtain ⟨k1, k2, k3, k4, k5, k6⟩ := hk
      have hg := GoodL.of k1
      have hcs : chk s = 0 := by unfold chkL at k1; split at k1; · assumption
                                 · assumption
      have hb : chkL s (leftL l out) = 0 := by unfold chkL; rw [if_pos hcs]; exact k5
      have hgb := GoodL.of hb
      have hn := hg.lenL
      have hol : out.length = l.Holds.length := by have := hg.len; omega
      obtain ⟨x, hx1, hx2⟩ := inside_spec hg by_ h2
      have hxs := hx2.sum hg
      have ht := hg.tot
      rw [hx1, Option.bind_some, if_neg (by simp)]
      have hout := outsB_iff s.Holds l.Holds out hol k2 k3
      have hrb : ∀ i (h : i < out.length), 0 ≤ out[i].Lo ∧ out[i].Lo ≤ out[i].Hi ∧ out[i].Hi ≤ 65536 := fun i h => by
        have := hout i h (by omega) (by omega)
        have := (hg.ship.hold _ (List.getElem_mem (show i < s.Holds.length by omega))).1
        omega
      have hos := sums_bd out fun y hy => by obtain ⟨j, hj, rfl⟩ := List.getElem_of_mem hy; exact hrb j hj
      have hm : ∀ i (h : i < l.Holds.length), 0 ≤ l.Holds[i].Lo ∧ l.Holds[i].Lo ≤ l.Holds[i].Hi ∧ l.Holds[i].Hi ≤ 65536 := fun i h => hg.mem _ (List.getElem_mem h)
      suffices h : ∃ r, Lp (law03_HullTaken_b2 s out some_ (behindR s l out) (x, true)) fuel (0, x) = some r ∧ r = true by obtain ⟨r, h, rfl⟩ := h; exact h
      refine lp_inv' (fun i (st : Int × List Int) => st.1 = (i : Int) ∧ st.2.length = x.length ∧ (∀ j (q1 : j < st.2.length) (q2 : j < x.length) (q3 : j < out.length), (j < i → out[j].Lo ≤ x[j] - st.2[j] ∧ x[j] - st.2[j] ≤ out[j].Hi ∧ 0 ≤ st.2[j]) ∧ (i ≤ j → st.2[j] = x[j]))) _ x.length (by have := hx2.len; omega) ⟨rfl, rfl, fun j _ _ _ => ⟨fun h => by omega, fun _ => rfl⟩⟩ fun i st hi hI => ?_
      obtain ⟨i8, y⟩ := st
      obtain ⟨e1, hyl, hy⟩ := hI
      simp only at e1 hyl hy
      subst e1
      unfold law03_HullTaken_b2
      simp only
      have hxl := hx2.len
      by_cases h : i < x.length
      · have hiy : i < y.length := by omega
        have hio : i < out.length := by omega
        have hil : i < l.Holds.length := by omega
        have hyi : y[i] = x[i] := (hy i hiy h hio).2 (Nat.le_refl _)
        have hxi := hx2.span i h hil
        have hmi := hm i hil
        have hri := hrb i hio
        have key : ∀ n, out[i].Lo ≤ n → n ≤ out[i].Hi → (i < x.length ∧ ∃ s', law03_HullTaken_j3 (i : Int) y n = some (Sum.inl s') ∧ s'.1 = ((i + 1 : Nat) : Int) ∧ s'.2.length = x.length ∧ (∀ j (q1 : j < s'.2.length) (q2 : j < x.length) (q3 : j < out.length), (j < i + 1 → out[j].Lo ≤ x[j] - s'.2[j] ∧ x[j] - s'.2[j] ≤ out[j].Hi ∧ 0 ≤ s'.2[j]) ∧ (i + 1 ≤ j → s'.2[j] = x[j]))) ∨ ∃ r, law03_HullTaken_j3 (i : Int) y n = some (Sum.inr r) ∧ r = true := fun n n1 n2 => by
          unfold law03_HullTaken_j3
          rw [ix_lt hiy, Option.bind_some]
          by_cases hc : y[i] < n
          · right; rw [if_pos (by simpa using hc), sanity3_true]; exact ⟨true, rfl, rfl⟩
          · left
            rw [if_neg (by simpa using hc), Option.bind_some, Option.bind_some, w64s' h (by omega), put_nat, w64_u (by omega)]
            refine ⟨h, _, rfl, rfl, by simp [hyl], fun j q1 q2 q3 => ?_⟩
            simp only [List.getElem_set]
            by_cases e : i = j
            · subst e
              simp only [if_true]
              exact ⟨fun _ => by omega, fun h => by omega⟩
            · rw [if_neg e]
              have := hy j (by simpa using q1) q2 q3
              exact ⟨fun h => this.1 (by omega), fun h => this.2 (by omega)⟩
        rw [if_pos (by simpa using h), ix_lt hio, Option.bind_some]
        by_cases hs : i < some_.length
        · rw [if_pos (by simpa using hs), Option.bind_some, ix_lt hs, Option.bind_some, Option.bind_some, Option.bind_some]
          have hv : 0 ≤ some_[i] ∧ some_[i] ≤ 65535 := h4.2 _ (List.getElem_mem hs)
          obtain ⟨q, r1, r2, r3⟩ := rem_rng (b := out[i].Hi - out[i].Lo + 1) hv.1 hv.2 (by omega)
          rw [w64_u (a := out[i].Hi - out[i].Lo) (by omega), w64_u (a := out[i].Hi - out[i].Lo + 1) (by omega), r1, Option.bind_some, w64_u (by omega)]
          exact key _ (by omega) (by omega)
        · rw [if_neg (by simpa using hs)]
          exact key _ (by omega) (by omega)
      · right
        have e : i = x.length := by omega
        subst e
        rw [if_neg (by simp)]
        unfold law03_HullTaken_j1
        rw [sanity3_true, Option.bind_some, k6, hFits_eq s (leftL l out) y hl (leftW l out) (by have := hgb.lenL; unfold Len; omega) (by unfold Len; omega)]
        have hf : Fit (leftL l out) y := by
          have hzl : (leftL l out).Holds.length = x.length := by unfold leftL; simp; omega
          have hd := sum_fit out (List.zipWith (· - ·) x y) (by simp; omega) fun i q1 q2 => by
            simp only [List.getElem_zipWith]
            have hq : i < x.length := by simp at q1; omega
            have := (hy i (by omega) hq q2).1 hq
            omega
          rw [sub_sum x y hyl.symm] at hd
          have hal := hx2.all
          have hga := hg.all
          have hys : 0 ≤ y.sum := (sum_bd8 y x.length (by omega) fun v hv => by
            obtain ⟨j, hj, rfl⟩ := List.getElem_of_mem hv
            have q := (hy j hj (by omega) (by omega)).1 (by omega)
            have q2 := hx2.span j (by omega) (by omega)
            have q3 := hm j (by omega)
            have q4 := hrb j (by omega)
            omega).1
          refine ⟨by omega, fun i q1 q2 => ?_, ?_⟩
          · have hix : i < x.length := by omega
            have hio : i < out.length := by omega
            have hil : i < l.Holds.length := by omega
            have q := (hy i q1 hix hio).1 hix
            have p := hx2.span i hix hil
            have hmi := hm i hil
            have hri := hrb i hio
            have e : (leftL l out).Holds[i] = leftS l.Holds[i] out[i] := by simp only [leftL, List.getElem_zipWith]
            rw [e]
            unfold leftS
            simp only
            rw [w64_u (by omega), w64_u (by omega)]
            omega
          · unfold leftL
            simp only
            rw [w64_u (a := hiSum out) (by omega), w64_u (a := loSum out) (by omega), w64_u (by omega), w64_u (by omega)]
            omega
        rw [hb, (fitB_iff hgb y).2 hf]
        exact ⟨true, rfl, rfl⟩
    · rw [if_pos (by simpa using he), sanity3_true]; rfl
end Go.Mx
