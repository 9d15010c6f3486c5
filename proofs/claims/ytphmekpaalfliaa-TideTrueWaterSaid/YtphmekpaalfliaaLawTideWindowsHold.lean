/- TideWindowsHold: the plain law. Conditions: none. -/
import Derived.Test.YtphmekpaalfliaaLawN
set_option linter.unusedVariables false
namespace Go.Mx
/-- What windows hold, up to a minute. -/
structure WinP (H : Int → Int) (height lo t : Int) (l : List api_Span) : Prop where
  gap : l.Pairwise (fun x y => x.Hi + 1 < y.Lo)
  ins : ∀ x ∈ l, lo ≤ x.Lo ∧ x.Lo ≤ x.Hi ∧ x.Hi < t ∧ ∀ m, x.Lo ≤ m → m ≤ x.Hi → height ≤ H m
  all : ∀ m, lo ≤ m → m < t → height ≤ H m → ∃ x ∈ l, x.Lo ≤ m ∧ m ≤ x.Hi
theorem WinP.skip {H : Int → Int} {height lo t : Int} {l : List api_Span} (h : WinP H height lo t l) (ht : H t < height) : WinP H height lo (t + 1) l := by
  refine ⟨h.gap, fun x hx => ?_, fun m h0 h1 h2 => h.all m h0 ?_ h2⟩
  · obtain ⟨a, b, c, d⟩ := h.ins x hx
    exact ⟨a, b, by omega, d⟩
  · by_cases e : m = t
    · subst e; omega
    · omega
theorem WinP.add {H : Int → Int} {height lo t : Int} {l : List api_Span} (h : WinP H height lo t l) (hlo : lo ≤ t) (ht : height ≤ H t) : WinP H height lo (t + 1) (addW l t t) := by
  obtain ⟨g, i, a⟩ := h
  have one : ∀ m, t ≤ m → m ≤ t → height ≤ H m := fun m h0 h1 => by rw [show m = t by omega]; exact ht
  rcases snoc_cases l with rfl | ⟨p, x, rfl⟩
  · rw [addW_nil]
    refine ⟨List.pairwise_singleton _ _, fun y hy => ?_, fun m h0 h1 h2 => ?_⟩
    · simp only [List.mem_singleton] at hy; subst hy
      exact ⟨hlo, Int.le_refl _, by simp only; omega, one⟩
    · by_cases e : m = t
      · exact ⟨⟨t, t⟩, by simp, by simp only; omega, by simp only; omega⟩
      · obtain ⟨y, hy, _⟩ := a m h0 (by omega) h2; cases hy
  · rw [addW_snoc]
    have hx := i x (by simp)
    have hg := List.pairwise_append.1 g
    by_cases e : x.Hi + 1 = t
    · rw [if_pos e]
      refine ⟨List.pairwise_append.2 ⟨hg.1, List.pairwise_singleton _ _, fun u hu v hv => ?_⟩, fun y hy => ?_, fun m h0 h1 h2 => ?_⟩
      · simp only [List.mem_singleton] at hv; subst hv
        exact hg.2.2 u hu x (by simp)
      · rw [List.mem_append, List.mem_singleton] at hy
        rcases hy with hy | rfl
        · obtain ⟨q0, q1, q2, q3⟩ := i y (by simp [hy])
          exact ⟨q0, q1, by omega, q3⟩
        · refine ⟨hx.1, by simp only; omega, by simp only; omega, fun m h0 h1 => ?_⟩
          simp only at h0 h1
          by_cases e2 : m = t
          · exact one m (by omega) (by omega)
          · exact hx.2.2.2 m h0 (by omega)
      · by_cases e2 : m = t
        · exact ⟨⟨x.Lo, t⟩, by simp, by simp only; omega, by simp only; omega⟩
        · obtain ⟨y, hy, q0, q1⟩ := a m h0 (by omega) h2
          rw [List.mem_append, List.mem_singleton] at hy
          rcases hy with hy | rfl
          · exact ⟨y, by simp [hy], q0, q1⟩
          · exact ⟨⟨y.Lo, t⟩, by simp, q0, by simp only; omega⟩
    · rw [if_neg e]
      refine ⟨List.pairwise_append.2 ⟨g, List.pairwise_singleton _ _, fun u hu v hv => ?_⟩, fun y hy => ?_, fun m h0 h1 h2 => ?_⟩
      · simp only [List.mem_singleton] at hv; subst hv
        rw [List.mem_append, List.mem_singleton] at hu
        rcases hu with hu | rfl
        · have := hg.2.2 u hu x (by simp)
          simp only; omega
        · simp only; omega
      · rw [List.mem_append, List.mem_singleton] at hy
        rcases hy with hy | rfl
        · obtain ⟨q0, q1, q2, q3⟩ := i y hy
          exact ⟨q0, q1, by omega, q3⟩
        · exact ⟨hlo, Int.le_refl _, by simp only; omega, one⟩
      · by_cases e2 : m = t
        · exact ⟨⟨t, t⟩, by simp, by simp only; omega, by simp only; omega⟩
        · obtain ⟨y, hy, q0, q1⟩ := a m h0 (by omega) h2
          exact ⟨y, List.mem_append_left _ hy, q0, q1⟩
theorem winS_p {H : Int → Int} {height lo : Int} : ∀ (n : Nat) (t : Int) (l : List api_Span), lo ≤ t → WinP H height lo t l → WinP H height lo (t + n) (winS H height n t l)
  | 0, t, l, _, h => by simpa [winS] using h
  | n + 1, t, l, h0, h => by
    unfold winS
    rw [show t + ((n + 1 : Nat) : Int) = t + 1 + n by omega]
    by_cases e : H t < height
    · rw [if_pos e]; exact winS_p n (t + 1) l (by omega) (h.skip e)
    · rw [if_neg e]; exact winS_p n (t + 1) _ (by omega) (h.add h0 (by omega))
theorem win_all {w : api_Water} {s : api_Span} (h : Ask w s) (height : Int) : WinP (hgt w) height s.Lo (s.Hi + 1) (winS (hgt w) height (left s.Hi s.Lo) s.Lo []) := by
  have := winS_p (H := hgt w) (height := height) (lo := s.Lo) (left s.Hi s.Lo) s.Lo [] (Int.le_refl _) ⟨.nil, by simp, fun m h0 h1 => by omega⟩
  have e : s.Lo + (left s.Hi s.Lo : Nat) = s.Hi + 1 := by have := h.l1; unfold left; omega
  rwa [e] at this
theorem WinP.one {H : Int → Int} {height lo t : Int} {l : List api_Span} (h : WinP H height lo t l) {y z : api_Span} {m : Int} (hy : y ∈ l) (hz : z ∈ l) (h1 : m = y.Hi + 1) (h2 : z.Lo ≤ m) (h3 : m ≤ z.Hi) : False := by
  obtain ⟨i, hi, rfl⟩ := List.getElem_of_mem hy
  obtain ⟨j, hj, rfl⟩ := List.getElem_of_mem hz
  have g := List.pairwise_iff_getElem.1 h.gap
  have a := h.ins _ (List.getElem_mem hi)
  have b := h.ins _ (List.getElem_mem hj)
  rcases Nat.lt_trichotomy i j with e | e | e
  · have := g i j hi hj e; omega
  · subst e; omega
  · have := g j i hj hi e; omega
theorem inside_eq (l : List api_Span) (hl : Len l) (t : Int) : law02_inside l t = some (l.any fun x => decide (x.Lo ≤ t ∧ t ≤ x.Hi)) := by
  unfold law02_inside
  refine lp_list l hl (fun (_ : Unit) i => i) (fun _ l => l.any fun x => decide (x.Lo ≤ t ∧ t ≤ x.Hi)) (fun _ _ => True) (a := ()) rfl trivial (fun _ i hi _ => ?_) (fun _ _ => ?_)
  · unfold law02_inside_b2
    rw [if_pos (by simpa using hi), ix_lt hi, Option.bind_some]
    simp only [List.any_cons]
    have hgb : ∀ {β : Type} (x : Bool) (k : api_Span → Option β), (x = false → k default = k l[i]) → gb x (some l[i]) k = k l[i] := by
      intro β x k hk
      cases x with
      | true => rfl
      | false => simpa [gb] using hk rfl
    rw [hgb _ _ (by intro hx; rw [hx]; simp)]
    by_cases h : l[i].Lo ≤ t ∧ t ≤ l[i].Hi
    · right
      rw [if_pos (by simpa using h), decide_eq_true h, Bool.true_or]
    · left
      rw [if_neg (by simpa using h), decide_eq_false h, Bool.false_or, w64s' hi hl]
      exact ⟨(), rfl, rfl, trivial⟩
  · unfold law02_inside_b2
    rw [if_neg (by simp)]; rfl
theorem within_eq (a b : List api_Span) (ha : Len a) (hb : Len b) : law02_within a b = some (a.all fun x => b.any fun y => decide (y.Lo ≤ x.Lo ∧ x.Hi ≤ y.Hi)) := by
  unfold law02_within
  refine lp_list a ha (fun (_ : Unit) i => i) (fun _ l => l.all fun x => b.any fun y => decide (y.Lo ≤ x.Lo ∧ x.Hi ≤ y.Hi)) (fun _ _ => True) (a := ()) rfl trivial (fun _ i hi _ => ?_) (fun _ _ => ?_)
  · unfold law02_within_b2
    rw [if_pos (by simpa using hi)]
    simp only [List.all_cons]
    have hin : Lp (law02_within_b4 a b i) fuel (false, 0) = some (if (false || b.any fun y => decide (y.Lo ≤ a[i].Lo ∧ a[i].Hi ≤ y.Hi)) = true then Sum.inl ((i + 1 : Nat) : Int) else Sum.inr false) := by
      refine lp_list b hb (fun (z : Bool) k => (z, k)) (fun z l => if (z || l.any fun y => decide (y.Lo ≤ a[i].Lo ∧ a[i].Hi ≤ y.Hi)) = true then Sum.inl ((i + 1 : Nat) : Int) else Sum.inr false) (fun _ _ => True) (a := false) rfl trivial (fun z k hk _ => ?_) (fun z _ => ?_)
      · left
        unfold law02_within_b4
        simp only
        rw [if_pos (by simpa using hk), ix_lt hk, ix_lt hi, w64s' hk hb]
        cases z with
        | true =>
          simp only [gb, Bool.not_true, Bool.false_and, Bool.false_eq_true, if_false, Option.bind_some]
          exact ⟨true, rfl, by simp, trivial⟩
        | false =>
          by_cases h : b[k].Lo ≤ a[i].Lo
          · have e : decide (b[k].Lo ≤ a[i].Lo) = true := by simpa using h
            simp only [gb, Bool.not_false, Bool.true_and, if_true, Option.bind_some, e, Bool.false_or]
            exact ⟨_, rfl, by simp only [List.any_cons, h, true_and], trivial⟩
          · have e : decide (b[k].Lo ≤ a[i].Lo) = false := by simpa using h
            simp only [gb, Bool.not_false, Bool.true_and, if_true, Option.bind_some, e, Bool.false_or, Bool.false_eq_true, if_false, Bool.false_and]
            exact ⟨_, rfl, by simp only [List.any_cons, h, false_and, decide_false, Bool.false_or], trivial⟩
      · unfold law02_within_b4
        simp only
        rw [if_neg (by simp)]
        unfold law02_within_j3
        rw [w64s' hi ha]
        cases z <;> rfl
    rw [hin, Bool.false_or]
    by_cases h : (b.any fun y => decide (y.Lo ≤ a[i].Lo ∧ a[i].Hi ≤ y.Hi)) = true
    · left
      rw [if_pos h, h, Bool.true_and]
      exact ⟨(), rfl, rfl, trivial⟩
    · right
      rw [if_neg h]
      rw [Bool.not_eq_true] at h
      rw [h, Bool.false_and]
  · unfold law02_within_b2
    rw [if_neg (by simp)]; rfl
theorem holds_TideWindowsHold {w : api_Water} {s : api_Span} {at_ height less : Int} (h0 : ok_api_Water w) (h1 : ok_api_Span s) (h2 : OkI .u16 at_) (h3 : OkI .i64 height) (h4 : OkI .u16 less) : law02_TideWindowsHold w s at_ height less = some true := by
  have hw := LenW.of h0
  have ha : 0 ≤ at_ ∧ at_ ≤ 65535 := h2
  have hh := h3.i64
  have hless : 0 ≤ less ∧ less ≤ 65535 := h4
  unfold law02_TideWindowsHold
  obtain ⟨b, hb, _⟩ := few_spec w hw.c
  rw [hb, Option.bind_some]
  split
  · rw [sanity_true]; rfl
  · rw [Windows_eq w hw, Option.bind_some]
    by_cases hq : askS w s = 0
    · have ask := ask_of hw hq
      have ask' := ask
      obtain ⟨g, l0, l1, l2, l3⟩ := ask'
      have e1 : ∀ k, windowsS w s k = (winS (hgt w) k (left s.Hi s.Lo) s.Lo [], 0) := fun k => by unfold windowsS; rw [if_pos hq]
      have P := win_all ask height
      have hlen := (windowsS_ok w hw s height).1
      have hlen2 := fun k => (windowsS_ok w hw s k).1
      have hj1 : ∀ n, n = sumW2 (windowsS w s height).1 → law02_TideWindowsHold_j1 w s height less (windowsS w s height) n = some true := by
        intro n hn
        unfold law02_TideWindowsHold_j1
        rw [Minutes_eq w hw, Option.bind_some]
        by_cases hlow : height < -1099511627776
        · rw [if_pos (by simpa using hlow), sanity_true]; rfl
        · rw [if_neg (by simpa using hlow), w64_id (n := less) (by omega) (by omega), w64_id (by omega) (by omega), Windows_eq w hw, sanity_true]
          simp only [Option.bind_some]
          rw [within_eq _ _ (by unfold Len; omega) (by have := hlen2 (height - less); unfold Len; omega)]
          have hwi : ((windowsS w s height).1.all fun x => (windowsS w s (height - less)).1.any fun y => decide (y.Lo ≤ x.Lo ∧ x.Hi ≤ y.Hi)) = true := by
            rw [e1, e1]
            have P2 := win_all ask (height - less)
            rw [List.all_eq_true]
            intro x hx
            rw [List.any_eq_true]
            obtain ⟨q0, q1, q2, q3⟩ := P.ins x hx
            obtain ⟨y, hy, r0, r1⟩ := P2.all x.Lo q0 (by omega) (by have := q3 x.Lo (Int.le_refl _) q1; omega)
            refine ⟨y, hy, decide_eq_true ⟨r0, ?_⟩⟩
            refine Int.not_lt.1 fun hlt => ?_
            obtain ⟨z, hz, t0, t1⟩ := P2.all (y.Hi + 1) (by omega) (by omega) (by have := q3 (y.Hi + 1) (by omega) (by omega); omega)
            exact P2.one hy hz rfl t0 t1
          rw [hwi]
          have e2 : (windowsS w s height).2 = 0 := by rw [e1]
          have e3 : (windowsS w s (height - less)).2 = 0 := by rw [e1]
          simp [gb, hn, e2, e3]
      have e2 : (windowsS w s height).2 = 0 := by rw [e1]
      rw [if_neg (by simp [e2])]
      have hr : rem (w64 at_) (w64 (w64 (s.Hi - s.Lo) + 1)) = some (at_ % (s.Hi - s.Lo + 1)) := by
        rw [w64_id (n := at_) (by omega) (by omega), w64_id (n := s.Hi - s.Lo) (by omega) (by omega), w64_id (by omega) (by omega)]
        unfold rem
        rw [if_neg (by omega), Int.tmod_eq_emod_of_nonneg ha.1]
      rw [hr, Option.bind_some]
      have m0 := Int.emod_nonneg at_ (show s.Hi - s.Lo + 1 ≠ 0 by omega)
      have m1 := Int.emod_lt_of_pos at_ (show 0 < s.Hi - s.Lo + 1 by omega)
      generalize at_ % (s.Hi - s.Lo + 1) = q at *
      rw [w64_id (n := s.Lo + q) (by omega) (by omega), Height_eq w hw, Option.bind_some]
      have e4 : heightS w (s.Lo + q) = (hgt w (s.Lo + q), 0) := by
        unfold heightS
        have hc : checkS w = 0 := by
          unfold askS at hq
          split at hq
          · assumption
          · contradiction
        rw [if_pos hc, if_pos (by omega)]
      rw [e4]
      simp only [decide_true, Bool.not_true, Bool.not_false, Bool.false_or]
      rw [inside_eq _ (by unfold Len; omega)]
      simp only [gb, if_true, Option.bind_some]
      have e5 : ((windowsS w s height).1.any fun x => decide (x.Lo ≤ s.Lo + q ∧ s.Lo + q ≤ x.Hi)) = decide (height ≤ hgt w (s.Lo + q)) := by
        rw [e1]
        by_cases hge : height ≤ hgt w (s.Lo + q)
        · rw [decide_eq_true hge, List.any_eq_true]
          obtain ⟨x, hx, r0, r1⟩ := P.all (s.Lo + q) (by omega) (by omega) hge
          exact ⟨x, hx, decide_eq_true ⟨r0, r1⟩⟩
        · rw [decide_eq_false hge, List.any_eq_false]
          intro x hx hc
          have hc := of_decide_eq_true hc
          exact hge ((P.ins x hx).2.2.2 _ hc.1 hc.2)
      rw [e5, if_neg (by simp)]
      have ewin : (windowsS w s height).1 = winS (hgt w) height (left s.Hi s.Lo) s.Lo [] := by rw [e1]
      generalize hl : (windowsS w s height).1 = l at *
      have P' : WinP (hgt w) height s.Lo (s.Hi + 1) l := ewin ▸ P
      suffices h : ∃ r, Lp (law02_TideWindowsHold_b2 w s height less (windowsS w s height)) fuel (0, 0) = some r ∧ r = true by obtain ⟨r, h, rfl⟩ := h; exact h
      refine lp_inv' (fun (i : Nat) (st : Int × Int) => st.2 = (i : Int) ∧ (0 ≤ st.1 ∧ st.1 ≤ 1048577 * (i : Int)) ∧ sumW2 l = st.1 + sumW2 (l.drop i)) _ l.length (by omega) ⟨rfl, by simp, by simp⟩ fun i st hi hI => ?_
      obtain ⟨n, i'⟩ := st
      simp only at hI
      obtain ⟨rfl, ⟨n0, n1⟩, hI⟩ := hI
      unfold law02_TideWindowsHold_b2
      simp only
      rw [hl]
      by_cases h : i < l.length
      · left
        obtain ⟨q0, q1, q2, q3⟩ := P'.ins _ (List.getElem_mem h)
        have c1 : decide (l[i].Hi < l[i].Lo) = false := by simp; omega
        have c2 : decide (l[i].Lo < s.Lo) = false := by simp; omega
        have c3 : decide (s.Hi < l[i].Hi) = false := by simp; omega
        rw [if_pos (by simpa using h), ix_lt h]
        simp only [Option.bind_some, gb, c1, c2, c3, Bool.not_false, if_true, Bool.false_or, Bool.true_and]
        refine ⟨h, ?_⟩
        have hfin : ∃ s', (some (Sum.inl (w64 (w64 (w64 (n + l[i].Hi) - l[i].Lo) + 1), w64 ((i : Int) + 1))) : Option ((Int × Int) ⊕ Bool)) = some (Sum.inl s') ∧ s'.2 = ((i + 1 : Nat) : Int) ∧ (0 ≤ s'.1 ∧ s'.1 ≤ 1048577 * ((i + 1 : Nat) : Int)) ∧ sumW2 l = s'.1 + sumW2 (l.drop (i + 1)) := by
          rw [w64_id (n := n + l[i].Hi) (by omega) (by omega), w64_id (n := n + l[i].Hi - l[i].Lo) (by omega) (by omega), w64_id (n := n + l[i].Hi - l[i].Lo + 1) (by omega) (by omega), w64s' h (by omega)]
          refine ⟨_, rfl, rfl, ⟨by simp only; omega, by simp only; omega⟩, ?_⟩
          rw [hI, List.drop_eq_getElem_cons h]
          simp only [sumW2, List.map_cons, List.sum_cons]
          omega
        cases i with
        | zero =>
          simp only [Int.natCast_zero, Int.lt_irrefl, decide_false, Bool.false_and, Bool.false_eq_true, if_false, Option.bind_some] at hfin ⊢
          exact hfin
        | succ k =>
          have e0 : decide ((0 : Int) < ((k + 1 : Nat) : Int)) = true := by rw [decide_eq_true_eq]; omega
          have hk : k < l.length := by omega
          have e6 : w64 (((k + 1 : Nat) : Int) - 1) = (k : Int) := by rw [w64_id (by omega) (by omega)]; omega
          obtain ⟨p0, p1, p2, p3⟩ := P'.ins _ (List.getElem_mem hk)
          have hgap := List.pairwise_iff_getElem.1 P'.gap k (k + 1) hk h (by omega)
          have c4 : decide (l[k + 1].Lo ≤ w64 (l[k].Hi + 1)) = false := by rw [w64_id (by omega) (by omega)]; simp; omega
          simp only [e0, e6, ix_lt hk, if_true, Option.bind_some, c4, Bool.true_and, Bool.false_eq_true, if_false]
          exact hfin
      · right
        rw [if_neg (by simpa using h), hj1 n (by rw [hI, List.drop_eq_nil_of_le (by omega)]; simp [sumW2])]
        exact ⟨true, rfl, rfl⟩
    · have e : windowsS w s height = ([], askS w s) := by unfold windowsS; rw [if_neg hq]
      rw [e, if_pos (by simp [hq]), sanity_true]
      rfl
end Go.Mx
