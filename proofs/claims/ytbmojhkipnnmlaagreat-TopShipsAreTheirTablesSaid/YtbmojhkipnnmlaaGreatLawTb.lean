/- Plain laws, top: the least and the greatest value over a span. Conditions: none. -/
import Derived.Test.YtbmojhkipnnmlaaGreatLawTa
set_option linter.unusedVariables false
set_option linter.unusedSimpArgs false
namespace Go.Mx
theorem tsub_clr {α : Type} {β : Type} {L : List α} {k : Nat} {z : α} (hk : k ≤ L.length) (h0 : 0 < L.length) (K : List α → Option β) : (Option.bind (sub L (k : Int) (L.length : Int)) fun _ => Option.bind (clrE L (k : Int) z) fun l4 => Option.bind (sub l4 0 (k : Int)) K) = K (L.take k) := by
 have e1 : sub L (k : Int) (L.length : Int) = some (L.drop k) := by unfold sub; rw [if_pos ⟨by omega, by omega, by omega⟩]; simp
 rw [e1, Option.bind_some]
 unfold clrE
 rw [if_pos ⟨h0, by omega, by omega⟩, Option.bind_some]
 unfold sub
 rw [if_pos ⟨by omega, by omega, by simp; omega⟩, Option.bind_some]
 congr 1
 simp [List.take_append_of_le_length, Nat.min_eq_left hk]
theorem compact_in (l : List Int) (hl : l.length ≤ 4000) (a : Nat) (a0 : 1 ≤ a) (ha : a < l.length) (he : l[a] = l[a - 1]) : ∃ r, Lp (curve_corners_b6 (a : Int)) fuel ((a : Int), 1, l) = some r ∧ ∃ r', r = .inr r' ∧ ∀ y, y ∈ r' ↔ y ∈ l := by
 refine lp_inv' (fun (n : Nat) (s : Int × Int × List Int) => ∃ (k : Nat) (L : List Int), s = ((k : Int), ((n + 1 : Nat) : Int), L) ∧ k ≤ a + n ∧ L.length = l.length ∧ a + n + 1 ≤ l.length ∧ (∀ j, a + n ≤ j → L[j]? = l[j]?) ∧ ∀ y, y ∈ L.take k ↔ y ∈ l.take (a + n + 1)) _ l.length (by omega) ⟨a, l, rfl, by omega, rfl, by omega, fun _ _ => rfl, fun y => ?_⟩ fun n s hn hI => ?_
 ·rw [List.take_succ_eq_append_getElem ha, List.mem_append, List.mem_singleton]
  refine ⟨.inl, fun h => ?_⟩
  rcases h with h | rfl
  ·exact h
  ·exact List.mem_take_iff_getElem.2 ⟨a - 1, by omega, he.symm⟩
 ·obtain ⟨k, L, rfl, h1, h2, h3, h4, h5⟩ := hI
  unfold curve_corners_b6
  simp only [Int.toNat_natCast, List.length_drop]
  by_cases hlt : a + n + 1 < l.length
  ·have g : ∀ j (hj : j < l.length), a + n ≤ j → ix (List.drop a L) ((j - a : Nat) : Int) = some l[j] := fun j hj hj2 => by
    have hd : j - a < (L.drop a).length := by rw [List.length_drop]; omega
    rw [ix_lt hd, List.getElem_drop]
    have := h4 j hj2
    rw [List.getElem?_eq_getElem (by omega), List.getElem?_eq_getElem hj] at this
    rw [← Option.some.inj this]
    congr 1
    congr 1
    omega
   have e1 := g (a + n + 1) hlt (by omega)
   have e2 := g (a + n) (by omega) (by omega)
   rw [show a + n + 1 - a = n + 1 by omega] at e1
   rw [show a + n - a = n by omega] at e2
   have hkl : k < L.length := by omega
   rw [if_pos (decide_eq_true (by omega)), e1, Option.bind_some, w64_u (a := ((n + 1 : Nat) : Int) - 1) (by omega), show ((n + 1 : Nat) : Int) - 1 = (n : Int) by omega, e2, Option.bind_some]
   unfold curve_corners_j7
   rw [w64_u (a := ((n + 1 : Nat) : Int) + 1) (by omega), show ((n + 1 : Nat) : Int) + 1 = ((n + 1 + 1 : Nat) : Int) by omega]
   by_cases hne : l[a + n + 1] = l[a + n]
   ·rw [if_neg (by simp [hne])]
    refine .inl ⟨by omega, _, rfl, k, L, rfl, by omega, h2, by omega, fun j hj => h4 j (by omega), fun y => ?_⟩
    rw [h5, show a + (n + 1) + 1 = (a + n + 1) + 1 by omega, List.take_succ_eq_append_getElem hlt, List.mem_append, List.mem_singleton]
    refine ⟨.inl, fun h => ?_⟩
    rcases h with h | rfl
    ·exact h
    ·exact List.mem_take_iff_getElem.2 ⟨a + n, by omega, hne.symm⟩
   ·rw [if_pos (by simp [hne]), Option.bind_some, ix_lt hkl, Option.bind_some, w64_u (a := (k : Int) + 1) (by omega)]
    refine .inl ⟨by omega, _, rfl, k + 1, L.set k l[a + n + 1], rfl, by omega, by rw [List.length_set]; exact h2, by omega, fun j hj => ?_, fun y => ?_⟩
    ·rw [List.getElem?_set_ne (by omega)]; exact h4 j (by omega)
    ·rw [List.take_succ_eq_append_getElem (by rw [List.length_set]; omega), List.take_set_of_le (Nat.le_refl _), show a + (n + 1) + 1 = (a + n + 1) + 1 by omega, List.take_succ_eq_append_getElem hlt, List.mem_append, List.mem_append, h5]
     simp
  ·have e : a + n + 1 = l.length := by omega
   rw [if_neg (by rw [decide_eq_true_eq]; omega)]
   have : curve_corners_j5 (k : Int) L = some (.inr (L.take k)) := tsub_clr (by omega) (by omega) _
   refine .inr ⟨_, by rw [this]; rfl, L.take k, rfl, fun y => ?_⟩
   rw [h5, e, List.take_length]
theorem mem_srtI (l : List Int) (y : Int) : y ∈ srtI l ↔ y ∈ l := by
 unfold srtI
 exact List.mem_mergeSort
theorem compact_is (l1 : List Int) (hl : l1.length ≤ 4000) : ∃ r, curve_corners_j1 l1 = some r ∧ ∀ y, y ∈ r ↔ y ∈ l1 := by
 have hlen : (srtI l1).length = l1.length := List.length_mergeSort l1
 unfold curve_corners_j1 srtO
 rw [if_pos (by omega), Option.bind_some]
 have key : ∃ r, (if decide (((srtI l1).length : Int) < 2) = true then curve_corners_j2 (srtI l1) else Lp (curve_corners_b4 (srtI l1)) fuel 1) = some r ∧ ∀ y, y ∈ r ↔ y ∈ srtI l1 := by
  generalize srtI l1 = l at hlen
  by_cases h2 : (l.length : Int) < 2
  ·rw [if_pos (decide_eq_true h2)]
   exact ⟨l, rfl, fun y => Iff.rfl⟩
  ·rw [if_neg (by rw [decide_eq_true_eq]; exact h2)]
   refine lp_inv' (fun (i : Nat) (s : Int) => s = ((i + 1 : Nat) : Int) ∧ i + 1 ≤ l.length) _ l.length (by omega) ⟨rfl, by omega⟩ fun i s hi hI => ?_
   obtain ⟨rfl, i1⟩ := hI
   unfold curve_corners_b4
   simp only
   by_cases hlt : i + 1 < l.length
   ·rw [if_pos (decide_eq_true (by omega)), ix_lt hlt, Option.bind_some, w64_u (a := ((i + 1 : Nat) : Int) - 1) (by omega), show ((i + 1 : Nat) : Int) - 1 = (i : Int) by omega, ix_lt (by omega : i < l.length), Option.bind_some]
    by_cases he : l[i + 1] = l[i]
    ·rw [if_pos (decide_eq_true he)]
     have hq : qsl l 0 ((i + 1 : Nat) : Int) = some ((i + 1 : Nat) : Int) := by
      unfold qsl
      rw [if_pos ⟨by omega, by simp; omega⟩]
      simp
     rw [hq, Option.bind_some]
     obtain ⟨r, r1, r', rfl, r2⟩ := compact_in l (by omega) (i + 1) (by omega) hlt (by simpa using he)
     exact .inr ⟨r', r1, r2⟩
    ·rw [if_neg (by rw [decide_eq_true_eq]; exact he)]
     exact .inl ⟨by omega, _, rfl, by rw [w64_u (by omega)]; omega, by omega⟩
   ·rw [if_neg (by rw [decide_eq_true_eq]; omega)]
    exact .inr ⟨l, rfl, fun y => Iff.rfl⟩
 obtain ⟨r, r1, r2⟩ := key
 exact ⟨r, r1, fun y => by rw [r2, mem_srtI]⟩
def Cnr (c : api_Curve) (lo hi x : Int) : Prop := x = lo ∨ x = hi ∨ ∃ j, j < c.Knots.length ∧ kX c j = x ∧ lo ≤ x ∧ x ≤ hi
theorem corners_is {s : api_Ship} {c : api_Curve} (h : Cov s c) (lo hi : Int) : ∃ r, curve_corners ⟨lo, hi⟩ [c] = some r ∧ r.length ≤ 4000 ∧ ∀ y, y ∈ r ↔ Cnr c lo hi y := by
 have n0 := h.n0; have n1 := h.n1
 have hin : ∃ r, Lp (curve_corners_b10 ⟨lo, hi⟩ 0 c) fuel (0, [lo, hi]) = some r ∧ ∃ L, r = .inl (1, L) ∧ L.length ≤ 42 ∧ ∀ y, y ∈ L ↔ Cnr c lo hi y := by
  refine lp_inv' (fun (i : Nat) (s : Int × List Int) => ∃ L, s = ((i : Int), L) ∧ L.length ≤ 2 + i ∧ ∀ y, y ∈ L ↔ y = lo ∨ y = hi ∨ ∃ j, j < i ∧ kX c j = y ∧ lo ≤ y ∧ y ≤ hi) _ c.Knots.length (by omega) ⟨[lo, hi], rfl, by simp, fun y => by simp⟩ fun i s hi' hI => ?_
  obtain ⟨L, rfl, l1, l2⟩ := hI
  unfold curve_corners_b10
  simp only
  by_cases hlt : i < c.Knots.length
  ·rw [if_pos (decide_eq_true (by omega)), ix_gK hlt, Option.bind_some]
   unfold curve_corners_j11
   have hx : ∀ y, (∃ j, j < i + 1 ∧ kX c j = y ∧ lo ≤ y ∧ y ≤ hi) ↔ (∃ j, j < i ∧ kX c j = y ∧ lo ≤ y ∧ y ≤ hi) ∨ (kX c i = y ∧ lo ≤ y ∧ y ≤ hi) := fun y => by
    constructor
    ·rintro ⟨j, q1, q2⟩
     by_cases e : j = i
     ·subst e; exact .inr q2
     ·exact .inl ⟨j, by omega, q2⟩
    ·rintro (⟨j, q1, q2⟩ | q)
     ·exact ⟨j, by omega, q2⟩
     ·exact ⟨i, by omega, q⟩
   by_cases hw : curve_within (gK c.Knots i).X lo hi = true
   ·rw [if_pos hw]
    have hw' : lo ≤ kX c i ∧ kX c i ≤ hi := by simpa [curve_within] using hw
    have ha : app L [(gK c.Knots i).X] = some (L ++ [(gK c.Knots i).X]) := by unfold app; rw [if_pos (by simp; omega)]
    rw [ha, Option.bind_some]
    refine .inl ⟨hlt, _, rfl, L ++ [(gK c.Knots i).X], by rw [w64s i (by omega)], by simp; omega, fun y => ?_⟩
    rw [List.mem_append, List.mem_singleton, l2, hx]
    constructor
    ·rintro ((q | q | q) | rfl)
     ·exact .inl q
     ·exact .inr (.inl q)
     ·exact .inr (.inr (.inl q))
     ·exact .inr (.inr (.inr ⟨rfl, hw'⟩))
    ·rintro (q | q | q | ⟨rfl, _⟩)
     ·exact .inl (.inl q)
     ·exact .inl (.inr (.inl q))
     ·exact .inl (.inr (.inr q))
     ·exact .inr rfl
   ·rw [if_neg hw]
    refine .inl ⟨hlt, _, rfl, L, by rw [w64s i (by omega)], by omega, fun y => ?_⟩
    rw [l2, hx]
    constructor
    ·rintro (q | q | q)
     ·exact .inl q
     ·exact .inr (.inl q)
     ·exact .inr (.inr (.inl q))
    ·rintro (q | q | q | ⟨rfl, q⟩)
     ·exact .inl q
     ·exact .inr (.inl q)
     ·exact .inr (.inr q)
     ·exact absurd (show curve_within (gK c.Knots i).X lo hi = true by simp only [curve_within, Bool.and_eq_true, decide_eq_true_eq]; exact q) hw
  ·have e : i = c.Knots.length := by omega
   subst e
   rw [if_neg (by rw [decide_eq_true_eq]; omega)]
   exact .inr ⟨_, rfl, L, rfl, by omega, l2⟩
 obtain ⟨r, r1, L, rfl, L1, L2⟩ := hin
 obtain ⟨r, c1, c2⟩ := compact_is L (by omega)
 have hlen : ∃ r, curve_corners ⟨lo, hi⟩ [c] = some r ∧ (∀ y, y ∈ r ↔ Cnr c lo hi y) ∧ curve_corners_j1 L = some r := by
  unfold curve_corners
  refine lp_inv' (fun (i : Nat) (s : Int × List Int) => (i = 0 ∧ s = (0, [lo, hi])) ∨ (i = 1 ∧ s = (1, L))) _ 1 (by omega) (.inl ⟨rfl, rfl⟩) fun i s hi' hI => ?_
  rcases hI with ⟨rfl, rfl⟩ | ⟨rfl, rfl⟩
  ·refine .inl ⟨by omega, (1, L), ?_, .inr ⟨rfl, rfl⟩⟩
   unfold curve_corners_b8
   simp only
   rw [if_pos (by simp), show ix [c] 0 = some c from rfl, Option.bind_some, r1]
  ·refine .inr ⟨r, ?_, fun y => by rw [c2, L2], c1⟩
   unfold curve_corners_b8
   simp only
   rw [if_neg (by simp), c1]; rfl
 obtain ⟨r', q1, q2, q3⟩ := hlen
 refine ⟨r', q1, ?_, q2⟩
 -- no longer than what is sorted
 have hln : ∀ (l : List Int) (r : List Int), l.length ≤ 42 → curve_corners_j1 l = some r → r.length ≤ 4000 := fun l r hl he => by
  have hl2 : (srtI l).length = l.length := List.length_mergeSort l
  unfold curve_corners_j1 srtO at he
  rw [if_pos (by omega), Option.bind_some] at he
  generalize srtI l = l' at hl2 he
  by_cases h2 : (l'.length : Int) < 2
  ·rw [if_pos (decide_eq_true h2)] at he
   have := Option.some.inj he
   subst this; omega
  ·rw [if_neg (by rw [decide_eq_true_eq]; exact h2)] at he
   obtain ⟨s, s1, s2⟩ := lp_inv' (body := curve_corners_b4 l') (s0 := 1) (fun (i : Nat) (s : Int) => s = ((i + 1 : Nat) : Int) ∧ i + 1 ≤ l'.length) (fun r => r.length ≤ 4000) l'.length (by omega) ⟨rfl, by omega⟩ fun i s hi hI => by
    obtain ⟨rfl, i1⟩ := hI
    unfold curve_corners_b4
    simp only
    by_cases hlt : i + 1 < l'.length
    ·rw [if_pos (decide_eq_true (by omega)), ix_lt hlt, Option.bind_some, w64_u (a := ((i + 1 : Nat) : Int) - 1) (by omega), show ((i + 1 : Nat) : Int) - 1 = (i : Int) by omega, ix_lt (by omega : i < l'.length), Option.bind_some]
     by_cases he : l'[i + 1] = l'[i]
     ·rw [if_pos (decide_eq_true he)]
      have hq : qsl l' 0 ((i + 1 : Nat) : Int) = some ((i + 1 : Nat) : Int) := by
       unfold qsl
       rw [if_pos ⟨by omega, by simp; omega⟩]
       simp
      rw [hq, Option.bind_some]
      obtain ⟨q, w1, w2⟩ := lp_inv' (body := curve_corners_b6 ((i + 1 : Nat) : Int)) (s0 := (((i + 1 : Nat) : Int), 1, l')) (fun (n : Nat) (s : Int × Int × List Int) => ∃ (k : Nat) (L : List Int), s = ((k : Int), ((n + 1 : Nat) : Int), L) ∧ k ≤ (i + 1) + n ∧ L.length = l'.length ∧ (i + 1) + n + 1 ≤ l'.length) (fun q => ∃ r', q = .inr r' ∧ r'.length ≤ 4000) l'.length (by omega) ⟨i + 1, l', rfl, by omega, rfl, by omega⟩ fun n s hn hI => by
       obtain ⟨k, L, rfl, h1, h2, h3⟩ := hI
       unfold curve_corners_b6
       simp only [Int.toNat_natCast, List.length_drop]
       by_cases hlt2 : (i + 1) + n + 1 < l'.length
       ·have hd1 : n + 1 < (L.drop (i + 1)).length := by rw [List.length_drop]; omega
        have hd2 : n < (L.drop (i + 1)).length := by omega
        have hkl : k < L.length := by omega
        rw [if_pos (decide_eq_true (by omega)), ix_lt hd1, Option.bind_some, w64_u (a := ((n + 1 : Nat) : Int) - 1) (by omega), show ((n + 1 : Nat) : Int) - 1 = (n : Int) by omega, ix_lt hd2, Option.bind_some]
        unfold curve_corners_j7
        rw [w64_u (a := ((n + 1 : Nat) : Int) + 1) (by omega), show ((n + 1 : Nat) : Int) + 1 = ((n + 1 + 1 : Nat) : Int) by omega]
        split
        ·rw [Option.bind_some, ix_lt hkl, Option.bind_some, w64_u (a := (k : Int) + 1) (by omega)]
         exact .inl ⟨by omega, _, rfl, k + 1, L.set k _, rfl, by omega, by rw [List.length_set]; exact h2, by omega⟩
        ·exact .inl ⟨by omega, _, rfl, k, L, rfl, by omega, h2, by omega⟩
       ·rw [if_neg (by rw [decide_eq_true_eq]; omega)]
        have : curve_corners_j5 (k : Int) L = some (.inr (L.take k)) := tsub_clr (by omega) (by omega) _
        exact .inr ⟨_, by rw [this]; rfl, L.take k, rfl, by rw [List.length_take]; omega⟩
      obtain ⟨r', rfl, w3⟩ := w2
      exact .inr ⟨r', w1, w3⟩
     ·rw [if_neg (by rw [decide_eq_true_eq]; exact he)]
      exact .inl ⟨by omega, _, rfl, by rw [w64_u (by omega)]; omega, by omega⟩
    ·rw [if_neg (by rw [decide_eq_true_eq]; omega)]
     exact .inr ⟨l', rfl, by omega⟩
   rw [s1] at he
   have := Option.some.inj he
   subst this; exact s2
 exact hln L r' L1 q3
theorem ext_gen {body : Int × Int × Int × Int × Int → Option ((Int × Int × Int × Int × Int) ⊕ (curve_spot × Int))} (bt : curve_spot → curve_spot → Bool) (Q : curve_spot → curve_spot → Prop) (l : List curve_spot) (hl : l.length ≤ 4000) (h0 : 0 < l.length)
  (refl : ∀ x ∈ l, Q x x) (yes : ∀ x ∈ l, ∀ b ∈ l, ∀ y ∈ l, bt x b = true → Q b y → Q x y) (no : ∀ x ∈ l, ∀ b ∈ l, bt x b = false → Q b x)
  (step : ∀ (i : Nat) (hi : i < l.length) a at_ n d, body (a, (i : Int), at_, n, d) = some (.inl (if (decide (a < 0) || bt l[i] ⟨at_, ⟨n, d⟩⟩) = true then ((i : Int), ((i + 1 : Nat) : Int), l[i].at_, l[i].v.Num, l[i].v.Den) else (a, ((i + 1 : Nat) : Int), at_, n, d))))
  (last : ∀ a at_ n d, body (a, (l.length : Int), at_, n, d) = some (.inr (⟨at_, ⟨n, d⟩⟩, a))) : ∃ r, Lp body fuel (-1, 0, 0, 0, 0) = some r ∧ r.1 ∈ l ∧ ∀ y ∈ l, Q r.1 y := by
 refine lp_inv' (fun (i : Nat) (s : Int × Int × Int × Int × Int) => (i = 0 ∧ s = (-1, 0, 0, 0, 0)) ∨ (∃ b ∈ l, ∃ a, 0 ≤ a ∧ s = (a, (i : Int), b.at_, b.v.Num, b.v.Den) ∧ ∀ y ∈ l.take i, Q b y)) _ l.length (by omega) (.inl ⟨rfl, rfl⟩) fun i s hi hI => ?_
 have hstep : ∀ (hlt : i < l.length) (b : curve_spot), b ∈ l → (∀ y ∈ l.take i, Q b y) → (bt l[i] b = true → ∀ y ∈ l.take (i + 1), Q l[i] y) ∧ (bt l[i] b = false → ∀ y ∈ l.take (i + 1), Q b y) := fun hlt b hb hq => by
  have hm := List.getElem_mem hlt
  rw [List.take_succ_eq_append_getElem hlt]
  refine ⟨fun hbt y hy => ?_, fun hbt y hy => ?_⟩
  ·rcases List.mem_append.1 hy with hy | hy
   ·exact yes _ hm b hb y (List.mem_of_mem_take hy) hbt (hq y hy)
   ·rw [List.mem_singleton] at hy; subst hy; exact refl _ hm
  ·rcases List.mem_append.1 hy with hy | hy
   ·exact hq y hy
   ·rw [List.mem_singleton] at hy; subst hy; exact no _ hm b hb hbt
 rcases hI with ⟨rfl, rfl⟩ | ⟨b, hb, a, ha, rfl, hq⟩
 ·refine .inl ⟨h0, _, step 0 h0 _ _ _ _, .inr ⟨l[0], List.getElem_mem h0, 0, by omega, by simp, fun y hy => ?_⟩⟩
  obtain ⟨j, hj, rfl⟩ := List.mem_take_iff_getElem.1 hy
  have : j = 0 := by omega
  subst this
  exact refl _ (List.getElem_mem h0)
 ·by_cases hlt : i < l.length
  ·refine .inl ⟨hlt, _, step i hlt _ _ _ _, .inr ?_⟩
   have hna : decide (a < 0) = false := by simp; omega
   rw [hna, Bool.false_or]
   obtain ⟨s1, s2⟩ := hstep hlt b hb hq
   cases hbt : bt l[i] b with
   | true =>
    rw [if_pos rfl]
    exact ⟨l[i], List.getElem_mem hlt, _, by omega, rfl, s1 hbt⟩
   | false =>
    rw [if_neg (by simp)]
    exact ⟨b, hb, a, ha, rfl, s2 hbt⟩
  ·have e : i = l.length := by omega
   subst e
   rw [List.take_length] at hq
   exact .inr ⟨_, last _ _ _ _, hb, hq⟩
structure SpOK (x : curve_spot) : Prop where
 den : 1 ≤ x.v.Den ∧ x.v.Den ≤ 2000
 num : -131072000 ≤ x.v.Num ∧ x.v.Num ≤ 131072000
theorem tcmp (a b : Int) : cmp_Compare_int a b = if a < b then -1 else if b < a then 1 else 0 := by
 unfold cmp_Compare_int cmp_isNaN_int
 simp
theorem tmul_bd {a b : Int} (ha : -131072000 ≤ a ∧ a ≤ 131072000) (hb : 1 ≤ b ∧ b ≤ 2000) : -262144000000 ≤ a * b ∧ a * b ≤ 262144000000 := by
 have h1 : a * b ≤ 131072000 * b := Int.mul_le_mul_of_nonneg_right ha.2 (by omega)
 have h2 : -131072000 * b ≤ a * b := Int.mul_le_mul_of_nonneg_right ha.1 (by omega)
 omega
theorem order_is {x y : curve_spot} (hx : SpOK x) (hy : SpOK y) : curve_order x.v y.v = if x.v.Num * y.v.Den < y.v.Num * x.v.Den then -1 else if y.v.Num * x.v.Den < x.v.Num * y.v.Den then 1 else 0 := by
 unfold curve_order
 have h1 := tmul_bd hx.num hy.den
 have h2 := tmul_bd hy.num hx.den
 rw [w64_u (a := x.v.Num * y.v.Den) (by omega), w64_u (a := y.v.Num * x.v.Den) (by omega), tcmp]
theorem frac_trans {a b d : api_Frac} (ha : 1 ≤ a.Den) (hb : 1 ≤ b.Den) (hd : 1 ≤ d.Den) (h1 : a.Num * b.Den ≤ b.Num * a.Den) (h2 : b.Num * d.Den ≤ d.Num * b.Den) : a.Num * d.Den ≤ d.Num * a.Den := by
 have e1 : a.Num * b.Den * d.Den ≤ b.Num * a.Den * d.Den := Int.mul_le_mul_of_nonneg_right h1 (by omega)
 have e2 : b.Num * d.Den * a.Den ≤ d.Num * b.Den * a.Den := Int.mul_le_mul_of_nonneg_right h2 (by omega)
 refine Int.le_of_mul_le_mul_right (a := b.Den) ?_ (by omega)
 calc a.Num * d.Den * b.Den = a.Num * b.Den * d.Den := by ac_rfl
  _ ≤ b.Num * a.Den * d.Den := e1
  _ = b.Num * d.Den * a.Den := by ac_rfl
  _ ≤ d.Num * b.Den * a.Den := e2
  _ = d.Num * a.Den * b.Den := by ac_rfl
theorem peak_is (l : List curve_spot) (hl : l.length ≤ 4000) (h0 : 0 < l.length) (ok : ∀ x ∈ l, SpOK x) : ∃ p, curve_peak l = some p ∧ (∃ x ∈ l, p.Lo = x.v) ∧ (∃ x ∈ l, p.Hi = x.v) ∧ ∀ y ∈ l, p.Lo.Num * y.v.Den ≤ y.v.Num * p.Lo.Den ∧ y.v.Num * p.Hi.Den ≤ p.Hi.Num * y.v.Den := by
 obtain ⟨r1, a1, a2, a3⟩ := ext_gen (body := curve_extreme_curve_spot__curve_peak_1_b2 l) curve_peak_1 (fun b y => b.v.Num * y.v.Den ≤ y.v.Num * b.v.Den) l hl h0 (fun x _ => Int.le_refl _) (fun x hx b hb y hy h1 h2 => by
  unfold curve_peak_1 at h1
  rw [order_is (ok x hx) (ok b hb), decide_eq_true_eq] at h1
  have : x.v.Num * b.v.Den < b.v.Num * x.v.Den := by split at h1 <;> first | assumption | (split at h1 <;> omega)
  exact frac_trans (ok x hx).den.1 (ok b hb).den.1 (ok y hy).den.1 (by omega) h2) (fun x hx b hb h1 => by
  unfold curve_peak_1 at h1
  rw [order_is (ok x hx) (ok b hb), decide_eq_false_iff_not] at h1
  by_cases q : x.v.Num * b.v.Den < b.v.Num * x.v.Den
  ·rw [if_pos q] at h1; omega
  ·omega) (fun i hi a at_ n d => by
  unfold curve_extreme_curve_spot__curve_peak_1_b2 curve_extreme_curve_spot__curve_peak_1_j3
  simp only
  rw [if_pos (decide_eq_true (by omega)), ix_lt hi, Option.bind_some, w64s i (by omega)]
  split <;> rfl) (fun a at_ n d => by
  unfold curve_extreme_curve_spot__curve_peak_1_b2
  simp only
  rw [if_neg (by simp)]; rfl)
 obtain ⟨r2, b1, b2, b3⟩ := ext_gen (body := curve_extreme_curve_spot__curve_peak_2_b2 l) curve_peak_2 (fun b y => y.v.Num * b.v.Den ≤ b.v.Num * y.v.Den) l hl h0 (fun x _ => Int.le_refl _) (fun x hx b hb y hy h1 h2 => by
  unfold curve_peak_2 at h1
  rw [order_is (ok x hx) (ok b hb), decide_eq_true_eq] at h1
  have : b.v.Num * x.v.Den < x.v.Num * b.v.Den := by
   split at h1
   ·omega
   ·split at h1 <;> first | assumption | omega
  exact frac_trans (ok y hy).den.1 (ok b hb).den.1 (ok x hx).den.1 h2 (by omega)) (fun x hx b hb h1 => by
  unfold curve_peak_2 at h1
  rw [order_is (ok x hx) (ok b hb), decide_eq_false_iff_not] at h1
  by_cases q : b.v.Num * x.v.Den < x.v.Num * b.v.Den
  ·rw [if_neg (by omega), if_pos q] at h1; omega
  ·omega) (fun i hi a at_ n d => by
  unfold curve_extreme_curve_spot__curve_peak_2_b2 curve_extreme_curve_spot__curve_peak_2_j3
  simp only
  rw [if_pos (decide_eq_true (by omega)), ix_lt hi, Option.bind_some, w64s i (by omega)]
  split <;> rfl) (fun a at_ n d => by
  unfold curve_extreme_curve_spot__curve_peak_2_b2
  simp only
  rw [if_neg (by simp)]; rfl)
 refine ⟨⟨r1.1.v, r2.1.v, r1.1.at_, r2.1.at_⟩, ?_, ⟨_, a2, rfl⟩, ⟨_, b2, rfl⟩, fun y hy => ⟨a3 y hy, b3 y hy⟩⟩
 unfold curve_peak curve_extreme_curve_spot__curve_peak_1 curve_extreme_curve_spot__curve_peak_2
 rw [a1, Option.bind_some, b1]; rfl
structure PkOK (c : api_Curve) (lo hi : Int) (p : api_Peak) : Prop where
 atlo : ∃ x, lo ≤ x ∧ x ≤ hi ∧ ValAt c x p.Lo
 athi : ∃ x, lo ≤ x ∧ x ≤ hi ∧ ValAt c x p.Hi
 all : ∀ x f, Cnr c lo hi x → ValAt c x f → p.Lo.Num * f.Den ≤ f.Num * p.Lo.Den ∧ f.Num * p.Hi.Den ≤ p.Hi.Num * f.Den
theorem ValAt.uniq {s : api_Ship} {c : api_Curve} (h : Cov s c) {x : Int} {f g : api_Frac} (hf : ValAt c x f) (hg : ValAt c x g) : f = g :=
 IsLow.uniq (n := f.Num) (d := f.Den) (n' := g.Num) (d' := g.Den) ⟨⟨1, by omega, by simp, by simp⟩, hf.co⟩ ⟨⟨1, by omega, by simp, by simp⟩, hg.co⟩ hf.den.1 hg.den.1 (hf.on.uniq h hg.on)
theorem Over_is {s : api_Ship} {c : api_Curve} (h : Cov s c) {lo hi : Int} (h1 : lo ≤ hi) (h2 : kX c 0 ≤ lo) (h3 : hi ≤ kX c (c.Knots.length - 1)) : ∃ p, curve_Over c ⟨lo, hi⟩ = some (p, 0) ∧ PkOK c lo hi p := by
 have n0 := h.n0
 obtain ⟨c1, c2⟩ := curve_ok h
 have xl := h.xy 0 n0
 have xh := h.xy (c.Knots.length - 1) (by omega)
 have e1 : curve_checked [c] = some 0 := by
  unfold curve_checked
  suffices q : ∃ r, Lp (curve_checked_b2 [c]) fuel 0 = some r ∧ r = 0 by obtain ⟨r, q, rfl⟩ := q; exact q
  refine lp_inv' (fun (i : Nat) (s : Int) => s = (i : Int)) _ 1 (by omega) rfl fun i s hi' hI => ?_
  subst hI
  unfold curve_checked_b2
  simp only
  by_cases e : i = 0
  ·subst e
   refine .inl ⟨by omega, 1, ?_, rfl⟩
   rw [if_pos (by simp), show ix [c] ((0 : Nat) : Int) = some c from rfl, Option.bind_some, c1]; rfl
  ·have : i = 1 := by omega
   subst this
   refine .inr ⟨0, ?_, rfl⟩
   rw [if_neg (by simp)]; rfl
 have e2 : curve_shared [c] = some ⟨max 0 (kX c 0), min 2000 (kX c (c.Knots.length - 1))⟩ := by
  unfold curve_shared
  suffices q : ∃ r, Lp (curve_shared_b2 [c]) fuel (0, 0, 2000) = some r ∧ r = ⟨max 0 (kX c 0), min 2000 (kX c (c.Knots.length - 1))⟩ by obtain ⟨r, q, rfl⟩ := q; exact q
  refine lp_inv' (fun (i : Nat) (s : Int × Int × Int) => (i = 0 ∧ s = (0, 0, 2000)) ∨ (i = 1 ∧ s = (1, max 0 (kX c 0), min 2000 (kX c (c.Knots.length - 1))))) _ 1 (by omega) (.inl ⟨rfl, rfl⟩) fun i s hi' hI => ?_
  unfold curve_shared_b2
  rcases hI with ⟨rfl, rfl⟩ | ⟨rfl, rfl⟩
  ·refine .inl ⟨by omega, _, ?_, .inr ⟨rfl, rfl⟩⟩
   simp only
   rw [if_pos (by simp), show ix [c] 0 = some c from rfl, Option.bind_some, c2]; rfl
  ·refine .inr ⟨_, ?_, rfl⟩
   simp only
   rw [if_neg (by simp)]; rfl
 have e3 : curve_spanned ⟨lo, hi⟩ [c] = some 0 := by
  unfold curve_spanned
  rw [e1, Option.bind_some, if_neg (by simp), if_neg (by simp; omega), e2, Option.bind_some]
  have g1 : decide (lo < max 0 (kX c 0)) = false := decide_eq_false (by unfold kX at *; omega)
  have g2 : decide (min 2000 (kX c (c.Knots.length - 1)) < hi) = false := decide_eq_false (by unfold kX at *; omega)
  simp only
  rw [g1, g2]; rfl
 obtain ⟨at_, a1, a2, a3⟩ := corners_is h lo hi
 have hin : ∀ x ∈ at_, lo ≤ x ∧ x ≤ hi := fun x hx => by
  rcases (a3 x).1 hx with rfl | rfl | ⟨j, _, _, q⟩
  ·exact ⟨Int.le_refl _, h1⟩
  ·exact ⟨h1, Int.le_refl _⟩
  ·exact q
 have hval : ∀ x ∈ at_, ∃ f, curve_value c x = some f ∧ ValAt c x f := fun x hx => value_is h (by have := hin x hx; omega) (by have := hin x hx; omega)
 have hov : ∃ r, curve_over__curve_Over_1 at_ c = some r ∧ PkOK c lo hi r := by
  unfold curve_over__curve_Over_1
  refine lp_inv' (fun (i : Nat) (s : Int × List curve_spot) => s = ((i : Int), (at_.take i).map fun x => ⟨x, (curve_value c x).getD default⟩)) _ at_.length (by omega) rfl fun i s hi' hI => ?_
  subst hI
  unfold curve_over__curve_Over_1_b2
  simp only
  by_cases hlt : i < at_.length
  ·obtain ⟨f, f1, _⟩ := hval _ (List.getElem_mem hlt)
   have ho : curve_Over_1 at_[i] c = some ((curve_value c at_[i]).getD default) := by unfold curve_Over_1; rw [f1]; rfl
   have ha : ∀ (L : List curve_spot) (x : curve_spot), L.length ≤ 4000 → app L [x] = some (L ++ [x]) := fun L x hL => by unfold app; rw [if_pos (by simp; omega)]
   rw [if_pos (decide_eq_true (by omega)), ix_lt hlt, Option.bind_some, ho, Option.bind_some, ha _ _ (by simp; omega), Option.bind_some]
   refine .inl ⟨hlt, _, rfl, ?_⟩
   rw [w64s i (by omega), List.take_succ_eq_append_getElem hlt, List.map_append]; rfl
  ·have e : i = at_.length := by omega
   subst e
   rw [if_neg (by rw [decide_eq_true_eq]; omega), List.take_length]
   have hok : ∀ y ∈ at_.map fun x => (⟨x, (curve_value c x).getD default⟩ : curve_spot), SpOK y ∧ y.at_ ∈ at_ ∧ ValAt c y.at_ y.v := fun y hy => by
    obtain ⟨x, hx, rfl⟩ := List.mem_map.1 hy
    obtain ⟨f, f1, f2⟩ := hval x hx
    simp only
    rw [f1]
    exact ⟨⟨f2.den, f2.num⟩, hx, f2⟩
   have hlo : lo ∈ at_ := (a3 lo).2 (.inl rfl)
   obtain ⟨p, p1, ⟨x, x1, x2⟩, ⟨z, z1, z2⟩, p4⟩ := peak_is (at_.map fun x => (⟨x, (curve_value c x).getD default⟩ : curve_spot)) (by simp; omega) (by rw [List.length_map]; exact List.length_pos_of_mem hlo) (fun y hy => (hok y hy).1)
   refine .inr ⟨p, ?_, ⟨x.at_, (hin _ (hok x x1).2.1).1, (hin _ (hok x x1).2.1).2, by rw [x2]; exact (hok x x1).2.2⟩, ⟨z.at_, (hin _ (hok z z1).2.1).1, (hin _ (hok z z1).2.1).2, by rw [z2]; exact (hok z z1).2.2⟩, fun x f hx hf => ?_⟩
   ·unfold curve_over__curve_Over_1_j1
    rw [p1]; rfl
   ·have hm := (a3 x).2 hx
    obtain ⟨f', f1, f2⟩ := hval x hm
    have := p4 _ (List.mem_map.2 ⟨x, hm, rfl⟩)
    simp only at this
    rw [f1, Option.getD_some, f2.uniq h hf] at this
    exact this
 obtain ⟨p, p1, p2⟩ := hov
 refine ⟨p, ?_, p2⟩
 unfold curve_Over
 rw [e3, Option.bind_some, if_neg (by simp), a1, Option.bind_some, p1]; rfl
theorem between {s : api_Ship} {c : api_Curve} (h : Cov s c) {lo hi : Int} {p : api_Peak} (hp : PkOK c lo hi p) (h1 : lo ≤ hi) (h2 : kX c 0 ≤ lo) (h3 : hi ≤ kX c (c.Knots.length - 1)) {m n d : Int} (o : OnC c m n d) (hd : 1 ≤ d) (m0 : lo * 40 ≤ m) (m1 : m ≤ hi * 40) : p.Lo.Num * d ≤ n * p.Lo.Den ∧ n * p.Hi.Den ≤ p.Hi.Num * d := by
 obtain ⟨_, _, _, v1⟩ := hp.atlo
 obtain ⟨_, _, _, v2⟩ := hp.athi
 have fin : ∀ f1 f2 : api_Frac, 1 ≤ f1.Den → 1 ≤ f2.Den → (p.Lo.Num * f1.Den ≤ f1.Num * p.Lo.Den) → (f2.Num * p.Hi.Den ≤ p.Hi.Num * f2.Den) → f1.Num * d ≤ n * f1.Den → n * f2.Den ≤ f2.Num * d → p.Lo.Num * d ≤ n * p.Lo.Den ∧ n * p.Hi.Den ≤ p.Hi.Num * d := fun f1 f2 g1 g2 q1 q2 q3 q4 =>
  ⟨frac_trans (a := p.Lo) (b := f1) (d := ⟨n, d⟩) v1.den.1 g1 hd q1 q3, frac_trans (a := ⟨n, d⟩) (b := f2) (d := p.Hi) hd g2 v2.den.1 q4 q2⟩
 rcases o with ⟨k1, e⟩ | ⟨k, pc, e⟩
 ·have : kX c (c.Knots.length - 1) = kX c 0 := by rw [k1]
  have elo : lo = kX c 0 := by omega
  obtain ⟨f, _, f2⟩ := value_is h (x := lo) (by omega) (by omega)
  obtain ⟨q1, q2⟩ := hp.all lo f (.inl rfl) f2
  have hf : f.Num = kY c 0 * f.Den := by
   rcases f2.on with ⟨_, q⟩ | ⟨k, pc, _⟩
   ·exact q
   ·have := pc.k0; have := pc.k1; omega
  have e1 : f.Num * d = n * f.Den := by rw [hf, e]; ac_rfl
  exact fin f f f2.den.1 f2.den.1 q1 q2 (by omega) (by omega)
 ·have hR := (h.R pc.k0 pc.k1).1
  have hup := h.mono (show k - 1 < k by have := pc.k0; omega) pc.k1
  have plo := pc.lo; have phi := pc.hi
  -- the corners on both sides
  have c1 : Cnr c lo hi (max (kX c (k - 1)) lo) := by
   rcases Int.le_total (kX c (k - 1)) lo with q | q
   ·rw [Int.max_eq_right q]; exact .inl rfl
   ·rw [Int.max_eq_left q]; exact .inr (.inr ⟨k - 1, by have := pc.k1; omega, rfl, q, by omega⟩)
  have c2 : Cnr c lo hi (min (kX c k) hi) := by
   rcases Int.le_total (kX c k) hi with q | q
   ·rw [Int.min_eq_left q]; exact .inr (.inr ⟨k, pc.k1, rfl, by omega, q⟩)
   ·rw [Int.min_eq_right q]; exact .inr (.inl rfl)
  have hk0 := h.mono' (show 0 ≤ k - 1 by omega) (by have := pc.k1; omega)
  have hkl := h.mono' (show k ≤ c.Knots.length - 1 by have := pc.k1; omega) (by have := h.n0; omega)
  obtain ⟨f1, _, g1⟩ := value_is h (x := max (kX c (k - 1)) lo) (by omega) (by omega)
  obtain ⟨f2, _, g2⟩ := value_is h (x := min (kX c k) hi) (by omega) (by omega)
  have o1 := g1.on.any h (k := k) ⟨pc.k0, pc.k1, by omega, by omega⟩
  have o2 := g2.on.any h (k := k) ⟨pc.k0, pc.k1, by omega, by omega⟩
  have p1 := hp.all _ f1 c1 g1
  have p2 := hp.all _ f2 c2 g2
  have mono : ∀ a b : Int, a ≤ b → 0 ≤ kY c k - kY c (k - 1) → kL c k a ≤ kL c k b := fun a b hab hr => by
   unfold kL
   have := Int.mul_le_mul_of_nonneg_left (show a - kX c (k - 1) * 40 ≤ b - kX c (k - 1) * 40 by omega) hr
   omega
  have anti : ∀ a b : Int, a ≤ b → kY c k - kY c (k - 1) ≤ 0 → kL c k b ≤ kL c k a := fun a b hab hr => by
   unfold kL
   have := Int.mul_le_mul_of_nonpos_left hr (show a - kX c (k - 1) * 40 ≤ b - kX c (k - 1) * 40 by omega)
   omega
  have comp : ∀ {m1 m2 n1 d1 n2 d2 : Int}, n1 * kR c k = d1 * kL c k m1 → n2 * kR c k = d2 * kL c k m2 → 1 ≤ d1 → 1 ≤ d2 → kL c k m1 ≤ kL c k m2 → n1 * d2 ≤ n2 * d1 := fun {m1 m2 n1 d1 n2 d2} w1 w2 w3 w4 w5 => by
   refine Int.le_of_mul_le_mul_right (a := kR c k) ?_ (by omega)
   have : d1 * d2 * kL c k m1 ≤ d1 * d2 * kL c k m2 := Int.mul_le_mul_of_nonneg_left w5 (Int.mul_nonneg (by omega) (by omega))
   calc n1 * d2 * kR c k = n1 * kR c k * d2 := by ac_rfl
    _ = d1 * d2 * kL c k m1 := by rw [w1]; ac_rfl
    _ ≤ d1 * d2 * kL c k m2 := this
    _ = n2 * kR c k * d1 := by rw [w2]; ac_rfl
    _ = n2 * d1 * kR c k := by ac_rfl
  rcases Int.le_total 0 (kY c k - kY c (k - 1)) with hr | hr
  ·exact fin f1 f2 g1.den.1 g2.den.1 p1.1 p2.2 (comp o1 e g1.den.1 hd (mono _ _ (by omega) hr)) (comp e o2 hd g2.den.1 (mono _ _ (by omega) hr))
  ·exact fin f2 f1 g2.den.1 g1.den.1 p2.1 p1.2 (comp o2 e g2.den.1 hd (anti _ _ (by omega) hr)) (comp e o1 hd g1.den.1 (anti _ _ (by omega) hr))
end Go.Mx
