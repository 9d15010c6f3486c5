/- BerthChecks: the plain law. Conditions: none. -/
import Derived.Test.YtnkngglimidldaaGreatLawYo
import Derived.Test.YtnkngglimidldaaGreatLawYj
import Derived.Test.YtnkngglimidldaaGreatLawBerthSan
set_option linter.unusedVariables false
set_option linter.unusedSimpArgs false
namespace Go.Mx
def lowS (H : Int → Int) (need : Int) : Nat → Int → Int × Bool × Int
 | 0, _ => (0, false, 0)
 | n + 1, t => if H t < need then (t, true, 0) else lowS H need n (t + 1)
theorem lowS_spec (H : Int → Int) (need : Int) : ∀ (n : Nat) (t : Int), (lowS H need n t = (0, false, 0) ∧ ∀ m, t ≤ m → m < t + n → need ≤ H m) ∨ ∃ u, lowS H need n t = (u, true, 0) ∧ t ≤ u ∧ u < t + n ∧ H u < need ∧ ∀ m, t ≤ m → m < u → need ≤ H m
 | 0, t => .inl ⟨rfl, fun m h0 h1 => by omega⟩
 | n + 1, t => by
  unfold lowS
  by_cases e : H t < need
  ·rw [if_pos e]
   exact .inr ⟨t, rfl, Int.le_refl _, by omega, e, fun m h0 h1 => by omega⟩
  ·rw [if_neg e]
   rcases lowS_spec H need n (t + 1) with ⟨h1, h2⟩ | ⟨u, h1, h2, h3, h4, h5⟩
   ·refine .inl ⟨h1, fun m q0 q1 => ?_⟩
    by_cases c : m = t
    ·rw [c]; omega
    ·exact h2 m (by omega) (by omega)
   ·refine .inr ⟨u, h1, by omega, by omega, h4, fun m q0 q1 => ?_⟩
    by_cases c : m = t
    ·rw [c]; omega
    ·exact h5 m (by omega) q1
def touchS (h : api_Harbour) (id d : Int) (s : api_Span) : Int × Bool × Int :=
 if checkHS h = 0 then
  (match h.Berths.find? (fun b => decide (b.ID = id)) with
  | none => (0, false, 5)
  | some b => if timedB s = true ∧ 0 ≤ d ∧ d ≤ 8000 then lowS (hgt h.Water) (need h b d) (left s.Hi s.Lo) s.Lo else (0, false, 1))
 else (0, false, checkHS h)
theorem find_first {h : api_Harbour} (id : Int) : (firstI (fun b : api_Berth => decide (b.ID = id)) h.Berths 0 = -1 ∧ h.Berths.find? (fun b => decide (b.ID = id)) = none) ∨ ∃ (i : Nat) (hi : i < h.Berths.length), firstI (fun b : api_Berth => decide (b.ID = id)) h.Berths 0 = (i : Int) ∧ h.Berths.find? (fun b => decide (b.ID = id)) = some h.Berths[i] := by
 rcases firstI_spec (fun b : api_Berth => decide (b.ID = id)) h.Berths 0 with ⟨h1, h2⟩ | ⟨i, h1, h2, h3, h4⟩
 ·left
  exact ⟨h1, List.find?_eq_none.2 fun x hx => by rw [h2 x hx]; simp⟩
 ·right
  refine ⟨i, h2, by rw [show (0 : Int) = ((0 : Nat) : Int) from rfl, h1, Nat.zero_add], ?_⟩
  rw [List.find?_eq_some_iff_getElem]
  exact ⟨h3, i, h2, rfl, fun j hj => by simpa using h4 j hj⟩
theorem RTouch_eq (h : api_Harbour) (hh : LenH h) (id d : Int) (s : api_Span) : ref06_Touch h id d s = some (touchS h id d s) := by
 unfold ref06_Touch touchS
 rw [RCheckH_eq h hh, Option.bind_some]
 by_cases e : checkHS h = 0
 ·have hg := GoodH.of hh e
  rw [if_neg (by simp [e]), if_pos e, rberth_eq h hh.b, Option.bind_some]
  rcases find_first (h := h) id with ⟨h1, h2⟩ | ⟨i, hi, h1, h2⟩
  ·rw [h1, h2, if_pos (by simp)]
  ·rw [h1, h2, if_neg (by simp), rstay_eq]
   simp only
   by_cases c : timedB s = true ∧ 0 ≤ d ∧ d ≤ 8000
   ·obtain ⟨c1, c2, c3⟩ := c
    have ct := c1
    simp only [timedB, decide_eq_true_eq] at ct
    rw [if_neg (by simp [c1, ref06_in]; omega), if_pos ⟨c1, c2, c3⟩]
    have k0 := hg.k0; have k1 := hg.k1
    have key := lp_inv' (body := ref06_Touch_b2 h d s (i : Int)) (s0 := s.Lo) (fun q t => t = s.Lo + (q : Int) ∧ lowS (hgt h.Water) (need h h.Berths[i] d) (left s.Hi s.Lo) s.Lo = lowS (hgt h.Water) (need h h.Berths[i] d) (left s.Hi t) t) (fun r => r = lowS (hgt h.Water) (need h h.Berths[i] d) (left s.Hi s.Lo) s.Lo) (s.Hi + 1 - s.Lo).toNat (by omega) ⟨by omega, rfl⟩ fun q t hq hI => by
     obtain ⟨rfl, hI⟩ := hI
     by_cases h1 : s.Lo + (q : Int) ≤ s.Hi
     ·obtain ⟨b0, b1, b2, b3⟩ := hg.bs _ (List.getElem_mem hi)
      have := hgt_bound hg.g (s.Lo + (q : Int))
      have el : lowS (hgt h.Water) (need h h.Berths[i] d) (left s.Hi (s.Lo + (q : Int))) (s.Lo + (q : Int)) = if hgt h.Water (s.Lo + (q : Int)) < need h h.Berths[i] d then (s.Lo + (q : Int), true, 0) else lowS (hgt h.Water) (need h h.Berths[i] d) (left s.Hi (s.Lo + (q : Int) + 1)) (s.Lo + (q : Int) + 1) := by rw [left_succ h1]; rfl
      unfold ref06_Touch_b2
      rw [if_pos (by simpa using h1), show max (i : Int) 0 = (i : Int) by omega, depth_eq hg (ix_lt hi) (List.getElem_mem hi) (by omega) (by omega), Option.bind_some, w64_id (n := d + h.Keel) (by omega) (by omega)]
      by_cases w : hgt h.Water (s.Lo + (q : Int)) < need h h.Berths[i] d
      ·have w' := w
       unfold need at w'
       rw [if_pos (by simp; omega)]
       exact .inr ⟨_, rfl, (hI.trans (el.trans (if_pos w))).symm⟩
      ·have w' := w
       unfold need at w'
       rw [if_neg (by simp; omega), w64_id (by omega) (by omega)]
       refine .inl ⟨by omega, _, rfl, by omega, ?_⟩
       exact hI.trans (el.trans (if_neg w))
     ·unfold ref06_Touch_b2 ref06_Touch_j1
      rw [if_neg (by rw [decide_eq_true_eq]; exact h1)]
      refine .inr ⟨_, rfl, ?_⟩
      rw [hI, show left s.Hi (s.Lo + (q : Int)) = 0 by unfold left; omega]; rfl
    obtain ⟨r, k1, rfl⟩ := key
    exact k1
   ·rw [if_neg c, if_pos]
    rw [Bool.or_eq_true, Bool.not_eq_true', Bool.not_eq_true']
    by_cases c1 : timedB s = true
    ·right
     simp only [ref06_in, Bool.and_eq_false_iff, decide_eq_false_iff_not]
     by_cases c2 : 0 ≤ d
     ·right; exact fun q => c ⟨c1, c2, q⟩
     ·left; exact c2
    ·left; simpa using c1
 ·rw [if_pos (by simp [e]), if_neg e]
theorem Touch_eq (h : api_Harbour) (hh : LenH h) (id d : Int) (s : api_Span) : berth_Touch h id d s = some (touchS h id d s) := by
 unfold berth_Touch touchS
 rw [CheckH_eq h hh, Option.bind_some]
 by_cases e : checkHS h = 0
 ·have hg := GoodH.of hh e
  rw [if_neg (by simp [e]), if_pos e, firstB_eq _ hh.b, Option.bind_some]
  rcases find_first (h := h) id with ⟨h1, h2⟩ | ⟨i, hi, h1, h2⟩
  ·rw [h1, h2, if_pos (by simp)]
  ·rw [h1, h2, if_neg (by simp), timed_eq]
   simp only
   by_cases c : timedB s = true ∧ 0 ≤ d ∧ d ≤ 8000
   ·obtain ⟨c1, c2, c3⟩ := c
    have ct := c1
    simp only [timedB, decide_eq_true_eq] at ct
    have hb := List.getElem_mem hi
    obtain ⟨w1, w2⟩ := windowsS_zero (s := s) hg.lw hg.c (need h h.Berths[i] d) ct.1 ct.2.1 ct.2.2.1 (by omega)
    rw [if_neg (by simp [c1, berth_within]; omega), if_pos ⟨c1, c2, c3⟩, ix_lt hi, Option.bind_some, needed_eq hg hb c2 c3, Windows_eq _ hg.lw, Option.bind_some, if_neg (by simp [w1])]
    have hlow := lowS_spec (hgt h.Water) (need h h.Berths[i] d) (left s.Hi s.Lo) s.Lo
    have hleft : s.Lo + (left s.Hi s.Lo : Nat) = s.Hi + 1 := by unfold left; omega
    generalize lowS (hgt h.Water) (need h h.Berths[i] d) (left s.Hi s.Lo) s.Lo = r at hlow
    generalize (windowsS h.Water s (need h h.Berths[i] d)).1 = l at *
    have hfirst : ∀ y r, l = y :: r → ∀ x ∈ l, x.Lo ≤ s.Lo → x = y := fun y r hl x hx hxl => by
     subst hl
     have iy := w2.ins y List.mem_cons_self
     rcases List.mem_cons.1 hx with rfl | hx
     ·rfl
     ·have := (List.pairwise_cons.1 w2.gap).1 x hx; omega
    rcases hlow with ⟨rfl, hall⟩ | ⟨u, rfl, u0, u1, u2, u3⟩
    ·obtain ⟨x, hx, x1, x2⟩ := w2.block (a := s.Lo) (Int.le_refl _) (s.Hi - s.Lo).toNat (by omega) (fun m q0 q1 => hall m q0 (by omega))
     cases l with
     | nil => cases hx
     | cons y r =>
      have ey := hfirst y r rfl x hx x1
      subst ey
      have i0 : ix (x :: r) 0 = some x := rfl
      rw [i0]
      simp only [gb, List.length_cons]
      rw [if_pos (by simp; omega), Option.bind_some, if_neg (by simp; omega), Option.bind_some, if_neg (by simp; omega)]
    ·by_cases ul : u = s.Lo
     ·subst ul
      cases l with
      | nil => simp [gb]
      | cons y r =>
       have iy := w2.ins y List.mem_cons_self
       have hy : s.Lo < y.Lo := by
        refine Int.lt_of_not_ge fun q => ?_
        have := iy.2.2.2 s.Lo q (by omega); omega
       have i0 : ix (y :: r) 0 = some y := rfl
       rw [i0]
       simp only [gb, List.length_cons]
       rw [if_pos (by simp; omega), Option.bind_some, if_pos (by simp; omega)]
     ·obtain ⟨x, hx, x1, x2⟩ := w2.block (a := s.Lo) (Int.le_refl _) (u - 1 - s.Lo).toNat (by omega) (fun m q0 q1 => u3 m q0 (by omega))
      have ix' := w2.ins x hx
      have hxu : x.Hi < u := by
       refine Int.lt_of_not_ge fun q => ?_
       have := ix'.2.2.2 u (by omega) q; omega
      cases l with
      | nil => cases hx
      | cons y r =>
       have ey := hfirst y r rfl x hx x1
       subst ey
       have i0 : ix (x :: r) 0 = some x := rfl
       rw [i0]
       simp only [gb, List.length_cons]
       rw [if_pos (by simp; omega), Option.bind_some, if_neg (by simp; omega), Option.bind_some, if_pos (by simp; omega), Option.bind_some, w64_id (by omega) (by omega), show x.Hi + 1 = u by omega]
   ·rw [if_neg c, if_pos]
    rw [Bool.or_eq_true, Bool.not_eq_true', Bool.not_eq_true']
    by_cases c1 : timedB s = true
    ·left
     simp only [berth_within, Bool.and_eq_false_iff, decide_eq_false_iff_not]
     by_cases c2 : 0 ≤ d
     ·right; exact fun q => c ⟨c1, c2, q⟩
     ·left; exact c2
    ·right; simpa using c1
 ·rw [if_pos (by simp [e]), if_neg e]
def depthS (h : api_Harbour) (id t : Int) : Int × Int :=
 if checkHS h = 0 then
  (match h.Berths.find? (fun b => decide (b.ID = id)) with
  | none => (0, 5)
  | some b => if 0 ≤ t ∧ t ≤ 1048576 then (b.Depth + hgt h.Water t, 0) else (0, 1))
 else (0, checkHS h)
theorem Depth_eq (h : api_Harbour) (hh : LenH h) (id t : Int) : berth_Depth h id t = some (depthS h id t) := by
 unfold berth_Depth depthS
 rw [CheckH_eq h hh, Option.bind_some]
 by_cases e : checkHS h = 0
 ·have hg := GoodH.of hh e
  rw [if_neg (by simp [e]), if_pos e, firstB_eq _ hh.b, Option.bind_some]
  rcases find_first (h := h) id with ⟨h1, h2⟩ | ⟨i, hi, h1, h2⟩
  ·rw [h1, h2, if_pos (by simp)]
  ·rw [h1, h2, if_neg (by simp), Height_eq _ hg.lw, Option.bind_some]
   unfold heightS
   rw [if_pos hg.c]
   by_cases c : 0 ≤ t ∧ t ≤ 1048576
   ·obtain ⟨b0, b1, b2, b3⟩ := hg.bs _ (List.getElem_mem hi)
    have := hgt_bound hg.g t
    simp only [c, and_self, if_true]
    rw [if_neg (by simp), ix_lt hi, Option.bind_some, w64_id (by omega) (by omega)]
   ·simp only [c, if_false]
    rw [if_pos (by simp)]
 ·rw [if_pos (by simp [e]), if_neg e]
theorem RDepth_eq (h : api_Harbour) (hh : LenH h) (id t : Int) : ref06_Depth h id t = some (depthS h id t) := by
 unfold ref06_Depth depthS
 rw [RCheckH_eq h hh, Option.bind_some]
 by_cases e : checkHS h = 0
 ·have hg := GoodH.of hh e
  rw [if_neg (by simp [e]), if_pos e, rberth_eq h hh.b, Option.bind_some]
  rcases find_first (h := h) id with ⟨h1, h2⟩ | ⟨i, hi, h1, h2⟩
  ·rw [h1, h2, if_pos (by simp)]
  ·rw [h1, h2, if_neg (by simp)]
   by_cases c : 0 ≤ t ∧ t ≤ 1048576
   ·simp only [c, and_self, if_true]
    rw [if_neg (by simp [ref06_in]; omega), show max (i : Int) 0 = (i : Int) by omega, depth_eq hg (ix_lt hi) (List.getElem_mem hi) c.1 c.2]; rfl
   ·simp only [c, if_false]
    rw [if_pos (by simp [ref06_in]; omega)]
 ·rw [if_pos (by simp [e]), if_neg e]
theorem holds_BerthChecks {h : api_Harbour} {l : List api_Call} {id tick draught : Int} {s : api_Span} (h0 : ok_api_Harbour h) (h1 : ok_30 l) (h2 : OkI .i64 id) (h3 : OkI .i64 tick) (h4 : OkI .i64 draught) (h5 : ok_api_Span s) : law06_BerthChecks h l id tick draught s = some true := by
 have hh := LenH.of h0
 have hl : Len l := h1.1
 obtain ⟨y, hy⟩ := small_some h hh
 unfold law06_BerthChecks
 rw [hy, Option.bind_some, sanity06]
 split
 ·rfl
 ·rw [Depth_eq h hh, Option.bind_some, RDepth_eq h hh, Option.bind_some, Touch_eq h hh, Option.bind_some, RTouch_eq h hh, Option.bind_some, Option.bind_some]
  simp only [gb, if_true]
  rw [CheckH_eq h hh, Option.bind_some, RCheckH_eq h hh, Option.bind_some]
  simp only [decide_true, Bool.and_true, if_true]
  rw [CheckCalls_eq h hh l hl, Option.bind_some, RCheckCalls_eq h hh l hl, Option.bind_some]
  simp
end Go.Mx
