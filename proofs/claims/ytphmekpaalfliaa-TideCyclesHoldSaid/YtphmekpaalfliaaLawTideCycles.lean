/- TideCycles: the plain law. Conditions: none. -/
import Derived.Test.YtphmekpaalfliaaLawC
import Derived.Test.YtphmekpaalfliaaLawTideSame
set_option linter.unusedVariables false
namespace Go.Mx
/-- The values of two cycles together, from a number on. -/
def togS (a b : api_Cycle) (g : Int) : Nat → Int → List Int → Option (List Int)
  | 0, _, l => some l
  | n + 1, k, l => if -4000 ≤ val a (a.Begin + k * g) + val b (a.Begin + k * g) ∧ val a (a.Begin + k * g) + val b (a.Begin + k * g) ≤ 4000 then togS a b g n (k + 1) (l ++ [val a (a.Begin + k * g) + val b (a.Begin + k * g)]) else none
def togO (a : api_Cycle) (g : Int) : Option (List Int) → api_Cycle × Int
  | some l => (⟨a.ID, a.Begin, g, l⟩, 0)
  | none => (⟨0, 0, 0, []⟩, 3)
theorem togS_len (a b : api_Cycle) (g : Int) : ∀ (n : Nat) (k : Int) (l r : List Int), togS a b g n k l = some r → r.length = l.length + n
  | 0, k, l, r, h => by unfold togS at h; cases h; rfl
  | n + 1, k, l, r, h => by
    unfold togS at h
    split at h
    · have := togS_len a b g n _ _ r h
      simp only [List.length_append, List.length_cons, List.length_nil] at this
      omega
    · cases h
/-- What is said of two cycles together. -/
def divS (a b : api_Cycle) : Int := gcdI (gcdI a.Every b.Every) (max (a.Begin - b.Begin) (b.Begin - a.Begin))
def allS (a b : api_Cycle) : Int := (a.Every * a.Heights.length) / gcdI (a.Every * a.Heights.length) (b.Every * b.Heights.length) * (b.Every * b.Heights.length) / divS a b
def togetherS (a b : api_Cycle) : api_Cycle × Int :=
  if goodB a = true ∧ goodB b = true then (if 60 < allS a b then (⟨0, 0, 0, []⟩, 2) else togO a (divS a b) (togS a b (divS a b) (left (allS a b - 1) 0) 0 [])) else (⟨0, 0, 0, []⟩, 1)
structure TogP (a b : api_Cycle) : Prop where
  x0 : 1 ≤ a.Every * a.Heights.length
  x1 : a.Every * a.Heights.length ≤ 7200
  y0 : 1 ≤ b.Every * b.Heights.length
  y1 : b.Every * b.Heights.length ≤ 7200
  d0 : 1 ≤ divS a b
  d1 : divS a b ≤ 120
  c0 : 1 ≤ gcdI (a.Every * a.Heights.length) (b.Every * b.Heights.length)
  q0 : 0 ≤ (a.Every * a.Heights.length) / gcdI (a.Every * a.Heights.length) (b.Every * b.Heights.length)
  q1 : (a.Every * a.Heights.length) / gcdI (a.Every * a.Heights.length) (b.Every * b.Heights.length) ≤ 7200
  r0 : 0 ≤ (a.Every * a.Heights.length) / gcdI (a.Every * a.Heights.length) (b.Every * b.Heights.length) * (b.Every * b.Heights.length)
  r1 : (a.Every * a.Heights.length) / gcdI (a.Every * a.Heights.length) (b.Every * b.Heights.length) * (b.Every * b.Heights.length) ≤ 7200 * 7200
  n0 : 0 ≤ allS a b
  n1 : allS a b ≤ 7200 * 7200
theorem tog_p {a b : api_Cycle} (ha : Good a) (hb : Good b) : TogP a b := by
  obtain ⟨a0, a1, a2, a3, a4, a5, _, _, _⟩ := ha
  obtain ⟨b0, b1, b2, b3, b4, b5, _, _, _⟩ := hb
  have x1 : a.Every * a.Heights.length ≤ 120 * 60 := Int.mul_le_mul a3 (by omega) (by omega) (by omega)
  have x0 : 1 * 1 ≤ a.Every * a.Heights.length := Int.mul_le_mul a2 (by omega) (by omega) (by omega)
  have y1 : b.Every * b.Heights.length ≤ 120 * 60 := Int.mul_le_mul b3 (by omega) (by omega) (by omega)
  have y0 : 1 * 1 ≤ b.Every * b.Heights.length := Int.mul_le_mul b2 (by omega) (by omega) (by omega)
  have g1 := gcdI_le (g := a.Every) (n := b.Every) (by omega) (by omega)
  have g2 := gcdI_le (g := gcdI a.Every b.Every) (n := max (a.Begin - b.Begin) (b.Begin - a.Begin)) g1.1 (by omega)
  have g3 := gcdI_le (g := a.Every * a.Heights.length) (n := b.Every * b.Heights.length) (by omega) (by omega)
  have h1 := g1.2 (by omega)
  have h2 := g2.2 h1.2
  have h3 := g3.2 (by omega)
  have q0 := Int.ediv_nonneg (a := a.Every * a.Heights.length) (b := gcdI (a.Every * a.Heights.length) (b.Every * b.Heights.length)) (by omega) (by omega)
  have q1 := Int.ediv_le_self (a := a.Every * a.Heights.length) (gcdI (a.Every * a.Heights.length) (b.Every * b.Heights.length)) (by omega)
  have d0 : 1 ≤ divS a b := by unfold divS; omega
  have d1 : divS a b ≤ 120 := by unfold divS; omega
  have r0 : 0 ≤ (a.Every * a.Heights.length) / gcdI (a.Every * a.Heights.length) (b.Every * b.Heights.length) * (b.Every * b.Heights.length) := Int.mul_nonneg q0 (by omega)
  have r1 : (a.Every * a.Heights.length) / gcdI (a.Every * a.Heights.length) (b.Every * b.Heights.length) * (b.Every * b.Heights.length) ≤ 7200 * 7200 := Int.mul_le_mul (by omega) (by omega) (by omega) (by omega)
  have n0 : 0 ≤ allS a b := Int.ediv_nonneg r0 (by omega)
  have n1 : allS a b ≤ 7200 * 7200 := Int.le_trans (Int.ediv_le_self _ r0) r1
  exact ⟨by omega, by omega, by omega, by omega, d0, d1, by omega, q0, by omega, r0, r1, n0, n1⟩
theorem quo_eq {x y : Int} (h : 0 ≤ x) (h2 : 1 ≤ y) (h3 : x ≤ 4611686018427387904) : quo x y = some (x / y) := by
  unfold quo
  have l := Int.ediv_nonneg (a := x) (b := y) h (by omega)
  have l2 := Int.ediv_le_self (a := x) y h
  rw [if_neg (by omega), Int.tdiv_eq_ediv_of_nonneg h, w64_id (by omega) (by omega)]
theorem Together_eq (a b : api_Cycle) (ha : Len a.Heights) (hb : Len b.Heights) : tide_Together a b = some (togetherS a b) := by
  unfold tide_Together togetherS
  rw [right_eq a ha, Option.bind_some]
  by_cases ga : goodB a = true
  · rw [ga]
    simp only [Bool.not_true, Bool.not_false, gb, if_true, right_eq b hb, Option.bind_some, Bool.false_or, true_and]
    by_cases gg : goodB b = true
    · rw [gg]
      simp only [Bool.not_true, Bool.false_eq_true, if_false, if_true]
      have GA := goodB_Good ha ga
      have GB := goodB_Good hb gg
      have P := tog_p GA GB
      have p := P
      obtain ⟨x0, x1, y0, y1, d0, d1, c0, q0, q1, r0, r1, n0, n1⟩ := p
      have a0 := GA.b0; have a1 := GA.b1; have a2 := GA.e0; have a3 := GA.e1; have b0 := GB.b0; have b1 := GB.b1; have b2 := GB.e0; have b3 := GB.e1
      rw [w64_id (n := a.Begin - b.Begin) (by omega) (by omega), w64_id (n := b.Begin - a.Begin) (by omega) (by omega), w64_id (n := a.Every * a.Heights.length) (by omega) (by omega), w64_id (n := b.Every * b.Heights.length) (by omega) (by omega)]
      rw [gcd_eq _ (by unfold Len; simp) (by intro x hx; simp only [List.mem_cons, List.not_mem_nil, or_false] at hx; rcases hx with rfl | rfl | rfl <;> omega), gcd_eq _ (by unfold Len; simp) (by intro x hx; simp only [List.mem_cons, List.not_mem_nil, or_false] at hx; rcases hx with rfl | rfl <;> omega)]
      simp only [gcdL, Option.bind_some]
      rw [zero_gcd (show 0 ≤ a.Every by omega), zero_gcd (show 0 ≤ a.Every * a.Heights.length by omega), quo_eq (by omega) c0 (by omega), Option.bind_some, w64_id (by omega) (by omega)]
      rw [show gcdI (gcdI a.Every b.Every) (max (a.Begin - b.Begin) (b.Begin - a.Begin)) = divS a b from rfl, quo_eq r0 d0 (by omega), Option.bind_some]
      rw [show (a.Every * a.Heights.length) / gcdI (a.Every * a.Heights.length) (b.Every * b.Heights.length) * (b.Every * b.Heights.length) / divS a b = allS a b from rfl]
      by_cases hn : 60 < allS a b
      · rw [if_pos (by simpa using hn), if_pos hn]
      · rw [if_neg (by simpa using hn), if_neg hn]
        refine lp_spanE (lo := 0) (hi := allS a b - 1) (by omega) (by omega) (fun (l : List Int) k => (k, l)) (fun l k => togO a (divS a b) (togS a b (divS a b) (left (allS a b - 1) k) k l)) (fun k l => l.length = k.toNat) (a := []) rfl rfl (fun l k hk0 hk1 hJ => ?_) (fun l hJ => ?_)
        · unfold tide_Together_b2
          simp only
          have m0 : 0 ≤ k * divS a b := Int.mul_nonneg hk0 (by omega)
          have m1 : k * divS a b ≤ 60 * 120 := Int.mul_le_mul (by omega) d1 (by omega) (by omega)
          rw [if_pos (by simp; omega), w64_id (n := k * divS a b) (by omega) (by omega), w64_id (n := a.Begin + k * divS a b) (by omega) (by omega), value_eq GA (by omega) (by omega), value_eq GB (by omega) (by omega), left_succ hk1]
          have v0 := val_bound GA (a.Begin + k * divS a b)
          have v1 := val_bound GB (a.Begin + k * divS a b)
          simp only [Option.bind_some, togS]
          rw [w64_id (n := val a (a.Begin + k * divS a b) + val b (a.Begin + k * divS a b)) (by omega) (by omega)]
          by_cases hv : -4000 ≤ val a (a.Begin + k * divS a b) + val b (a.Begin + k * divS a b) ∧ val a (a.Begin + k * divS a b) + val b (a.Begin + k * divS a b) ≤ 4000
          · left
            rw [if_neg (by simp [tide_level, tide_within, hv]), if_pos hv, app_one (by omega), Option.bind_some, w64_id (by omega) (by omega)]
            exact ⟨_, rfl, rfl, by simp; omega⟩
          · right
            rw [if_pos (by simp [tide_level, tide_within]; omega), if_neg hv]
            rfl
        · unfold tide_Together_b2
          simp only
          rw [if_neg (by simp), left_end]
          rfl
    · rw [Bool.not_eq_true] at gg
      rw [gg]; rfl
  · rw [Bool.not_eq_true] at ga
    rw [ga]; rfl
theorem RTogether_eq (a b : api_Cycle) (ha : Len a.Heights) (hb : Len b.Heights) : ref02_Together a b = some ⟨(togetherS a b).1, (togetherS a b).2⟩ := by
  unfold ref02_Together togetherS
  rw [Right_eq a ha, Right_eq b hb, Option.bind_some, Option.bind_some]
  by_cases ga : goodB a = true
  · rw [ga]
    by_cases gg : goodB b = true
    · rw [gg]
      simp only [Bool.not_true, Bool.or_self, Bool.false_eq_true, if_false, and_self, if_true]
      have GA := goodB_Good ha ga
      have GB := goodB_Good hb gg
      have P := tog_p GA GB
      have p := P
      obtain ⟨x0, x1, y0, y1, d0, d1, c0, q0, q1, r0, r1, n0, n1⟩ := p
      have a0 := GA.b0; have a1 := GA.b1; have a2 := GA.e0; have a3 := GA.e1; have b0 := GB.b0; have b1 := GB.b1; have b2 := GB.e0; have b3 := GB.e1
      have g1 := gcdI_le (g := a.Every) (n := b.Every) (by omega) (by omega)
      rw [w64_id (n := a.Begin - b.Begin) (by omega) (by omega), w64_id (n := b.Begin - a.Begin) (by omega) (by omega), w64_id (n := a.Every * a.Heights.length) (by omega) (by omega), w64_id (n := b.Every * b.Heights.length) (by omega) (by omega)]
      rw [common_eq (by omega) (by omega) (by omega), Option.bind_some, common_eq g1.1 (by omega) (by omega), Option.bind_some, common_eq (by omega) (by omega) (by omega), Option.bind_some, quo_eq (by omega) c0 (by omega), Option.bind_some]
      rw [show gcdI (gcdI a.Every b.Every) (max (a.Begin - b.Begin) (b.Begin - a.Begin)) = divS a b from rfl, w64_id (by omega) (by omega), quo_eq r0 d0 (by omega), Option.bind_some]
      rw [show (a.Every * a.Heights.length) / gcdI (a.Every * a.Heights.length) (b.Every * b.Heights.length) * (b.Every * b.Heights.length) / divS a b = allS a b from rfl]
      by_cases hn : 60 < allS a b
      · rw [if_pos (by simpa using hn), if_pos hn]
      · rw [if_neg (by simpa using hn), if_neg hn]
        have hq : ∀ k l, ref02_Together_b2 a b (divS a b) ((a.Every * a.Heights.length) / gcdI (a.Every * a.Heights.length) (b.Every * b.Heights.length)) (k, l) = (if decide (k < allS a b) = true then
            Option.bind (ref02_Of a (w64 (a.Begin + (w64 (k * divS a b))))) fun y5 =>
            Option.bind (ref02_Of b (w64 (a.Begin + (w64 (k * divS a b))))) fun y6 =>
            if !(ref02_within (w64 (y5 + y6)) (-4000) 4000) then
              some (.inr (⟨(⟨0, 0, 0, []⟩ : api_Cycle), 3⟩ : ref02_Cycled))
            else
              Option.bind (app l ([w64 (y5 + y6)])) fun l1 =>
              some (.inl (w64 (k + 1), l1))
          else ((ref02_Together_j1 a (divS a b) l).map Sum.inr)) := by
          intro k l
          unfold ref02_Together_b2
          simp only
          rw [w64_id (n := b.Every * b.Heights.length) (by omega) (by omega), w64_id (n := (a.Every * a.Heights.length) / gcdI (a.Every * a.Heights.length) (b.Every * b.Heights.length) * (b.Every * b.Heights.length)) (by omega) (by omega), quo_eq r0 d0 (by omega), Option.bind_some]
          rfl
        refine lp_spanE (lo := 0) (hi := allS a b - 1) (by omega) (by omega) (fun (l : List Int) k => (k, l)) (fun l k => (⟨(togO a (divS a b) (togS a b (divS a b) (left (allS a b - 1) k) k l)).1, (togO a (divS a b) (togS a b (divS a b) (left (allS a b - 1) k) k l)).2⟩ : ref02_Cycled)) (fun k l => l.length = k.toNat) (a := []) rfl rfl (fun l k hk0 hk1 hJ => ?_) (fun l hJ => ?_)
        · rw [hq]
          have m0 : 0 ≤ k * divS a b := Int.mul_nonneg hk0 (by omega)
          have m1 : k * divS a b ≤ 60 * 120 := Int.mul_le_mul (by omega) d1 (by omega) (by omega)
          rw [if_pos (by simp; omega), w64_id (n := k * divS a b) (by omega) (by omega), w64_id (n := a.Begin + k * divS a b) (by omega) (by omega), Of_eq GA (by omega) (by omega), Of_eq GB (by omega) (by omega), left_succ hk1]
          have v0 := val_bound GA (a.Begin + k * divS a b)
          have v1 := val_bound GB (a.Begin + k * divS a b)
          simp only [Option.bind_some, togS]
          rw [w64_id (n := val a (a.Begin + k * divS a b) + val b (a.Begin + k * divS a b)) (by omega) (by omega)]
          by_cases hv : -4000 ≤ val a (a.Begin + k * divS a b) + val b (a.Begin + k * divS a b) ∧ val a (a.Begin + k * divS a b) + val b (a.Begin + k * divS a b) ≤ 4000
          · left
            rw [if_neg (by simp [ref02_within, hv]), if_pos hv, app_one (by omega), Option.bind_some, w64_id (by omega) (by omega)]
            exact ⟨_, rfl, rfl, by simp; omega⟩
          · right
            rw [if_pos (by simp [ref02_within]; omega), if_neg hv]
            rfl
        · rw [hq, if_neg (by simp), left_end]
          rfl
    · rw [Bool.not_eq_true] at gg
      rw [gg]; rfl
  · rw [Bool.not_eq_true] at ga
    rw [ga]; simp

theorem Equal_eq (s1 s2 : List Int) (h1 : Len s1) : slices_Equal_int s1 s2 = some (decide (s1 = s2)) := by
  unfold slices_Equal_int
  by_cases h : s1.length = s2.length
  · rw [if_neg (by simp [h])]
    refine lp_list s1 h1 (fun (_ : List Int) i => i) (fun a l => decide (l = a)) (fun i a => a = s2.drop i) (a := s2) rfl (by simp) (fun a i hi hJ => ?_) (fun a hJ => ?_)
    · subst hJ
      unfold slices_Equal_int_b2
      have hi2 : i < s2.length := by omega
      rw [if_pos (by simpa using hi), ix_lt hi, ix_lt hi2, List.drop_eq_getElem_cons hi2]
      simp only [Option.bind_some]
      by_cases e : s1[i] = s2[i]
      · left
        rw [if_neg (by simp [e]), w64s' hi h1]
        exact ⟨_, rfl, by simp only [List.cons.injEq, e, true_and], rfl⟩
      · right
        rw [if_pos (by simp [e]), decide_eq_false (fun h => e (List.cons.inj h).1)]
    · subst hJ
      unfold slices_Equal_int_b2
      rw [if_neg (by simp), h, List.drop_length]
      rfl
  · rw [if_pos (by simp; omega)]
    have : ¬ s1 = s2 := fun e => h (by rw [e])
    simp [this]
/-- Whether a list repeats its first elements. -/
def repB (h : List Int) (k : Int) : Bool := decide ((h.length : Int) % k = 0) && decide (h.drop k.toNat = h.take (h.length - k.toNat))
def shortK (h : List Int) : Nat → Int → Int
  | 0, k => k
  | m + 1, k => if repB h k = true then k else shortK h m (k + 1)
def shortR (c : api_Cycle) (k : Int) : api_Cycle × Int := (⟨c.ID, c.Begin, c.Every, c.Heights.take k.toNat⟩, 0)
def shortestS (c : api_Cycle) : api_Cycle × Int := if goodB c = true then shortR c (shortK c.Heights (left (c.Heights.length - 1) 1) 1) else (⟨0, 0, 0, []⟩, 1)
theorem app_nil {α : Type} {l : List α} (h : l.length ≤ 1000000) : app [] l = some l := by unfold app; rw [if_pos (by simp; omega)]; simp
theorem short_j1 {c : api_Cycle} (g : Good c) {k : Int} (h0 : 0 ≤ k) (h1 : k ≤ c.Heights.length) : tide_Shortest_j1 c k = some (shortR c k) := by
  unfold tide_Shortest_j1 slices_Clone_int
  have l1 := g.l1
  have e : sub c.Heights 0 k = some (c.Heights.take k.toNat) := by
    unfold sub
    rw [if_pos ⟨by omega, h0, h1⟩]
    simp
  rw [e, Option.bind_some, app_nil (by simp; omega)]
  rfl
theorem Shortest_eq (c : api_Cycle) (hl : Len c.Heights) : tide_Shortest c = some (shortestS c) := by
  unfold tide_Shortest shortestS
  rw [right_eq c hl, Option.bind_some]
  by_cases hg : goodB c = true
  · rw [if_pos hg, if_neg (by simp [hg])]
    have g := goodB_Good hl hg
    have l0 := g.l0
    have l1 := g.l1
    refine lp_spanE (lo := 1) (hi := c.Heights.length - 1) (by omega) (by omega) (fun (_ : Unit) k => k) (fun _ k => shortR c (shortK c.Heights (left (c.Heights.length - 1) k) k)) (fun _ _ => True) (a := ()) rfl trivial (fun _ k hk0 hk1 _ => ?_) (fun _ _ => ?_)
    · unfold tide_Shortest_b2
      have e1 : rem (c.Heights.length : Int) k = some ((c.Heights.length : Int) % k) := by
        unfold rem; rw [if_neg (by omega), Int.tmod_eq_emod_of_nonneg (by omega)]
      have e2 : sub c.Heights k (c.Heights.length : Int) = some (c.Heights.drop k.toNat) := by
        unfold sub
        rw [if_pos ⟨by omega, by omega, by omega⟩]
        simp
      have e3 : sub c.Heights 0 ((c.Heights.length : Int) - k) = some (c.Heights.take (c.Heights.length - k.toNat)) := by
        unfold sub
        rw [if_pos ⟨by omega, by omega, by omega⟩]
        simp only [Int.toNat_zero, List.drop_zero]
        congr 2
        omega
      rw [if_pos (by simp; omega), e1, Option.bind_some, e2, w64_id (n := (c.Heights.length : Int) - k) (by omega) (by omega), e3, left_succ hk1]
      simp only [shortK]
      by_cases hq : (c.Heights.length : Int) % k = 0
      · simp only [hq, decide_true, gb, if_true, Option.bind_some, Bool.true_and]
        rw [Equal_eq _ _ (by unfold Len at *; simp; omega)]
        simp only [Option.bind_some]
        have er : repB c.Heights k = decide (c.Heights.drop k.toNat = c.Heights.take (c.Heights.length - k.toNat)) := by unfold repB; rw [decide_eq_true hq, Bool.true_and]
        rw [er]
        by_cases hd : c.Heights.drop k.toNat = c.Heights.take (c.Heights.length - k.toNat)
        · right
          rw [if_pos (decide_eq_true hd), if_pos (decide_eq_true hd), short_j1 g (by omega) (by omega)]
          rfl
        · left
          rw [if_neg (by simpa using hd), if_neg (by simpa using hd), w64_id (by omega) (by omega)]
          exact ⟨(), rfl, rfl, trivial⟩
      · have er : repB c.Heights k = false := by unfold repB; rw [decide_eq_false hq, Bool.false_and]
        left
        rw [er]
        simp only [decide_eq_false hq, gb, Bool.false_eq_true, if_false, Option.bind_some, Bool.false_and]
        rw [w64_id (by omega) (by omega)]
        exact ⟨(), rfl, trivial, trivial⟩
    · unfold tide_Shortest_b2
      rw [if_neg (by simp), left_end]
      rw [show (c.Heights.length : Int) - 1 + 1 = c.Heights.length by omega, short_j1 g (by omega) (by omega)]
      rfl
  · rw [if_neg hg, if_pos (by simp [hg])]
theorem RShortest_eq (c : api_Cycle) (hl : Len c.Heights) : ref02_Shortest c = some ⟨(shortestS c).1, (shortestS c).2⟩ := by
  unfold ref02_Shortest shortestS
  rw [Right_eq c hl, Option.bind_some]
  by_cases hg : goodB c = true
  · rw [if_pos hg, if_neg (by simp [hg])]
    have g := goodB_Good hl hg
    have l0 := g.l0
    have l1 := g.l1
    refine lp_spanE (lo := 1) (hi := c.Heights.length - 1) (by omega) (by omega) (fun (_ : Unit) k => k) (fun _ k => (⟨(shortR c (shortK c.Heights (left (c.Heights.length - 1) k) k)).1, 0⟩ : ref02_Cycled)) (fun _ _ => True) (a := ()) rfl trivial (fun _ k hk0 hk1 _ => ?_) (fun _ _ => ?_)
    · unfold ref02_Shortest_b2
      have e1 : rem (c.Heights.length : Int) k = some ((c.Heights.length : Int) % k) := by
        unfold rem; rw [if_neg (by omega), Int.tmod_eq_emod_of_nonneg (by omega)]
      obtain ⟨p, rfl⟩ : ∃ p : Nat, k = p := ⟨k.toNat, by omega⟩
      have hp : p ≤ c.Heights.length := by omega
      have hj3 : ∀ z, ref02_Shortest_j3 c (p : Int) z = some (if z = true then Sum.inr (⟨(shortR c p).1, 0⟩ : ref02_Cycled) else Sum.inl ((p : Int) + 1)) := by
        intro z
        unfold ref02_Shortest_j3
        cases z with
        | true =>
          rw [sub_pre hp]
          simp only [if_true, Option.bind_some]
          rw [app_nil (by simp; omega)]
          rfl
        | false =>
          rw [w64_id (by omega) (by omega)]
          rfl
      have hin : Lp (ref02_Shortest_b4 c p) fuel (decide ((c.Heights.length : Int) % p = 0), 0) = some (if repB c.Heights p = true then Sum.inr (⟨(shortR c p).1, 0⟩ : ref02_Cycled) else Sum.inl ((p : Int) + 1)) := by
        refine lp_list (c.Heights.drop p) (by simp; omega) (fun (a : Bool × List Int) i => (a.1, i)) (fun a l => if (a.1 && decide (l = a.2)) = true then Sum.inr (⟨(shortR c p).1, 0⟩ : ref02_Cycled) else Sum.inl ((p : Int) + 1)) (fun i a => a.2 = (c.Heights.take (c.Heights.length - p)).drop i) (a := (decide ((c.Heights.length : Int) % p = 0), c.Heights.take (c.Heights.length - p))) rfl (by simp) (fun a i hi hJ => ?_) (fun a hJ => ?_)
        · left
          obtain ⟨z, a⟩ := a
          simp only at hJ
          subst hJ
          simp only [List.length_drop] at hi
          unfold ref02_Shortest_b4
          simp only
          have hi1 : i < c.Heights.length := by omega
          have hi2 : i + p < c.Heights.length := by omega
          rw [w64_id (n := (i : Int) + p) (by omega) (by omega), if_pos (by simp; omega), show (i : Int) + p = ((i + p : Nat) : Int) by omega, ix_lt hi1, ix_lt hi2, w64_id (n := (i : Int) + 1) (by omega) (by omega)]
          have ht : i < (c.Heights.take (c.Heights.length - p)).length := by simp; omega
          rw [List.drop_eq_getElem_cons ht]
          have hx : (c.Heights.drop p)[i]'(by simp; omega) = c.Heights[i + p] := by
            rw [List.getElem_drop]; congr 1; omega
          rw [hx, List.getElem_take]
          refine ⟨(z && decide (c.Heights[i] = c.Heights[i + p]), (c.Heights.take (c.Heights.length - p)).drop (i + 1)), ?_, ?_, rfl⟩
          · cases z <;> rfl
          · by_cases e : c.Heights[i] = c.Heights[i + p]
            · simp only [e, decide_true, Bool.and_true, List.cons.injEq, true_and]
            · have e' : ¬ c.Heights[i + p] = c.Heights[i] := fun h => e h.symm
              simp only [e, e', decide_false, Bool.and_false, List.cons.injEq, false_and, Bool.false_and]
        · obtain ⟨z, a⟩ := a
          simp only at hJ
          unfold ref02_Shortest_b4
          simp only [List.length_drop] at hJ ⊢
          rw [w64_id (by omega) (by omega), if_neg (by simp; omega), hj3]
          rw [List.drop_eq_nil_of_le (by simp)] at hJ
          subst hJ
          simp
      rw [if_pos (by simp; omega), e1, Option.bind_some, hin, left_succ hk1]
      simp only [shortK]
      by_cases hr : repB c.Heights p = true
      · right; rw [if_pos hr, if_pos hr]
      · left; rw [if_neg hr, if_neg hr]; exact ⟨(), rfl, rfl, trivial⟩
    · unfold ref02_Shortest_b2
      rw [if_neg (by simp), left_end]
      unfold ref02_Shortest_j1
      rw [app_nil (by omega)]
      simp only [shortK, shortR, Option.bind_some]
      rw [show ((c.Heights.length : Int) - 1 + 1).toNat = c.Heights.length by omega, List.take_length]
      rfl
  · rw [if_neg hg, if_pos (by simp [hg])]

/-- The least of some numbers. -/
def minL : Int → List Int → Int
  | m, [] => m
  | m, x :: r => minL (min m x) r
theorem minL_le : ∀ (l : List Int) (m : Int), minL m l ≤ m ∧ ∀ x ∈ l, minL m l ≤ x
  | [], m => ⟨Int.le_refl _, by simp⟩
  | y :: r, m => by
    unfold minL
    obtain ⟨h1, h2⟩ := minL_le r (min m y)
    refine ⟨by omega, fun x hx => ?_⟩
    rcases List.mem_cons.1 hx with rfl | hx
    · omega
    · exact h2 x hx
theorem minL_ge : ∀ (l : List Int) (m b : Int), b ≤ m → (∀ x ∈ l, b ≤ x) → b ≤ minL m l
  | [], m, b, h, _ => h
  | y :: r, m, b, h, h2 => minL_ge r _ b (by have := h2 y List.mem_cons_self; omega) fun x hx => h2 x (List.mem_cons_of_mem _ hx)
theorem least_eq (m : Int) (l : List Int) (hl : Len l) : tide_least m l = some (minL m l) := by
  unfold tide_least
  refine lp_list l hl (fun (m : Int) i => (m, i)) minL (fun _ _ => True) rfl trivial (fun a i hi _ => ?_) (fun a _ => ?_)
  · left
    unfold tide_least_b2
    simp only
    rw [if_pos (by simpa using hi), ix_lt hi, Option.bind_some, w64s' hi hl]
    exact ⟨_, rfl, rfl, trivial⟩
  · unfold tide_least_b2
    simp only
    rw [if_neg (by simp)]; rfl
/-- What is said behind some heights without their least. -/
def apF (c : api_Cycle) (m : Int) : List Int → List Int → Int × api_Cycle × Int
  | acc, [] => (m, ⟨c.ID, c.Begin, c.Every, acc⟩, 0)
  | acc, x :: r => if x - m ≤ 4000 then apF c m (acc ++ [x - m]) r else (0, ⟨0, 0, 0, []⟩, 3)
def leastS (c : api_Cycle) : Int := minL (c.Heights.getD 0 0) c.Heights
def apartS (c : api_Cycle) : Int × api_Cycle × Int := if goodB c = true then apF c (leastS c) [] c.Heights else (0, ⟨0, 0, 0, []⟩, 1)
theorem least_b {c : api_Cycle} (g : Good c) : -4000 ≤ leastS c ∧ ∀ x ∈ c.Heights, leastS c ≤ x := by
  have h0 : c.Heights.getD 0 0 = c.Heights[0]'(by have := g.l0; omega) := by rw [List.getD_eq_getElem?_getD, List.getElem?_eq_getElem (by have := g.l0; omega)]; rfl
  refine ⟨minL_ge _ _ _ ?_ fun x hx => (g.hs x hx).1, (minL_le _ _).2⟩
  rw [h0]
  exact (g.hs _ (List.getElem_mem _)).1
theorem Apart_eq (c : api_Cycle) (hl : Len c.Heights) : tide_Apart c = some (apartS c) := by
  unfold tide_Apart apartS
  rw [right_eq c hl, Option.bind_some]
  by_cases hg : goodB c = true
  · rw [if_pos hg, if_neg (by simp [hg])]
    have g := goodB_Good hl hg
    have l0 := g.l0
    have l1 := g.l1
    obtain ⟨m0, m1⟩ := least_b g
    have e0 : ix c.Heights 0 = some (c.Heights.getD 0 0) := by
      rw [List.getD_eq_getElem?_getD, List.getElem?_eq_getElem (by omega)]
      exact ix_lt (i := 0) (by omega)
    rw [e0, Option.bind_some, least_eq _ _ hl, Option.bind_some, app_nil (by omega), Option.bind_some]
    rw [show minL (c.Heights.getD 0 0) c.Heights = leastS c from rfl]
    refine lp_list c.Heights hl (fun (acc : List Int) i => (i, acc ++ c.Heights.drop i.toNat)) (apF c (leastS c)) (fun i acc => acc.length = i) (a := []) (by simp) rfl (fun acc i hi hJ => ?_) (fun acc hJ => ?_)
    · unfold tide_Apart_b2
      simp only [Int.toNat_natCast]
      have hx := g.hs _ (List.getElem_mem hi)
      have hm := m1 _ (List.getElem_mem hi)
      have e1 : ix (acc ++ c.Heights.drop i) (i : Int) = some c.Heights[i] := by
        rw [List.drop_eq_getElem_cons hi]
        unfold ix
        rw [if_pos (by omega), Int.toNat_natCast, List.getElem?_append_right (by omega), hJ, Nat.sub_self]
        rfl
      have e2 : put (acc ++ c.Heights.drop i) (i : Int) (c.Heights[i] - leastS c) = (acc ++ [c.Heights[i] - leastS c]) ++ c.Heights.drop (i + 1) := by
        rw [List.drop_eq_getElem_cons hi]
        unfold put
        rw [Int.toNat_natCast, List.set_append_right _ _ (by omega), hJ, Nat.sub_self, List.set_cons_zero, List.append_assoc]
        rfl
      have e3 : ix ((acc ++ [c.Heights[i] - leastS c]) ++ c.Heights.drop (i + 1)) (i : Int) = some (c.Heights[i] - leastS c) := by
        unfold ix
        rw [if_pos (by omega), Int.toNat_natCast, List.append_assoc, List.getElem?_append_right (by omega), hJ, Nat.sub_self]
        rfl
      rw [if_pos (by simpa using hi), e1]
      simp only [Option.bind_some]
      rw [w64_id (n := c.Heights[i] - leastS c) (by omega) (by omega), e2, e3]
      simp only [Option.bind_some, apF]
      by_cases hv : c.Heights[i] - leastS c ≤ 4000
      · left
        rw [if_neg (by simp [tide_level, tide_within]; omega), if_pos hv, w64s' hi hl]
        exact ⟨acc ++ [c.Heights[i] - leastS c], rfl, rfl, by simp [hJ]⟩
      · right
        rw [if_pos (by simp [tide_level, tide_within]; omega), if_neg hv]
    · unfold tide_Apart_b2
      simp only [Int.toNat_natCast]
      rw [if_neg (by simp), List.drop_length, List.append_nil]
      rfl
  · rw [if_neg hg, if_pos (by simp [hg])]
theorem RApart_eq (c : api_Cycle) (hl : Len c.Heights) : ref02_Apart c = some (apartS c) := by
  unfold ref02_Apart apartS
  rw [Right_eq c hl, Option.bind_some]
  by_cases hg : goodB c = true
  · rw [if_pos hg, if_neg (by simp [hg])]
    have g := goodB_Good hl hg
    have l0 := g.l0
    have l1 := g.l1
    obtain ⟨m0, m1⟩ := least_b g
    have e0 : ix c.Heights 0 = some (c.Heights.getD 0 0) := by
      rw [List.getD_eq_getElem?_getD, List.getElem?_eq_getElem (by omega)]
      exact ix_lt (i := 0) (by omega)
    have hj1 : ref02_Apart_j1 c (leastS c) = some (apF c (leastS c) [] c.Heights) := by
      unfold ref02_Apart_j1
      refine lp_list c.Heights hl (fun (acc : List Int) i => (i, acc)) (apF c (leastS c)) (fun i acc => acc.length = i) (a := []) rfl rfl (fun acc i hi hJ => ?_) (fun acc hJ => ?_)
      · unfold ref02_Apart_b3
        simp only
        have hx := g.hs _ (List.getElem_mem hi)
        have hm := m1 _ (List.getElem_mem hi)
        rw [if_pos (by simpa using hi), ix_lt hi]
        simp only [Option.bind_some, apF]
        rw [w64_id (n := c.Heights[i] - leastS c) (by omega) (by omega)]
        by_cases hv : c.Heights[i] - leastS c ≤ 4000
        · left
          rw [if_neg (by simp; omega), if_pos hv, app_one (by omega), Option.bind_some, w64s' hi hl]
          exact ⟨_, rfl, rfl, by simp [hJ]⟩
        · right
          rw [if_pos (by simp; omega), if_neg hv]
      · unfold ref02_Apart_b3
        simp only
        rw [if_neg (by simp)]
        rfl
    rw [e0, Option.bind_some]
    suffices h : ∃ r, Lp (ref02_Apart_b4 c) fuel (c.Heights.getD 0 0, 0) = some r ∧ r = apF c (leastS c) [] c.Heights by obtain ⟨r, h, rfl⟩ := h; exact h
    refine lp_inv' (fun (i : Nat) (s : Int × Int) => s.2 = (i : Int) ∧ leastS c = minL s.1 (c.Heights.drop i)) _ c.Heights.length (by omega) ⟨rfl, by simp [leastS]⟩ fun i s hi hI => ?_
    obtain ⟨m, i'⟩ := s
    simp only at hI
    obtain ⟨rfl, hI⟩ := hI
    unfold ref02_Apart_b4
    simp only
    by_cases h : i < c.Heights.length
    · left
      rw [if_pos (by simpa using h), ix_lt h, Option.bind_some, w64s' h hl]
      refine ⟨h, _, rfl, rfl, ?_⟩
      rw [hI, List.drop_eq_getElem_cons h]
      rfl
    · right
      rw [List.drop_eq_nil_of_le (by omega)] at hI
      simp only [minL] at hI
      rw [if_neg (by simpa using h), ← hI, hj1]
      exact ⟨_, rfl, rfl⟩
  · rw [if_neg hg, if_pos (by simp [hg])]
theorem apF_len (c : api_Cycle) (m : Int) : ∀ (l acc : List Int), (apF c m acc l).2.1.Heights.length ≤ acc.length + l.length
  | [], acc => by simp [apF]
  | x :: r, acc => by
    unfold apF
    split
    · have := apF_len c m r (acc ++ [x - m])
      simp only [List.length_append, List.length_cons, List.length_nil] at this ⊢
      omega
    · simp
theorem holds_TideCycles {a b : api_Cycle} (h0 : ok_api_Cycle a) (h1 : ok_api_Cycle b) : law02_TideCycles a b = some true := by
  have ha : Len a.Heights := h0.2.2.2.1.1
  have hb : Len b.Heights := h1.2.2.2.1.1
  unfold law02_TideCycles
  split
  · rw [sanity_true]; rfl
  · rename_i hc
    simp only [Bool.or_eq_true, decide_eq_true_eq, not_or] at hc
    rw [Shortest_eq a ha, RShortest_eq a ha, Together_eq a b ha hb, RTogether_eq a b ha hb, Apart_eq a ha, RApart_eq a ha, sanity_true]
    simp only [Option.bind_some]
    have t1 : Len (shortestS a).1.Heights := by
      unfold shortestS Len
      split
      · simp only [shortR, List.length_take]; omega
      · simp
    have t2 : Len (togetherS a b).1.Heights := by
      unfold togetherS Len
      split
      · rename_i hg
        have P := tog_p (goodB_Good ha hg.1) (goodB_Good hb hg.2)
        split
        · simp
        · cases ht : togS a b (divS a b) (left (allS a b - 1) 0) 0 [] with
          | none => simp [togO]
          | some l =>
            have := togS_len a b _ _ _ _ _ ht
            have n0 := P.n0
            simp only [List.length_nil] at this
            unfold left at this
            simp only [togO]
            omega
      · simp
    have t3 : Len (apartS a).2.1.Heights := by
      unfold apartS Len
      split
      · have := apF_len a (leastS a) a.Heights []
        simp only [List.length_nil] at this
        omega
      · simp
    rw [SameCycle_self _ t1, SameCycle_self _ t2, SameCycle_self _ t3]
    simp [gb]
end Go.Mx
