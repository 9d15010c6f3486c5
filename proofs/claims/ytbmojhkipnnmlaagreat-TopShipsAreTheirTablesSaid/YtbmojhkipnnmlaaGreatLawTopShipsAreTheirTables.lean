/- TopShipsAreTheirTables: the plain law. Conditions: none. -/
import Derived.Test.YtbmojhkipnnmlaaGreatLawTb
import Derived.Test.YtbmojhkipnnmlaaGreatLawTopSan
set_option linter.unusedVariables false
set_option linter.unusedSimpArgs false
namespace Go.Mx
theorem sign {z w P Q : Int} (hP : 1 ≤ P) (hQ : 1 ≤ Q) (e : z * P = w * Q) : (w ≤ 0 → z ≤ 0) ∧ (0 ≤ w → 0 ≤ z) ∧ (w < 0 → z < 0) ∧ (0 < w → 0 < z) := by
 have up : ∀ {a b : Int}, 1 ≤ b → 1 ≤ a → b ≤ a * b := fun {a b} hb ha => by
  have := Int.mul_le_mul_of_nonneg_right ha (show 0 ≤ b by omega)
  omega
 have dn : ∀ {a b : Int}, 1 ≤ b → a ≤ -1 → a * b ≤ -b := fun {a b} hb ha => by
  have := Int.mul_le_mul_of_nonneg_right ha (show 0 ≤ b by omega)
  omega
 have np : ∀ {a b : Int}, 1 ≤ b → a ≤ 0 → a * b ≤ 0 := fun {a b} hb ha => by
  have := Int.mul_le_mul_of_nonneg_right ha (show 0 ≤ b by omega)
  omega
 have nn : ∀ {a b : Int}, 1 ≤ b → 0 ≤ a → 0 ≤ a * b := fun {a b} hb ha => Int.mul_nonneg ha (by omega)
 refine ⟨fun h => ?_, fun h => ?_, fun h => ?_, fun h => ?_⟩
 ·rcases Int.lt_or_le 0 z with q | q
  ·have := up hP (show 1 ≤ z by omega); have := np hQ h; omega
  ·exact q
 ·rcases Int.lt_or_le z 0 with q | q
  ·have := dn hP (show z ≤ -1 by omega); have := nn hQ h; omega
  ·exact q
 ·rcases Int.lt_or_le z 0 with q | q
  ·exact q
  ·have := nn hP q; have := dn hQ (show w ≤ -1 by omega); omega
 ·rcases Int.lt_or_le 0 z with q | q
  ·exact q
  ·have := np hP q; have := up hQ (show 1 ≤ w by omega); omega
theorem fl_bd {a b : Int} (hb : 1 ≤ b) : a / b * b ≤ a ∧ a < (a / b + 1) * b := by
 have h1 := Int.emod_add_mul_ediv a b
 have h2 := Int.emod_nonneg a (show b ≠ 0 by omega)
 have h3 := Int.emod_lt_of_pos a (show 0 < b by omega)
 rw [Int.add_mul, Int.mul_comm (a / b) b]
 omega
theorem up_bd {a b : Int} (hb : 1 ≤ b) : a ≤ up a b * b ∧ (up a b - 1) * b < a := by
 obtain ⟨h1, h2⟩ := fl_bd (a := -a) hb
 unfold up
 rw [Int.sub_mul, Int.neg_mul]
 rw [Int.add_mul] at h2
 omega
theorem OnC.low {c : api_Curve} {m n d : Int} {f : api_Frac} (o : OnC c m n d) (hl : IsLow n d f) : OnC c m f.Num f.Den := by
 obtain ⟨g, g1, e1, e2⟩ := hl.ex
 rcases o with ⟨h1, e⟩ | ⟨k, p, e⟩
 ·refine .inl ⟨h1, Int.eq_of_mul_eq_mul_left (show g ≠ 0 by omega) ?_⟩
  rw [← e1, e, e2]; ac_rfl
 ·refine .inr ⟨k, p, Int.eq_of_mul_eq_mul_left (show g ≠ 0 by omega) ?_⟩
  rw [← Int.mul_assoc, ← e1, e, e2, Int.mul_assoc]
theorem rounds_ok {s : api_Ship} (hs : GoodS s) {x : List Int} (hr : Rms s x) {v : api_Frac} {q : Int} (hq : q * 40 = s.Light + x.sum) (hv : ValAt s.Mean q v) : top_rounds (afloatV s x) ⟨curve_plus v (w64 (0 - s.Mean.Err)), curve_plus v s.Mean.Err⟩ = true := by
 have hM := hr.Mass hs
 have hc := hs.cmean
 obtain ⟨m1, m2, m3, m4, m5⟩ := mean_bd hs hM
 have ht := trim_bd hs hr
 have he := hc.err
 have hT := hs.turn
 obtain ⟨_, p2, p3, p4, p5, _⟩ := at_spec hc hM.a hM.b
 have ho := atP_on hc hM.a hM.b
 have hon := hv.on
 rw [hq] at hon
 have hx : v.Num * (atP s.Mean (s.Light + x.sum)).2 = (atP s.Mean (s.Light + x.sum)).1 * v.Den := hon.uniq hc ho
 have hvd := hv.den
 have hvn := hv.num
 have eA : meanN s x.sum = (atP s.Mean (s.Light + x.sum)).1 * 2 * s.Turn := rfl
 have eD : meanD s x.sum = (atP s.Mean (s.Light + x.sum)).2 * 2 * s.Turn := rfl
 generalize (atP s.Mean (s.Light + x.sum)).1 = num at *
 generalize (atP s.Mean (s.Light + x.sum)).2 = den at *
 -- what compares with the one compares with the other
 have key : ∀ k : Int, (k * v.Den - 2 * v.Num) * (den * 2 * s.Turn) = (k * meanD s x.sum - 2 * meanN s x.sum) * v.Den := fun k => by
  rw [eA, eD, Int.sub_mul, Int.sub_mul, show 2 * v.Num * (den * 2 * s.Turn) = 2 * (v.Num * den) * (2 * s.Turn) by ac_rfl, hx]
  congr 1 <;> ac_rfl
 have hP : 1 ≤ den * 2 * s.Turn := by rw [← eD]; exact m1.1
 have sg := fun k => sign hP hvd.1 (key k)
 have hAD : 2 * meanN s x.sum ≤ 131072 * meanD s x.sum := by
  rw [eA, eD]
  have : num * (2 * s.Turn) ≤ 65536 * den * (2 * s.Turn) := Int.mul_le_mul_of_nonneg_right p5 (by omega)
  have e1 : num * 2 * s.Turn = num * (2 * s.Turn) := by ac_rfl
  have e2 : den * 2 * s.Turn * 65536 = 65536 * den * (2 * s.Turn) := by ac_rfl
  omega
 have hA0 := m2.1
 clear key eA eD
 unfold afloatV endS
 generalize meanN s x.sum = A at *
 generalize meanD s x.sum = D at *
 generalize trimN s x = n at *
 have f1 := fl_bd (a := A + n) m1.1
 have f2 := fl_bd (a := A + -n) m1.1
 have u1 := up_bd (a := A + n) m1.1
 have u2 := up_bd (a := A + -n) m1.1
 have b1 := div_bd (a := A + n) m1.1 (A := 20000000000000000) (by omega) (by omega) (by omega)
 have b2 := div_bd (a := A + -n) m1.1 (A := 20000000000000000) (by omega) (by omega) (by omega)
 have b3 := div_bd (a := -(A + n)) m1.1 (A := 20000000000000000) (by omega) (by omega) (by omega)
 have b4 := div_bd (a := -(A + -n)) m1.1 (A := 20000000000000000) (by omega) (by omega) (by omega)
 have b5 : -20000000000000000 ≤ up (A + n) D ∧ up (A + n) D ≤ 20000000000000000 := by unfold up; omega
 have b6 : -20000000000000000 ≤ up (A + -n) D ∧ up (A + -n) D ≤ 20000000000000000 := by unfold up; omega
 clear b3 b4
 generalize (A + n) / D = F1 at *
 generalize (A + -n) / D = F2 at *
 generalize up (A + n) D = U1 at *
 generalize up (A + -n) D = U2 at *
 -- the sums
 have s1 : (F1 + F2) * D ≤ 2 * A := by rw [Int.add_mul]; omega
 have s2 : 2 * A < (F1 + F2 + 2) * D := by
  have e : (F1 + F2 + 2) * D = (F1 + 1) * D + (F2 + 1) * D := by rw [← Int.add_mul]; congr 1; omega
  rw [e]; omega
 have s3 : 2 * A ≤ (U1 + U2) * D := by rw [Int.add_mul]; omega
 have s4 : (U1 + U2 - 2) * D < 2 * A := by
  have e : (U1 + U2 - 2) * D = (U1 - 1) * D + (U2 - 1) * D := by rw [← Int.add_mul]; congr 1; omega
  rw [e]; omega
 have t1 := (sg (F1 + F2)).1 (by omega)
 have t2 := (sg (F1 + F2 + 2)).2.2.2 (by omega)
 have t3 := (sg (U1 + U2)).2.1 (by omega)
 have t4 := (sg (U1 + U2 - 2)).2.2.1 (by omega)
 have cut : ∀ k : Int, k * D ≤ 131072 * D → k ≤ 131072 := fun k hk => Int.le_of_mul_le_mul_right hk (by omega)
 have cut0 : ∀ k : Int, 0 < k * D → 0 < k := fun k hk => by
  rcases Int.lt_or_le 0 k with q | q
  ·exact q
  ·have : k * D ≤ 0 * D := Int.mul_le_mul_of_nonneg_right q (by omega)
   omega
 have r1 : F1 + F2 ≤ 131072 := cut _ (by omega)
 have r2 : 0 < F1 + F2 + 2 := cut0 _ (by omega)
 have r4 : U1 + U2 - 2 < 131072 := by
  rcases Int.lt_or_le (U1 + U2 - 2) 131072 with q | q
  ·exact q
  ·have := Int.mul_le_mul_of_nonneg_right q (show 0 ≤ D by omega)
   omega
 have r3 : 0 ≤ U1 + U2 := by
  rcases Int.lt_or_le (U1 + U2) 0 with q | q
  ·have : (U1 + U2) * D ≤ -1 * D := Int.mul_le_mul_of_nonneg_right (by omega) (by omega)
   omega
  ·exact q
 have ed : ∀ k : Int, -8002 ≤ k → k ≤ 200000 → -16004000 ≤ k * v.Den ∧ k * v.Den ≤ 400000000 := fun k k1 k2 => by
  have h1 : k * v.Den ≤ 200000 * v.Den := Int.mul_le_mul_of_nonneg_right k2 (by omega)
  have h2 : -8002 * v.Den ≤ k * v.Den := Int.mul_le_mul_of_nonneg_right k1 (by omega)
  omega
 have hE : 0 ≤ s.Mean.Err * v.Den ∧ s.Mean.Err * v.Den ≤ 8000000 := by
  have h1 : s.Mean.Err * v.Den ≤ 4000 * v.Den := Int.mul_le_mul_of_nonneg_right he.2 (by omega)
  exact ⟨Int.mul_nonneg he.1 (by omega), by omega⟩
 have eN : (0 - s.Mean.Err) * v.Den = -(s.Mean.Err * v.Den) := by rw [Int.zero_sub, Int.neg_mul]
 unfold top_rounds curve_plus
 simp only
 rw [w64_u (a := 0 - s.Mean.Err) (by omega), eN, w64_u (a := -(s.Mean.Err * v.Den)) (by omega), w64_u (a := s.Mean.Err * v.Den) (by omega), w64_u (a := v.Num + -(s.Mean.Err * v.Den)) (by omega), w64_u (a := v.Num + s.Mean.Err * v.Den) (by omega)]
 have k1 : F1 - s.Mean.Err + (F2 - s.Mean.Err) = F1 + F2 - 2 * s.Mean.Err := by omega
 have k2 : U1 + s.Mean.Err + (U2 + s.Mean.Err) = U1 + U2 + 2 * s.Mean.Err := by omega
 rw [k1, k2, w64_u (a := F1 + F2 - 2 * s.Mean.Err) (by omega), w64_u (a := U1 + U2 + 2 * s.Mean.Err) (by omega), w64_u (a := F1 + F2 - 2 * s.Mean.Err + 2) (by omega), w64_u (a := U1 + U2 + 2 * s.Mean.Err - 2) (by omega)]
 have d1 := ed (F1 + F2 - 2 * s.Mean.Err) (by omega) (by omega)
 have d2 := ed (F1 + F2 - 2 * s.Mean.Err + 2) (by omega) (by omega)
 have d3 := ed (U1 + U2 + 2 * s.Mean.Err) (by omega) (by omega)
 have d4 := ed (U1 + U2 + 2 * s.Mean.Err - 2) (by omega) (by omega)
 rw [w64_u (a := (F1 + F2 - 2 * s.Mean.Err) * v.Den) (by omega), w64_u (a := (F1 + F2 - 2 * s.Mean.Err + 2) * v.Den) (by omega), w64_u (a := (U1 + U2 + 2 * s.Mean.Err) * v.Den) (by omega), w64_u (a := (U1 + U2 + 2 * s.Mean.Err - 2) * v.Den) (by omega), w64_u (a := 2 * (v.Num + -(s.Mean.Err * v.Den))) (by omega), w64_u (a := 2 * (v.Num + s.Mean.Err * v.Den)) (by omega)]
 have x1 : (F1 + F2 - 2 * s.Mean.Err) * v.Den = (F1 + F2) * v.Den - 2 * (s.Mean.Err * v.Den) := by rw [Int.sub_mul, Int.mul_assoc]
 have x2 : (F1 + F2 - 2 * s.Mean.Err + 2) * v.Den = (F1 + F2 + 2) * v.Den - 2 * (s.Mean.Err * v.Den) := by
  rw [show F1 + F2 - 2 * s.Mean.Err + 2 = F1 + F2 + 2 - 2 * s.Mean.Err by omega, Int.sub_mul, Int.mul_assoc]
 have x3 : (U1 + U2 + 2 * s.Mean.Err) * v.Den = (U1 + U2) * v.Den + 2 * (s.Mean.Err * v.Den) := by rw [Int.add_mul, Int.mul_assoc]
 have x4 : (U1 + U2 + 2 * s.Mean.Err - 2) * v.Den = (U1 + U2 - 2) * v.Den + 2 * (s.Mean.Err * v.Den) := by
  rw [show U1 + U2 + 2 * s.Mean.Err - 2 = U1 + U2 - 2 + 2 * s.Mean.Err by omega, Int.add_mul, Int.mul_assoc]
 rw [x1, x2, x3, x4]
 simp only [Bool.and_eq_true, decide_eq_true_eq]
 exact ⟨⟨⟨by omega, by omega⟩, by omega⟩, by omega⟩
theorem dot_nn : ∀ (w x : List Int), (∀ a ∈ w, 0 ≤ a) → (∀ b ∈ x, 0 ≤ b) → 0 ≤ dot w x
 | [], x, _, _ => by cases x <;> simp [dot]
 | _ :: _, [], _, _ => by simp [dot]
 | a :: w, b :: x, h1, h2 => by
  have ih := dot_nn w x (fun c hc => h1 c (List.mem_cons_of_mem _ hc)) fun c hc => h2 c (List.mem_cons_of_mem _ hc)
  have := Int.mul_nonneg (h1 a List.mem_cons_self) (h2 b List.mem_cons_self)
  simp only [dot]
  omega
theorem rise_nn {s : api_Ship} (hs : GoodS s) {x : List Int} (h : Rms s x) : 0 ≤ riseV s x := by
 have h1 := (lh_bd hs).1
 have h2 := dot_nn (hts s) x (fun a ha => by
  obtain ⟨y, hy, rfl⟩ := List.mem_map.1 ha
  exact (hs.hold y hy).2.2.1) (fun b hb => by
  obtain ⟨i, hi, rfl⟩ := List.getElem_of_mem hb
  have := (h.b i (by rw [← h.len]; exact hi)).1
  rw [gI_get hi] at this
  exact this)
 unfold riseV
 omega
theorem surely_ok {s : api_Ship} {l : api_Load} (hl : Len s.Holds) (hW : LoadW l) (hk : chkL s l = 0) {lo hi : Int} {p : api_Peak} (hp : PkOK s.Mtac lo hi p) (h1 : lo ≤ hi) (h2 : kX s.Mtac 0 ≤ lo) (h3 : hi ≤ kX s.Mtac (s.Mtac.Knots.length - 1)) (m0 : lo * 40 ≤ s.Light + totLo l) (m1 : s.Light + totHi l ≤ hi * 40) : ∃ b, top_surely s l (narrowL l) p.Lo = some b ∧ (b = true → AllSteady s l) := by
 have hg := GoodL.of hk
 have hs := hg.ship
 have htt := hg.tot
 have hn8 := hs.nh
 have hask : askE s l (hts s) = 0 := by
  unfold askE
  rw [if_pos hk, if_pos]
  unfold formB
  rw [decide_eq_true (hts_len s), Bool.true_and, List.all_eq_true]
  intro a ha
  obtain ⟨y, hy, rfl⟩ := List.mem_map.1 ha
  have := (hs.hold y hy).2.2
  simp only [Bool.and_eq_true, decide_eq_true_eq]
  omega
 obtain ⟨q, q1, q2, _⟩ := Most_ok s l (hts s) hl hW (by unfold Len; rw [hts_len]; omega) hask
 have hqr := q2.fit.rms hg
 have hrb := riseV_bd hs hqr
 have hrn := rise_nn hs hqr
 have elh := lh_bd hs
 obtain ⟨_, _, _, v1⟩ := hp.atlo
 have vd := v1.den; have vn := v1.num
 have he := hs.cmeta.err
 have hle := hs.least
 have hlt := hs.light
 have hml := hg.Mass (Int.le_refl (totLo l)) htt.2.2.1
 have hEL : 0 ≤ (s.Mtac.Err + s.Least) * p.Lo.Den ∧ (s.Mtac.Err + s.Least) * p.Lo.Den ≤ 18000000 := by
  have h1 : (s.Mtac.Err + s.Least) * p.Lo.Den ≤ 9000 * p.Lo.Den := Int.mul_le_mul_of_nonneg_right (by omega) (by omega)
  exact ⟨Int.mul_nonneg (by omega) (by omega), by omega⟩
 have hrise : s.Light * s.Height + q.Value = riseV s q.Loading := by unfold riseV; rw [q2.val]
 have hval : -655360000 ≤ q.Value ∧ q.Value ≤ 655360000 := by omega
 have hma := hml.a; have hmc := hml.c
 have g1 : riseV s q.Loading * p.Lo.Den ≤ 655360000 * p.Lo.Den := Int.mul_le_mul_of_nonneg_right (by omega) (by omega)
 have g2 : 0 ≤ riseV s q.Loading * p.Lo.Den := Int.mul_nonneg hrn (by omega)
 have g3 : (p.Lo.Num - (s.Mtac.Err + s.Least) * p.Lo.Den) * (s.Light + totLo l) ≤ 131072000 * (s.Light + totLo l) := Int.mul_le_mul_of_nonneg_right (by omega) (by omega)
 have g4 : -149072000 * (s.Light + totLo l) ≤ (p.Lo.Num - (s.Mtac.Err + s.Least) * p.Lo.Den) * (s.Light + totLo l) := Int.mul_le_mul_of_nonneg_right (by omega) (by omega)
 have hj : top_surely_j1 s l (narrowL l) p.Lo (hts s) = some (decide (riseV s q.Loading * p.Lo.Den ≤ (p.Lo.Num - (s.Mtac.Err + s.Least) * p.Lo.Den) * (s.Light + totLo l))) := by
  unfold top_surely_j1
  rw [q1, Option.bind_some]
  show some (decide ((0 : Int) = 0) && decide (w64 (w64 (w64 (s.Light * s.Height) + q.Value) * p.Lo.Den) ≤ w64 (w64 (p.Lo.Num - w64 (w64 (s.Mtac.Err + s.Least) * p.Lo.Den)) * w64 (s.Light + totLo l)))) = _
  rw [w64_u (a := s.Light * s.Height) (by omega), w64_u (a := s.Light * s.Height + q.Value) (by omega), hrise, w64_u (a := riseV s q.Loading * p.Lo.Den) (by omega), w64_u (a := s.Mtac.Err + s.Least) (by omega), w64_u (a := (s.Mtac.Err + s.Least) * p.Lo.Den) (by omega), w64_u (a := p.Lo.Num - (s.Mtac.Err + s.Least) * p.Lo.Den) (by omega), w64_u (a := s.Light + totLo l) (by omega), w64_u (a := (p.Lo.Num - (s.Mtac.Err + s.Least) * p.Lo.Den) * (s.Light + totLo l)) (by omega)]
  simp
 refine ⟨decide (riseV s q.Loading * p.Lo.Den ≤ (p.Lo.Num - (s.Mtac.Err + s.Least) * p.Lo.Den) * (s.Light + totLo l)), ?_, fun hb => ?_⟩
 ·unfold top_surely
  suffices w : ∃ r, Lp (top_surely_b2 s l (narrowL l) p.Lo) fuel (0, []) = some r ∧ r = decide (riseV s q.Loading * p.Lo.Den ≤ (p.Lo.Num - (s.Mtac.Err + s.Least) * p.Lo.Den) * (s.Light + totLo l)) by obtain ⟨r, w, rfl⟩ := w; exact w
  refine lp_inv' (fun (i : Nat) (st : Int × List Int) => st = ((i : Int), (hts s).take i)) _ s.Holds.length (by omega) rfl fun i st hi' hI => ?_
  subst hI
  unfold top_surely_b2
  simp only
  by_cases hlt2 : i < s.Holds.length
  ·have ha : app ((hts s).take i) [s.Holds[i].Height] = some ((hts s).take i ++ [s.Holds[i].Height]) := by unfold app; rw [if_pos (by simp; omega)]
   rw [if_pos (decide_eq_true (by omega)), ix_lt hlt2, Option.bind_some, ha, Option.bind_some, w64s i (by omega)]
   refine .inl ⟨hlt2, _, rfl, ?_⟩
   rw [List.take_succ_eq_append_getElem (by rw [hts_len]; exact hlt2)]
   simp [hts]
  ·have e : i = s.Holds.length := by omega
   subst e
   rw [if_neg (by rw [decide_eq_true_eq]; omega), ← hts_len s, List.take_length, hj]
   exact .inr ⟨_, rfl, rfl⟩
 ·simp only [decide_eq_true_eq] at hb
  intro t x t1 t2 gx
  have hf := Fit.of_greedy hg gx t1 t2
  have hsum : x.sum = t := gx.sum
  have hxr := hf.rms hg
  have hM := hg.Mass t1 t2
  have hdot := q2.max (by rw [hts_len, hg.len]) hf
  have hle2 : riseV s x ≤ riseV s q.Loading := by rw [← hrise]; unfold riseV; omega
  obtain ⟨_, p2, p3, p4, p5, _⟩ := at_spec hs.cmeta hM.a hM.b
  have hbt := (between hs.cmeta hp h1 h2 h3 (atP_on hs.cmeta hM.a hM.b) p2 (by omega) (by omega)).1
  unfold steadyB spareD spareN
  rw [hsum, decide_eq_true_eq]
  generalize (atP s.Mtac (s.Light + t)).1 = num at *
  generalize (atP s.Mtac (s.Light + t)).2 = den at *
  generalize s.Mtac.Err + s.Least = E at *
  -- the room is not negative
  have hrn0 : 0 ≤ p.Lo.Num - E * p.Lo.Den := by
   rcases Int.lt_or_le (p.Lo.Num - E * p.Lo.Den) 0 with w | w
   ·have : (p.Lo.Num - E * p.Lo.Den) * (s.Light + totLo l) ≤ -1 * (s.Light + totLo l) := Int.mul_le_mul_of_nonneg_right (by omega) (by omega)
    omega
   ·exact w
  have k1 : riseV s x * p.Lo.Den ≤ (p.Lo.Num - E * p.Lo.Den) * (s.Light + t) := by
   have w1 : riseV s x * p.Lo.Den ≤ riseV s q.Loading * p.Lo.Den := Int.mul_le_mul_of_nonneg_right hle2 (by omega)
   have w2 : (p.Lo.Num - E * p.Lo.Den) * (s.Light + totLo l) ≤ (p.Lo.Num - E * p.Lo.Den) * (s.Light + t) := Int.mul_le_mul_of_nonneg_left (by omega) hrn0
   omega
  have k2 : (p.Lo.Num - E * p.Lo.Den) * den ≤ (num - E * den) * p.Lo.Den := by
   rw [Int.sub_mul, Int.sub_mul, show E * p.Lo.Den * den = E * den * p.Lo.Den by ac_rfl]
   omega
  refine Int.le_of_mul_le_mul_right (a := p.Lo.Den) ?_ (by omega)
  have hma2 := hM.a
  calc riseV s x * den * p.Lo.Den = riseV s x * p.Lo.Den * den := by ac_rfl
   _ ≤ (p.Lo.Num - E * p.Lo.Den) * (s.Light + t) * den := Int.mul_le_mul_of_nonneg_right k1 (by omega)
   _ = (p.Lo.Num - E * p.Lo.Den) * den * (s.Light + t) := by ac_rfl
   _ ≤ (num - E * den) * p.Lo.Den * (s.Light + t) := Int.mul_le_mul_of_nonneg_right k2 (by omega)
   _ = (num - E * den) * (s.Light + t) * p.Lo.Den := by ac_rfl
theorem holds_TopShipsAreTheirTables {s : api_Ship} {l : api_Load} {by_ : List Int} (h0 : ok_api_Ship s) (h1 : ok_api_Load l) (h2 : ok_33 by_) : top_TopShipsAreTheirTables s l by_ = some true := by
 have hl : Len s.Holds := h0.2.2.2.2.1.1
 have hw := LoadW.ok h1
 unfold top_TopShipsAreTheirTables
 rw [hload_eq s l hl hw]
 cases top_slight s l with
 | false => simp [gb, floating_true]
 | true =>
  simp only [Bool.not_true, Bool.not_false, gb, if_true, Option.bind_some, Bool.false_or]
  by_cases hk : chkL s l = 0
  ·rw [if_neg (by simp [hk])]
   have hg := GoodL.of hk
   have hs := hg.ship
   have hcs : chk s = 0 := by
    unfold chkL at hk
    split at hk <;> assumption
   obtain ⟨x, x1, x2⟩ := inside_spec hg by_ h2
   have hr := x2.rms hg
   have hM := hr.Mass hs
   have hma := hM.a; have hmb := hM.b; have hmc := hM.c
   have hlt := hs.light
   have hxs := x2.sum hg
   have htt := hg.tot
   have hn := hg.lenL
   have hmLo := hg.Mass (Int.le_refl (totLo l)) htt.2.2.1
   have hmHi := hg.Mass htt.2.2.1 (Int.le_refl (totHi l))
   have hLa := hmLo.a; have hLb := hmLo.b; have hLc := hmLo.c
   have hHa := hmHi.a; have hHb := hmHi.b; have hHc := hmHi.c
   have hro := hs.rooms
   have hcv := hs.cmeta
   have hcm := hs.cmean
   rw [x1, Option.bind_some]
   simp only [Bool.not_true, Bool.not_false, if_true, Bool.false_or]
   rw [hFits_eq s l x hl hw (by unfold Len; omega) (by unfold Len; rw [x2.len]; omega), hk, (fitB_iff hg x).2 x2, Option.bind_some]
   simp only [decide_true, Bool.and_self, Bool.not_true, Bool.false_eq_true, if_false]
   -- displacement, metacentre, draughts, narrowed
   have hd : hull_Displacement s x = some (s.Light + x.sum, 0) := by
    unfold hull_Displacement
    rw [loaded_one hcs hr, Option.bind_some, if_neg (by simp), sumx_eq hs hr, Option.bind_some, w64_u (a := s.Light + x.sum) (by omega)]
   obtain ⟨pa, p2, p3, p4, p5, _⟩ := at_spec hcv hma hmb
   have hon := atP_on hcv hma hmb
   obtain ⟨f, f1, f2⟩ := low_is (num := (atP s.Mtac (s.Light + x.sum)).1) (den := (atP s.Mtac (s.Light + x.sum)).2) (by omega) (by omega)
   have hrm : hull_rooms s = some (s.Light + roomSum s.Holds) := by
    rw [(hrooms_eq s hl).resolve_right (by rw [w64_u (by omega)]; simp), w64_u (by omega)]
   have hm : hull_Meta s (s.Light + x.sum) = some (f, 0) := by
    unfold hull_Meta
    rw [hcheck_eq s hl, hcs, Option.bind_some, if_neg (by simp), hrm, Option.bind_some, if_neg (by simp [hull_within]; omega), pa, Option.bind_some, f1]; rfl
   have hnr : hull_Narrow s l = some (narrowL l, 0) := by rw [hNarrow_eq s l hl hw]; unfold narrowR; rw [if_pos hk]
   rw [hd, Option.bind_some, hm, Option.bind_some, hAfloat_eq hcs hr, Option.bind_some, hnr, Option.bind_some]
   simp only [decide_true, Bool.not_true, Bool.or_self, Bool.false_eq_true, if_false]
   have fon := hon.low f2
   have fd := f2.den p2
   have fb : f.Den ≤ 80000 ∧ 0 ≤ f.Num ∧ f.Num ≤ 5242880000 := by
    obtain ⟨g, g1, e1, e2⟩ := f2.ex
    have w1 : 1 * f.Den ≤ g * f.Den := Int.mul_le_mul_of_nonneg_right g1 (by omega)
    have w2 : 0 ≤ f.Num := by
     rcases Int.lt_or_le f.Num 0 with w | w
     ·have : g * f.Num ≤ g * (-1) := Int.mul_le_mul_of_nonneg_left (by omega) (by omega)
      omega
     ·exact w
    have w3 : 1 * f.Num ≤ g * f.Num := Int.mul_le_mul_of_nonneg_right g1 w2
    omega
   -- the rest
   have hj : top_TopShipsAreTheirTables_j1 s l (x, true) (f, 0) (narrowL l, 0) = some true := by
    unfold top_TopShipsAreTheirTables_j1
    have hsc : top_scores s (narrowL l) = some ⟨(s.Light + totLo l) / 40, (s.Light + totHi l + 39) / 40⟩ := by
     unfold top_scores
     show (Option.bind (quo (w64 (s.Light + totLo l)) 40) fun q => Option.bind (quo (w64 (w64 (w64 (s.Light + totHi l) + 40) - 1)) 40) fun q1 => some (⟨q, q1⟩ : api_Span)) = _
     rw [w64_u (a := s.Light + totLo l) (by omega), w64_u (a := s.Light + totHi l) (by omega), w64_u (a := s.Light + totHi l + 40) (by omega), w64_u (a := s.Light + totHi l + 40 - 1) (by omega)]
     unfold quo
     rw [if_neg (by decide), if_neg (by decide), Int.tdiv_eq_ediv_of_nonneg (by omega), Int.tdiv_eq_ediv_of_nonneg (by omega), w64_u (by omega), w64_u (by omega), show s.Light + totHi l + 40 - 1 = s.Light + totHi l + 39 by omega]; rfl
    rw [hsc, Option.bind_some]
    have clo := hcv.lo; have chi := hcv.hi
    have a1 : (s.Light + totLo l) / 40 ≤ (s.Light + totHi l + 39) / 40 := by omega
    have a2 : kX s.Mtac 0 ≤ (s.Light + totLo l) / 40 := by unfold kX; omega
    have a3 : (s.Light + totHi l + 39) / 40 ≤ kX s.Mtac (s.Mtac.Knots.length - 1) := by unfold kX; omega
    have a4 : (s.Light + totLo l) / 40 * 40 ≤ s.Light + totLo l := by omega
    have a5 : s.Light + totHi l ≤ (s.Light + totHi l + 39) / 40 * 40 := by omega
    obtain ⟨p, q1, q2⟩ := Over_is hcv a1 a2 a3
    rw [q1, Option.bind_some]
    obtain ⟨b1, b2⟩ := between hcv q2 a1 a2 a3 fon fd (by omega) (by omega)
    obtain ⟨b3, b4⟩ := between hcv q2 a1 a2 a3 hon p2 (by omega) (by omega)
    obtain ⟨_, _, _, v1⟩ := q2.atlo
    obtain ⟨_, _, _, v2⟩ := q2.athi
    have v1d := v1.den; have v1n := v1.num; have v2d := v2.den; have v2n := v2.num
    have mb : ∀ {a b A B : Int}, 0 ≤ A → -A ≤ a → a ≤ A → 1 ≤ b → b ≤ B → -(A * B) ≤ a * b ∧ a * b ≤ A * B := fun {a b A B} hA w1 w2 w3 w4 => by
     have u1 : a * b ≤ A * b := Int.mul_le_mul_of_nonneg_right w2 (by omega)
     have u2 : -A * b ≤ a * b := Int.mul_le_mul_of_nonneg_right w1 (by omega)
     have u3 : A * b ≤ A * B := Int.mul_le_mul_of_nonneg_left w4 hA
     rw [Int.neg_mul] at u2
     omega
    have c1 := mb (a := f.Num) (b := p.Lo.Den) (A := 5242880000) (B := 2000) (by omega) (by omega) (by omega) (by omega) (by omega)
    have c2 := mb (a := p.Lo.Num) (b := f.Den) (A := 131072000) (B := 80000) (by omega) (by omega) (by omega) (by omega) (by omega)
    have c3 := mb (a := p.Hi.Num) (b := f.Den) (A := 131072000) (B := 80000) (by omega) (by omega) (by omega) (by omega) (by omega)
    have c4 := mb (a := f.Num) (b := p.Hi.Den) (A := 5242880000) (B := 2000) (by omega) (by omega) (by omega) (by omega) (by omega)
    simp only
    rw [w64_u (a := f.Num * p.Lo.Den) (by omega), w64_u (a := p.Lo.Num * f.Den) (by omega), w64_u (a := p.Hi.Num * f.Den) (by omega), w64_u (a := f.Num * p.Hi.Den) (by omega)]
    rw [decide_eq_false (show ¬ f.Num * p.Lo.Den < p.Lo.Num * f.Den by omega), decide_eq_false (show ¬ p.Hi.Num * f.Den < f.Num * p.Hi.Den by omega)]
    simp only [decide_true, Bool.not_true, Bool.or_self, Bool.false_eq_true, if_false]
    rw [Steady_eq s l hl hw, if_pos hk]
    obtain ⟨r, r1, r2⟩ := shaky_spec hg
    obtain ⟨b, s1, s2⟩ := surely_ok hl hw hk q2 a1 a2 a3 a4 a5
    rw [r1, s1]
    simp only [Option.map_some, Option.bind_some, decide_true, Bool.not_true, Bool.not_false, Bool.true_and, Bool.not_not, Bool.false_or]
    -- gravity
    have hrb := riseV_bd hs hr
    obtain ⟨c, d1, d2⟩ := low_is (num := riseV s x) (den := s.Light + x.sum) (by omega) (by omega)
    have hgr : hull_Gravity s x = some (c, 0) := by
     unfold hull_Gravity
     rw [loaded_one hcs hr, Option.bind_some, if_neg (by simp), hrise_eq hs hr, Option.bind_some, sumx_eq hs hr, Option.bind_some, w64_u (a := s.Light + x.sum) (by omega), d1]; rfl
    rw [hgr, floating_true]
    simp only [Option.bind_some]
    have cd := d2.den (by omega)
    have cb : c.Den ≤ 65536 ∧ -655360000 ≤ c.Num ∧ c.Num ≤ 655360000 := by
     obtain ⟨g, g1, e1, e2⟩ := d2.ex
     have w1 : 1 * c.Den ≤ g * c.Den := Int.mul_le_mul_of_nonneg_right g1 (by omega)
     refine ⟨by omega, ?_⟩
     rcases Int.le_total 0 c.Num with w | w
     ·have : 1 * c.Num ≤ g * c.Num := Int.mul_le_mul_of_nonneg_right g1 w
      omega
     ·have : g * c.Num ≤ 1 * c.Num := Int.mul_le_mul_of_nonpos_right g1 w
      omega
    have he := hcv.err
    have hle := hs.least
    have hEL : 0 ≤ (s.Mtac.Err + s.Least) * p.Hi.Den ∧ (s.Mtac.Err + s.Least) * p.Hi.Den ≤ 18000000 := by
     have w1 : (s.Mtac.Err + s.Least) * p.Hi.Den ≤ 9000 * p.Hi.Den := Int.mul_le_mul_of_nonneg_right (by omega) (by omega)
     exact ⟨Int.mul_nonneg (by omega) (by omega), by omega⟩
    have e1 := mb (a := c.Num) (b := p.Hi.Den) (A := 655360000) (B := 2000) (by omega) (by omega) (by omega) (by omega) (by omega)
    have e2 := mb (a := p.Hi.Num - (s.Mtac.Err + s.Least) * p.Hi.Den) (b := c.Den) (A := 200000000) (B := 65536) (by omega) (by omega) (by omega) (by omega) (by omega)
    -- a steady ship's gravity
    have hst : steadyB s x = true → c.Num * p.Hi.Den ≤ (p.Hi.Num - (s.Mtac.Err + s.Least) * p.Hi.Den) * c.Den := fun h => by
     unfold steadyB spareD spareN at h
     rw [decide_eq_true_eq] at h
     obtain ⟨g, g1, u1, u2⟩ := d2.ex
     generalize (atP s.Mtac (s.Light + x.sum)).1 = num at *
     generalize (atP s.Mtac (s.Light + x.sum)).2 = den at *
     generalize s.Mtac.Err + s.Least = E at *
     have k2 : (num - E * den) * p.Hi.Den ≤ (p.Hi.Num - E * p.Hi.Den) * den := by
      rw [Int.sub_mul, Int.sub_mul, show E * den * p.Hi.Den = E * p.Hi.Den * den by ac_rfl]
      omega
     refine Int.le_of_mul_le_mul_right (a := g * den) ?_ (Int.mul_pos (by omega) (by omega))
     calc c.Num * p.Hi.Den * (g * den) = g * c.Num * den * p.Hi.Den := by ac_rfl
      _ = riseV s x * den * p.Hi.Den := by rw [← u1]
      _ ≤ (num - E * den) * (s.Light + x.sum) * p.Hi.Den := Int.mul_le_mul_of_nonneg_right h (by omega)
      _ = (num - E * den) * p.Hi.Den * (s.Light + x.sum) := by ac_rfl
      _ ≤ (p.Hi.Num - E * p.Hi.Den) * den * (s.Light + x.sum) := Int.mul_le_mul_of_nonneg_right k2 (by omega)
      _ = (p.Hi.Num - E * p.Hi.Den) * den * (g * c.Den) := by rw [← u2]
      _ = (p.Hi.Num - E * p.Hi.Den) * c.Den * (g * den) := by ac_rfl
    rw [w64_u (a := c.Num * p.Hi.Den) (by omega), w64_u (a := s.Mtac.Err + s.Least) (by omega), w64_u (a := (s.Mtac.Err + s.Least) * p.Hi.Den) (by omega), w64_u (a := p.Hi.Num - (s.Mtac.Err + s.Least) * p.Hi.Den) (by omega), w64_u (a := (p.Hi.Num - (s.Mtac.Err + s.Least) * p.Hi.Den) * c.Den) (by omega)]
    rcases r2 with ⟨rfl, ha⟩ | ⟨ht, hsb, t, t1, t2, gt, _⟩
    ·have := hst (ha.fit hg x2)
     simp [gb, this]
    ·have hb : b = false := by
      cases b with
      | false => rfl
      | true =>
       have := s2 rfl t r.1 t1 t2 gt
       rw [hsb] at this; cases this
     simp [gb, ht, hb]
   have hrem : rem (s.Light + x.sum) 40 = some ((s.Light + x.sum) % 40) := by
    unfold rem
    rw [if_neg (by decide), Int.tmod_eq_emod_of_nonneg (by omega)]
   rw [hrem, Option.bind_some]
   by_cases h40 : (s.Light + x.sum) % 40 = 0
   ·rw [if_pos (decide_eq_true h40)]
    have hq : quo (s.Light + x.sum) 40 = some ((s.Light + x.sum) / 40) := by
     unfold quo
     rw [if_neg (by decide), Int.tdiv_eq_ediv_of_nonneg (by omega), w64_u (by omega)]
    have hq40 : (s.Light + x.sum) / 40 * 40 = s.Light + x.sum := by omega
    have l1 := hcv.lo; have l2 := hcv.hi; have l3 := hcm.lo; have l4 := hcm.hi
    obtain ⟨v, v1, _, v2⟩ := Value_is hcv (x := (s.Light + x.sum) / 40) (by unfold kX; omega) (by unfold kX; omega)
    obtain ⟨u, u1, _, u2⟩ := Value_is hcm (x := (s.Light + x.sum) / 40) (by unfold kX; omega) (by unfold kX; omega)
    have hvf : v = f := by
     have von := v2.on
     rw [hq40] at von
     exact IsLow.uniq (n := v.Num) (d := v.Den) ⟨⟨1, by omega, by simp, by simp⟩, v2.co⟩ f2 v2.den.1 p2 (von.uniq hcv hon)
    have hvs : curve_Values s.Mean ((s.Light + x.sum) / 40) = some (⟨curve_plus u (w64 (0 - s.Mean.Err)), curve_plus u s.Mean.Err⟩, 0) := by
     unfold curve_Values
     rw [u1, Option.bind_some, if_neg (by simp)]
    rw [hq, Option.bind_some, v1, Option.bind_some, Option.bind_some, hvs, Option.bind_some, hvf]
    simp only [decide_true, Bool.not_true, Bool.or_self, Bool.false_or, rounds_ok hs hr hq40 u2, Bool.false_eq_true, if_false, hj]
   ·rw [if_neg (by rw [decide_eq_true_eq]; exact h40), hj]
  ·rw [if_pos (by simp [hk]), floating_true]; rfl
end Go.Mx
