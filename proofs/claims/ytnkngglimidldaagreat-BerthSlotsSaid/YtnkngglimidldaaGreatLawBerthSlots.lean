/- BerthSlots: the plain law. Conditions: none. -/
import Derived.Test.YtnkngglimidldaaGreatLawYp
import Derived.Test.YtnkngglimidldaaGreatLawBerthSan
set_option linter.unusedVariables false
set_option linter.unusedSimpArgs false
namespace Go.Mx
def Fits (h : api_Harbour) (t : api_Span) (b : api_Berth) (long d : Int) : Prop := ∃ a, RunAt (hgt h.Water) (need h b d) t.Lo t.Hi long a
theorem fits_iff {h : api_Harbour} (hg : GoodH h) {t : api_Span} {b : api_Berth} (ht : t ∈ h.Tides) {long : Int} (l0 : 1 ≤ long) (d : Int) : canA h t b long d = true ↔ Fits h t b long d := by
 obtain ⟨t0, t1, t2, t3⟩ := hg.ts t ht
 have hw := when_first hg (c := ⟨0, d, 0, 1048576, long⟩) (b := b) ht (Int.le_refl _) l0
 have e1 : max t.Lo 0 = t.Lo := by omega
 have e2 : min t.Hi 1048576 = t.Hi := by omega
 dsimp only at hw
 rw [e1, e2] at hw
 unfold canA Fits
 rcases hw with ⟨a, h1, _, h3⟩ | ⟨h1, h3⟩
 ·rw [h3]; exact ⟨fun _ => ⟨a, h1⟩, fun _ => rfl⟩
 ·rw [h3]; exact ⟨fun q => (by cases q), fun ⟨a, q⟩ => absurd q (h1 a)⟩
theorem rallow_in {h : api_Harbour} (hg : GoodH h) {b : api_Berth} (hb : b ∈ h.Berths) {k : Nat} (hk : ix h.Berths (k : Int) = some b) {long n best : Int} (l0 : 1 ≤ long) (l1 : long ≤ 1440) (n0 : 0 ≤ n) (n1 : n + long - 1 ≤ 1048576) :
  ∃ r, Lp (ref06_Allow_b4 h long (k : Int) best n) fuel (b.Depth + hgt h.Water n, n) = some r ∧ ∃ least, (∀ v, v ≤ least ↔ ∀ m, n ≤ m → m ≤ n + long - 1 → v ≤ b.Depth + hgt h.Water m) ∧ r = .inl (max best (w64 (least - h.Keel)), n + 1) := by
 refine lp_inv' (body := ref06_Allow_b4 h long (k : Int) best n) (s0 := (b.Depth + hgt h.Water n, n)) (fun (i : Nat) (s : Int × Int) => ∃ least, s = (least, n + (i : Int)) ∧ ∀ v, v ≤ least ↔ (v ≤ b.Depth + hgt h.Water n ∧ ∀ m, n ≤ m → m < n + (i : Int) → v ≤ b.Depth + hgt h.Water m)) _ long.toNat (by omega) ⟨_, by simp, fun v => ⟨fun q => ⟨q, fun m _ _ => by omega⟩, fun q => q.1⟩⟩ fun i s hi hI => ?_
 obtain ⟨least, rfl, hl⟩ := hI
 unfold ref06_Allow_b4
 dsimp only
 rw [w64_id (n := n + long) (by omega) (by omega)]
 by_cases c : n + (i : Int) < n + long
 ·rw [if_pos (by simpa using c), show max 0 (k : Int) = (k : Int) by omega, depth_eq hg hk hb (by omega) (by omega), Option.bind_some, w64_id (n := n + (i : Int) + 1) (by omega) (by omega)]
  refine .inl ⟨by omega, _, rfl, _, by rw [show n + (i : Int) + 1 = n + ((i + 1 : Nat) : Int) by omega], fun v => ?_⟩
  constructor
  ·intro q
   have h1 := (hl v).1 (by omega)
   refine ⟨h1.1, fun m m0 m1 => ?_⟩
   by_cases em : m = n + (i : Int)
   ·rw [em]; omega
   ·exact h1.2 m m0 (by omega)
  ·rintro ⟨q1, q2⟩
   have h1 := (hl v).2 ⟨q1, fun m m0 m1 => q2 m m0 (by omega)⟩
   have h2 := q2 (n + (i : Int)) (by omega) (by omega)
   omega
 ·rw [if_neg (by simpa using c)]
  unfold ref06_Allow_j3
  rw [w64_id (n := n + 1) (by omega) (by omega)]
  refine .inr ⟨_, rfl, least, fun v => ?_, rfl⟩
  rw [hl]
  constructor
  ·rintro ⟨q1, q2⟩ m m0 m1
   exact q2 m m0 (by omega)
  ·intro q
   exact ⟨q n (Int.le_refl _) (by omega), fun m m0 m1 => q m m0 (by omega)⟩
theorem rallow_loop {h : api_Harbour} (hg : GoodH h) {t : api_Span} (ht : t ∈ h.Tides) {b : api_Berth} (hb : b ∈ h.Berths) {k : Nat} (hk : ix h.Berths (k : Int) = some b) {long : Int} (l0 : 1 ≤ long) (l1 : long ≤ 1440) :
  ∃ r, Lp (ref06_Allow_b2 h long t (k : Int)) fuel (-1, t.Lo) = some r ∧ ∃ best, (∀ d, 0 ≤ d → (d ≤ best ↔ Fits h t b long d)) ∧ r = if best < 0 then (0, 5) else (min best 8000, 0) := by
 obtain ⟨t0, t1, t2, t3⟩ := hg.ts t ht
 obtain ⟨b0, b1, b2, b3⟩ := hg.bs b hb
 have k0 := hg.k0; have k1 := hg.k1
 refine lp_inv' (body := ref06_Allow_b2 h long t (k : Int)) (s0 := (-1, t.Lo)) (fun (i : Nat) (s : Int × Int) => ∃ best, s = (best, t.Lo + (i : Int)) ∧ ∀ d, 0 ≤ d → (d ≤ best ↔ ∃ a, a < t.Lo + (i : Int) ∧ RunAt (hgt h.Water) (need h b d) t.Lo t.Hi long a)) _ (t.Hi - long + 2 - t.Lo).toNat (by omega) ⟨-1, by simp, fun d hd => ⟨fun q => by omega, fun ⟨a, q1, q2⟩ => by have := q2.1; omega⟩⟩ fun i s hi hI => ?_
 obtain ⟨best, rfl, hB⟩ := hI
 unfold ref06_Allow_b2
 dsimp only
 rw [show max 0 (k : Int) = (k : Int) by omega]
 rw [w64_id (n := t.Lo + (i : Int) + long) (by omega) (by omega), w64_id (n := t.Lo + (i : Int) + long - 1) (by omega) (by omega)]
 by_cases c : t.Lo + (i : Int) + long - 1 ≤ t.Hi
 ·rw [if_pos (by simpa using c), depth_eq hg hk hb (by omega) (by omega), Option.bind_some]
  obtain ⟨r, h1, least, h2, rfl⟩ := rallow_in hg hb hk (long := long) (n := t.Lo + (i : Int)) (best := best) l0 l1 (by omega) (by omega)
  have hlo : least ≤ b.Depth + hgt h.Water (t.Lo + (i : Int)) := (h2 least).1 (Int.le_refl _) _ (Int.le_refl _) (by omega)
  have hhi : -4611686018427387904 ≤ least := (h2 _).2 fun m m0 m1 => by have := hgt_bound hg.g m; omega
  have hbd := hgt_bound hg.g (t.Lo + (i : Int))
  rw [h1, w64_id (n := least - h.Keel) (by omega) (by omega)]
  refine .inl ⟨by omega, _, rfl, _, by rw [show t.Lo + (i : Int) + 1 = t.Lo + ((i + 1 : Nat) : Int) by omega], fun d hd => ?_⟩
  constructor
  ·intro q
   by_cases q1 : d ≤ best
   ·obtain ⟨a, a1, a2⟩ := (hB d hd).1 q1
    exact ⟨a, by omega, a2⟩
   ·refine ⟨t.Lo + (i : Int), by omega, by omega, by omega, fun m m0 m1 => ?_⟩
    have := (h2 (d + h.Keel)).1 (by omega) m m0 (by omega)
    unfold need; omega
  ·rintro ⟨a, a1, a2⟩
   by_cases ea : a = t.Lo + (i : Int)
   ·have := (h2 (d + h.Keel)).2 fun m m0 m1 => by
     have := a2.2.2 m (by omega) (by omega)
     unfold need at this; omega
    omega
   ·have := (hB d hd).2 ⟨a, by omega, a2⟩
    omega
 ·rw [if_neg (by simpa using c)]
  unfold ref06_Allow_j1
  refine .inr ⟨_, ?_, best, fun d hd => ?_, rfl⟩
  ·by_cases q : best < 0
   ·rw [if_pos (by simpa using q), if_pos q]; rfl
   ·rw [if_neg (by simpa using q), if_neg q]; rfl
  ·rw [hB d hd]
   constructor
   ·rintro ⟨a, _, a2⟩; exact ⟨a, a2⟩
   ·rintro ⟨a, a2⟩
    exact ⟨a, by have := a2.2.1; omega, a2⟩
theorem allow_loop {h : api_Harbour} (hg : GoodH h) {x : api_Slot} {t : api_Span} (htx : ix h.Tides x.Tide = some t) (ht : t ∈ h.Tides) {b : api_Berth} (hb : b ∈ h.Berths) {long : Int} (l0 : 1 ≤ long) (l1 : long ≤ 1440) (h0 : canA h t b long 0 = true) :
  ∃ r, Lp (berth_Allow_b2 h x long (b, true)) fuel (0, 8000) = some r ∧ r.2 = 0 ∧ 0 ≤ r.1 ∧ r.1 ≤ 8000 ∧ ∀ d, 0 ≤ d → d ≤ 8000 → (canA h t b long d = true ↔ d ≤ r.1) := by
 have mono : ∀ d d' : Int, d' ≤ d → canA h t b long d = true → canA h t b long d' = true := fun d d' h1 h2 => when_mono hg ht (c := ⟨0, d, 0, 1048576, long⟩) (Int.le_refl _) l0 rfl rfl rfl h1 h2
 have a1 : ∀ d : Int, 0 ≤ d → d ≤ 8000 → berth_Allow_1 d h long x b = some (canA h t b long d) := fun d h0 h1 => by
  unfold berth_Allow_1
  rw [when_eq (t := t) hg htx hb h0 h1 (Int.le_refl _) l0 l1, Option.bind_some]; rfl
 refine lp_meas (body := berth_Allow_b2 h x long (b, true)) (s0 := (0, 8000)) (fun s => 0 ≤ s.1 ∧ s.1 ≤ s.2 ∧ s.2 ≤ 8000 ∧ canA h t b long s.1 = true ∧ ∀ d, s.2 < d → d ≤ 8000 → canA h t b long d = false) (fun s => (s.2 - s.1).toNat) _ (by decide) ⟨Int.le_refl _, by decide, Int.le_refl _, h0, fun d h1 h2 => by omega⟩ fun s hI => ?_
 obtain ⟨lo, hi⟩ := s
 obtain ⟨i1, i2, i3, i4, i5⟩ := hI
 simp only at i1 i2 i3 i4 i5
 unfold berth_Allow_b2
 simp only
 by_cases hlt : lo < hi
 ·left
  have eq : quo (w64 (w64 (lo + hi) + 1)) 2 = some ((lo + hi + 1) / 2) := by
   unfold quo
   rw [if_neg (by decide), w64_id (n := lo + hi) (by omega) (by omega), w64_id (n := lo + hi + 1) (by omega) (by omega), Int.tdiv_eq_ediv_of_nonneg (by omega), w64_id (by omega) (by omega)]
  rw [if_pos (by simpa using hlt), eq, Option.bind_some, a1 _ (by omega) (by omega), Option.bind_some]
  unfold berth_Allow_j3
  by_cases hm : canA h t b long ((lo + hi + 1) / 2) = true
  ·rw [if_pos hm]
   exact ⟨_, rfl, ⟨by simp only; omega, by simp only; omega, i3, hm, i5⟩, by simp only; omega⟩
  ·rw [if_neg hm, w64_id (by omega) (by omega)]
   refine ⟨_, rfl, ⟨i1, by simp only; omega, by simp only; omega, i4, fun d h1 h2 => ?_⟩, by simp only; omega⟩
   simp only at h1
   cases hd : canA h t b long d with
   | false => rfl
   | true => exact absurd (mono d _ (by omega) hd) hm
 ·right
  rw [if_neg (by simpa using hlt)]
  refine ⟨(lo, 0), rfl, rfl, i1, by simp only; omega, fun d h1 h2 => ⟨fun q => ?_, fun q => mono _ _ q i4⟩⟩
  simp only
  refine Int.not_lt.1 fun w => ?_
  rw [i5 d (by omega) h2] at q; cases q
theorem Allow_same (h : api_Harbour) (hh : LenH h) (x : api_Slot) (long : Int) : ∃ r, berth_Allow h x long = some r ∧ ref06_Allow h x long = some r := by
 unfold berth_Allow ref06_Allow
 rw [CheckH_eq h hh, RCheckH_eq h hh]
 simp only [Option.bind_some]
 by_cases e : checkHS h = 0
 ·have hg := GoodH.of hh e
  have hnb := hg.nb
  simp only [e, decide_true, Bool.not_true, Bool.false_eq_true, if_false]
  obtain ⟨s1, s2⟩ := slot_gen hg x
  rw [s1, s2]
  simp only [Option.bind_some]
  cases hs : slotB h x with
  | none => exact ⟨_, rfl, rfl⟩
  | some b =>
   obtain ⟨j, hj, _, htx, hb, hid⟩ := slot_tide hs
   have ht := List.getElem_mem hj
   simp only [Bool.not_true, Bool.false_eq_true, if_false, Option.isSome_some]
   have ew : ref06_in long 1 1440 = berth_within long 1 1440 := rfl
   rw [ew]
   cases hw : berth_within long 1 1440 with
   | false => exact ⟨_, rfl, rfl⟩
   | true =>
    have hl : 1 ≤ long ∧ long ≤ 1440 := by simpa [berth_within] using hw
    obtain ⟨l0, l1⟩ := hl
    have a0 : berth_Allow_1 0 h long x b = some (canA h h.Tides[j] b long 0) := by
     unfold berth_Allow_1
     rw [when_eq (t := h.Tides[j]) hg htx hb (Int.le_refl _) (show (0 : Int) ≤ 8000 by decide) (Int.le_refl _) l0 l1, Option.bind_some]; rfl
    simp only [Bool.not_true, Bool.false_eq_true, if_false]
    rw [a0, htx, rberth_eq h (by unfold Len; omega)]
    simp only [Option.bind_some]
    have hfi : ∃ k : Nat, firstI (fun y : api_Berth => decide (y.ID = x.Berth)) h.Berths 0 = (k : Int) ∧ ix h.Berths (k : Int) = some b := by
     rcases findI (h := h) x.Berth with ⟨_, h2⟩ | ⟨i, hi, q1, q2⟩
     ·have := List.find?_eq_none.1 h2 b hb
      simp [hid] at this
     ·refine ⟨i, q1, ?_⟩
      rw [ix_lt hi, berth_uniq hg (List.getElem_mem hi) hb (by rw [hid]; simpa using List.find?_some q2)]
    obtain ⟨k, hk1, hk2⟩ := hfi
    rw [hk1]
    obtain ⟨r, r1, best, hbest, r2⟩ := rallow_loop hg ht hb hk2 l0 l1
    rw [r1, r2]
    cases hc : canA h h.Tides[j] b long 0 with
    | false =>
     refine ⟨(0, 5), by simp, ?_⟩
     have : best < 0 := by
      rcases Int.lt_or_le best 0 with w | w
      ·exact w
      ·have := (fits_iff hg ht l0 0).2 ((hbest 0 (Int.le_refl _)).1 w)
       rw [hc] at this; cases this
     rw [if_pos this]
    | true =>
     obtain ⟨p, p1, p2, p3, p4, p5⟩ := allow_loop hg htx ht hb l0 l1 hc
     refine ⟨p, by simpa using p1, ?_⟩
     have hb0 : 0 ≤ best := (hbest 0 (Int.le_refl _)).2 ((fits_iff hg ht l0 0).1 hc)
     have h1 : p.1 ≤ best := (hbest p.1 p3).2 ((fits_iff hg ht l0 p.1).1 ((p5 p.1 p3 p4).2 (Int.le_refl _)))
     have h2 : min best 8000 ≤ p.1 := (p5 _ (by omega) (by omega)).1 ((fits_iff hg ht l0 _).2 ((hbest _ (by omega)).1 (by omega)))
     rw [if_neg (by omega), show min best 8000 = p.1 by omega, ← p2]
 ·simp only [e, decide_false, Bool.not_false, if_true]
  exact ⟨_, rfl, rfl⟩
theorem holds_BerthSlots {h : api_Harbour} {c : api_Call} {x : api_Slot} {long : Int} (h0 : ok_api_Harbour h) (h1 : ok_api_Call c) (h2 : ok_api_Slot x) (h3 : OkI .i64 long) : law06_BerthSlots h c x long = some true := by
 have hh := LenH.of h0
 obtain ⟨y, hy⟩ := small_some h hh
 unfold law06_BerthSlots
 rw [hy, Option.bind_some, sanity06]
 split
 ·rfl
 ·obtain ⟨r1, a1, a2⟩ := When_same h hh c x
  obtain ⟨r2, b1, b2⟩ := Allow_same h hh x long
  obtain ⟨o, e, d1, d2, d3⟩ := Slots_same h hh c
  rw [a1, a2, b1, b2, d1, d2]
  simp [gb, SameSlots_refl o (by omega)]
end Go.Mx
