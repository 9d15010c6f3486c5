/- Plain laws, berths: Touch, Slots, Allow. Conditions: none. -/
import Derived.Test.YtnkngglimidldaaLawYi
set_option linter.unusedVariables false
set_option linter.unusedSimpArgs false
namespace Go.Mx

theorem lp_all {α ρ : Type} (l : List α) (hl : l.length ≤ 9223372036854775807) {body : Int → Option (Int ⊕ ρ)} (r : ρ) (step : ∀ (i : Nat) (hi : i < l.length), body (i : Int) = some (.inl ((i + 1 : Nat) : Int))) (last : body (l.length : Int) = some (.inr r)) : Lp body fuel 0 = some r :=
 lp_list l hl (fun (_ : Unit) i => i) (fun _ _ => r) (fun _ _ => True) (a := ()) rfl trivial (fun _ i hi _ => .inl ⟨(), step i hi, rfl, trivial⟩) fun _ _ => last
theorem small_some (h : api_Harbour) (hh : LenH h) : ∃ y, law06_small h = some y := by
 unfold law06_small
 obtain ⟨r, h1, _⟩ := lp_inv' (body := law06_small_b2 h) (s0 := 0) (fun i s => s = (i : Int)) (fun _ => True) h.Tides.length (by have := hh.t; unfold Len at this; omega) rfl fun i s hi hI => by
  subst hI
  unfold law06_small_b2
  by_cases e : i < h.Tides.length
  ·rw [if_pos (by simpa using e), ix_lt e, Option.bind_some, Option.bind_some]
   split
   ·exact .inr ⟨_, rfl, trivial⟩
   ·exact .inl ⟨e, _, rfl, w64s' e hh.t⟩
  ·rw [if_neg (by simpa using e)]
   exact .inr ⟨_, rfl, trivial⟩
 exact ⟨r, h1⟩
theorem berth_uniq {h : api_Harbour} (hg : GoodH h) {a b : api_Berth} (ha : a ∈ h.Berths) (hb : b ∈ h.Berths) (e : a.ID = b.ID) : a = b := by
 obtain ⟨p, hp, rfl⟩ := List.getElem_of_mem ha
 obtain ⟨q, hq, rfl⟩ := List.getElem_of_mem hb
 rcases Nat.lt_trichotomy p q with w | w | w
 ·exact absurd e (List.pairwise_iff_getElem.1 hg.bd p q hp hq w)
 ·subst w; rfl
 ·exact absurd e.symm (List.pairwise_iff_getElem.1 hg.bd q p hq hp w)
theorem first_berth {h : api_Harbour} (hg : GoodH h) {b : api_Berth} (hb : b ∈ h.Berths) : ∃ i : Nat, i < h.Berths.length ∧ berth_first_api_Berth__berth_berthID h.Berths b.ID = some (i : Int) ∧ ix h.Berths (i : Int) = some b := by
 have hnb := hg.nb
 rw [firstB_eq _ (by unfold Len; omega)]
 rcases firstI_spec (fun x : api_Berth => decide (x.ID = b.ID)) h.Berths 0 with ⟨h1, h2⟩ | ⟨i, h1, h2, h3, h4⟩
 ·have := h2 b hb; simp at this
 ·refine ⟨i, h2, by rw [show (0 : Int) = ((0 : Nat) : Int) from rfl, h1]; simp, ?_⟩
  rw [ix_lt h2, berth_uniq hg (List.getElem_mem h2) hb (by simpa using h3)]
theorem slot_eq {h : api_Harbour} (hg : GoodH h) {b : api_Berth} (hb : b ∈ h.Berths) {j : Nat} (hj : j < h.Tides.length) : berth_slot h ⟨(j : Int), b.ID⟩ = some (b, true) := by
 have hnt := hg.nt
 obtain ⟨i, h1, h2, h3⟩ := first_berth hg hb
 unfold berth_slot
 simp only
 rw [h2, Option.bind_some, w64_id (by omega) (by omega), if_neg (by simp [berth_within]; omega), h3, Option.bind_some]
theorem CheckH_good {h : api_Harbour} (hh : LenH h) (e : checkHS h = 0) : berth_Check h = some 0 := by rw [CheckH_eq h hh, e]
/-- A ship does not touch where the water is high enough. -/
theorem Touch_clear {h : api_Harbour} (hh : LenH h) (e : checkHS h = 0) {b : api_Berth} (hb : b ∈ h.Berths) {d : Int} (d0 : 0 ≤ d) (d1 : d ≤ 8000) {s : api_Span} (hs : timedB s = true) (hm : ∀ m, s.Lo ≤ m → m ≤ s.Hi → need h b d ≤ hgt h.Water m) : berth_Touch h b.ID d s = some (0, false, 0) := by
 have hg := GoodH.of hh e
 obtain ⟨i, h1, h2, h3⟩ := first_berth hg hb
 have ht := hs
 simp only [timedB, decide_eq_true_eq] at ht
 obtain ⟨w1, w2⟩ := windowsS_zero (s := s) hg.lw hg.c (need h b d) ht.1 ht.2.1 ht.2.2.1 (by omega)
 obtain ⟨x, hx, x1, x2⟩ := w2.block (a := s.Lo) (Int.le_refl _) (s.Hi - s.Lo).toNat (by omega) (fun m q0 q1 => hm m q0 (by omega))
 unfold berth_Touch
 rw [CheckH_good hh e, Option.bind_some, if_neg (by simp), h2, Option.bind_some, if_neg (by simp <;> omega), timed_eq, hs, if_neg (by simp [berth_within]; omega), h3, Option.bind_some, needed_eq hg hb d0 d1, Windows_eq _ hg.lw, Option.bind_some]
 rw [if_neg (by simp [w1])]
 generalize (windowsS h.Water s (need h b d)).1 = l at *
 cases l with
 | nil => cases hx
 | cons y r =>
  have iy := w2.ins y List.mem_cons_self
  have hy : y.Lo = s.Lo ∧ s.Hi ≤ y.Hi := by
   rcases List.mem_cons.1 hx with rfl | hx
   ·omega
   ·have := (List.pairwise_cons.1 w2.gap).1 x hx; omega
  have i0 : ix (y :: r) 0 = some y := rfl
  rw [i0]
  simp only [gb, List.length_cons]
  rw [if_pos (by simp; omega), Option.bind_some, if_neg (by simp; omega), Option.bind_some, if_neg (by simp; omega)]
theorem has_eq (l : List api_Slot) (hl : l.length ≤ 1000000) (x : api_Slot) : law06_has l x = some (decide (x ∈ l)) := by
 unfold law06_has
 refine (lp_list l (by omega) (fun (_ : Unit) i => i) (fun _ r => decide (x ∈ r)) (fun _ _ => True) (a := ()) rfl trivial (fun _ i hi _ => ?_) fun _ _ => ?_)
 ·unfold law06_has_b2
  rw [if_pos (by simpa using hi), ix_lt hi, Option.bind_some]
  by_cases e : x = l[i]
  ·right; rw [if_pos (by simpa using e), decide_eq_true (by rw [e]; exact List.mem_cons_self)]
  ·left; rw [if_neg (by simpa using e), w64s' hi (by omega)]
   exact ⟨(), rfl, by simp only [List.mem_cons, e, false_or], trivial⟩
 ·unfold law06_has_b2
  rw [if_neg (by simp)]; rfl
theorem takenS_len (h : api_Harbour) (c : api_Call) : ∀ (ts : List api_Span) (i : Nat), (takenS h c i ts).length ≤ h.Berths.length * ts.length
 | [], i => by simp [takenS]
 | t :: r, i => by
  have := takenS_len h c r (i + 1)
  have := takeRow_len h c i t h.Berths
  simp only [takenS, List.length_append, List.length_cons, Nat.mul_succ]; omega
theorem taken_len {h : api_Harbour} (hg : GoodH h) (c : api_Call) : (takenS h c 0 h.Tides).length ≤ 72 := by
 have := takenS_len h c h.Tides 0
 have : h.Berths.length * h.Tides.length ≤ 6 * 12 := Nat.mul_le_mul hg.nb hg.nt
 omega
theorem Slots_eq {h : api_Harbour} (hh : LenH h) (e : checkHS h = 0) {c : api_Call} (hc : rightB c = true) : berth_Slots h c = some ((takenS h c 0 h.Tides).map (·.1), 0) := by
 unfold berth_Slots
 rw [CheckH_good hh e, Option.bind_some, if_neg (by simp), rightC_eq, hc, if_neg (by simp), taken_eq (GoodH.of hh e) (GoodC.of hc)]
 rfl
theorem mem_keys {h : api_Harbour} {c : api_Call} {x : api_Slot} : x ∈ (takenS h c 0 h.Tides).map (·.1) ↔ ∃ (j : Nat) (hj : j < h.Tides.length), ∃ b ∈ h.Berths, x = ⟨(j : Int), b.ID⟩ ∧ (whenS h c h.Tides[j] b).2 = true := by
 rw [List.mem_map]
 constructor
 ·rintro ⟨⟨y, s⟩, hy, rfl⟩
  obtain ⟨j, hj, b, hb, q1, q2, _⟩ := mem_takenS.1 hy
  exact ⟨j, hj, b, hb, by simpa using q1, q2⟩
 ·rintro ⟨j, hj, b, hb, rfl, q⟩
  exact ⟨(_, _), mem_takenS.2 ⟨j, hj, b, hb, by simp, q, rfl⟩, rfl⟩
/-- A ship that lies less deep can take what she could take. -/
theorem when_mono {h : api_Harbour} (hg : GoodH h) {c d : api_Call} {t : api_Span} {b : api_Berth} (ht : t ∈ h.Tides) (hF : 0 ≤ c.From) (hL : 1 ≤ c.Long) (e1 : d.From = c.From) (e2 : d.To = c.To) (e3 : d.Long = c.Long) (e4 : d.Draught ≤ c.Draught) (q : (whenS h c t b).2 = true) : (whenS h d t b).2 = true := by
 obtain ⟨w1, w2, w3, w4⟩ := when_true hg ht hF hL q
 refine when_can hg ht (by omega) (by omega) (a := (whenS h c t b).1.Lo) (by omega) (by omega) fun m h0 h1 => ?_
 have := w4 m h0 (by omega)
 unfold need at *; omega
def canA (h : api_Harbour) (t : api_Span) (b : api_Berth) (long d : Int) : Bool := (whenS h ⟨0, d, 0, 1048576, long⟩ t b).2
theorem Allow_spec {h : api_Harbour} (hh : LenH h) (e : checkHS h = 0) {b : api_Berth} (hb : b ∈ h.Berths) {j : Nat} (hj : j < h.Tides.length) {long : Int} (l0 : 1 ≤ long) (l1 : long ≤ 1440) :
  ∃ n g, berth_Allow h ⟨(j : Int), b.ID⟩ long = some (n, g) ∧ ((g = 5 ∧ ∀ d, 0 ≤ d → canA h h.Tides[j] b long d = false) ∨ (g = 0 ∧ ∀ d, 0 ≤ d → d ≤ 8000 → (canA h h.Tides[j] b long d = true ↔ d ≤ n))) := by
 have hg := GoodH.of hh e
 have mono : ∀ d d' : Int, d' ≤ d → canA h h.Tides[j] b long d = true → canA h h.Tides[j] b long d' = true := fun d d' h1 h2 => when_mono hg (List.getElem_mem hj) (c := ⟨0, d, 0, 1048576, long⟩) (Int.le_refl _) l0 rfl rfl rfl h1 h2
 have a1 : ∀ d : Int, 0 ≤ d → d ≤ 8000 → berth_Allow_1 d h long ⟨(j : Int), b.ID⟩ b = some (canA h h.Tides[j] b long d) := fun d h0 h1 => by
  unfold berth_Allow_1
  rw [when_eq (t := h.Tides[j]) hg (by rw [ix_lt hj]) hb h0 h1 (Int.le_refl _) l0 l1, Option.bind_some]; rfl
 unfold berth_Allow
 rw [CheckH_good hh e, Option.bind_some, if_neg (by simp), slot_eq hg hb hj, Option.bind_some, if_neg (by simp), if_neg (by simp [berth_within]; omega)]
 simp only
 rw [a1 0 (Int.le_refl _) (by decide), Option.bind_some]
 by_cases h0 : canA h h.Tides[j] b long 0 = true
 ·rw [if_neg (by simp [h0])]
  obtain ⟨r, h1, h2⟩ := lp_meas (body := berth_Allow_b2 h ⟨(j : Int), b.ID⟩ long (b, true)) (s0 := (0, 8000)) (fun s => 0 ≤ s.1 ∧ s.1 ≤ s.2 ∧ s.2 ≤ 8000 ∧ canA h h.Tides[j] b long s.1 = true ∧ ∀ d, s.2 < d → d ≤ 8000 → canA h h.Tides[j] b long d = false) (fun s => (s.2 - s.1).toNat)
   (fun r => r.2 = 0 ∧ ∀ d, 0 ≤ d → d ≤ 8000 → (canA h h.Tides[j] b long d = true ↔ d ≤ r.1)) (by decide) ⟨Int.le_refl _, by decide, Int.le_refl _, h0, fun d h1 h2 => by omega⟩ fun s hI => by
    obtain ⟨lo, hi⟩ := s
    obtain ⟨i1, i2, i3, i4, i5⟩ := hI
    simp only at i1 i2 i3 i4 i5
    unfold berth_Allow_b2
    simp only
    by_cases hlt : lo < hi
    ·left
     have eq : quo (w64 (w64 (lo + hi) + 1)) 2 = some ((lo + hi + 1) / 2) := by
      unfold quo
      rw [if_neg (by decide), w64_id (n := lo + hi) (by omega) (by omega), w64_id (n := lo + hi + 1) (by omega) (by omega), Int.tdiv_eq_ediv_of_nonneg (by omega), w64_id (by omega) (by omega)]
     rw [if_pos (by simpa using hlt), eq, Option.bind_some, a1 _ (by omega) (by omega), Option.bind_some]
     unfold berth_Allow_j3
     by_cases hm : canA h h.Tides[j] b long ((lo + hi + 1) / 2) = true
     ·rw [if_pos hm]
      exact ⟨_, rfl, ⟨by simp only; omega, by simp only; omega, i3, hm, i5⟩, by simp only; omega⟩
     ·rw [if_neg hm, w64_id (by omega) (by omega)]
      refine ⟨_, rfl, ⟨i1, by simp only; omega, by simp only; omega, i4, fun d h1 h2 => ?_⟩, by simp only; omega⟩
      simp only at h1
      cases hd : canA h h.Tides[j] b long d with
      | false => rfl
      | true => exact absurd (mono d _ (by omega) hd) hm
    ·right
     rw [if_neg (by simpa using hlt)]
     refine ⟨(lo, 0), rfl, rfl, fun d h1 h2 => ⟨fun q => ?_, fun q => mono _ _ q i4⟩⟩
     simp only
     refine Int.not_lt.1 fun w => ?_
     rw [i5 d (by omega) h2] at q; cases q
  exact ⟨r.1, r.2, h1, .inr h2⟩
 ·rw [if_pos (by simpa using h0)]
  refine ⟨0, 5, rfl, .inl ⟨rfl, fun d hd => ?_⟩⟩
  cases hd2 : canA h h.Tides[j] b long d with
  | false => rfl
  | true => exact absurd (mono d 0 hd hd2) h0
theorem Height_in {h : api_Harbour} (hg : GoodH h) {n : Int} (h0 : 0 ≤ n) (h1 : n ≤ 1048576) : tide_Height h.Water n = some (hgt h.Water n, 0) := by
 rw [Height_eq _ hg.lw]
 unfold heightS
 rw [if_pos hg.c, if_pos ⟨h0, h1⟩]
end Go.Mx
