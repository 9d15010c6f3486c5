/- Plain laws, berths: Full and CheckFull; CheckPlan. Conditions: none. -/
import Derived.Test.YtnkngglimidldaaLawYm
import Derived.Test.YtnkngglimidldaaLawYj
set_option linter.unusedVariables false
set_option linter.unusedSimpArgs false
namespace Go.Mx
theorem Full_spec {h : api_Harbour} {l : List api_Call} (hh : LenH h) (hl : Len l) (ec : checkCS h l = 0) {m0 : Nat} (hX : MaxM (laidS h l) m0) :
  (m0 = l.length ∧ berth_Full h l = some (⟨[], []⟩, false, 0)) ∨ (m0 < l.length ∧ ∃ p, berth_Full h l = some (crowdS (laidS h l) p, true, 0) ∧ ((List.range l.length).filter p).length = (nbL (laidS h l) p).length + (l.length - m0)) := by
 have hg := GoodL.of hh ec
 have hn := hg.n
 have hB := laid_ok hg
 have ns := hB.ns
 have ecl : (laidS h l).calls = l := rfl
 obtain ⟨m, out, want, b1, b2, b3, b4, b5, b6, b7⟩ := most_eq hB (laid_old h l)
 have em := hX.uniq b4
 subst em
 obtain ⟨w0, w1⟩ := best_nil hB b2
 have hM := mat_of b2.a w1
 have hol : out.length = l.length := b2.l
 have hnn : ∀ r, r < l.length → 0 ≤ gI out r := b2.nn
 unfold berth_Full
 rw [CheckCalls_eq h hh l hl, Option.bind_some, if_neg (by simp [ec]), laid_eq hg.h hg.n (fun c hc => GoodC.of (hg.r c hc)), Option.bind_some, b1, Option.bind_some]
 obtain ⟨⟨x, m, own⟩, ⟨rfl, h1, h2, h3⟩, h4⟩ := lp_exit (body := berth_Full_b8 l (laidS h l) (out, want)) (X := fun s => berth_Full_j1 l (laidS h l) s.2.1 s.2.2) (s0 := (0, [], []))
  (fun j s => s.1 = (j : Int) ∧ (∀ (i : Nat), inM s.2.1 i = decide (i < j ∧ ((laidS h l).slots.length : Int) ≤ gI out i)) ∧ (s.2.1 = [] ↔ ∀ i, i < j → gI out i < ((laidS h l).slots.length : Int)) ∧ ∀ (k : Nat) (v : Int), lookM (k : Int) s.2.2 = some v ↔ ∃ i : Nat, (i < j ∧ gI out i < ((laidS h l).slots.length : Int) ∧ gI out i = (k : Int)) ∧ v = (i : Int)) l.length (by omega)
  ⟨rfl, fun i => by simp [inM, lookM], ⟨fun _ i hi => by omega, fun _ => rfl⟩, fun k v => ⟨fun q => (by cases q), fun ⟨i, q, _⟩ => by omega⟩⟩
  (fun j s hj hI => by
   obtain ⟨x, m, own⟩ := s
   simp only at hI
   obtain ⟨rfl, h1, h2, h3⟩ := hI
   have hj9 : ∀ a b, berth_Full_j9 (j : Int) a b = some (.inl (((j + 1 : Nat) : Int), a, b)) := fun a b => by unfold berth_Full_j9; rw [w64_id (by omega) (by omega)]; rfl
   unfold berth_Full_b8
   simp only
   rw [if_pos (by simp; omega), ix_gI (by omega), Option.bind_some]
   by_cases e : ((laidS h l).slots.length : Int) ≤ gI out j
   ·rw [if_pos (by simpa using e), hj9]
    refine ⟨_, rfl, rfl, fun i => ?_, ⟨fun q => absurd q (putM_ne _ _ _ _), fun q => absurd (q j (by omega)) (by omega)⟩, fun k v => ?_⟩
    ·simp only
     rw [inM_put, h1 i]
     by_cases c : i = j
     ·subst c; simp [e]
     ·rw [decide_eq_false c, Bool.false_or, decide_eq_decide]
      constructor
      ·rintro ⟨a, b⟩; exact ⟨by omega, b⟩
      ·rintro ⟨a, b⟩; exact ⟨by omega, b⟩
    ·simp only
     rw [h3 k v]
     constructor
     ·rintro ⟨i, ⟨a, b, c⟩, d⟩; exact ⟨i, ⟨by omega, b, c⟩, d⟩
     ·rintro ⟨i, ⟨a, b, c⟩, d⟩
      refine ⟨i, ⟨?_, b, c⟩, d⟩
      by_cases w : i = j
      ·subst w; omega
      ·omega
   ·have hnj := hnn j hj
    rw [if_neg (by simpa using e), hj9]
    refine ⟨_, rfl, rfl, fun i => ?_, ?_, fun k v => ?_⟩
    ·simp only
     rw [h1 i, decide_eq_decide]
     constructor
     ·rintro ⟨a, b⟩; exact ⟨by omega, b⟩
     ·rintro ⟨a, b⟩
      refine ⟨?_, b⟩
      by_cases w : i = j
      ·subst w; omega
      ·omega
    ·simp only
     rw [h2]
     constructor
     ·intro q i hi
      by_cases w : i = j
      ·subst w; omega
      ·exact q i (by omega)
     ·intro q i hi; exact q i (by omega)
    ·simp only
     rw [lookM_put]
     by_cases c : (k : Int) = gI out j
     ·rw [if_pos c]
      constructor
      ·intro q; cases q; exact ⟨j, ⟨by omega, by omega, c.symm⟩, rfl⟩
      ·rintro ⟨i, ⟨a, b, d⟩, rfl⟩
       have : i = j := b2.a.inj i j (show i < l.length by omega) hj (show (gI out i).toNat = (gI out j).toNat by omega)
       rw [this]
     ·rw [if_neg c, h3 k v]
      constructor
      ·rintro ⟨i, ⟨a, b, d⟩, f⟩; exact ⟨i, ⟨by omega, b, d⟩, f⟩
      ·rintro ⟨i, ⟨a, b, d⟩, f⟩
       refine ⟨i, ⟨?_, b, d⟩, f⟩
       by_cases w : i = j
       ·subst w; exact absurd d.symm c
       ·omega)
  (fun s hI => by
   obtain ⟨x, m, own⟩ := s
   simp only at hI
   obtain ⟨rfl, _⟩ := hI
   unfold berth_Full_b8
   simp only
   rw [if_neg (by simp; omega)])
 simp only at h1 h2 h3 h4
 rw [h4]
 unfold berth_Full_j1
 have hmu : ∀ i k : Nat, muOf (laidS h l) (fun r => (gI out r).toNat) i = some k ↔ i < l.length ∧ gI out i < ((laidS h l).slots.length : Int) ∧ gI out i = (k : Int) := fun i k => by
  rw [muOf_some, ecl]
  constructor
  ·rintro ⟨a, b, c⟩; have := hnn i a; exact ⟨a, by omega, by omega⟩
  ·rintro ⟨a, b, c⟩; exact ⟨a, by omega, by omega⟩
 have hsplit := len_split (fun r => (muOf (laidS h l) (fun r => (gI out r).toNat) r).isSome) (List.range l.length)
 rw [List.length_range] at hsplit
 have hdl : ((List.range l.length).filter fun r => (muOf (laidS h l) (fun r => (gI out r).toNat) r).isSome).length = m0 := b6.symm
 have hnone : ∀ i, i < l.length → (muOf (laidS h l) (fun r => (gI out r).toNat) i = none ↔ ((laidS h l).slots.length : Int) ≤ gI out i) := fun i hi => by
  have := hnn i hi
  unfold muOf
  constructor
  ·intro q
   by_cases c : i < (laidS h l).calls.length ∧ (gI out i).toNat < (laidS h l).slots.length
   ·rw [if_pos c] at q; cases q
   ·rw [ecl] at c; omega
  ·intro q
   rw [if_neg (fun z => by have : (gI out i).toNat < (laidS h l).slots.length := z.2; omega)]
 by_cases e : m = []
 ·left
  have hall := h2.1 e
  have hz : ((List.range l.length).filter fun r => !(muOf (laidS h l) (fun r => (gI out r).toNat) r).isSome) = [] := by
   rw [List.filter_eq_nil_iff]
   intro r hr
   rw [List.mem_range] at hr
   have := hall r hr
   cases q : muOf (laidS h l) (fun r => (gI out r).toNat) r with
   | none => have := (hnone r hr).1 q; omega
   | some k => simp
  rw [hz] at hsplit
  refine ⟨by simp only [List.length_nil] at hsplit; omega, ?_⟩
  rw [if_pos (by simp [e])]
 ·right
  have hlt : m0 < l.length := by
   refine Nat.lt_of_not_le fun w => ?_
   have hz : ((List.range l.length).filter fun r => !(muOf (laidS h l) (fun r => (gI out r).toNat) r).isSome).length = 0 := by omega
   have hz2 := List.length_eq_zero_iff.1 hz
   rw [List.filter_eq_nil_iff] at hz2
   refine e (h2.2 fun i hi => ?_)
   have := hz2 i (List.mem_range.2 hi)
   refine Int.lt_of_not_ge fun w2 => ?_
   rw [(hnone i hi).2 w2] at this
   exact this rfl
  refine ⟨hlt, ?_⟩
  rw [if_neg (by simp; exact e)]
  have hA : AltI (laidS h l) (muOf (laidS h l) (fun r => (gI out r).toNat)) m0 m := by
   refine ⟨fun i hi h0 => ?_, fun s hs hs2 => ⟨_, hM, by omega, ?_, fun _ _ => rfl, fun r k q => ⟨r, q⟩⟩⟩
   ·rw [h1 i, decide_eq_true_eq]; exact ⟨hi, (hnone i hi).1 h0⟩
   ·rw [h1 s, decide_eq_true_eq] at hs2
    exact (hnone s hs).2 hs2.2
  obtain ⟨m', a1, a2, a3⟩ := full_loop hg hM (own := own) (fun k v => by
   rw [h3 k v]
   constructor
   ·rintro ⟨i, q, r⟩; exact ⟨i, (hmu i k).2 q, r⟩
   ·rintro ⟨i, q, r⟩; exact ⟨i, (hmu i k).1 q, r⟩) hA
  refine ⟨inM m', ?_, crowd_count hX hM b6.symm a1 a2⟩
  rw [a3]
  unfold berth_Full_j2
  rw [crowd_eq hg, Option.bind_some]
theorem crowd_lens (b : berth_board) (p : Nat → Bool) : (crowdS b p).Calls.length = ((List.range b.calls.length).filter p).length ∧ (crowdS b p).Slots.length = (nbL b p).length := by
 unfold crowdS idsL
 simp only [List.length_map]
 rw [(srtI_spec _).1.length_eq, List.length_map]
 constructor <;> first | rfl | trivial
theorem mem_crowd {b : berth_board} {p : Nat → Bool} {x : Int} : x ∈ (crowdS b p).Calls ↔ ∃ i, i < b.calls.length ∧ p i = true ∧ (b.calls.getD i default).ID = x := by
 unfold crowdS idsL
 simp only
 rw [(srtI_spec _).1.mem_iff, List.mem_map]
 constructor
 ·rintro ⟨i, hi, rfl⟩
  rw [List.mem_filter, List.mem_range] at hi
  exact ⟨i, hi.1, hi.2, rfl⟩
 ·rintro ⟨i, h1, h2, rfl⟩
  exact ⟨i, List.mem_filter.2 ⟨List.mem_range.2 h1, h2⟩, rfl⟩
theorem full_own {h : api_Harbour} {l : List api_Call} (hg : GoodL h l) {p : Nat → Bool} {m0 : Nat} (hm : m0 < l.length) (hc : ((List.range l.length).filter p).length = (nbL (laidS h l) p).length + (l.length - m0)) : fullS (laidS h l) (crowdS (laidS h l) p) = ((l.length : Int) - (m0 : Int), 0) := by
 obtain ⟨l1, l2⟩ := crowd_lens (laidS h l) p
 have ecl : (laidS h l).calls = l := rfl
 rw [ecl] at l1
 have hq : crowdS (laidS h l) (fun i => decide (i < (laidS h l).calls.length ∧ ((laidS h l).calls.getD i default).ID ∈ (crowdS (laidS h l) p).Calls)) = crowdS (laidS h l) p := crowdS_congr fun i hi => by
  rw [Bool.eq_iff_iff, decide_eq_true_eq, mem_crowd]
  constructor
  ·rintro ⟨_, j, h1, h2, h3⟩
   have hi' : i < l.length := hi
   have hj' : j < l.length := h1
   rw [ecl, getD_lt hi', getD_lt hj'] at h3
   rcases Nat.lt_trichotomy i j with w | w | w
   ·exact absurd h3.symm (List.pairwise_iff_getElem.1 hg.d i j hi' hj' w)
   ·rw [w]; exact h2
   ·exact absurd h3 (List.pairwise_iff_getElem.1 hg.d j i hj' hi' w)
  ·intro q; exact ⟨hi, i, hi, q, rfl⟩
 unfold fullS
 rw [hq, if_neg, l1, l2]
 ·rw [show ((((List.range l.length).filter p).length : Nat) : Int) - ((nbL (laidS h l) p).length : Int) = (l.length : Int) - (m0 : Int) by omega]
 ·rintro (z | z | z | z)
  ·rw [z] at l1; simp only [List.length_nil] at l1; omega
  ·exact z rfl
  ·exact z rfl
  ·omega
theorem full_bound {h : api_Harbour} {l : List api_Call} {m0 : Nat} (hX : MaxM (laidS h l) m0) (x : api_Crowd) (h2 : (fullS (laidS h l) x).2 = 0) : (fullS (laidS h l) x).1 ≤ (l.length : Int) - (m0 : Int) := by
 have ecl : (laidS h l).calls = l := rfl
 unfold fullS at h2 ⊢
 generalize hp : (fun i => decide (i < (laidS h l).calls.length ∧ ((laidS h l).calls.getD i default).ID ∈ x.Calls)) = p at *
 by_cases hc : x.Calls = [] ∨ x.Calls ≠ (crowdS (laidS h l) p).Calls ∨ x.Slots ≠ (crowdS (laidS h l) p).Slots ∨ x.Calls.length ≤ x.Slots.length
 ·rw [if_pos hc] at h2; cases h2
 ·rw [if_neg hc]
  simp only [not_or, ne_eq, Classical.not_not] at hc
  obtain ⟨c0, c1, c2, c3⟩ := hc
  obtain ⟨l1, l2⟩ := crowd_lens (laidS h l) p
  rw [← c1] at l1
  rw [← c2] at l2
  rw [l1, l2, ecl]
  obtain ⟨μ, a1, a2⟩ := hX.e
  have s1 := len_split p (List.range l.length)
  rw [List.length_range] at s1
  have s2 := len_split p (dom (laidS h l) μ)
  have s3 := sub_len (l := (dom (laidS h l) μ).filter fun x => !p x) (r := (List.range l.length).filter fun x => !p x) (List.Nodup.sublist List.filter_sublist (dom_nodup _ _)) fun r hr => by
   rw [List.mem_filter] at hr ⊢
   exact ⟨List.mem_range.2 (mem_dom.1 hr.1).1, hr.2⟩
  have key : ∀ r ∈ (dom (laidS h l) μ).filter p, ∃ k, μ r = some k ∧ (μ r).getD 0 = k := fun r hr => by
   rw [List.mem_filter, mem_dom] at hr
   cases e : μ r with
   | none => rw [e] at hr; cases hr.1.2
   | some k => exact ⟨k, rfl, rfl⟩
  have s4 := sub_len (l := ((dom (laidS h l) μ).filter p).map fun r => (μ r).getD 0) (r := nbL (laidS h l) p) ?_ ?_
  ·rw [List.length_map] at s4; omega
  ·rw [List.nodup_iff_pairwise_ne, List.pairwise_map]
   refine List.Pairwise.imp_of_mem (R := fun a b => a ≠ b) (fun {x y} hx hy hxy e => ?_) (List.nodup_iff_pairwise_ne.1 (List.Nodup.sublist List.filter_sublist (dom_nodup _ _)))
   obtain ⟨k, q1, q2⟩ := key x hx
   obtain ⟨k', q3, q4⟩ := key y hy
   exact hxy (a1.i x y k q1 (by rw [q3, ← q4, ← e, q2]))
  ·intro k hk
   rw [List.mem_map] at hk
   obtain ⟨r, hr, rfl⟩ := hk
   obtain ⟨k, q1, q2⟩ := key r hr
   obtain ⟨d1, d2, d3⟩ := a1.c r k q1
   rw [q2]
   unfold nbL
   rw [List.mem_filter, List.mem_range, List.any_eq_true]
   exact ⟨d2, r, List.mem_range.2 d1, by rw [d3, (List.mem_filter.1 hr).2]; rfl⟩
end Go.Mx
