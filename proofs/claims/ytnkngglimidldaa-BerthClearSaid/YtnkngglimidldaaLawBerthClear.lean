/- BerthClear: the plain law. Conditions: none. -/
import Derived.Test.YtnkngglimidldaaLawYj
import Derived.Test.YtnkngglimidldaaLawBerthSan
set_option linter.unusedVariables false
set_option linter.unusedSimpArgs false
namespace Go.Mx

theorem clear_true {h : api_Harbour} (hh : LenH h) (e : checkHS h = 0) {c : api_Call} (hc : rightB c = true) {x : api_Stay} {j : Nat} (hj : j < h.Tides.length) {b : api_Berth} (hb : b ∈ h.Berths) (e1 : x.Slot = ⟨(j : Int), b.ID⟩) (e2 : (whenS h c h.Tides[j] b).2 = true) (e3 : x.Span = (whenS h c h.Tides[j] b).1) : law06_clear h c x = some true := by
 have hg := GoodH.of hh e
 have gc := GoodC.of hc
 obtain ⟨t0, t1, t2, t3⟩ := hg.ts _ (List.getElem_mem hj)
 obtain ⟨w1, w2, w3, w4⟩ := when_true hg (List.getElem_mem hj) gc.f0 gc.l0 e2
 rw [← e3] at w1 w2 w3 w4
 have := gc.f0; have := gc.l0; have := gc.l1
 have ht : timedB x.Span = true := by simp only [timedB, decide_eq_true_eq]; omega
 have hnb := hg.nb
 unfold law06_clear
 rw [e1]
 simp only
 rw [ix_lt hj, Option.bind_some, Touch_clear hh e hb gc.d0 gc.d1 ht w4, Option.bind_some, w64_id (n := x.Span.Hi - x.Span.Lo) (by omega) (by omega), w64_id (by omega) (by omega), if_neg (by simp; omega)]
 refine lp_all h.Berths (by omega) true (fun i hi => ?_) (by unfold law06_clear_b2; rw [if_neg (by simp)]; rfl)
 have hj3 : law06_clear_j3 (i : Int) = some (.inl ((i + 1 : Nat) : Int)) := by unfold law06_clear_j3; rw [w64s' hi (by omega)]
 unfold law06_clear_b2
 rw [if_pos (by simpa using hi), ix_lt hi, Option.bind_some, e1]
 by_cases hid : h.Berths[i].ID = b.ID
 ·have hbi := berth_uniq hg (List.getElem_mem hi) hb hid
  rw [if_neg (by simp [hid]), hbi]
  refine lp_span (lo := x.Span.Lo) (hi := x.Span.Hi) (by omega) (by omega) (fun (_ : Unit) n => n) (fun _ _ => Sum.inl ((i + 1 : Nat) : Int)) (fun _ _ => True) (a := ()) rfl trivial (fun _ n h0 h1 _ => ?_) fun _ _ => ?_
  ·obtain ⟨b0, b1, b2, b3⟩ := hg.bs b hb
   have hgt1 := hgt_bound hg.g n
   have k0 := hg.k0; have k1 := hg.k1
   have d0 := gc.d0; have d1 := gc.d1
   have hn := w4 n h0 h1
   unfold need at hn
   unfold law06_clear_b4
   rw [if_pos (by simpa using h1), Height_in hg (by omega) (by omega), Option.bind_some, w64_id (n := b.Depth + _) (by omega) (by omega), w64_id (n := c.Draught + h.Keel) (by omega) (by omega), if_neg (by simp; omega), w64_id (by omega) (by omega)]
   exact ⟨(), rfl, rfl, trivial⟩
  ·unfold law06_clear_b4
   rw [if_neg (by rw [decide_eq_true_eq]; omega), hj3]; rfl
 ·rw [if_pos (by simpa using hid), hj3]
theorem slots_true {h : api_Harbour} (hh : LenH h) (e : checkHS h = 0) {c : api_Call} (hc : rightB c = true) {less : Int} (l0 : 0 ≤ less) (l1 : less ≤ 255) : law06_slots h c less = some true := by
 have hg := GoodH.of hh e
 have gc := GoodC.of hc
 have hnt := hg.nt; have hnb := hg.nb
 have d0 := gc.d0; have d1 := gc.d1
 have hd : rightB ⟨c.ID, max 0 (c.Draught - less), c.From, c.To, c.Long⟩ = true := by
  simp only [rightB, decide_eq_true_eq] at hc ⊢; omega
 unfold law06_slots
 rw [Slots_eq hh e hc, Option.bind_some, w64_id (by omega) (by omega), Slots_eq hh e hd, Option.bind_some, if_neg (by simp)]
 have tl := taken_len hg c
 have tl2 := taken_len hg ⟨c.ID, max 0 (c.Draught - less), c.From, c.To, c.Long⟩
 refine lp_all ((takenS h c 0 h.Tides).map (·.1)) (by simp; omega) true (fun i hi => ?_) ?_
 ·unfold law06_slots_b7
  simp only
  rw [if_pos (by simpa using hi), ix_lt hi, Option.bind_some, has_eq _ (by simp; omega), Option.bind_some, if_neg ?_, w64s' hi (by simp; omega)]
  simp only [Bool.not_eq_true', decide_eq_false_iff_not, Classical.not_not]
  obtain ⟨j, hj, b, hb, q1, q2⟩ := mem_keys.1 (List.getElem_mem hi)
  rw [q1]
  exact mem_keys.2 ⟨j, hj, b, hb, rfl, when_mono hg (List.getElem_mem hj) gc.f0 gc.l0 rfl rfl rfl (by simp only; omega) q2⟩
 ·unfold law06_slots_b7
  simp only
  rw [if_neg (by simp)]
  unfold law06_slots_j1
  rw [lp_all h.Tides (by omega) true (fun i hi => ?_) (by unfold law06_slots_b3; rw [if_neg (by simp)]; rfl)]
  ·rfl
  ·have hj4 : law06_slots_j4 (i : Int) = some (.inl ((i + 1 : Nat) : Int)) := by unfold law06_slots_j4; rw [w64s' hi (by omega)]
   unfold law06_slots_b3
   rw [if_pos (by simpa using hi), ix_lt hi, Option.bind_some]
   refine lp_all h.Berths (by omega) (Sum.inl ((i + 1 : Nat) : Int)) (fun k hk => ?_) (by unfold law06_slots_b5; rw [if_neg (by simp), hj4]; rfl)
   have hj6 : law06_slots_j6 (k : Int) = some (.inl ((k + 1 : Nat) : Int)) := by unfold law06_slots_j6; rw [w64s' hk (by omega)]
   have hb := List.getElem_mem hk
   unfold law06_slots_b5
   rw [if_pos (by simpa using hk), ix_lt hk, Option.bind_some]
   by_cases hw : h.Tides[i].Lo < c.From ∨ c.To < h.Tides[i].Hi
   ·rw [if_pos (by simpa using hw), hj6]
   ·rw [if_neg (by simpa using hw)]
    obtain ⟨n, g, a1, a2⟩ := Allow_spec hh e hb hi gc.l0 gc.l1
    obtain ⟨t0, t1, t2, t3⟩ := hg.ts _ (List.getElem_mem hi)
    have ew : (whenS h c h.Tides[i] h.Berths[k]).2 = canA h h.Tides[i] h.Berths[k] c.Long c.Draught := by
     unfold canA whenS
     simp only
     rw [show max h.Tides[i].Lo c.From = max h.Tides[i].Lo 0 by omega, show min h.Tides[i].Hi c.To = min h.Tides[i].Hi 1048576 by omega]
    have hm : ((⟨(i : Int), h.Berths[k].ID⟩ : api_Slot) ∈ (takenS h c 0 h.Tides).map (·.1)) ↔ canA h h.Tides[i] h.Berths[k] c.Long c.Draught = true := by
     rw [mem_keys, ← ew]
     constructor
     ·rintro ⟨j, hj, b, hb2, q1, q2⟩
      injection q1 with q3 q4
      have ej : j = i := by omega
      subst ej
      rw [berth_uniq hg hb hb2 q4]; exact q2
     ·intro q; exact ⟨i, hi, _, hb, rfl, q⟩
    rw [a1, Option.bind_some]
    have gt : (!((!decide (g = 0)) && (!decide (g = 5)))) = true := by rcases a2 with ⟨rfl, _⟩ | ⟨rfl, _⟩ <;> rfl
    simp only [gb, gt, if_true]
    rw [has_eq _ (by simp; omega), Option.bind_some, if_neg ?_, hj6]
    rcases a2 with ⟨rfl, a3⟩ | ⟨rfl, a3⟩
    ·rw [show decide ((⟨(i : Int), h.Berths[k].ID⟩ : api_Slot) ∈ (takenS h c 0 h.Tides).map (·.1)) = false from decide_eq_false (fun q => by rw [hm, a3 _ d0] at q; cases q)]; simp
    ·rw [show decide ((⟨(i : Int), h.Berths[k].ID⟩ : api_Slot) ∈ (takenS h c 0 h.Tides).map (·.1)) = decide (c.Draught ≤ n) from decide_eq_decide.2 (hm.trans (a3 _ d0 d1))]
     simp
theorem holds_BerthClear {h : api_Harbour} {l : List api_Call} {less : Int} (h0 : ok_api_Harbour h) (h1 : ok_30 l) (h2 : OkI .u8 less) : law06_BerthClear h l less = some true := by
 have hh := LenH.of h0
 have hl := h1.1
 have hless := h2.u8
 obtain ⟨y, hy⟩ := small_some h hh
 unfold law06_BerthClear
 rw [hy, Option.bind_some, sanity06]
 split
 ·rfl
 ·rename_i hsm
  unfold berth_Plan
  rw [CheckCalls_eq h hh l hl, Option.bind_some]
  by_cases ec : checkCS h l = 0
  ·have hg := GoodL.of hh ec
   have eh : checkHS h = 0 := by
    unfold checkCS at ec
    split at ec
    ·assumption
    ·contradiction
   have hB := laid_ok hg
   have hn := hg.n
   obtain ⟨out0, want, b1, b2⟩ := best_spec hB (fixed := []) (by simp)
   obtain ⟨f, p1, p2⟩ := plan_eq hB b2 b1
   rw [if_neg (by simp [ec]), laid_eq hg.h hn (fun c hc => GoodC.of (hg.r c hc)), Option.bind_some, p2, Option.bind_some, Option.bind_some, if_neg (by simp)]
   have hfl := p1.l
   have hpl := planR_len (laidS h l) f 0
   have cl : (laidS h l).calls.length = l.length := rfl
   refine lp_all (planR (laidS h l) 0 f) (by omega) true (fun i hi => ?_) ?_
   ·have hj5 : law06_BerthClear_j5 (i : Int) = some (.inl ((i + 1 : Nat) : Int)) := by unfold law06_BerthClear_j5; rw [w64s' hi (by omega)]
    unfold law06_BerthClear_b4
    rw [if_pos (by simpa using hi), ix_lt hi, Option.bind_some]
    refine lp_all l hl (Sum.inl ((i + 1 : Nat) : Int)) (fun k hk => ?_) (by unfold law06_BerthClear_b6; rw [if_neg (by simp), hj5]; rfl)
    unfold law06_BerthClear_b6
    rw [if_pos (by simpa using hk), ix_lt hk, Option.bind_some]
    by_cases hid : l[k].ID = (planR (laidS h l) 0 f)[i].Call
    ·obtain ⟨r, q1, q2⟩ := mem_planR (List.getElem_mem hi)
     rw [Nat.zero_add] at q2
     generalize (planR (laidS h l) 0 f)[i] = x at *
     have hrl : r < l.length := by omega
     rcases p1.v r (by omega) with w | ⟨m, w1, w2, w3⟩
     ·rw [w, stayB, if_pos (by decide)] at q2; cases q2
     ·rw [w1, stayB, if_neg (by omega), List.mem_singleton] at q2
      have ek : k = r := by
       have : x.Call = l[r].ID := by rw [q2]; show ((laidS h l).calls.getD r default).ID = _; rw [show (laidS h l).calls = l from rfl, getD_lt hrl]
       rw [this] at hid
       rcases Nat.lt_trichotomy k r with z | z | z
       ·exact absurd hid (List.pairwise_iff_getElem.1 hg.d k r hk hrl z)
       ·exact z
       ·exact absurd hid.symm (List.pairwise_iff_getElem.1 hg.d r k hrl hk z)
      subst ek
      have em : ((m : Int)).toNat = m := by omega
      rw [em] at q2
      have ecan : (laidS h l).can.getD k [] = takenS h l[k] 0 h.Tides := by
       rw [getD_lt (by simp [laidS]; omega)]; simp [laidS]
      have w3' := w3
      unfold canB at w3'
      rw [ecan] at w3' q2
      have hms : (laidS h l).slots.getD m default ∈ slotsS h 0 h.Tides := by
       rw [getD_lt w2]; exact List.getElem_mem w2
      obtain ⟨j, hj, b, hb, q4⟩ := mem_slotsS.1 hms
      rw [Nat.zero_add] at q4
      rw [q4, lookM_taken hg.h hj hb] at w3' q2
      by_cases hw : (whenS h l[k] h.Tides[j] b).2 = true
      ·rw [if_pos hw] at q2
       have hc := clear_true hh eh (hg.r _ (List.getElem_mem hk)) hj hb (x := x) (by rw [q2]) hw (by rw [q2]; rfl)
       simp only [gb, hid, decide_true, if_true]
       rw [hc, Option.bind_some, if_neg (by simp), w64s' hk hl]
      ·rw [if_neg hw] at w3'; cases w3'
    ·simp only [gb, hid, decide_false, Bool.false_eq_true, if_false]
     rw [Option.bind_some, if_neg (by simp), w64s' hk hl]
   ·unfold law06_BerthClear_b4
    rw [if_neg (by simp)]
    unfold law06_BerthClear_j1
    rw [lp_all l hl true (fun k hk => ?_) (by unfold law06_BerthClear_b3; rw [if_neg (by simp)]; unfold law06_BerthClear_j2; rw [sanity06]; rfl)]
    ·rfl
    ·unfold law06_BerthClear_b3
     rw [if_pos (by simpa using hk), ix_lt hk, Option.bind_some, w64_nat less (by omega) (by omega), slots_true hh eh (hg.r _ (List.getElem_mem hk)) (by omega) (by omega), Option.bind_some, if_neg (by simp), w64s' hk hl]
  ·rw [if_pos (by simp [ec]), Option.bind_some, if_pos (by simp [ec])]
   rfl
end Go.Mx
