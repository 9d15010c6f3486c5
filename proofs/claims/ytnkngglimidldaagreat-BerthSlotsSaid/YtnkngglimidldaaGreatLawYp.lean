/- Plain laws, berths: the specification's When, Allow and Slots. Conditions: none. -/
import Derived.Test.YtnkngglimidldaaGreatLawYo
import Derived.Test.YtnkngglimidldaaGreatLawYj
set_option linter.unusedVariables false
set_option linter.unusedSimpArgs false
namespace Go.Mx
def RunAt (H : Int → Int) (nd lo hi long a : Int) : Prop := lo ≤ a ∧ a + long - 1 ≤ hi ∧ ∀ m, a ≤ m → m ≤ a + long - 1 → nd ≤ H m
def FirstRun (H : Int → Int) (nd lo hi long : Int) (r : api_Span × Bool) : Prop := (∃ a, RunAt H nd lo hi long a ∧ (∀ a', RunAt H nd lo hi long a' → a ≤ a') ∧ r = (⟨a, a + long - 1⟩, true)) ∨ ((∀ a, ¬ RunAt H nd lo hi long a) ∧ r = (⟨0, 0⟩, false))
theorem FirstRun.uniq {H : Int → Int} {nd lo hi long : Int} {r r' : api_Span × Bool} (h : FirstRun H nd lo hi long r) (h' : FirstRun H nd lo hi long r') : r = r' := by
 rcases h with ⟨a, h1, h2, rfl⟩ | ⟨h1, rfl⟩
 ·rcases h' with ⟨b, h3, h4, rfl⟩ | ⟨h3, rfl⟩
  ·have := h2 b h3
   have := h4 a h1
   have e : a = b := by omega
   rw [e]
  ·exact absurd h1 (h3 a)
 ·rcases h' with ⟨b, h3, h4, rfl⟩ | ⟨h3, rfl⟩
  ·exact absurd h3 (h1 b)
  ·rfl
theorem nextS_first (long : Int) : ∀ l : List api_Span, (∃ x pre post, l = pre ++ x :: post ∧ nextS long l = (x, 0) ∧ long ≤ x.Hi - x.Lo + 1 ∧ ∀ y ∈ pre, y.Hi - y.Lo + 1 < long) ∨ ((nextS long l).2 = 5 ∧ ∀ x ∈ l, x.Hi - x.Lo + 1 < long)
 | [] => .inr ⟨rfl, fun x hx => by cases hx⟩
 | x :: r => by
  unfold nextS
  by_cases hc : long ≤ x.Hi - x.Lo + 1
  ·rw [if_pos hc]; exact .inl ⟨x, [], r, rfl, rfl, hc, fun y hy => by cases hy⟩
  ·rw [if_neg hc]
   rcases nextS_first long r with ⟨y, pre, post, h1, h2, h3, h4⟩ | ⟨h1, h2⟩
   ·refine .inl ⟨y, x :: pre, post, by rw [h1]; rfl, h2, h3, fun z hz => ?_⟩
    rcases List.mem_cons.1 hz with rfl | hz
    ·omega
    ·exact h4 z hz
   ·refine .inr ⟨h1, fun y hy => ?_⟩
    rcases List.mem_cons.1 hy with rfl | hy
    ·omega
    ·exact h2 y hy
theorem when_first {h : api_Harbour} (hg : GoodH h) {c : api_Call} {t : api_Span} {b : api_Berth} (ht : t ∈ h.Tides) (hF : 0 ≤ c.From) (hL : 1 ≤ c.Long) : FirstRun (hgt h.Water) (need h b c.Draught) (max t.Lo c.From) (min t.Hi c.To) c.Long (whenS h c t b) := by
 obtain ⟨t0, t1, t2, t3⟩ := hg.ts t ht
 unfold whenS
 by_cases hs : min t.Hi c.To < max t.Lo c.From
 ·rw [if_pos hs]
  exact .inr ⟨fun a h => by have := h.1; have := h.2.1; omega, rfl⟩
 ·rw [if_neg hs]
  obtain ⟨w1, w2⟩ := windowsS_zero (s := ⟨max t.Lo c.From, min t.Hi c.To⟩) hg.lw hg.c (need h b c.Draught) (by simp only; omega) (by simp only; omega) (by simp only; omega) (by simp only; omega)
  unfold nextT
  rw [if_pos w1, if_neg (show ¬ c.Long < 1 by omega)]
  generalize (windowsS h.Water ⟨max t.Lo c.From, min t.Hi c.To⟩ (need h b c.Draught)).1 = l at *
  have hblk : ∀ a, RunAt (hgt h.Water) (need h b c.Draught) (max t.Lo c.From) (min t.Hi c.To) c.Long a → ∃ x ∈ l, x.Lo ≤ a ∧ a + c.Long - 1 ≤ x.Hi := fun a ⟨r1, r2, r3⟩ => by
   obtain ⟨x, hx, x1, x2⟩ := w2.block (a := a) r1 (c.Long - 1).toNat (by simp only; omega) (fun m q0 q1 => r3 m q0 (by omega))
   exact ⟨x, hx, x1, by omega⟩
  rcases nextS_first c.Long l with ⟨x, pre, post, n1, n2, n3, n4⟩ | ⟨n1, n2⟩
  ·rw [n2, if_pos rfl]
   have hxl : x ∈ l := by rw [n1]; simp
   obtain ⟨p1, p2, p3, p4⟩ := w2.ins _ hxl
   simp only at p1 p3
   refine .inl ⟨x.Lo, ⟨p1, by omega, fun m h0 h1 => p4 m h0 (by omega)⟩, fun a' hr => ?_, rfl⟩
   obtain ⟨y, hy, y1, y2⟩ := hblk a' hr
   rw [n1] at hy
   rcases List.mem_append.1 hy with hy | hy
   ·have := n4 y hy; omega
   ·rcases List.mem_cons.1 hy with rfl | hy
    ·exact y1
    ·have hp := w2.gap
     rw [n1] at hp
     have := (List.pairwise_cons.1 (List.pairwise_append.1 hp).2.1).1 y hy
     omega
  ·rw [if_neg (by omega)]
   refine .inr ⟨fun a hr => ?_, rfl⟩
   obtain ⟨y, hy, y1, y2⟩ := hblk a hr
   have := n2 y hy
   omega
theorem rwhen_loop {h : api_Harbour} (hg : GoodH h) {c : api_Call} {t : api_Span} {b : api_Berth} (ht : t ∈ h.Tides) (hb : b ∈ h.Berths) {k : Nat} (hk : ix h.Berths (k : Int) = some b) (h0 : 0 ≤ c.Draught) (h1 : c.Draught ≤ 8000) (hF : 0 ≤ c.From) (hL : 1 ≤ c.Long) (hL2 : c.Long ≤ 1440) : Lp (ref06_when_b2 h c t (k : Int)) fuel (0, max t.Lo c.From) = some (whenS h c t b) := by
 obtain ⟨t0, t1, t2, t3⟩ := hg.ts t ht
 obtain ⟨b0, b1, b2, b3⟩ := hg.bs b hb
 have k0 := hg.k0; have k1 := hg.k1
 have hw := when_first hg (b := b) ht hF hL
 have hcmp : ∀ n : Int, decide (b.Depth + hgt h.Water n < w64 (c.Draught + h.Keel)) = decide (hgt h.Water n < need h b c.Draught) := fun n => by
  rw [w64_id (by omega) (by omega)]
  unfold need
  rw [Bool.eq_iff_iff, decide_eq_true_eq, decide_eq_true_eq]
  omega
 obtain ⟨r, q1, q2⟩ := lp_inv' (body := ref06_when_b2 h c t (k : Int)) (s0 := (0, max t.Lo c.From)) (fun (i : Nat) (s : Int × Int) => ∃ run n, s = (run, n) ∧ n = max t.Lo c.From + (i : Int) ∧ 0 ≤ run ∧ run < c.Long ∧ run ≤ (i : Int) ∧ (∀ m, n - run ≤ m → m < n → need h b c.Draught ≤ hgt h.Water m) ∧ (run = (i : Int) ∨ hgt h.Water (n - run - 1) < need h b c.Draught) ∧ ∀ a, RunAt (hgt h.Water) (need h b c.Draught) (max t.Lo c.From) (min t.Hi c.To) c.Long a → n ≤ a + c.Long - 1)
  (fun r => FirstRun (hgt h.Water) (need h b c.Draught) (max t.Lo c.From) (min t.Hi c.To) c.Long r) (min t.Hi c.To + 1 - max t.Lo c.From).toNat (by omega) ⟨0, _, rfl, by simp, Int.le_refl _, by omega, Int.le_refl _, fun m _ _ => by omega, .inl rfl, fun a ha => by have := ha.1; omega⟩ fun i s hi hI => by
   obtain ⟨run, n, rfl, e, i1, i2, i3, i4, i5, i6⟩ := hI
   unfold ref06_when_b2
   by_cases hle : n ≤ min t.Hi c.To
   ·simp only [hle, decide_true, if_true]
    rw [show max 0 (k : Int) = (k : Int) by omega, depth_eq hg hk hb (by omega) (by omega), Option.bind_some, hcmp]
    unfold ref06_when_j3
    by_cases hlow : hgt h.Water n < need h b c.Draught
    ·have nl : ¬ (0 : Int) = c.Long := by omega
     simp only [hlow, decide_true, if_true, nl, decide_false, Bool.false_eq_true, if_false]
     refine .inl ⟨by omega, _, rfl, 0, _, rfl, by rw [w64_id (by omega) (by omega)]; omega, Int.le_refl _, by omega, by omega, fun m h0 h1 => ?_, .inr ?_, fun a ha => ?_⟩
     ·rw [w64_id (by omega) (by omega)] at h0 h1; omega
     ·rw [w64_id (by omega) (by omega)]
      rw [show n + 1 - 0 - 1 = n by omega]; exact hlow
     ·rw [w64_id (by omega) (by omega)]
      have := i6 a ha
      by_cases ee : n = a + c.Long - 1
      ·have := ha.2.2 n (by omega) (by omega); omega
      ·omega
    ·simp only [hlow, decide_false, Bool.false_eq_true, if_false]
     rw [w64_id (n := run + 1) (by omega) (by omega), w64_id (n := n - c.Long) (by omega) (by omega), w64_id (n := n - c.Long + 1) (by omega) (by omega), w64_id (n := n + 1) (by omega) (by omega)]
     by_cases hfull : run + 1 = c.Long
     ·simp only [hfull, decide_true, if_true]
      refine .inr ⟨_, rfl, .inl ⟨n - c.Long + 1, ⟨by omega, by omega, fun m h0 h1 => ?_⟩, fun a' ha => ?_, ?_⟩⟩
      ·by_cases em : m = n
       ·rw [em]; omega
       ·exact i4 m (by omega) (by omega)
      ·have := i6 a' ha; omega
      ·rw [show n - c.Long + 1 + c.Long - 1 = n by omega]
     ·simp only [hfull, decide_false, Bool.false_eq_true, if_false]
      refine .inl ⟨by omega, _, rfl, run + 1, n + 1, rfl, by omega, by omega, by omega, by omega, fun m h0 h1 => ?_, ?_, fun a ha => ?_⟩
      ·by_cases em : m = n
       ·rw [em]; omega
       ·exact i4 m (by omega) (by omega)
      ·rcases i5 with i5 | i5
       ·left; omega
       ·right
        rw [show n + 1 - (run + 1) - 1 = n - run - 1 by omega]; exact i5
      ·have := i6 a ha
       by_cases ee : n = a + c.Long - 1
       ·have g1 := ha.1
        rcases i5 with i5 | i5
        ·omega
        ·have := ha.2.2 (n - run - 1) (by omega) (by omega)
         omega
       ·omega
   ·simp only [hle, decide_false, Bool.false_eq_true, if_false]
    refine .inr ⟨(⟨0, 0⟩, false), rfl, .inr ⟨fun a ha => ?_, rfl⟩⟩
    have := i6 a ha
    have := ha.2.1
    omega
 rw [q1, hw.uniq q2]
def slotB (h : api_Harbour) (x : api_Slot) : Option api_Berth := if 0 ≤ x.Tide ∧ x.Tide < h.Tides.length then h.Berths.find? (fun b => decide (b.ID = x.Berth)) else none
theorem findI {h : api_Harbour} (id : Int) : (firstI (fun b : api_Berth => decide (b.ID = id)) h.Berths 0 = -1 ∧ h.Berths.find? (fun b => decide (b.ID = id)) = none) ∨ ∃ (i : Nat) (hi : i < h.Berths.length), firstI (fun b : api_Berth => decide (b.ID = id)) h.Berths 0 = (i : Int) ∧ h.Berths.find? (fun b => decide (b.ID = id)) = some h.Berths[i] := by
 rcases firstI_spec (fun b : api_Berth => decide (b.ID = id)) h.Berths 0 with ⟨h1, h2⟩ | ⟨i, h1, h2, h3, h4⟩
 ·left
  exact ⟨h1, List.find?_eq_none.2 fun x hx => by rw [h2 x hx]; simp⟩
 ·right
  refine ⟨i, h2, by rw [show (0 : Int) = ((0 : Nat) : Int) from rfl, h1, Nat.zero_add], ?_⟩
  rw [List.find?_eq_some_iff_getElem]
  exact ⟨h3, i, h2, rfl, fun j hj => by simpa using h4 j hj⟩
theorem slot_gen {h : api_Harbour} (hg : GoodH h) (x : api_Slot) : berth_slot h x = some (match slotB h x with | some b => (b, true) | none => (⟨0, 0⟩, false)) ∧ ref06_slot h x = some (slotB h x).isSome := by
 have hnb := hg.nb; have hnt := hg.nt
 have hw : w64 ((h.Tides.length : Int) - 1) = (h.Tides.length : Int) - 1 := w64_id (by omega) (by omega)
 unfold berth_slot ref06_slot slotB
 rw [firstB_eq _ (by unfold Len; omega), rberth_eq h (by unfold Len; omega), hw]
 simp only [Option.bind_some]
 by_cases c : 0 ≤ x.Tide ∧ x.Tide < h.Tides.length
 ·have c1 : berth_within x.Tide 0 ((h.Tides.length : Int) - 1) = true := by simp [berth_within]; omega
  have c2 : ref06_in x.Tide 0 ((h.Tides.length : Int) - 1) = true := by simp [ref06_in]; omega
  rw [if_pos c, c1, c2]
  rcases findI (h := h) x.Berth with ⟨h1, h2⟩ | ⟨i, hi, h1, h2⟩
  ·rw [h1, h2]
   exact ⟨by simp, by simp [gb]⟩
  ·rw [h1, h2]
   have n1 : ¬ (i : Int) < 0 := by omega
   exact ⟨by simp [n1, ix_lt hi], by simp [gb]⟩
 ·have c1 : berth_within x.Tide 0 ((h.Tides.length : Int) - 1) = false := by
   cases hh : berth_within x.Tide 0 ((h.Tides.length : Int) - 1) with
   | false => rfl
   | true => simp [berth_within] at hh; omega
  have c2 : ref06_in x.Tide 0 ((h.Tides.length : Int) - 1) = false := by
   cases hh : ref06_in x.Tide 0 ((h.Tides.length : Int) - 1) with
   | false => rfl
   | true => simp [ref06_in] at hh; omega
  rw [if_neg c, c1, c2]
  exact ⟨by simp, by simp [gb]⟩
theorem slot_tide {h : api_Harbour} {x : api_Slot} {b : api_Berth} (q : slotB h x = some b) : ∃ j : Nat, ∃ hj : j < h.Tides.length, x.Tide = (j : Int) ∧ ix h.Tides x.Tide = some h.Tides[j] ∧ b ∈ h.Berths ∧ b.ID = x.Berth := by
 unfold slotB at q
 split at q
 ·rename_i c
  refine ⟨x.Tide.toNat, by omega, by omega, ?_, List.mem_of_find?_eq_some q, by simpa using List.find?_some q⟩
  have e : ((x.Tide.toNat : Nat) : Int) = x.Tide := by omega
  have hix := ix_lt (l := h.Tides) (show x.Tide.toNat < h.Tides.length by omega)
  rw [e] at hix
  exact hix
 ·cases q
theorem rwhen_eq {h : api_Harbour} (hg : GoodH h) {c : api_Call} {x : api_Slot} {t : api_Span} {b : api_Berth} (ht : ix h.Tides x.Tide = some t) (hb : b ∈ h.Berths) (hid : b.ID = x.Berth) (h0 : 0 ≤ c.Draught) (h1 : c.Draught ≤ 8000) (hF : 0 ≤ c.From) (hL : 1 ≤ c.Long) (hL2 : c.Long ≤ 1440) : ref06_when h c x = some (whenS h c t b) := by
 have htm : t ∈ h.Tides := by
  unfold ix at ht
  split at ht
  ·exact List.mem_of_getElem? ht
  ·cases ht
 have hnb := hg.nb
 unfold ref06_when
 rw [ht, Option.bind_some, rberth_eq h (by unfold Len; omega), Option.bind_some]
 rcases findI (h := h) x.Berth with ⟨_, h2⟩ | ⟨i, hi, q1, q2⟩
 ·have := List.find?_eq_none.1 h2 b hb
  simp [hid] at this
 ·rw [q1]
  have e : h.Berths[i] = b := berth_uniq hg (List.getElem_mem hi) hb (by rw [hid]; simpa using List.find?_some q2)
  exact rwhen_loop hg htm hb (by rw [ix_lt hi, e]) h0 h1 hF hL hL2
theorem When_same (h : api_Harbour) (hh : LenH h) (c : api_Call) (x : api_Slot) : ∃ r, berth_When h c x = some r ∧ ref06_When h c x = some r := by
 unfold berth_When ref06_When
 rw [CheckH_eq h hh, RCheckH_eq h hh]
 simp only [Option.bind_some]
 by_cases e : checkHS h = 0
 ·have hg := GoodH.of hh e
  simp only [e, decide_true, Bool.not_true, Bool.false_eq_true, if_false]
  rw [rightC_eq, valid_eq]
  cases hc : rightB c with
  | false => exact ⟨_, rfl, rfl⟩
  | true =>
   obtain ⟨d0, d1, f0, l0, l1⟩ := GoodC.of hc
   obtain ⟨s1, s2⟩ := slot_gen hg x
   rw [s1, s2]
   simp only [Bool.not_true, Bool.false_eq_true, if_false, Option.bind_some]
   cases hs : slotB h x with
   | none => exact ⟨_, rfl, rfl⟩
   | some b =>
    obtain ⟨j, hj, _, ht, hb, hid⟩ := slot_tide hs
    simp only [Bool.not_true, Bool.false_eq_true, if_false, Option.isSome_some]
    rw [when_eq hg ht hb d0 d1 f0 l0 l1, rwhen_eq hg ht hb hid d0 d1 f0 l0 l1]
    exact ⟨_, rfl, rfl⟩
 ·simp only [e, decide_false, Bool.not_false, if_true]
  exact ⟨_, rfl, rfl⟩
theorem takenRow_keys (h : api_Harbour) (c : api_Call) (i : Nat) (t : api_Span) (b : api_Berth) (bs : List api_Berth) : (takeRow h c i t (b :: bs)).map (·.1) = (if (whenS h c t b).2 = true then [(⟨(i : Int), b.ID⟩ : api_Slot)] else []) ++ (takeRow h c i t bs).map (·.1) := by
 rw [takeRow_cons, List.map_append]
 split <;> rfl
theorem rslots_row {h : api_Harbour} (hg : GoodH h) {c : api_Call} (hc : GoodC c) {i : Nat} (hi : i < h.Tides.length) (acc : List api_Slot) (ha : acc.length ≤ 1000) : Lp (ref06_slots_b4 h c (i : Int)) fuel (0, acc) = some (.inl (((i + 1 : Nat) : Int), acc ++ (takeRow h c i h.Tides[i] h.Berths).map (·.1))) := by
 obtain ⟨d0, d1, f0, l0, l1⟩ := hc
 have hnb := hg.nb; have hnt := hg.nt
 refine lp_list (body := ref06_slots_b4 h c (i : Int)) h.Berths (by omega) (fun (a : List api_Slot) k => (k, a)) (fun a r => .inl (((i + 1 : Nat) : Int), a ++ (takeRow h c i h.Tides[i] r).map (·.1))) (fun k a => a.length ≤ 1000 + k) (a := acc) rfl (by omega) (fun a k hk hJ => ?_) (fun a hJ => ?_)
 ·left
  unfold ref06_slots_b4
  dsimp only
  rw [if_pos (by simpa using hk), ix_lt hk, Option.bind_some, rwhen_eq (t := h.Tides[i]) (b := h.Berths[k]) hg (by rw [ix_lt hi]) (List.getElem_mem hk) rfl d0 d1 f0 l0 l1, Option.bind_some, takenRow_keys]
  unfold ref06_slots_j5
  rw [w64s' hk (by omega)]
  by_cases q : (whenS h c h.Tides[i] h.Berths[k]).2 = true
  ·rw [if_pos q, if_pos q, app_ok (by simp; omega), Option.bind_some]
   exact ⟨_, rfl, by simp, by simp; omega⟩
  ·rw [if_neg q, if_neg q]
   exact ⟨_, rfl, by simp, by omega⟩
 ·unfold ref06_slots_b4
  dsimp only
  rw [if_neg (by simp)]
  unfold ref06_slots_j3
  rw [w64s' hi (by omega)]
  simp [takeRow]
theorem rslots_eq {h : api_Harbour} (hg : GoodH h) {c : api_Call} (hc : GoodC c) : ref06_slots h c = some ((takenS h c 0 h.Tides).map (·.1)) := by
 have hnt := hg.nt
 have hnb := hg.nb
 unfold ref06_slots
 have key := lp_list (body := ref06_slots_b2 h c) h.Tides (by omega) (fun (a : Nat × List api_Slot) k => (k, a.2)) (fun a r => a.2 ++ (takenS h c a.1 r).map (·.1)) (fun k a => a.1 = k ∧ a.2.length ≤ 6 * k) (a := (0, [])) (s0 := (0, [])) rfl ⟨rfl, Nat.le_refl _⟩ (fun a k hk hJ => by
  obtain ⟨j1, j2⟩ := hJ
  left
  unfold ref06_slots_b2
  dsimp only
  rw [if_pos (by simpa using hk)]
  refine ⟨(k + 1, a.2 ++ (takeRow h c k h.Tides[k] h.Berths).map (·.1)), rslots_row hg hc hk a.2 (by omega), ?_, rfl, ?_⟩
  ·rw [j1]
   simp only [takenS, List.map_append, List.append_assoc]
  ·have := takeRow_len h c k h.Tides[k] h.Berths
   simp only [List.length_append, List.length_map]
   omega) (fun a hJ => by
  unfold ref06_slots_b2
  dsimp only
  rw [if_neg (by simp)]
  simp [ref06_slots_j1, takenS])
 rw [key]; simp
theorem Slots_same (h : api_Harbour) (hh : LenH h) (c : api_Call) : ∃ o e, berth_Slots h c = some (o, e) ∧ ref06_Slots h c = some ⟨o, e⟩ ∧ o.length ≤ 72 := by
 by_cases e : checkHS h = 0
 ·have hg := GoodH.of hh e
  cases hc : rightB c with
  | true =>
   refine ⟨_, _, Slots_eq hh e hc, ?_, by rw [List.length_map]; exact taken_len hg c⟩
   unfold ref06_Slots
   rw [RCheckH_eq h hh, Option.bind_some, if_neg (by simp [e]), valid_eq, hc, if_neg (by simp), rslots_eq hg (GoodC.of hc)]
   rfl
  | false =>
   refine ⟨[], 1, ?_, ?_, by simp⟩
   ·unfold berth_Slots
    rw [CheckH_eq h hh, Option.bind_some, if_neg (by simp [e]), rightC_eq, hc]; rfl
   ·unfold ref06_Slots
    rw [RCheckH_eq h hh, Option.bind_some, if_neg (by simp [e]), valid_eq, hc]; rfl
 ·refine ⟨[], checkHS h, ?_, ?_, by simp⟩
  ·unfold berth_Slots
   rw [CheckH_eq h hh, Option.bind_some, if_pos (by simp [e])]
  ·unfold ref06_Slots
   rw [RCheckH_eq h hh, Option.bind_some, if_pos (by simp [e])]
theorem SameSlots_refl (a : List api_Slot) (ha : a.length ≤ 4000) : ref06_SameSlots a a = some true := by
 unfold ref06_SameSlots
 rw [if_neg (by simp)]
 obtain ⟨r, h1, h2⟩ := lp_inv' (body := ref06_SameSlots_b2 a a) (s0 := 0) (fun i s => s = (i : Int)) (fun r => r = true) a.length (by omega) rfl fun i s hi hI => by
  subst hI
  unfold ref06_SameSlots_b2
  by_cases e : i < a.length
  ·rw [if_pos (by simpa using e), ix_lt e, Option.bind_some, Option.bind_some, if_neg (by simp)]
   exact .inl ⟨e, _, rfl, w64s' e (by omega)⟩
  ·rw [if_neg (by simpa using e)]
   exact .inr ⟨_, rfl, rfl⟩
 rw [h1, h2]
end Go.Mx
