/- Plain laws, berths: crowds. Conditions: none. -/
import Derived.Test.YtnkngglimidldaaLawYk
set_option linter.unusedVariables false
set_option linter.unusedSimpArgs false
namespace Go.Mx
theorem first_at {l : List api_Call} (hd : l.Pairwise (fun a b => a.ID ≠ b.ID)) {j : Nat} (hj : j < l.length) : firstI (fun b : api_Call => decide (b.ID = l[j].ID)) l 0 = (j : Int) := by
 rcases firstI_spec (fun b : api_Call => decide (b.ID = l[j].ID)) l 0 with ⟨h1, h2⟩ | ⟨i, h1, h2, h3, h4⟩
 ·have := h2 _ (List.getElem_mem hj); simp at this
 ·rw [show (0 : Int) = ((0 : Nat) : Int) from rfl, h1, Nat.zero_add]
  have e : l[i].ID = l[j].ID := by simpa using h3
  rcases Nat.lt_trichotomy i j with c | c | c
  ·exact absurd e (List.pairwise_iff_getElem.1 hd i j h2 hj c)
  ·rw [c]
  ·exact absurd e.symm (List.pairwise_iff_getElem.1 hd j i hj h2 c)
def inM (m : List (Int × Bool)) (i : Nat) : Bool := (lookM (i : Int) m).getD false
def idsL (l : List api_Call) (p : Nat → Bool) : List Int := ((List.range l.length).filter p).map fun i => (l.getD i default).ID
def nbL (b : berth_board) (p : Nat → Bool) : List Nat := (List.range b.slots.length).filter fun k => (List.range b.calls.length).any fun j => canB b j k && p j
def crowdS (b : berth_board) (p : Nat → Bool) : api_Crowd := ⟨srtI (idsL b.calls p), (nbL b p).map fun k => b.slots.getD k default⟩
theorem idsL_len (l : List api_Call) (p : Nat → Bool) : (idsL l p).length ≤ l.length := by
 unfold idsL
 rw [List.length_map]
 have := List.length_filter_le p (List.range l.length)
 simpa using this
theorem nbL_len (b : berth_board) (p : Nat → Bool) : (nbL b p).length ≤ b.slots.length := by
 unfold nbL
 have := List.length_filter_le (fun k => (List.range b.calls.length).any fun j => canB b j k && p j) (List.range b.slots.length)
 simpa using this
theorem filter_succ (p : Nat → Bool) (n : Nat) : (List.range (n + 1)).filter p = (List.range n).filter p ++ if p n = true then [n] else [] := by
 rw [List.range_succ, List.filter_append, List.filter_cons]
 simp
theorem crowd_eq {h : api_Harbour} {l : List api_Call} (hg : GoodL h l) (ships : List (Int × Bool)) : berth_board_crowd (laidS h l) ships = some (crowdS (laidS h l) (inM ships)) := by
 have hn := hg.n
 have hB := laid_ok hg
 have ns := hB.ns
 have ec : (laidS h l).calls = l := rfl
 have contains : ∀ k, k < (laidS h l).slots.length → slices_ContainsFunc_api_Call__berth_board_crowd_1 l (laidS h l) ((laidS h l).slots.getD k default) ships = some ((List.range l.length).any fun j => canB (laidS h l) j k && inM ships j) := fun k hk => by
  unfold slices_ContainsFunc_api_Call__berth_board_crowd_1
  have hc1 : ∀ j (hj : j < l.length), berth_board_crowd_1 l[j] (laidS h l) ((laidS h l).slots.getD k default) ships = some (canB (laidS h l) j k && inM ships j) := fun j hj => by
   unfold berth_board_crowd_1
   rw [ec, firstC_eq l (by unfold Len; omega), first_at hg.d hj, Option.bind_some, ix_getD (d := []) (by simpa [laidS] using hj), Option.bind_some]
   rfl
  obtain ⟨r, h1, h2⟩ : ∃ r, slices_IndexFunc_api_Call__berth_board_crowd_1 l (laidS h l) ((laidS h l).slots.getD k default) ships = some r ∧ decide (0 ≤ r) = (List.range l.length).any fun j => canB (laidS h l) j k && inM ships j := by
   unfold slices_IndexFunc_api_Call__berth_board_crowd_1
   refine lp_inv' (fun i s => s = (i : Int) ∧ ∀ j, j < i → (canB (laidS h l) j k && inM ships j) = false) _ l.length (by omega) ⟨rfl, fun j hj => by omega⟩ fun i s hi hI => ?_
   obtain ⟨rfl, hI⟩ := hI
   unfold slices_IndexFunc_api_Call__berth_board_crowd_1_b2
   by_cases e : i < l.length
   ·rw [if_pos (by simpa using e), ix_lt e, Option.bind_some, hc1 i e, Option.bind_some]
    by_cases c : (canB (laidS h l) i k && inM ships i) = true
    ·rw [if_pos c]
     refine .inr ⟨_, rfl, ?_⟩
     rw [show decide ((0 : Int) ≤ (i : Int)) = true by simp]
     symm
     rw [List.any_eq_true]
     exact ⟨i, List.mem_range.2 e, c⟩
    ·rw [if_neg c]
     refine .inl ⟨e, _, rfl, w64s' e (by omega), fun j hj => ?_⟩
     by_cases w : j = i
     ·subst w; simpa using c
     ·exact hI j (by omega)
   ·rw [if_neg (by simpa using e)]
    refine .inr ⟨-1, rfl, ?_⟩
    symm
    rw [show decide ((0 : Int) ≤ -1) = false by decide, List.any_eq_false]
    intro x hx
    rw [hI x (by rw [List.mem_range] at hx; omega)]; simp
  rw [h1, Option.bind_some, h2]
 unfold berth_board_crowd
 obtain ⟨⟨x, ids⟩, ⟨rfl, h1⟩, h2⟩ := lp_exit (body := berth_board_crowd_b5 (laidS h l) ships) (X := fun s => berth_board_crowd_j1 (laidS h l) ships s.2) (s0 := (0, []))
  (fun j s => s.1 = (j : Int) ∧ s.2 = ((List.range j).filter (inM ships)).map fun i => (l.getD i default).ID) l.length (by omega) ⟨rfl, rfl⟩
  (fun j s hj hI => by
   obtain ⟨x, ids⟩ := s
   simp only at hI
   obtain ⟨rfl, rfl⟩ := hI
   have hlen : ((List.range j).filter (inM ships)).length ≤ j := by have := List.length_filter_le (inM ships) (List.range j); simpa using this
   have hj6 : ∀ z, berth_board_crowd_j6 (j : Int) z = some (.inl (((j + 1 : Nat) : Int), z)) := fun z => by unfold berth_board_crowd_j6; rw [w64s' hj (by omega)]
   unfold berth_board_crowd_b5
   simp only [ec]
   rw [if_pos (by simpa using hj), ix_getD (d := default) hj, Option.bind_some, show (lookM (j : Int) ships).getD false = inM ships j from rfl]
   by_cases c : inM ships j = true
   ·rw [if_pos c, app_ok (by simp; omega), Option.bind_some, hj6]
    exact ⟨_, rfl, rfl, by simp only; rw [filter_succ, if_pos c, List.map_append]; rfl⟩
   ·rw [if_neg c, hj6]
    exact ⟨_, rfl, rfl, by simp only; rw [filter_succ, if_neg c, List.append_nil]⟩)
  (fun s hI => by
   obtain ⟨x, ids⟩ := s
   simp only at hI
   obtain ⟨rfl, _⟩ := hI
   unfold berth_board_crowd_b5
   simp only [ec]
   rw [if_neg (by simp)])
 simp only at h1 h2
 have hids : ids = idsL l (inM ships) := h1
 have hil := idsL_len l (inM ships)
 rw [h2, hids]
 unfold berth_board_crowd_j1 srtO
 rw [if_pos (by omega), Option.bind_some]
 obtain ⟨⟨x, sl⟩, ⟨rfl, g1⟩, g2⟩ := lp_exit (body := berth_board_crowd_b3 (laidS h l) ships (srtI (idsL l (inM ships)))) (X := fun s => berth_board_crowd_j2 (srtI (idsL l (inM ships))) s.2) (s0 := (0, []))
  (fun q s => s.1 = (q : Int) ∧ s.2 = ((List.range q).filter fun k => (List.range l.length).any fun j => canB (laidS h l) j k && inM ships j).map fun k => (laidS h l).slots.getD k default) (laidS h l).slots.length (by omega) ⟨rfl, rfl⟩
  (fun q s hq hI => by
   obtain ⟨x, sl⟩ := s
   simp only at hI
   obtain ⟨rfl, rfl⟩ := hI
   have hlen : ((List.range q).filter fun k => (List.range l.length).any fun j => canB (laidS h l) j k && inM ships j).length ≤ q := by have := List.length_filter_le (fun k => (List.range l.length).any fun j => canB (laidS h l) j k && inM ships j) (List.range q); simpa using this
   have hj4 : ∀ z, berth_board_crowd_j4 (q : Int) z = some (.inl (((q + 1 : Nat) : Int), z)) := fun z => by unfold berth_board_crowd_j4; rw [w64s' hq (by omega)]
   unfold berth_board_crowd_b3
   simp only
   rw [if_pos (by simpa using hq), ix_getD (d := default) hq, Option.bind_some, ec, contains q hq, Option.bind_some]
   by_cases c : ((List.range l.length).any fun j => canB (laidS h l) j q && inM ships j) = true
   ·rw [if_pos c, app_ok (by simp; omega), Option.bind_some, hj4]
    exact ⟨_, rfl, rfl, by simp only; rw [filter_succ, if_pos c, List.map_append]; rfl⟩
   ·rw [if_neg c, hj4]
    exact ⟨_, rfl, rfl, by simp only; rw [filter_succ, if_neg c, List.append_nil]⟩)
  (fun s hI => by
   obtain ⟨x, sl⟩ := s
   simp only at hI
   obtain ⟨rfl, _⟩ := hI
   unfold berth_board_crowd_b3
   simp only
   rw [if_neg (by simp)])
 simp only at g1 g2
 rw [g2, g1]; rfl
theorem eqI (a b : List Int) (ha : a.length ≤ 1000000) : slices_Equal_int a b = some (decide (a = b)) := by
 unfold slices_Equal_int
 by_cases e : a.length = b.length
 ·rw [if_neg (by simp [e])]
  refine (lp_list a (by omega) (fun (_ : Unit) i => i) (fun _ r => decide (r = b.drop (a.length - r.length))) (fun _ _ => True) (a := ()) rfl trivial (fun _ i hi _ => ?_) fun _ _ => ?_).trans (by simp)
  ·have e1 : a.length - (a[i] :: a.drop (i + 1)).length = i := by simp only [List.length_cons, List.length_drop]; omega
   have e2 : a.length - (a.drop (i + 1)).length = i + 1 := by simp only [List.length_drop]; omega
   rw [e1, e2, List.drop_eq_getElem_cons (l := b) (i := i) (by omega)]
   unfold slices_Equal_int_b2
   rw [if_pos (by simpa using hi), ix_lt hi, Option.bind_some, ix_lt (by omega), Option.bind_some]
   by_cases c : a[i] = b[i]
   ·left; rw [if_neg (by simp [c]), w64s' hi (by omega)]; exact ⟨(), rfl, by simp only [List.cons.injEq, c, true_and], trivial⟩
   ·right; rw [if_pos (by simp [c])]; simp only [List.cons.injEq, c, false_and, decide_false]
  ·unfold slices_Equal_int_b2 slices_Equal_int_j1
   rw [if_neg (by simp)]
   simp; omega
 ·rw [if_pos (by simp; omega), decide_eq_false (fun q => e (by rw [q]))]
theorem eqS (a b : List api_Slot) (ha : a.length ≤ 1000000) : slices_Equal_api_Slot a b = some (decide (a = b)) := by
 unfold slices_Equal_api_Slot
 by_cases e : a.length = b.length
 ·rw [if_neg (by simp [e])]
  refine (lp_list a (by omega) (fun (_ : Unit) i => i) (fun _ r => decide (r = b.drop (a.length - r.length))) (fun _ _ => True) (a := ()) rfl trivial (fun _ i hi _ => ?_) fun _ _ => ?_).trans (by simp)
  ·have e1 : a.length - (a[i] :: a.drop (i + 1)).length = i := by simp only [List.length_cons, List.length_drop]; omega
   have e2 : a.length - (a.drop (i + 1)).length = i + 1 := by simp only [List.length_drop]; omega
   rw [e1, e2, List.drop_eq_getElem_cons (l := b) (i := i) (by omega)]
   unfold slices_Equal_api_Slot_b2
   rw [if_pos (by simpa using hi), ix_lt hi, Option.bind_some, ix_lt (by omega), Option.bind_some]
   by_cases c : a[i] = b[i]
   ·left; rw [if_neg (by simp [c]), w64s' hi (by omega)]; exact ⟨(), rfl, by simp only [List.cons.injEq, c, true_and], trivial⟩
   ·right; rw [if_pos (by simp [c])]; simp only [List.cons.injEq, c, false_and, decide_false]
  ·unfold slices_Equal_api_Slot_b2 slices_Equal_api_Slot_j1
   rw [if_neg (by simp)]
   simp; omega
 ·rw [if_pos (by simp; omega), decide_eq_false (fun q => e (by rw [q]))]
def fullS (b : berth_board) (x : api_Crowd) : Int × Int :=
 if x.Calls = [] ∨ x.Calls ≠ (crowdS b fun i => decide (i < b.calls.length ∧ (b.calls.getD i default).ID ∈ x.Calls)).Calls ∨ x.Slots ≠ (crowdS b fun i => decide (i < b.calls.length ∧ (b.calls.getD i default).ID ∈ x.Calls)).Slots ∨ x.Calls.length ≤ x.Slots.length then (0, 8) else ((x.Calls.length : Int) - (x.Slots.length : Int), 0)
theorem crowdS_congr {b : berth_board} {p q : Nat → Bool} (h : ∀ i, i < b.calls.length → p i = q i) : crowdS b p = crowdS b q := by
 unfold crowdS idsL nbL
 have e1 : (List.range b.calls.length).filter p = (List.range b.calls.length).filter q := List.filter_congr fun i hi => h i (List.mem_range.1 hi)
 have e2 : (fun k => (List.range b.calls.length).any fun j => canB b j k && p j) = fun k => (List.range b.calls.length).any fun j => canB b j k && q j := by
  funext k
  rw [Bool.eq_iff_iff, List.any_eq_true, List.any_eq_true]
  constructor <;> rintro ⟨j, hj, hj2⟩ <;> refine ⟨j, hj, ?_⟩
  ·rw [← h j (List.mem_range.1 hj)]; exact hj2
  ·rw [h j (List.mem_range.1 hj)]; exact hj2
 rw [e1, e2]
theorem CheckFull_eq {h : api_Harbour} {l : List api_Call} (hh : LenH h) (hl : Len l) (ec : checkCS h l = 0) {x : api_Crowd} (hx : x.Calls.length ≤ 1000) (hx2 : x.Slots.length ≤ 1000) : berth_CheckFull h l x = some (fullS (laidS h l) x) := by
 have hg := GoodL.of hh ec
 have hn := hg.n
 have ecl : (laidS h l).calls = l := rfl
 unfold berth_CheckFull
 rw [CheckCalls_eq h hh l hl, Option.bind_some, if_neg (by simp [ec])]
 obtain ⟨⟨q, m⟩, ⟨rfl, h1⟩, h2⟩ := lp_exit (body := berth_CheckFull_b2 h l x) (X := fun s => berth_CheckFull_j1 h l x s.2) (s0 := (0, []))
  (fun j s => s.1 = (j : Int) ∧ ∀ (i : Nat) (hi : i < l.length), inM s.2 i = decide (l[i].ID ∈ x.Calls.take j)) x.Calls.length (by omega) ⟨rfl, fun i hi => by simp [inM, lookM]⟩
  (fun j s hj hI => by
   obtain ⟨q, m⟩ := s
   simp only at hI
   obtain ⟨rfl, hI⟩ := hI
   have hj3 : ∀ z, berth_CheckFull_j3 (j : Int) z = some (.inl (((j + 1 : Nat) : Int), z)) := fun z => by unfold berth_CheckFull_j3; rw [w64s' hj (by omega)]
   unfold berth_CheckFull_b2
   simp only
   rw [if_pos (by simpa using hj), ix_lt hj, Option.bind_some, firstC_eq l hl, Option.bind_some]
   rcases firstI_spec (fun b : api_Call => decide (b.ID = x.Calls[j])) l 0 with ⟨a1, a2⟩ | ⟨r, a1, a2, a3, a4⟩
   ·rw [show (0 : Int) = ((0 : Nat) : Int) from rfl, a1, if_neg (by decide), hj3]
    refine ⟨_, rfl, rfl, fun i hi => ?_⟩
    simp only
    rw [hI i hi, List.take_succ_eq_append_getElem hj, decide_eq_decide, List.mem_append, List.mem_singleton]
    have := a2 _ (List.getElem_mem hi)
    simp only [decide_eq_false_iff_not] at this
    simp [this]
   ·rw [show (0 : Int) = ((0 : Nat) : Int) from rfl, a1, Nat.zero_add, if_pos (by simp), hj3]
    refine ⟨_, rfl, rfl, fun i hi => ?_⟩
    simp only
    have e3 : l[r].ID = x.Calls[j] := by simpa using a3
    unfold inM
    rw [lookM_put, List.take_succ_eq_append_getElem hj]
    by_cases c : i = r
    ·subst c
     rw [if_pos rfl, decide_eq_true (List.mem_append_right _ (by rw [e3]; exact List.mem_singleton.2 rfl))]; rfl
    ·rw [if_neg (by omega)]
     have := hI i hi
     unfold inM at this
     rw [this, decide_eq_decide, List.mem_append, List.mem_singleton]
     have hne : l[i].ID ≠ x.Calls[j] := fun e => by
      rw [← e3] at e
      rcases Nat.lt_trichotomy i r with w | w | w
      ·exact List.pairwise_iff_getElem.1 hg.d i r hi a2 w e
      ·exact c w
      ·exact List.pairwise_iff_getElem.1 hg.d r i a2 hi w e.symm
     simp [hne])
  (fun s hI => by
   obtain ⟨q, m⟩ := s
   simp only at hI
   obtain ⟨rfl, _⟩ := hI
   unfold berth_CheckFull_b2
   simp only
   rw [if_neg (by simp)])
 simp only at h1 h2
 rw [h2]
 unfold berth_CheckFull_j1
 have hcr : crowdS (laidS h l) (inM m) = crowdS (laidS h l) fun i => decide (i < (laidS h l).calls.length ∧ ((laidS h l).calls.getD i default).ID ∈ x.Calls) := crowdS_congr fun i hi => by
  have hi' : i < l.length := hi
  rw [h1 i hi', List.take_length, ecl, getD_lt hi', decide_eq_decide]
  simp [hi']
 rw [laid_eq hg.h hg.n (fun c hc => GoodC.of (hg.r c hc)), Option.bind_some, crowd_eq hg, Option.bind_some, hcr]
 unfold fullS
 generalize crowdS (laidS h l) (fun i => decide (i < (laidS h l).calls.length ∧ ((laidS h l).calls.getD i default).ID ∈ x.Calls)) = y
 by_cases c0 : x.Calls = []
 ·rw [if_pos (.inl c0)]
  simp [gb, c0]
 ·have cl : ¬ ((x.Calls.length : Int) = 0) := by
   have : 0 < x.Calls.length := List.length_pos_iff.2 c0
   omega
  simp only [gb, cl, decide_false, Bool.not_false, if_true, Bool.false_or]
  rw [eqI _ _ (by omega), Option.bind_some]
  by_cases c1 : x.Calls = y.Calls
  ·rw [decide_eq_true c1]
   simp only [Bool.not_true, Bool.not_false, if_true, Bool.false_or]
   rw [eqS _ _ (by omega), Option.bind_some]
   by_cases c2 : x.Slots = y.Slots
   ·rw [decide_eq_true c2]
    simp only [Bool.not_true, Bool.false_or, decide_eq_true_eq]
    by_cases c3 : x.Calls.length ≤ x.Slots.length
    ·have r1 : (if x.Calls = [] ∨ x.Calls ≠ y.Calls ∨ x.Slots ≠ y.Slots ∨ x.Calls.length ≤ x.Slots.length then ((0 : Int), (8 : Int)) else ((x.Calls.length : Int) - (x.Slots.length : Int), 0)) = (0, 8) := if_pos (.inr (.inr (.inr c3)))
     rw [r1, if_pos (by omega)]
    ·have r1 : (if x.Calls = [] ∨ x.Calls ≠ y.Calls ∨ x.Slots ≠ y.Slots ∨ x.Calls.length ≤ x.Slots.length then ((0 : Int), (8 : Int)) else ((x.Calls.length : Int) - (x.Slots.length : Int), 0)) = ((x.Calls.length : Int) - (x.Slots.length : Int), 0) := if_neg (by
      rintro (z | z | z | z)
      ·exact c0 z
      ·exact z c1
      ·exact z c2
      ·exact c3 z)
     rw [r1, if_neg (by omega), w64_id (by omega) (by omega)]
   ·have r1 : (if x.Calls = [] ∨ x.Calls ≠ y.Calls ∨ x.Slots ≠ y.Slots ∨ x.Calls.length ≤ x.Slots.length then ((0 : Int), (8 : Int)) else ((x.Calls.length : Int) - (x.Slots.length : Int), 0)) = (0, 8) := if_pos (.inr (.inr (.inl c2)))
    rw [r1, decide_eq_false c2]; rfl
  ·have r1 : (if x.Calls = [] ∨ x.Calls ≠ y.Calls ∨ x.Slots ≠ y.Slots ∨ x.Calls.length ≤ x.Slots.length then ((0 : Int), (8 : Int)) else ((x.Calls.length : Int) - (x.Slots.length : Int), 0)) = (0, 8) := if_pos (.inr (.inl c1))
   rw [r1, decide_eq_false c1]; rfl
end Go.Mx
