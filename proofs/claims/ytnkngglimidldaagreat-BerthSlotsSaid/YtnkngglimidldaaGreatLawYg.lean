/- Plain laws, berths: what a ship can take; the board. Conditions: none. -/
import Derived.Test.YtnkngglimidldaaGreatLawYb
import Derived.Test.YtnkngglimidldaaGreatLawYf
set_option linter.unusedVariables false
set_option linter.unusedSimpArgs false
namespace Go.Mx
theorem insL_end {α : Type} : ∀ (l : List α) (x : α), insL l l.length x = l ++ [x]
 | [], x => rfl
 | y :: r, x => by simp only [List.length_cons, insL, insL_end r x, List.cons_append]
theorem putM_new {α β : Type} [DecidableEq α] (m : List (α × β)) (k : α) (v : β) (h : ∀ p ∈ m, p.1 ≠ k) : putM posE m k v = m ++ [(k, v)] := by
 unfold putM
 have hf : findK k m = none := by
  have := findK_spec (k := k) (l := m)
  cases e : findK k m with
  | none => rfl
  | some i =>
   rw [e] at this
   obtain ⟨v', h1, h2⟩ := this
   exact absurd rfl (h _ (List.mem_of_getElem? h1))
 rw [hf]
 simp only [posE, List.length_map]
 exact insL_end m (k, v)
def rightB (c : api_Call) : Bool := decide (1 ≤ c.ID ∧ c.ID ≤ 1099511627776 ∧ 0 ≤ c.Draught ∧ c.Draught ≤ 8000 ∧ 0 ≤ c.From ∧ c.From ≤ c.To ∧ c.To ≤ 1048576 ∧ 1 ≤ c.Long ∧ c.Long ≤ 1440)
theorem rightC_eq (c : api_Call) : berth_right c = rightB c := by
 unfold berth_right rightB berth_within
 rw [Bool.eq_iff_iff]
 simp only [Bool.and_eq_true, decide_eq_true_eq]
 constructor <;> intro h <;> omega
structure GoodC (c : api_Call) : Prop where
 d0 : 0 ≤ c.Draught
 d1 : c.Draught ≤ 8000
 f0 : 0 ≤ c.From
 l0 : 1 ≤ c.Long
 l1 : c.Long ≤ 1440
theorem GoodC.of {c : api_Call} (h : rightB c = true) : GoodC c := by
 simp only [rightB, decide_eq_true_eq] at h
 exact ⟨by omega, by omega, by omega, by omega, by omega⟩
def takeRow (h : api_Harbour) (c : api_Call) (i : Nat) (t : api_Span) (bs : List api_Berth) : List (api_Slot × api_Span) := bs.filterMap fun b => if (whenS h c t b).2 = true then some ((⟨i, b.ID⟩ : api_Slot), (whenS h c t b).1) else none
def takenS (h : api_Harbour) (c : api_Call) : Nat → List api_Span → List (api_Slot × api_Span)
 | _, [] => []
 | i, t :: r => takeRow h c i t h.Berths ++ takenS h c (i + 1) r
theorem takeRow_cons (h : api_Harbour) (c : api_Call) (i : Nat) (t : api_Span) (b : api_Berth) (bs : List api_Berth) : takeRow h c i t (b :: bs) = (if (whenS h c t b).2 = true then [((⟨i, b.ID⟩ : api_Slot), (whenS h c t b).1)] else []) ++ takeRow h c i t bs := by
 unfold takeRow
 rw [List.filterMap_cons]
 by_cases e : (whenS h c t b).2 = true
 ·rw [if_pos e, if_pos e]; rfl
 ·rw [if_neg e, if_neg e]; rfl
theorem mem_takeRow {h : api_Harbour} {c : api_Call} {i : Nat} {t : api_Span} {bs : List api_Berth} {x : api_Slot} {s : api_Span} : (x, s) ∈ takeRow h c i t bs ↔ ∃ b ∈ bs, x = ⟨i, b.ID⟩ ∧ (whenS h c t b).2 = true ∧ s = (whenS h c t b).1 := by
 unfold takeRow
 rw [List.mem_filterMap]
 constructor
 ·rintro ⟨b, hb, q⟩
  split at q
  ·rename_i e
   cases q
   exact ⟨b, hb, rfl, e, rfl⟩
  ·cases q
 ·rintro ⟨b, hb, rfl, e, rfl⟩
  exact ⟨b, hb, by rw [if_pos e]⟩
theorem takeRow_len (h : api_Harbour) (c : api_Call) (i : Nat) (t : api_Span) (bs : List api_Berth) : (takeRow h c i t bs).length ≤ bs.length := List.length_filterMap_le _ _
theorem taken_row {h : api_Harbour} (hg : GoodH h) {c : api_Call} (hc : GoodC c) {i : Nat} (hi : i < h.Tides.length) (l : List api_Slot) (m : List (api_Slot × api_Span)) (hl : l.length ≤ 6 * i) (hm : ∀ p ∈ m, p.1.Tide ≠ (i : Int)) :
  Lp (berth_taken_b3 h c (i : Int)) fuel (0, l, m) = some (.inl (((i + 1 : Nat) : Int), l ++ (takeRow h c i h.Tides[i] h.Berths).map (·.1), m ++ takeRow h c i h.Tides[i] h.Berths)) := by
 have hnt := hg.nt; have hnb := hg.nb
 refine lp_list h.Berths (by omega) (fun (a : List api_Slot × List (api_Slot × api_Span)) j => (j, a.1, a.2)) (fun a r => Sum.inl (((i + 1 : Nat) : Int), a.1 ++ (takeRow h c i h.Tides[i] r).map (·.1), a.2 ++ takeRow h c i h.Tides[i] r))
  (fun j a => a.1.length ≤ 6 * i + j ∧ ∀ p ∈ a.2, p.1.Tide ≠ (i : Int) ∨ ∃ (q : Nat) (hq : q < h.Berths.length), q < j ∧ p.1.Berth = h.Berths[q].ID) (a := (l, m)) rfl ⟨by simpa using hl, fun p hp => .inl (hm p hp)⟩ (fun a j hj hJ => ?_) (fun a _ => ?_)
 ·left
  obtain ⟨l, m⟩ := a
  obtain ⟨h1, h2⟩ := hJ
  simp only at h1 h2 ⊢
  unfold berth_taken_b3 berth_slots
  simp only
  rw [if_pos (by simpa using hj), ix_lt hj, Option.bind_some, when_eq (t := h.Tides[i]) hg (by rw [ix_lt hi]) (List.getElem_mem hj) hc.d0 hc.d1 hc.f0 hc.l0 hc.l1, Option.bind_some, w64s' hj (by omega), takeRow_cons]
  by_cases e : (whenS h c h.Tides[i] h.Berths[j]).2 = true
  ·have hnew : ∀ p ∈ m, p.1 ≠ (⟨i, h.Berths[j].ID⟩ : api_Slot) := fun p hp q => by
    rcases h2 p hp with w | ⟨k, hk, hkj, w⟩
    ·exact w (by rw [q])
    ·rw [q] at w
     exact List.pairwise_iff_getElem.1 hg.bd k j hk hj hkj w.symm
   rw [if_pos e, app_ok (by simp only [List.length_cons, List.length_nil]; omega), Option.bind_some, if_pos e, putM_new _ _ _ hnew]
   refine ⟨(_, _), rfl, by simp, by simp only [List.length_append, List.length_cons, List.length_nil]; omega, fun p hp => ?_⟩
   simp only [List.mem_append, List.mem_singleton] at hp
   rcases hp with hp | rfl
   ·rcases h2 p hp with w | ⟨k, hk, hkj, w⟩
    ·exact .inl w
    ·exact .inr ⟨k, hk, by omega, w⟩
   ·exact .inr ⟨j, hj, by omega, rfl⟩
  ·rw [if_neg e, if_neg e]
   refine ⟨(l, m), rfl, by simp, by simp only; omega, fun p hp => ?_⟩
   rcases h2 p hp with w | ⟨k, hk, hkj, w⟩
   ·exact .inl w
   ·exact .inr ⟨k, hk, by omega, w⟩
 ·unfold berth_taken_b3 berth_slots berth_taken_j2
  simp only
  rw [if_neg (by simp), w64_id (by omega) (by omega)]
  simp [takeRow]
theorem taken_eq {h : api_Harbour} (hg : GoodH h) {c : api_Call} (hc : GoodC c) : berth_taken h c = some ((takenS h c 0 h.Tides).map (·.1), takenS h c 0 h.Tides) := by
 have hnt := hg.nt; have hnb := hg.nb
 unfold berth_taken
 refine (lp_list h.Tides (by omega) (fun (a : List api_Slot × List (api_Slot × api_Span)) i => (i, a.1, a.2)) (fun a r => (a.1 ++ (takenS h c (h.Tides.length - r.length) r).map (·.1), a.2 ++ takenS h c (h.Tides.length - r.length) r))
  (fun i a => a.1.length ≤ 6 * i ∧ ∀ p ∈ a.2, p.1.Tide < (i : Int)) (a := ([], [])) rfl ⟨by simp, fun p hp => by cases hp⟩ (fun a i hi hJ => ?_) (fun a _ => ?_)).trans (by simp)
 ·left
  obtain ⟨l, m⟩ := a
  obtain ⟨h1, h2⟩ := hJ
  simp only at h1 h2 ⊢
  unfold berth_taken_b1
  simp only [show (berth_slots h).Tides = h.Tides from rfl]
  rw [if_pos (by simpa using hi), taken_row hg hc hi l m h1 fun p hp q => by have := h2 p hp; omega]
  have e1 : h.Tides.length - (h.Tides[i] :: h.Tides.drop (i + 1)).length = i := by simp only [List.length_cons, List.length_drop]; omega
  have e2 : h.Tides.length - (h.Tides.drop (i + 1)).length = i + 1 := by simp only [List.length_drop]; omega
  refine ⟨(_, _), rfl, by rw [e1, e2]; simp [takenS], ?_, fun p hp => ?_⟩
  ·have := takeRow_len h c i h.Tides[i] h.Berths
   simp only [List.length_append, List.length_map]; omega
  ·simp only [List.mem_append] at hp
   rcases hp with hp | hp
   ·have := h2 p hp; omega
   ·obtain ⟨x, s⟩ := p
    rw [mem_takeRow] at hp
    obtain ⟨b, hb, rfl, _⟩ := hp
    simp only; omega
 ·unfold berth_taken_b1
  simp only [show (berth_slots h).Tides = h.Tides from rfl]
  rw [if_neg (by simp)]
  simp [takenS]
end Go.Mx
