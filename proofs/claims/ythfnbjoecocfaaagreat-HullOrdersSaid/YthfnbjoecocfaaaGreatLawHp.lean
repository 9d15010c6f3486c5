/- Plain laws of ships, thirteenth part: loaded ships, who is steady, and its proofs. Conditions: none. -/
import Derived.Test.YthfnbjoecocfaaaGreatLawHo
set_option linter.unusedVariables false
set_option linter.unusedSimpArgs false
namespace Go.Mx

/-! Loaded ships. -/
def rmE : List api_Hold → List Int → Bool
 | _, [] => true
 | h :: t, x :: r => decide (0 ≤ x) && decide (x ≤ h.Room) && rmE t r
 | [], _ :: _ => false
def rmB (s : api_Ship) (x : List Int) : Bool := decide (x.length = s.Holds.length) && rmE s.Holds x
theorem rmE_iff : ∀ (l : List api_Hold) (x : List Int), x.length = l.length → (rmE l x = true ↔ ∀ i, i < l.length → 0 ≤ gI x i ∧ gI x i ≤ (gH l i).Room)
 | l, [], h => by cases l <;> simp_all [rmE]
 | [], x :: r, h => by simp at h
 | y :: t, x :: r, h => by
  simp only [rmE, Bool.and_eq_true, decide_eq_true_eq]
  rw [rmE_iff t r (by simpa using h)]
  constructor
  ·rintro ⟨h1, h2⟩ i hi
   cases i with
   | zero => exact h1
   | succ i => exact h2 i (by simpa using hi)
  ·intro hh
   exact ⟨hh 0 (by simp), fun i hi => hh (i + 1) (by simpa using hi)⟩
theorem rmB_iff (s : api_Ship) (x : List Int) : rmB s x = true ↔ Rms s x := by
 unfold rmB
 rw [Bool.and_eq_true, decide_eq_true_eq]
 constructor
 ·rintro ⟨h1, h2⟩; exact ⟨h1, (rmE_iff _ _ h1).1 h2⟩
 ·intro h; exact ⟨h.len, (rmE_iff _ _ h.len).2 h.b⟩
def loadedE (s : api_Ship) (ls : List (List Int)) : Int := if chk s = 0 then (if ls.all (rmB s) = true then 0 else 1) else chk s
theorem hloaded_eq (s : api_Ship) (ls : List (List Int)) (hl : Len s.Holds) (hls : ls.length ≤ 8) : hull_loaded s ls = some (loadedE s ls) := by
 unfold hull_loaded loadedE
 rw [hcheck_eq s hl, Option.bind_some]
 by_cases h : chk s = 0
 ·rw [if_neg (by simp [h]), if_pos h]
  have hn := (GoodS.of h).nh
  refine lp_list (body := hull_loaded_b2 s ls) ls (by omega) (fun (_ : Unit) i => i) (fun _ r => if r.all (rmB s) = true then 0 else 1) (fun _ _ => True) (a := ()) rfl trivial (fun a i hi _ => ?_) (fun a _ => ?_)
  ·unfold hull_loaded_b2
   simp only
   rw [if_pos (by simpa using hi), ix_lt hi, Option.bind_some]
   generalize ls[i] = x
   by_cases hx : x.length = s.Holds.length
   ·rw [if_neg (by simp [hx])]
    have hin : Lp (hull_loaded_b4 s (i : Int) x) fuel 0 = some (if rmE s.Holds x = true then .inl ((i + 1 : Nat) : Int) else .inr 1) := by
     refine (lp_list (body := hull_loaded_b4 s (i : Int) x) x (by omega) (fun (_ : List api_Hold) k => k) (fun hs r => if rmE hs r = true then (.inl ((i + 1 : Nat) : Int) : Int ⊕ Int) else .inr 1) (fun k hs => hs = s.Holds.drop k) (a := s.Holds) rfl rfl (fun hs k hk hJ => ?_) (fun hs hJ => ?_)).trans rfl
     ·have hk2 : k < s.Holds.length := by omega
      unfold hull_loaded_b4
      simp only
      rw [if_pos (by simpa using hk), ix_lt hk, Option.bind_some, ix_lt hk2, Option.bind_some, w64s' hk (by omega), hJ, List.drop_eq_getElem_cons hk2]
      by_cases hb : hull_within x[k] 0 s.Holds[k].Room = true
      ·left
       rw [if_neg (by simp [hb])]
       refine ⟨s.Holds.drop (k + 1), rfl, ?_, rfl⟩
       unfold hull_within at hb
       simp only [rmE, hb, Bool.true_and]
      ·right
       rw [if_pos (by simpa using hb)]
       unfold hull_within at hb
       rw [Bool.not_eq_true] at hb
       simp only [rmE, hb, Bool.false_and, Bool.false_eq_true, if_false]
     ·unfold hull_loaded_b4 hull_loaded_j3
      simp only
      rw [if_neg (by simp), w64s' hi (by omega)]
      simp [rmE]
    rw [hin]
    by_cases hr : rmE s.Holds x = true
    ·left
     rw [if_pos hr]
     refine ⟨(), rfl, ?_, trivial⟩
     simp only [List.all_cons, rmB, hx, hr, decide_true, Bool.true_and]
    ·right
     rw [if_neg hr]
     rw [Bool.not_eq_true] at hr
     simp only [List.all_cons, rmB, hx, hr, decide_true, Bool.true_and, Bool.false_and, Bool.false_eq_true, if_false]
   ·right
    rw [if_pos (by simp; omega)]
    simp only [List.all_cons, rmB, hx, decide_false, Bool.false_and, Bool.false_eq_true, if_false]
  ·unfold hull_loaded_b2; simp only; rw [if_neg (by simp)]; rfl
 ·rw [if_pos (by simp [h]), if_neg h]
theorem loaded_one {s : api_Ship} (hc : chk s = 0) {x : List Int} (h : Rms s x) : hull_loaded s [x] = some 0 := by
 rw [hloaded_eq s [x] (GoodS.of hc).lenH (by simp)]
 unfold loadedE
 rw [if_pos hc, if_pos (by simp [(rmB_iff s x).2 h])]

/-! By what Stiff returns. -/
/-! Who is steady. -/
/-! What a price shows. -/
def showsB (s : api_Ship) (l : api_Load) (p t : Int) : Bool := decide ((s.Light * s.Height + totB p (hts s) l.Holds ⟨t, t⟩) * spareD s t ≤ spareN s t)
theorem rheights_eq (s : api_Ship) (hl : s.Holds.length ≤ 8) : ref03_heights s = some (hts s) := by
 unfold ref03_heights
 refine lp_app (body := ref03_heights_b2 s) s.Holds (by omega) (·.Height) (fun acc i => (i, acc)) (fun acc => acc) rfl (fun acc i hi hJ => ?_) ?_
 ·unfold ref03_heights_b2; simp only; rw [if_pos (by simpa using hi), ix_lt hi, Option.bind_some, app_ok (by rw [hJ]; simp; omega), Option.bind_some, w64s' hi (by omega)]
 ·unfold ref03_heights_b2; simp only; rw [if_neg (by simp)]; rfl
/-! A proof is checked. -/
def allT (s : api_Ship) (l : api_Load) (p lo : Int) (n : List Nat) : Bool := n.all fun k => showsB s l p (lo + (k : Int))
end Go.Mx
