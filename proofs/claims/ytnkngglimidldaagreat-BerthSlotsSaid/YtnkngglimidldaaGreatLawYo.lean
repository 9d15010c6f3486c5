/- Plain laws, berths: the specification's checks, depths and touching. Conditions: none. -/
import Derived.Test.YtnkngglimidldaaGreatLawYi
set_option linter.unusedVariables false
set_option linter.unusedSimpArgs false
namespace Go.Mx
theorem lp_dup {α ρ : Type} (l : List α) (p : α → Bool) {i : Nat} (hi : i ≤ l.length) (hl : Len l) {body : Int → Option (Int ⊕ ρ)} (x y : ρ) (step : ∀ (k : Nat) (hk : k < i), body (k : Int) = if p (l[k]'(by omega)) = true then some (.inr x) else some (.inl ((k + 1 : Nat) : Int))) (last : body (i : Int) = some (.inr y)) : Lp body fuel 0 = some (if (l.take i).any p = true then x else y) := by
 obtain ⟨r, h1, h2⟩ := lp_inv' (body := body) (s0 := 0) (fun k s => s = (k : Int) ∧ (l.take k).any p = false) (fun r => r = if (l.take i).any p = true then x else y) i (by unfold Len at hl; omega) ⟨rfl, by simp⟩ fun k s hk hI => by
  obtain ⟨rfl, hI⟩ := hI
  by_cases e : k < i
  ·have hkl : k < l.length := by omega
   by_cases c : p l[k] = true
   ·refine .inr ⟨x, by rw [step k e, if_pos c], ?_⟩
    rw [if_pos]
    rw [List.any_eq_true]
    exact ⟨l[k], List.mem_take_iff_getElem.2 ⟨k, by omega, rfl⟩, c⟩
   ·refine .inl ⟨e, _, by rw [step k e, if_neg c], rfl, ?_⟩
    rw [List.take_succ_eq_append_getElem hkl, List.any_append, hI]
    simpa using c
  ·have e2 : k = i := by omega
   subst e2
   exact .inr ⟨y, last, by rw [if_neg (by rw [hI]; simp)]⟩
 rw [h1, h2]
theorem rstay_eq (s : api_Span) : ref06_stay s = timedB s := (show ref06_stay s = berth_timed s from rfl).trans (timed_eq s)
theorem RCheckH_eq (h : api_Harbour) (hh : LenH h) : ref06_Check h = some (checkHS h) := by
 unfold ref06_Check checkHS
 rw [RCheck_eq _ hh.w, Option.bind_some]
 by_cases h0 : checkS h.Water = 0
 ·rw [if_pos h0, if_neg (by simp [h0])]
  by_cases h1 : 6 < h.Berths.length ∨ 12 < h.Tides.length
  ·rw [if_pos h1, if_pos (by simp; omega)]
  ·rw [if_neg h1, if_neg (by simp; omega)]
   refine lp_list h.Berths hh.b (fun (_ : List api_Berth) i => i) (berthS (tideS (keelS h) (-1) h.Tides)) (fun i a => a = h.Berths.take i) (a := []) rfl (by simp) (fun a i hi hJ => ?_) (fun a _ => ?_)
   ·subst hJ
    unfold ref06_Check_b4
    rw [if_pos (by simpa using hi), ix_lt hi]
    simp only [Option.bind_some, berthS]
    by_cases hg : goodBB h.Berths[i] = true
    ·rw [if_pos hg]
     have hg2 := hg
     simp only [goodBB, decide_eq_true_eq] at hg2
     have e1 : ref06_in h.Berths[i].ID 1 1099511627776 = true := by simp [ref06_in]; omega
     have e2 : ref06_in h.Berths[i].Depth 0 8000 = true := by simp [ref06_in]; omega
     simp only [gb, e1, Bool.not_true, Bool.not_false, if_true, Option.bind_some, e2, Bool.or_false, Bool.false_eq_true, if_false]
     rw [lp_dup h.Berths (fun x => decide (x.ID = h.Berths[i].ID)) (Nat.le_of_lt hi) hh.b (.inr 6) (.inl ((i + 1 : Nat) : Int)) (fun k hk => by
      unfold ref06_Check_b6
      rw [if_pos (by simpa using hk), ix_lt (by omega), Option.bind_some, ix_lt hi, Option.bind_some]
      by_cases c : (h.Berths[k]'(by omega)).ID = h.Berths[i].ID
      ·rw [if_pos (by simpa using c), if_pos (by simpa using c)]
      ·rw [if_neg (by simpa using c), if_neg (by simpa using c), w64s' (show k < h.Berths.length by omega) hh.b]) (by
      unfold ref06_Check_b6 ref06_Check_j5
      rw [if_neg (by simp), w64s' hi hh.b]; rfl)]
     by_cases hc : ((h.Berths.take i).any fun x => decide (x.ID = h.Berths[i].ID)) = true
     ·right; rw [if_pos hc, if_pos hc]
     ·left
      rw [if_neg hc, if_neg hc]
      exact ⟨_, rfl, rfl, by rw [List.take_succ_eq_append_getElem hi]⟩
    ·right
     rw [if_neg hg]
     simp only [goodBB, decide_eq_true_eq] at hg
     by_cases e1 : ref06_in h.Berths[i].ID 1 1099511627776 = true
     ·have e2 : ref06_in h.Berths[i].Depth 0 8000 = false := by
       simp [ref06_in] at e1 ⊢; omega
      simp only [gb, e1, Bool.not_true, Bool.not_false, if_true, Option.bind_some, e2, Bool.or_true]
     ·have e1' : ref06_in h.Berths[i].ID 1 1099511627776 = false := by simpa using e1
      simp [gb, e1']
   ·unfold ref06_Check_b4
    rw [if_neg (by simp)]
    unfold ref06_Check_j1
    rw [lp_list h.Tides hh.t (fun (_ : Int) i => i) (tideS (keelS h)) (fun i a => a = if i = 0 then -1 else (h.Tides.getD (i - 1) default).Hi) (a := -1) rfl rfl (fun a i hi hJ => ?_) (fun a _ => ?_)]
    ·rfl
    ·unfold ref06_Check_b3
     rw [if_pos (by simpa using hi), ix_lt hi, Option.bind_some, rstay_eq]
     simp only [tideS]
     by_cases ht : timedB h.Tides[i] = true
     ·have ht2 := ht
      simp only [timedB, decide_eq_true_eq] at ht2
      by_cases i0 : i = 0
      ·left
       subst i0
       rw [if_pos rfl] at hJ
       rw [if_pos ⟨ht, by omega⟩]
       simp only [gb, ht]
       refine ⟨_, ?_, rfl, ?_⟩
       ·rw [if_neg (by simp)]; simp; rw [w64_id (by omega) (by omega)] <;> rfl
       ·rw [if_neg (by omega), Nat.add_sub_cancel, getD_lt hi]
      ·rw [if_neg i0] at hJ
       have ei : (0 : Int) < (i : Int) := by omega
       have hp : ix h.Tides (w64 ((i : Int) - 1)) = some (h.Tides.getD (i - 1) default) := by
        have hlt := hh.t
        unfold Len at hlt
        rw [w64_id (by omega) (by omega), show (i : Int) - 1 = ((i - 1 : Nat) : Int) by omega, ix_getD (d := default) (by omega)]
       simp only [gb, ht, ei, decide_true, Bool.not_true, Bool.not_false, Bool.true_and, if_true, Option.bind_some, Bool.false_or]
       rw [hp, Option.bind_some, ← hJ]
       by_cases c : a < h.Tides[i].Lo
       ·left
        have rr : (if True ∧ a < h.Tides[i].Lo then tideS (keelS h) h.Tides[i].Hi (h.Tides.drop (i + 1)) else 1) = tideS (keelS h) h.Tides[i].Hi (h.Tides.drop (i + 1)) := if_pos ⟨trivial, c⟩
        rw [rr, if_neg (by simp; omega), w64s' hi hh.t]
        exact ⟨_, rfl, rfl, by rw [if_neg (by omega), Nat.add_sub_cancel, getD_lt hi]⟩
       ·right
        have rr : (if True ∧ a < h.Tides[i].Lo then tideS (keelS h) h.Tides[i].Hi (h.Tides.drop (i + 1)) else 1) = 1 := if_neg fun z => c z.2
        rw [rr, if_pos (by simp; omega)]
     ·right
      have ht' : timedB h.Tides[i] = false := by simpa using ht
      rw [if_neg (fun z => ht z.1)]
      simp [gb, ht']
    ·unfold ref06_Check_b3
     rw [if_neg (by simp)]
     unfold ref06_Check_j2 keelS
     simp only [tideS]
     by_cases hk : 0 ≤ h.Keel ∧ h.Keel ≤ 8000
     ·rw [if_pos hk, if_neg (by simp [ref06_in]; omega)]; rfl
     ·rw [if_neg hk, if_pos (by simp [ref06_in]; omega)]; rfl
 ·rw [if_neg h0, if_pos (by simp [h0])]
theorem valid_eq (c : api_Call) : ref06_valid c = rightB c := by
 unfold ref06_valid rightB ref06_in
 rw [Bool.eq_iff_iff]
 simp only [Bool.and_eq_true, decide_eq_true_eq]
 constructor <;> intro h <;> omega
theorem rberth_eq (h : api_Harbour) (hl : Len h.Berths) (id : Int) : ref06_berth h id = some (firstI (fun b => decide (b.ID = id)) h.Berths 0) := by
 unfold ref06_berth
 exact index_loop (body := ref06_berth_b2 h id) (fun b => decide (b.ID = id)) h.Berths hl (fun i hi => by
  unfold ref06_berth_b2
  rw [if_pos (by simpa using hi), ix_lt hi, Option.bind_some, w64s' hi hl]) (by
  unfold ref06_berth_b2
  rw [if_neg (by simp)]; rfl)
theorem depth_eq {h : api_Harbour} (hg : GoodH h) {i : Nat} {b : api_Berth} (hb : ix h.Berths (i : Int) = some b) (hbm : b ∈ h.Berths) {t : Int} (t0 : 0 ≤ t) (t1 : t ≤ 1048576) : ref06_depth h (i : Int) t = some (b.Depth + hgt h.Water t) := by
 obtain ⟨b0, b1, b2, b3⟩ := hg.bs b hbm
 have := hgt_bound hg.g t
 unfold ref06_depth
 rw [hb, Option.bind_some, At_eq hg.g t0 (by omega), Option.bind_some, w64_id (by omega) (by omega)]
end Go.Mx
