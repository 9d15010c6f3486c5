/- Plain laws, berths: the ships that wait, the plan. Conditions: none. -/
import Derived.Test.YtnkngglimidldaaLawYh
set_option linter.unusedVariables false
set_option linter.unusedSimpArgs false
namespace Go.Mx
theorem firstC_eq (l : List api_Call) (hl : Len l) (id : Int) : berth_first_api_Call__berth_callID l id = some (firstI (fun b => decide (b.ID = id)) l 0) := by
 unfold berth_first_api_Call__berth_callID slices_IndexFunc_api_Call__berth_first_api_Call_1__berth_callID
 have e := index_loop (body := slices_IndexFunc_api_Call__berth_first_api_Call_1__berth_callID_b2 l id) (fun b => decide (b.ID = id)) l hl (fun i hi => by
  unfold slices_IndexFunc_api_Call__berth_first_api_Call_1__berth_callID_b2
  rw [if_pos (by simpa using hi), ix_lt hi, Option.bind_some, w64s' hi hl]
  rfl) (by
  unfold slices_IndexFunc_api_Call__berth_first_api_Call_1__berth_callID_b2
  rw [if_neg (by simp)]; rfl)
 rw [e]; rfl
def callS : List api_Call → List api_Call → Int
 | _, [] => 0
 | pre, c :: r => if rightB c = true then (if (pre.any fun x => decide (x.ID = c.ID)) = true then 6 else callS (pre ++ [c]) r) else 1
def checkCS (h : api_Harbour) (l : List api_Call) : Int := if checkHS h = 0 then (if 10 < l.length then 2 else callS [] l) else checkHS h
theorem CheckCalls_eq (h : api_Harbour) (hh : LenH h) (l : List api_Call) (hl : Len l) : berth_CheckCalls h l = some (checkCS h l) := by
 unfold berth_CheckCalls checkCS
 rw [CheckH_eq h hh, Option.bind_some]
 by_cases h0 : checkHS h = 0
 ·rw [if_pos h0, if_neg (by simp [h0])]
  by_cases h1 : 10 < l.length
  ·rw [if_pos h1, if_pos (by simp; omega)]
  ·rw [if_neg h1, if_neg (by simp; omega)]
   refine lp_list l hl (fun (_ : List api_Call) i => i) callS (fun i a => a = l.take i) (a := []) rfl (by simp) (fun a i hi hJ => ?_) (fun a _ => ?_)
   ·subst hJ
    unfold berth_CheckCalls_b2
    rw [if_pos (by simpa using hi), ix_lt hi]
    simp only [Option.bind_some, callS, rightC_eq]
    by_cases hg : rightB l[i] = true
    ·rw [if_pos hg, firstC_eq _ hl, Option.bind_some, if_neg (by simp [hg])]
     have := first_lt (p := fun b : api_Call => decide (b.ID = l[i].ID)) hi (by simp)
     by_cases hc : ((l.take i).any fun x => decide (x.ID = l[i].ID)) = true
     ·right; rw [if_pos hc, if_pos (by rw [decide_eq_true_eq]; exact this.2 hc)]
     ·left
      rw [if_neg hc, if_neg (by rw [decide_eq_true_eq]; exact fun q => hc (this.1 q)), w64s' hi hl]
      exact ⟨_, rfl, rfl, by rw [List.take_succ_eq_append_getElem hi]⟩
    ·right
     rw [if_neg hg, if_pos (by simpa using hg)]
   ·unfold berth_CheckCalls_b2
    rw [if_neg (by simp)]; rfl
 ·rw [if_neg h0, if_pos (by simp [h0])]
theorem callS_zero : ∀ (l pre : List api_Call), callS pre l = 0 → pre.Pairwise (fun a b => a.ID ≠ b.ID) → (∀ b ∈ l, rightB b = true) ∧ (pre ++ l).Pairwise (fun a b => a.ID ≠ b.ID)
 | [], pre, h, hp => ⟨fun b hb => (by cases hb), by simpa using hp⟩
 | b :: r, pre, h, hp => by
  unfold callS at h
  split at h
  ·rename_i hg
   split at h
   ·cases h
   ·rename_i hn
    have hp' : (pre ++ [b]).Pairwise (fun a b => a.ID ≠ b.ID) := by
     rw [List.pairwise_append]
     refine ⟨hp, List.pairwise_singleton _ _, fun x hx y hy => ?_⟩
     rw [List.mem_singleton] at hy
     subst hy
     intro q
     exact hn (List.any_eq_true.2 ⟨x, hx, by simpa using q⟩)
    obtain ⟨q2, q3⟩ := callS_zero r (pre ++ [b]) h hp'
    refine ⟨fun x hx => ?_, by simpa using q3⟩
    rcases List.mem_cons.1 hx with rfl | hx
    ·exact hg
    ·exact q2 x hx
  ·cases h
structure GoodL (h : api_Harbour) (l : List api_Call) : Prop where
 h : GoodH h
 n : l.length ≤ 10
 r : ∀ c ∈ l, rightB c = true
 d : l.Pairwise (fun a b => a.ID ≠ b.ID)
theorem GoodL.of {h : api_Harbour} {l : List api_Call} (hh : LenH h) (e : checkCS h l = 0) : GoodL h l := by
 unfold checkCS at e
 split at e
 ·rename_i e1
  split at e
  ·cases e
  ·obtain ⟨q1, q2⟩ := callS_zero l [] e .nil
   exact ⟨GoodH.of hh e1, by omega, q1, by simpa using q2⟩
 ·contradiction
theorem laid_ok {h : api_Harbour} {l : List api_Call} (hg : GoodL h l) : BOK (laidS h l) := by
 have := hg.h.nb; have := hg.h.nt
 refine ⟨hg.n, ?_, by simp [laidS], by simp [laidS]⟩
 simp only [laidS, slotsS_len]
 have : h.Berths.length * h.Tides.length ≤ 6 * 12 := Nat.mul_le_mul (by omega) (by omega)
 omega
def stayB (b : berth_board) (i : Nat) (k : Int) : List api_Stay := if k < 0 then [] else [⟨(b.calls.getD i default).ID, b.slots.getD k.toNat default, (lookM (b.slots.getD k.toNat default) (b.can.getD i [])).getD ⟨0, 0⟩⟩]
def planR (b : berth_board) : Nat → List Int → List api_Stay
 | _, [] => []
 | i, k :: r => stayB b i k ++ planR b (i + 1) r
theorem planR_snoc (b : berth_board) : ∀ (f : List Int) (i : Nat) (k : Int), planR b i (f ++ [k]) = planR b i f ++ stayB b (i + f.length) k
 | [], i, k => by simp [planR]
 | a :: f, i, k => by
  simp only [List.cons_append, planR, planR_snoc b f (i + 1) k, List.append_assoc, List.length_cons]
  rw [show i + 1 + f.length = i + (f.length + 1) by omega]
theorem planR_len (b : berth_board) : ∀ (f : List Int) (i : Nat), (planR b i f).length ≤ f.length
 | [], i => Nat.le_refl _
 | a :: f, i => by
  have := planR_len b f (i + 1)
  simp only [planR, List.length_append, List.length_cons]
  unfold stayB
  split <;> simp only [List.length_nil, List.length_cons] <;> omega
def CanFix (b : berth_board) (want : Int) (fixed : List Int) : Prop := ∃ s, AsgB b s ∧ OkB b s ∧ FixOK b fixed s ∧ totB b [] s = want
theorem canFix_iff {b : berth_board} (hB : BOK b) {want : Int} (h0 : want ≤ 0) (hm : ∀ s, AsgB b s → want ≤ totB b [] s) {fixed : List Int} (hf : fixed.length ≤ b.calls.length) {out : List Int} {sum : Int} (h : Best b fixed out sum) : sum = want ↔ CanFix b want fixed := by
 constructor
 ·intro e
  obtain ⟨q1, q2⟩ := tot_ok hB hf (s := fun r => (gI out r).toNat) (by rw [← h.e]; omega)
  exact ⟨_, h.a, q1, q2, by rw [← tot_fix q2, ← h.e]; exact e⟩
 ·rintro ⟨s, q1, q2, q3, q4⟩
  have a := h.m s q1
  rw [tot_fix q3, q4] at a
  have b1 := hm _ h.a
  have b2 := tot_le b fixed (fun r => (gI out r).toNat)
  rw [← h.e] at b2
  omega
structure PlanI (b : berth_board) (want : Int) (i : Nat) (fixed : List Int) : Prop where
 l : fixed.length = i
 v : ∀ r, r < i → gI fixed r = -1 ∨ ∃ k : Nat, gI fixed r = (k : Int) ∧ k < b.slots.length ∧ canB b r k = true
 c : CanFix b want fixed
 f : ∀ r, r < i → ∀ k : Nat, k < b.slots.length → canB b r k = true → (gI fixed r = -1 ∨ (k : Int) < gI fixed r) → ¬ CanFix b want (fixed.take r ++ [(k : Int)])
theorem gI_app {l : List Int} {x : Int} {r : Nat} : gI (l ++ [x]) r = if r < l.length then gI l r else if r = l.length then x else 0 := by
 unfold gI
 rw [List.getD_eq_getElem?_getD, List.getD_eq_getElem?_getD]
 by_cases h : r < l.length
 ·rw [if_pos h, List.getElem?_append_left h]
 ·rw [if_neg h, List.getElem?_append_right (by omega)]
  by_cases e : r = l.length
  ·rw [if_pos e, e]; simp
  ·rw [if_neg e, List.getElem?_eq_none (by simp; omega)]; rfl
theorem PlanI.snoc {b : berth_board} {want : Int} {i : Nat} {fixed : List Int} (h : PlanI b want i fixed) {x : Int} (hv : x = -1 ∨ ∃ k : Nat, x = (k : Int) ∧ k < b.slots.length ∧ canB b i k = true) (hc : CanFix b want (fixed ++ [x]))
  (hf : ∀ k : Nat, k < b.slots.length → canB b i k = true → (x = -1 ∨ (k : Int) < x) → ¬ CanFix b want (fixed ++ [(k : Int)])) : PlanI b want (i + 1) (fixed ++ [x]) := by
 have hl := h.l
 refine ⟨by simp [hl], fun r hr => ?_, hc, fun r hr k hk hk2 hk3 => ?_⟩
 ·rw [gI_app]
  by_cases e : r < fixed.length
  ·rw [if_pos e]; exact h.v r (by omega)
  ·have e2 : r = i := by omega
   rw [if_neg e, if_pos (by omega), e2]; exact hv
 ·rw [gI_app] at hk3
  by_cases e : r < fixed.length
  ·rw [if_pos e] at hk3
   rw [List.take_append_of_le_length (by omega)]
   exact h.f r (by omega) k hk hk2 hk3
  ·have e2 : r = i := by omega
   rw [if_neg e, if_pos (by omega)] at hk3
   rw [e2] at hk2 ⊢
   rw [show i = fixed.length by omega, List.take_left]
   exact hf k hk hk2 hk3
theorem fixOK_app {b : berth_board} {fixed : List Int} {x : Int} {s : Nat → Nat} : FixOK b (fixed ++ [x]) s ↔ FixOK b fixed s ∧ (s fixed.length : Int) = if x < 0 then ((b.slots.length + fixed.length : Nat) : Int) else x := by
 unfold FixOK
 have e1 : ∀ r, r < fixed.length → fixK b (fixed ++ [x]) r = fixK b fixed r := fun r hr => by unfold fixK; rw [gI_app, if_pos hr]
 have e2 : fixK b (fixed ++ [x]) fixed.length = if x < 0 then ((b.slots.length + fixed.length : Nat) : Int) else x := by
  have : gI (fixed ++ [x]) fixed.length = x := by rw [gI_app, if_neg (by omega), if_pos rfl]
  unfold fixK
  rw [this]
 constructor
 ·intro h
  refine ⟨fun r hr => by rw [← e1 r hr]; exact h r (by simp; omega), by rw [← e2]; exact h _ (by simp)⟩
 ·rintro ⟨h1, h2⟩ r hr
  simp only [List.length_append, List.length_cons, List.length_nil] at hr
  by_cases e : r < fixed.length
  ·rw [e1 r e]; exact h1 r e
  ·rw [show r = fixed.length by omega, e2]; exact h2
theorem plan_eq {b : berth_board} (hB : BOK b) {out0 : List Int} {want : Int} (h0 : Best b [] out0 want) (hb0 : berth_board_best b [] = some (out0, want)) : ∃ fixed, PlanI b want b.calls.length fixed ∧ berth_board_plan b = some (planR b 0 fixed) := by
 have nc := hB.nc; have ns := hB.ns; have hlc := hB.lc
 obtain ⟨w0, w1⟩ := best_nil hB h0
 have start : PlanI b want 0 [] := ⟨rfl, fun r hr => by omega, ⟨_, h0.a, w1, fun r hr => by simp at hr, by rw [h0.e]⟩, fun r hr => by omega⟩
 unfold berth_board_plan
 rw [hb0, Option.bind_some]
 obtain ⟨⟨x, f, o⟩, ⟨rfl, h1, h2⟩, h3⟩ := lp_exit (body := berth_board_plan_b2 b (out0, want)) (X := fun s => berth_board_plan_j1 s.2.2) (s0 := (0, [], []))
  (fun i s => s.1 = (i : Int) ∧ PlanI b want i s.2.1 ∧ s.2.2 = planR b 0 s.2.1) b.calls.length (by omega) ⟨rfl, start, rfl⟩
  (fun i s hi hI => by
   obtain ⟨x, f, o⟩ := s
   simp only at hI
   obtain ⟨rfl, hI, rfl⟩ := hI
   have hfl := hI.l
   have hol := planR_len b f 0
   unfold berth_board_plan_b2
   simp only
   rw [if_pos (by simpa using hi), ix_getD (d := default) hi, Option.bind_some]
   have key := lp_inv' (body := berth_board_plan_b5 b (out0, want) (i : Int) f (planR b 0 f) (b.calls.getD i default)) (s0 := 0) (fun q s => s = (q : Int) ∧ ∀ k : Nat, k < q → canB b i k = true → ¬ CanFix b want (f ++ [(k : Int)]))
    (fun r => ∃ s', r = .inl s' ∧ s'.1 = ((i + 1 : Nat) : Int) ∧ PlanI b want (i + 1) s'.2.1 ∧ s'.2.2 = planR b 0 s'.2.1) b.slots.length (by omega) ⟨rfl, fun k hk => by omega⟩ (fun q s hq hJ => by
     obtain ⟨rfl, hJ⟩ := hJ
     have hj6 : berth_board_plan_j6 (q : Int) = some (.inl ((q + 1 : Nat) : Int)) := by unfold berth_board_plan_j6; rw [w64_id (by omega) (by omega)]; rfl
     have hj3 : ∀ (z : List Int) (y : List api_Stay), berth_board_plan_j3 (i : Int) z y = some (.inl (((i + 1 : Nat) : Int), z, y)) := fun z y => by unfold berth_board_plan_j3; rw [w64_id (by omega) (by omega)]; rfl
     unfold berth_board_plan_b5
     simp only
     by_cases hqs : q < b.slots.length
     ·rw [if_pos (by simpa using hqs), ix_getD (d := default) hqs, Option.bind_some, ix_getD (d := []) (by omega), Option.bind_some]
      have hcb : (lookM (b.slots.getD q default) (b.can.getD i [])).isSome = canB b i q := rfl
      rw [hcb]
      by_cases hc : canB b i q = true
      ·obtain ⟨out, sum, g1, g2⟩ := best_spec hB (fixed := f ++ [(q : Int)]) (by simp; omega)
       have hiff := canFix_iff hB w0 h0.m (by simp; omega) g2
       rw [if_neg (by simp [hc]), app_ok (l := []) (by simp; omega), Option.bind_some, app_ok (by simp; omega), Option.bind_some, List.nil_append, g1, Option.bind_some]
       by_cases he : sum = want
       ·rw [if_pos (by simpa using he), app_ok (by simp; omega), Option.bind_some, app_ok (by simp only [List.length_cons, List.length_nil]; omega), Option.bind_some, hj3]
        refine .inr ⟨_, rfl, _, rfl, rfl, hI.snoc (.inr ⟨q, rfl, hqs, hc⟩) (hiff.1 he) fun k hk hk2 hk3 => hJ k (by omega) hk2, ?_⟩
        simp only
        rw [planR_snoc, hfl, Nat.zero_add]
        unfold stayB
        rw [if_neg (by omega), show ((q : Int)).toNat = q by omega]
       ·rw [if_neg (by simpa using he), hj6]
        refine .inl ⟨hqs, _, rfl, rfl, fun k hk hk2 => ?_⟩
        by_cases e : k = q
        ·subst e; exact fun z => he (hiff.2 z)
        ·exact hJ k (by omega) hk2
      ·rw [if_pos (by simpa using hc), hj6]
       refine .inl ⟨hqs, _, rfl, rfl, fun k hk hk2 => ?_⟩
       by_cases e : k = q
       ·subst e; exact absurd hk2 hc
       ·exact hJ k (by omega) hk2
     ·have e : q = b.slots.length := by omega
      subst e
      rw [if_neg (by simp)]
      unfold berth_board_plan_j4
      rw [app_ok (by simp; omega), Option.bind_some, hj3]
      refine .inr ⟨_, rfl, _, rfl, rfl, hI.snoc (.inl rfl) ?_ fun k hk hk2 _ => hJ k hk hk2, ?_⟩
      ·obtain ⟨s, q1, q2, q3, q4⟩ := hI.c
       refine ⟨s, q1, q2, fixOK_app.2 ⟨q3, ?_⟩, q4⟩
       rw [if_pos (by decide), hfl]
       rcases q2 i hi with e | ⟨e1, e2⟩
       ·rw [e]
       ·exact absurd ⟨s, q1, q2, fixOK_app.2 ⟨q3, by rw [if_neg (by omega), hfl]⟩, q4⟩ (hJ (s i) e1 e2)
      ·simp only
       rw [planR_snoc, stayB, if_pos (by decide), List.append_nil])
   obtain ⟨r, g1, s', rfl, g2, g3, g4⟩ := key
   exact ⟨s', g1, g2, g3, g4⟩)
  (fun s hI => by
   obtain ⟨x, f, o⟩ := s
   simp only at hI
   obtain ⟨rfl, _⟩ := hI
   unfold berth_board_plan_b2
   simp only
   rw [if_neg (by simp)])
 simp only at h1 h2 h3
 exact ⟨f, h1, by rw [h3, h2]; rfl⟩
end Go.Mx
