/- Plain laws of ships, fifth part: loads are compared, narrowed, and lessened. Conditions: none. -/
import Derived.Test.YthfnbjoecocfaaaLawHd
import Derived.Test.YthfnbjoecocfaaaLawHullSan
set_option linter.unusedVariables false
set_option linter.unusedSimpArgs false
namespace Go.Mx

/-! Narrow. -/
/-! Behind. -/
def leftS (h x : api_Span) : api_Span := ⟨max 0 (w64 (h.Lo - x.Hi)), w64 (h.Hi - x.Lo)⟩
def leftL (l : api_Load) (out : List api_Span) : api_Load := ⟨List.zipWith leftS l.Holds out, ⟨max 0 (w64 (l.All.Lo - w64 (hiSum out))), w64 (l.All.Hi - w64 (loSum out))⟩⟩
def outsB : List api_Hold → List api_Span → List api_Span → Bool
  | r :: rs, h :: hs, x :: xs => spanB x r.Room && !decide (h.Hi < x.Lo) && outsB rs hs xs
  | _, _, [] => true
  | _, _, _ => false
def behindJ (s : api_Ship) (l : api_Load) (out : List api_Span) : api_Load × Int := if l.All.Hi < w64 (loSum out) then (⟨[], ⟨0, 0⟩⟩, 1) else if loadE s (leftL l out) = 0 then (leftL l out, 0) else (⟨[], ⟨0, 0⟩⟩, loadE s (leftL l out))
def behindR (s : api_Ship) (l : api_Load) (out : List api_Span) : api_Load × Int := if chkL s l = 0 then (if (out.length : Int) = (s.Holds.length : Int) then (if outsB s.Holds l.Holds out = true then behindJ s l out else (⟨[], ⟨0, 0⟩⟩, 1)) else (⟨[], ⟨0, 0⟩⟩, 1)) else (⟨[], ⟨0, 0⟩⟩, chkL s l)
theorem leftW (l : api_Load) (out : List api_Span) : LoadW (leftL l out) := by
  unfold LoadW leftL
  simp only
  refine ⟨w64_w _, ?_⟩
  have := w64_rng (l.All.Lo - w64 (hiSum out))
  rw [w64_id (by omega) (by omega)]
theorem hbehindJ (s : api_Ship) (l : api_Load) (out : List api_Span) (hc : chk s = 0) (hl : Len s.Holds) (ho : Len out) : hull_Behind_j1 s l out (List.zipWith leftS l.Holds out) = some (behindJ s l out) := by
  unfold hull_Behind_j1 behindJ
  rw [hsums_eq out ho, Option.bind_some, greater_max]
  by_cases h : l.All.Hi < w64 (loSum out)
  · rw [if_pos (by simpa using h), if_pos h]
  · rw [if_neg (by simpa using h), if_neg h]
    have e : hull_CheckLoad s (leftL l out) = some (loadE s (leftL l out)) := by
      rw [hload_eq s _ hl (leftW l out)]; unfold chkL; rw [if_pos hc]
    unfold leftL at e ⊢
    rw [e, Option.bind_some]
    split <;> rename_i h2 <;> simp at h2 <;> simp [h2]
theorem ite_bt {α : Type} {c d : Bool} {A B : α} (h : c = true) : (if (c && d) = true then A else B) = if d = true then A else B := by subst h; simp
theorem ite_bf {α : Type} {c d : Bool} {A B : α} (h : ¬ c = true) : (if (c && d) = true then A else B) = B := by rw [Bool.not_eq_true] at h; subst h; simp
theorem zip_drop {α β γ : Type} (f : α → β → γ) (a : List α) (b : List β) (i : Nat) (h1 : i < a.length) (h2 : i < b.length) : List.zipWith f (a.drop i) (b.drop i) = f a[i] b[i] :: List.zipWith f (a.drop (i + 1)) (b.drop (i + 1)) := by
  rw [List.drop_eq_getElem_cons h1, List.drop_eq_getElem_cons h2, List.zipWith_cons_cons]
theorem hBehind_eq (s : api_Ship) (l : api_Load) (out : List api_Span) (hl : Len s.Holds) (hw : LoadW l) (ho : out.length ≤ 4294967295) : hull_Behind s l out = some (behindR s l out) := by
  unfold hull_Behind behindR
  rw [hload_eq s l hl hw, Option.bind_some]
  by_cases h : chkL s l = 0
  · rw [if_neg (by simp [h]), if_pos h]
    have hg := GoodL.of h
    have hc : chk s = 0 := by unfold chkL at h; split at h; · assumption
                              · assumption
    by_cases h2 : (out.length : Int) = (s.Holds.length : Int)
    · rw [if_neg (by have := hg.len; simp; omega), if_pos h2]
      have hol : out.length = l.Holds.length := by have := hg.len; omega
      refine (lp_list (body := hull_Behind_b2 s l out) (s0 := (0, [])) out (by omega) (fun (acc : List api_Span) i => (i, acc)) (fun acc r => if outsB (s.Holds.drop acc.length) (l.Holds.drop acc.length) r = true then behindJ s l out else (⟨[], ⟨0, 0⟩⟩, 1)) (fun i acc => acc.length = i ∧ acc ++ List.zipWith leftS (l.Holds.drop i) (out.drop i) = List.zipWith leftS l.Holds out) (a := []) rfl ⟨rfl, by simp⟩ (fun acc i hi hJ => ?_) (fun acc hJ => ?_)).trans rfl
      · have hi2 : i < l.Holds.length := by omega
        have hi3 : i < s.Holds.length := by omega
        unfold hull_Behind_b2
        simp only
        rw [if_pos (by simpa using hi), ix_lt hi, Option.bind_some, ix_lt hi2, Option.bind_some, w64s' hi (by omega), ix_lt hi3, hJ.1, List.drop_eq_getElem_cons hi2, List.drop_eq_getElem_cons hi3]
        simp only [outsB]
        by_cases hb : (spanB out[i] s.Holds[i].Room && !decide (l.Holds[i].Hi < out[i].Lo)) = true
        · left
          have hb2 := hb
          simp only [spanB, Bool.and_eq_true, decide_eq_true_eq, Bool.not_eq_true', decide_eq_false_iff_not] at hb2
          have e : (!(decide (out[i].Lo < 0) || decide (out[i].Hi < out[i].Lo))) = true := by simp; omega
          rw [e]
          simp only [gb, if_true, Option.bind_some]
          rw [if_neg (by simp only [Bool.or_eq_true, decide_eq_true_eq]; omega), app_ok (by simp; omega), Option.bind_some, greater_max]
          refine ⟨acc ++ [leftS l.Holds[i] out[i]], rfl, ?_, by simp [hJ.1], ?_⟩
          · simp only [List.length_append, List.length_singleton, hJ.1]
            exact ite_bt hb
          · rw [← hJ.2, zip_drop _ _ _ _ hi2 hi, List.append_assoc]; rfl
        · right
          have hb2 := hb
          simp only [spanB, Bool.and_eq_true, decide_eq_true_eq, Bool.not_eq_true', decide_eq_false_iff_not] at hb2
          refine Eq.trans ?_ (congrArg (fun z => some (Sum.inr z)) (ite_bf hb).symm)
          by_cases h1 : out[i].Lo < 0 ∨ out[i].Hi < out[i].Lo
          · have e : (decide (out[i].Lo < 0) || decide (out[i].Hi < out[i].Lo)) = true := by simp; omega
            simp only [e, gb, Bool.not_true, Bool.false_eq_true, if_false, Option.bind_some, Bool.true_or, if_true]
          · have e : (decide (out[i].Lo < 0) || decide (out[i].Hi < out[i].Lo)) = false := by simp; omega
            simp only [e, gb, Bool.not_false, if_true, Option.bind_some, Bool.false_or]
            rw [if_pos (by rw [Bool.or_eq_true, decide_eq_true_eq, decide_eq_true_eq]; omega)]
      · unfold hull_Behind_b2
        simp only
        have e : acc = List.zipWith leftS l.Holds out := by rw [← hJ.2]; simp
        rw [if_neg (by simp), e, hbehindJ s l out hc hl (by unfold Len; omega)]
        simp [outsB]
    · rw [if_pos (by have := hg.len; simp; omega), if_neg h2]
  · rw [if_pos (by simp [h]), if_neg h]
end Go.Mx
