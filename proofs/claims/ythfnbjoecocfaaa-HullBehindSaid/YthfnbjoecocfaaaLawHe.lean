/- Plain laws of ships, fifth part: loads are compared, narrowed, and lessened. Conditions: none. -/
import Derived.Test.YthfnbjoecocfaaaLawHd
import Derived.Test.YthfnbjoecocfaaaLawHullSan
set_option linter.unusedVariables false
set_option linter.unusedSimpArgs false
namespace Go.Mx

theorem sameLoads_eq (a b : api_Load) (ha : Len a.Holds) : ref03_SameLoads a b = some (decide (a = b)) := by
  unfold ref03_SameLoads
  have hab : a = b ↔ a.All = b.All ∧ a.Holds = b.Holds := by
    cases a; cases b; simp only [api_Load.mk.injEq]; exact ⟨fun h => ⟨h.2, h.1⟩, fun h => ⟨h.2, h.1⟩⟩
  by_cases h1 : a.All = b.All ∧ a.Holds.length = b.Holds.length
  · rw [if_neg (by simp [h1])]
    have h := lp_list (body := ref03_SameLoads_b2 a b) (s0 := 0) a.Holds ha (fun (_ : List api_Span) i => i) (fun r l => decide (l = r)) (fun i r => r = b.Holds.drop i) (a := b.Holds) rfl rfl (fun r i hi hJ => ?_) (fun r hJ => ?_)
    · rw [h]; simp [hab, h1]
    · have hi2 : i < b.Holds.length := by omega
      unfold ref03_SameLoads_b2
      simp only
      rw [if_pos (by simpa using hi), ix_lt hi, Option.bind_some, ix_lt hi2, Option.bind_some, w64s' hi ha, hJ, List.drop_eq_getElem_cons hi2]
      by_cases he : a.Holds[i] = b.Holds[i]
      · left
        rw [if_neg (by simp [he])]
        exact ⟨b.Holds.drop (i + 1), rfl, by simp only [he, List.cons.injEq, true_and], rfl⟩
      · right
        rw [if_pos (by simpa using he)]
        simp only [List.cons.injEq, he, false_and, decide_false]
    · unfold ref03_SameLoads_b2 ref03_SameLoads_j1
      simp only
      rw [if_neg (by simp)]
      have : r = [] := by rw [hJ, h1.2, List.drop_length]
      rw [this]; rfl
  · rw [if_pos (by
      simp only [Bool.or_eq_true, Bool.not_eq_true', decide_eq_false_iff_not]
      by_cases hA : a.All = b.All
      · exact .inr fun hh => h1 ⟨hA, by omega⟩
      · exact .inl hA)]
    have : ¬ a = b := fun h => h1 (by subst h; exact ⟨rfl, rfl⟩)
    simp [this]
/-! Narrow. -/
/-! Behind. -/
def leftS (h x : api_Span) : api_Span := ⟨max 0 (w64 (h.Lo - x.Hi)), w64 (h.Hi - x.Lo)⟩
def leftL (l : api_Load) (out : List api_Span) : api_Load := ⟨List.zipWith leftS l.Holds out, ⟨max 0 (w64 (l.All.Lo - w64 (hiSum out))), w64 (l.All.Hi - w64 (loSum out))⟩⟩
def outsB : List api_Hold → List api_Span → List api_Span → Bool
  | r :: rs, h :: hs, x :: xs => spanB x r.Room && !decide (h.Hi < x.Lo) && outsB rs hs xs
  | _, _, [] => true
  | _, _, _ => false
def behindJ (s : api_Ship) (l : api_Load) (out : List api_Span) : api_Load × Int := if l.All.Hi < w64 (loSum out) then (⟨[], ⟨0, 0⟩⟩, 1) else if loadE s (leftL l out) = 0 then (leftL l out, 0) else (⟨[], ⟨0, 0⟩⟩, loadE s (leftL l out))
def behindR (s : api_Ship) (l : api_Load) (out : List api_Span) : api_Load × Int := if chkL s l = 0 then (if (out.length : Int) = (s.Holds.length : Int) then (if outsB s.Holds l.Holds out = true then behindJ s l out else (⟨[], ⟨0, 0⟩⟩, 1)) else (⟨[], ⟨0, 0⟩⟩, 1)) else (⟨[], ⟨0, 0⟩⟩, chkL s l)
theorem leftW (l : api_Load) (out : List api_Span) : LoadW (leftL l out) := by
  unfold LoadW leftL
  simp only
  refine ⟨w64_w _, ?_⟩
  have := w64_rng (l.All.Lo - w64 (hiSum out))
  rw [w64_id (by omega) (by omega)]
theorem hbehindJ (s : api_Ship) (l : api_Load) (out : List api_Span) (hc : chk s = 0) (hl : Len s.Holds) (ho : Len out) : hull_Behind_j1 s l out (List.zipWith leftS l.Holds out) = some (behindJ s l out) := by
  unfold hull_Behind_j1 behindJ
  rw [hsums_eq out ho, Option.bind_some, greater_max]
  by_cases h : l.All.Hi < w64 (loSum out)
  · rw [if_pos (by simpa using h), if_pos h]
  · rw [if_neg (by simpa using h), if_neg h]
    have e : hull_CheckLoad s (leftL l out) = some (loadE s (leftL l out)) := by
      rw [hload_eq s _ hl (leftW l out)]; unfold chkL; rw [if_pos hc]
    unfold leftL at e ⊢
    rw [e, Option.bind_some]
    split <;> rename_i h2 <;> simp at h2 <;> simp [h2]
theorem rbehindJ (s : api_Ship) (l : api_Load) (out : List api_Span) (hc : chk s = 0) : ref03_Behind_j2 s l ⟨w64 (loSum out), w64 (hiSum out)⟩ (List.zipWith leftS l.Holds out) = some (if loadE s (leftL l out) = 0 then (leftL l out, 0) else (⟨[], ⟨0, 0⟩⟩, loadE s (leftL l out))) := by
  unfold ref03_Behind_j2
  have e : ref03_load s (leftL l out) = some (loadE s (leftL l out)) := rload_eq (GoodS.of hc) (leftW l out)
  unfold leftL at e ⊢
  simp only
  rw [e, Option.bind_some]
  split <;> rename_i h2 <;> simp at h2 <;> simp [h2]
theorem ite_bt {α : Type} {c d : Bool} {A B : α} (h : c = true) : (if (c && d) = true then A else B) = if d = true then A else B := by subst h; simp
theorem ite_bf {α : Type} {c d : Bool} {A B : α} (h : ¬ c = true) : (if (c && d) = true then A else B) = B := by rw [Bool.not_eq_true] at h; subst h; simp
theorem zip_drop {α β γ : Type} (f : α → β → γ) (a : List α) (b : List β) (i : Nat) (h1 : i < a.length) (h2 : i < b.length) : List.zipWith f (a.drop i) (b.drop i) = f a[i] b[i] :: List.zipWith f (a.drop (i + 1)) (b.drop (i + 1)) := by
  rw [List.drop_eq_getElem_cons h1, List.drop_eq_getElem_cons h2, List.zipWith_cons_cons]
theorem hBehind_eq (s : api_Ship) (l : api_Load) (out : List api_Span) (hl : Len s.Holds) (hw : LoadW l) (ho : out.length ≤ 4294967295) : hull_Behind s l out = some (behindR s l out) := by
  unfold hull_Behind behindR
  rw [hload_eq s l hl hw, Option.bind_some]
  by_cases h : chkL s l = 0
  · rw [if_neg (by simp [h]), if_pos h]
    have hg := GoodL.of h
    have hc : chk s = 0 := by unfold chkL at h; split at h; · assumption
                              · assumption
    by_cases h2 : (out.length : Int) = (s.Holds.length : Int)
    · rw [if_neg (by have := hg.len; simp; omega), if_pos h2]
      have hol : out.length = l.Holds.length := by have := hg.len; omega
      refine (lp_list (body := hull_Behind_b2 s l out) (s0 := (0, [])) out (by omega) (fun (acc : List api_Span) i => (i, acc)) (fun acc r => if outsB (s.Holds.drop acc.length) (l.Holds.drop acc.length) r = true then behindJ s l out else (⟨[], ⟨0, 0⟩⟩, 1)) (fun i acc => acc.length = i ∧ acc ++ List.zipWith leftS (l.Holds.drop i) (out.drop i) = List.zipWith leftS l.Holds out) (a := []) rfl ⟨rfl, by simp⟩ (fun acc i hi hJ => ?_) (fun acc hJ => ?_)).trans rfl
      · have hi2 : i < l.Holds.length := by omega
        have hi3 : i < s.Holds.length := by omega
        unfold hull_Behind_b2
        simp only
        rw [if_pos (by simpa using hi), ix_lt hi, Option.bind_some, ix_lt hi2, Option.bind_some, w64s' hi (by omega), ix_lt hi3, hJ.1, List.drop_eq_getElem_cons hi2, List.drop_eq_getElem_cons hi3]
        simp only [outsB]
        by_cases hb : (spanB out[i] s.Holds[i].Room && !decide (l.Holds[i].Hi < out[i].Lo)) = true
        · left
          have hb2 := hb
          simp only [spanB, Bool.and_eq_true, decide_eq_true_eq, Bool.not_eq_true', decide_eq_false_iff_not] at hb2
          have e : (!(decide (out[i].Lo < 0) || decide (out[i].Hi < out[i].Lo))) = true := by simp; omega
          rw [e]
          simp only [gb, if_true, Option.bind_some]
          rw [if_neg (by simp only [Bool.or_eq_true, decide_eq_true_eq]; omega), app_ok (by simp; omega), Option.bind_some, greater_max]
          refine ⟨acc ++ [leftS l.Holds[i] out[i]], rfl, ?_, by simp [hJ.1], ?_⟩
          · simp only [List.length_append, List.length_singleton, hJ.1]
            exact ite_bt hb
          · rw [← hJ.2, zip_drop _ _ _ _ hi2 hi, List.append_assoc]; rfl
        · right
          have hb2 := hb
          simp only [spanB, Bool.and_eq_true, decide_eq_true_eq, Bool.not_eq_true', decide_eq_false_iff_not] at hb2
          refine Eq.trans ?_ (congrArg (fun z => some (Sum.inr z)) (ite_bf hb).symm)
          by_cases h1 : out[i].Lo < 0 ∨ out[i].Hi < out[i].Lo
          · have e : (decide (out[i].Lo < 0) || decide (out[i].Hi < out[i].Lo)) = true := by simp; omega
            simp only [e, gb, Bool.not_true, Bool.false_eq_true, if_false, Option.bind_some, Bool.true_or, if_true]
          · have e : (decide (out[i].Lo < 0) || decide (out[i].Hi < out[i].Lo)) = false := by simp; omega
            simp only [e, gb, Bool.not_false, if_true, Option.bind_some, Bool.false_or]
            rw [if_pos (by rw [Bool.or_eq_true, decide_eq_true_eq, decide_eq_true_eq]; omega)]
      · unfold hull_Behind_b2
        simp only
        have e : acc = List.zipWith leftS l.Holds out := by rw [← hJ.2]; simp
        rw [if_neg (by simp), e, hbehindJ s l out hc hl (by unfold Len; omega)]
        simp [outsB]
    · rw [if_pos (by have := hg.len; simp; omega), if_neg h2]
  · rw [if_pos (by simp [h]), if_neg h]
theorem rBehind_eq (s : api_Ship) (l : api_Load) (out : List api_Span) (hl : Len s.Holds) (hw : LoadW l) (ho : out.length ≤ 4294967295) : ref03_Behind s l out = some (behindR s l out) := by
  unfold ref03_Behind behindR
  rw [rcload_eq s l hl hw, Option.bind_some]
  by_cases h : chkL s l = 0
  · rw [if_neg (by simp [h]), if_pos h]
    have hg := GoodL.of h
    have hc : chk s = 0 := by unfold chkL at h; split at h; · assumption
                              · assumption
    by_cases h2 : (out.length : Int) = (s.Holds.length : Int)
    · rw [if_neg (by simp [h2]), if_pos h2]
      have hol : out.length = l.Holds.length := by have := hg.len; omega
      have hj1 : ref03_Behind_j1 s l out = some (behindJ s l out) := by
        unfold ref03_Behind_j1 behindJ
        rw [rsums_eq out (by unfold Len; omega), Option.bind_some]
        by_cases h3 : l.All.Hi < w64 (loSum out)
        · rw [if_pos (by simpa using h3), if_pos h3]
        · rw [if_neg (by simpa using h3), if_neg h3]
          refine (lp_list (body := ref03_Behind_b3 s l out _) (s0 := (0, [])) out (by omega) (fun (acc : List api_Span) i => (i, acc)) (fun acc r => if loadE s (leftL l out) = 0 then (leftL l out, 0) else (⟨[], ⟨0, 0⟩⟩, loadE s (leftL l out))) (fun i acc => acc.length = i ∧ acc ++ List.zipWith leftS (l.Holds.drop i) (out.drop i) = List.zipWith leftS l.Holds out) (a := []) rfl ⟨rfl, by simp⟩ (fun acc i hi hJ => ?_) (fun acc hJ => ?_)).trans rfl
          · have hi2 : i < l.Holds.length := by omega
            unfold ref03_Behind_b3
            simp only
            rw [if_pos (by simpa using hi), ix_lt hi2, Option.bind_some, ix_lt hi, Option.bind_some, Option.bind_some, Option.bind_some, w64s' hi (by omega), app_ok (by simp; omega), Option.bind_some]
            refine .inl ⟨acc ++ [leftS l.Holds[i] out[i]], rfl, by simp, by simp [hJ.1], ?_⟩
            rw [← hJ.2, zip_drop _ _ _ _ hi2 hi, List.append_assoc]; rfl
          · unfold ref03_Behind_b3
            simp only
            have e : acc = List.zipWith leftS l.Holds out := by rw [← hJ.2]; simp
            rw [if_neg (by simp), e, rbehindJ s l out hc]; rfl
      refine (lp_list (body := ref03_Behind_b4 s l out) (s0 := 0) out (by omega) (fun (n : Nat) i => i) (fun n r => if outsB (s.Holds.drop n) (l.Holds.drop n) r = true then behindJ s l out else (⟨[], ⟨0, 0⟩⟩, 1)) (fun i n => n = i) (a := 0) rfl rfl (fun n i hi hJ => ?_) (fun n hJ => ?_)).trans rfl
      · have hi2 : i < l.Holds.length := by omega
        have hi3 : i < s.Holds.length := by omega
        subst hJ
        unfold ref03_Behind_b4
        simp only
        rw [if_pos (by simpa using hi), ix_lt hi, Option.bind_some, ix_lt hi3, Option.bind_some, w64s' hi (by omega), ix_lt hi2, List.drop_eq_getElem_cons hi2, List.drop_eq_getElem_cons hi3]
        simp only [outsB]
        have e : ref03_span out[n] 0 s.Holds[n].Room = spanB out[n] s.Holds[n].Room := rfl
        rw [e]
        by_cases hb : spanB out[n] s.Holds[n].Room = true
        · simp only [hb, Bool.not_true, Bool.not_false, gb, if_true, Option.bind_some, Bool.false_or, Bool.true_and]
          by_cases h5 : l.Holds[n].Hi < out[n].Lo
          · right
            rw [if_pos (by simpa using h5), if_neg (by simp [h5])]
          · left
            rw [if_neg (by simpa using h5)]
            refine ⟨n + 1, by simp, ?_, rfl⟩
            simp only [h5, decide_false, Bool.not_false, Bool.true_and]
        · right
          simp only [Bool.not_eq_true] at hb
          simp only [hb, gb, Bool.not_false, Bool.not_true, Bool.false_eq_true, if_false, Option.bind_some, Bool.true_or, if_true, Bool.false_and]
      · unfold ref03_Behind_b4
        simp only
        rw [if_neg (by simp), hj1]
        simp [outsB]
    · rw [if_pos (by simpa using h2), if_neg h2]
  · rw [if_pos (by simp [h]), if_neg h]
end Go.Mx
