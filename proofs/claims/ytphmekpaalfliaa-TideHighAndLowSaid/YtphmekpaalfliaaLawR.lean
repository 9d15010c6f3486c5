/- Plain laws of water, sixth part: turns. Conditions: none. -/
import Derived.Test.YtphmekpaalfliaaLawS
set_option linter.unusedVariables false
namespace Go.Mx

/-- The stands that are higher (sign 1) or lower (sign -1) than both beside them. -/
def turnS (sg : Int) : List api_Stand → List api_Stand
  | a :: b :: c :: r => if sg * a.Height < sg * b.Height ∧ sg * c.Height < sg * b.Height then b :: turnS sg (b :: c :: r) else turnS sg (b :: c :: r)
  | _ => []
theorem turnS_short (sg : Int) (l : List api_Stand) (h : l.length ≤ 2) : turnS sg l = [] := by
  match l, h with
  | [], _ => rfl
  | [_], _ => rfl
  | [_, _], _ => rfl
theorem turnS_len (sg : Int) : ∀ l : List api_Stand, (turnS sg l).length ≤ l.length
  | a :: b :: c :: r => by
    have := turnS_len sg (b :: c :: r)
    unfold turnS
    split
    · simp only [List.length_cons] at *; omega
    · simp only [List.length_cons] at *; omega
  | [] => by simp [turnS]
  | [_] => by simp [turnS]
  | [_, _] => by simp [turnS]
theorem turnS_drop (sg : Int) (l : List api_Stand) (k : Nat) (h : k + 2 < l.length) : turnS sg (l.drop k) = (if sg * (l[k]'(by omega)).Height < sg * (l[k + 1]'(by omega)).Height ∧ sg * l[k + 2].Height < sg * (l[k + 1]'(by omega)).Height then [l[k + 1]'(by omega)] else []) ++ turnS sg (l.drop (k + 1)) := by
  rw [List.drop_eq_getElem_cons (show k < l.length by omega), List.drop_eq_getElem_cons (show k + 1 < l.length by omega), List.drop_eq_getElem_cons (show k + 1 + 1 < l.length by omega)]
  conv => lhs; unfold turnS
  split <;> rfl
theorem w64_nt (n : Int) (h0 : -100000 ≤ n) (h1 : n ≤ 100000) : w64 n = n := w64_id (by omega) (by omega)
theorem turns_eq (w : api_Water) (hw : LenW w) (s : api_Span) (sg : Int) (hs : sg = 1 ∨ sg = -1) : tide_turns w s sg = some (turnS sg (standsS w s).1, (standsS w s).2) := by
  unfold tide_turns
  rw [Stands_eq w hw, Option.bind_some]
  have hlen := standsS_len hw s
  have hb := standsS_bound hw s
  generalize standsS w s = y at *
  obtain ⟨L, e⟩ := y
  simp only at hlen hb ⊢
  suffices h : ∃ r, Lp (tide_turns_b2 sg (L, e)) fuel (1, []) = some r ∧ r = (turnS sg L, e) by obtain ⟨r, h, rfl⟩ := h; exact h
  refine lp_inv' (fun i s => s.1 = (i : Int) + 1 ∧ s.2.length ≤ i ∧ turnS sg L = s.2 ++ turnS sg (L.drop i)) _ L.length (by omega) ⟨rfl, by simp, by simp⟩ fun i s hi hI => ?_
  obtain ⟨i', acc⟩ := s
  simp only at hI
  obtain ⟨rfl, hI1, hI2⟩ := hI
  unfold tide_turns_b2
  simp only
  rw [w64_nt ((i : Int) + 1 + 1) (by omega) (by omega), w64_nt ((i : Int) + 1 - 1) (by omega) (by omega)]
  by_cases h : i + 2 < L.length
  · left
    have e1 : ix L ((i : Int) + 1) = some L[i + 1] := ix_lt (i := i + 1) (by omega)
    have e2 : ix L ((i : Int) + 1 - 1) = some L[i] := by rw [show (i : Int) + 1 - 1 = (i : Int) by omega]; exact ix_lt (by omega)
    have e3 : ix L ((i : Int) + 1 + 1) = some L[i + 2] := ix_lt (i := i + 2) (by omega)
    rw [if_pos (by rw [decide_eq_true_eq]; omega), e1, e2, e3]
    simp only [Option.bind_some]
    have a0 := hb L[i] (List.getElem_mem _)
    have a1 := hb L[i + 1] (List.getElem_mem _)
    have a2 := hb L[i + 2] (List.getElem_mem _)
    rw [sign_cases hs (n := L[i].Height) (by omega) (by omega), sign_cases hs (n := L[i + 1].Height) (by omega) (by omega)]
    have hd := turnS_drop sg L i h
    refine ⟨by omega, ?_⟩
    by_cases hc : sg * L[i].Height < sg * L[i + 1].Height
    · have e4 : decide (sg * L[i].Height < sg * L[i + 1].Height) = true := by simpa using hc
      simp only [e4, gb, if_true, Option.bind_some, Bool.true_and]
      rw [sign_cases hs (n := L[i + 1].Height) (by omega) (by omega), sign_cases hs (n := L[i + 2].Height) (by omega) (by omega)]
      by_cases hc2 : sg * L[i + 2].Height < sg * L[i + 1].Height
      · rw [if_pos (by simpa using hc2), app_one (by omega), Option.bind_some]
        unfold tide_turns_j3
        rw [w64_nt _ (by omega) (by omega)]
        refine ⟨_, rfl, by simp only; omega, by simp; omega, ?_⟩
        rw [hI2, hd, if_pos ⟨hc, hc2⟩, List.append_assoc]
      · rw [if_neg (by simpa using hc2)]
        unfold tide_turns_j3
        rw [w64_nt _ (by omega) (by omega)]
        refine ⟨_, rfl, by simp only; omega, by simp only; omega, ?_⟩
        rw [hI2, hd, if_neg (by simp [hc2]), List.nil_append]
    · have e4 : decide (sg * L[i].Height < sg * L[i + 1].Height) = false := by simpa using hc
      simp only [e4, gb, Bool.false_eq_true, if_false, Option.bind_some, Bool.false_and]
      unfold tide_turns_j3
      rw [w64_nt _ (by omega) (by omega)]
      refine ⟨_, rfl, by simp only; omega, by simp only; omega, ?_⟩
      rw [hI2, hd, if_neg (by simp [hc]), List.nil_append]
  · right
    rw [if_neg (by rw [decide_eq_true_eq]; omega)]
    refine ⟨_, rfl, ?_⟩
    rw [hI2, turnS_short sg (L.drop i) (by simp; omega), List.append_nil]
theorem Turning_eq (w : api_Water) (hw : LenW w) (s : api_Span) (high : Bool) : ref02_Turning w s high = some ⟨turnS (if high = true then 1 else -1) (standsS w s).1, (standsS w s).2⟩ := by
  unfold ref02_Turning
  rw [Standing_eq w hw, Option.bind_some]
  have hlen := standsS_len hw s
  generalize standsS w s = y at *
  obtain ⟨L, e⟩ := y
  simp only at hlen ⊢
  generalize hsg : (if high = true then (1 : Int) else -1) = sg
  suffices h : ∃ r, Lp (ref02_Turning_b2 high ⟨L, e⟩) fuel (1, []) = some r ∧ r = ⟨turnS sg L, e⟩ by obtain ⟨r, h, rfl⟩ := h; exact h
  refine lp_inv' (fun i s => s.1 = (i : Int) + 1 ∧ s.2.length ≤ i ∧ turnS sg L = s.2 ++ turnS sg (L.drop i)) _ L.length (by omega) ⟨rfl, by simp, by simp⟩ fun i s hi hI => ?_
  obtain ⟨i', acc⟩ := s
  simp only at hI
  obtain ⟨rfl, hI1, hI2⟩ := hI
  unfold ref02_Turning_b2
  simp only
  rw [w64_nt ((i : Int) + 1 + 1) (by omega) (by omega), w64_nt ((i : Int) + 1 - 1) (by omega) (by omega)]
  by_cases h : i + 2 < L.length
  · left
    have e1 : ix L ((i : Int) + 1) = some L[i + 1] := ix_lt (i := i + 1) (by omega)
    have e2 : ix L ((i : Int) + 1 - 1) = some L[i] := by rw [show (i : Int) + 1 - 1 = (i : Int) by omega]; exact ix_lt (by omega)
    have e3 : ix L ((i : Int) + 1 + 1) = some L[i + 2] := ix_lt (i := i + 2) (by omega)
    rw [if_pos (by rw [decide_eq_true_eq]; omega), e1, e2, e3]
    simp only [Option.bind_some]
    have hd := turnS_drop sg L i h
    have hc : (((high && (decide (L[i].Height < L[i + 1].Height))) && (decide (L[i + 2].Height < L[i + 1].Height))) || (((!high) && (decide (L[i + 1].Height < L[i].Height))) && (decide (L[i + 1].Height < L[i + 2].Height)))) = decide (sg * L[i].Height < sg * L[i + 1].Height ∧ sg * L[i + 2].Height < sg * L[i + 1].Height) := by
      cases high with
      | true => simp only [if_true] at hsg; subst hsg; simp
      | false =>
        simp only [Bool.false_eq_true, if_false] at hsg
        subst hsg
        simp only [Bool.false_and, Bool.not_false, Bool.true_and, Bool.false_or]
        rw [← Bool.decide_and, decide_eq_decide]
        omega
    rw [hc]
    refine ⟨by omega, ?_⟩
    by_cases hc2 : sg * L[i].Height < sg * L[i + 1].Height ∧ sg * L[i + 2].Height < sg * L[i + 1].Height
    · rw [if_pos (decide_eq_true hc2), app_one (by omega), Option.bind_some]
      unfold ref02_Turning_j3
      rw [w64_nt _ (by omega) (by omega)]
      refine ⟨_, rfl, by simp only; omega, by simp; omega, ?_⟩
      rw [hI2, hd, if_pos hc2, List.append_assoc]
    · rw [if_neg (by rw [decide_eq_true_eq]; exact hc2)]
      unfold ref02_Turning_j3
      rw [w64_nt _ (by omega) (by omega)]
      refine ⟨_, rfl, by simp only; omega, by simp only; omega, ?_⟩
      rw [hI2, hd, if_neg hc2, List.nil_append]
  · right
    rw [if_neg (by rw [decide_eq_true_eq]; omega)]
    refine ⟨_, rfl, ?_⟩
    rw [hI2, turnS_short sg (L.drop i) (by simp; omega), List.append_nil]
end Go.Mx
