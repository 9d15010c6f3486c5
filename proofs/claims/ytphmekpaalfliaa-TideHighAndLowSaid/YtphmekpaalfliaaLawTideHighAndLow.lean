/- TideHighAndLow: the plain law. Conditions: none. -/
import Derived.Test.YtphmekpaalfliaaLawR
set_option linter.unusedVariables false
namespace Go.Mx
/-- What stands are. -/
structure StI (H : Int → Int) (lo top : Int) (l : List api_Stand) : Prop where
  ch : ∀ (k : Nat) (x y : api_Stand), l[k]? = some x → l[k + 1]? = some y → x.Span.Hi + 1 = y.Span.Lo ∧ x.Height ≠ y.Height
  el : ∀ x ∈ l, lo ≤ x.Span.Lo ∧ x.Span.Lo ≤ x.Span.Hi ∧ x.Span.Hi ≤ top ∧ x.Height = H x.Span.Lo
  hd : ∀ x : api_Stand, l[0]? = some x → x.Span.Lo = lo
theorem StI.snoc {H : Int → Int} {lo top : Int} {l : List api_Stand} {d : api_Stand} (h : StI H lo top l) (hl : ∀ x, l.getLast? = some x → x.Span.Hi + 1 = d.Span.Lo ∧ x.Height ≠ d.Height) (hd : lo ≤ d.Span.Lo ∧ d.Span.Lo ≤ d.Span.Hi ∧ d.Span.Hi ≤ top ∧ d.Height = H d.Span.Lo) (h0 : l = [] → d.Span.Lo = lo) : StI H lo top (l ++ [d]) := by
  refine ⟨fun k x y hx hy => ?_, fun x hx => ?_, fun x hx => ?_⟩
  · by_cases h1 : k + 1 < l.length
    · rw [List.getElem?_append_left (by omega)] at hx
      rw [List.getElem?_append_left h1] at hy
      exact h.ch k x y hx hy
    · have hlt := (List.getElem?_eq_some_iff.1 hy).1
      simp only [List.length_append, List.length_cons, List.length_nil] at hlt
      have e : k + 1 = l.length := by omega
      rw [e, List.getElem?_append_right (Nat.le_refl _), Nat.sub_self] at hy
      simp only [List.getElem?_cons_zero, Option.some.injEq] at hy
      subst hy
      rw [List.getElem?_append_left (by omega)] at hx
      refine hl x ?_
      rw [List.getLast?_eq_getElem?, ← hx]
      congr 1; omega
  · rw [List.mem_append, List.mem_singleton] at hx
    rcases hx with hx | rfl
    · exact h.el x hx
    · exact hd
  · cases l with
    | nil =>
      simp only [List.nil_append, List.getElem?_cons_zero, Option.some.injEq] at hx
      subst hx
      exact h0 rfl
    | cons a r => exact h.hd x (by simpa using hx)
theorem runS_sti {H : Int → Int} {lo top : Int} : ∀ (n : Nat) (c : api_Stand) (acc : List api_Stand), StI H lo top acc → (∀ x, acc.getLast? = some x → x.Span.Hi + 1 = c.Span.Lo ∧ x.Height ≠ c.Height) → lo ≤ c.Span.Lo → c.Span.Lo ≤ c.Span.Hi → c.Span.Hi + n = top → c.Height = H c.Span.Lo → (acc = [] → c.Span.Lo = lo) → StI H lo top (runS H n c acc) ∧ ∃ x, (runS H n c acc).getLast? = some x ∧ x.Span.Hi = top
  | 0, c, acc, h, hl, c0, c1, c2, c3, c4 => by
    unfold runS
    refine ⟨h.snoc hl ⟨c0, c1, by omega, c3⟩ c4, c, by simp, by omega⟩
  | n + 1, c, acc, h, hl, c0, c1, c2, c3, c4 => by
    unfold runS
    by_cases e : H (c.Span.Hi + 1) = c.Height
    · rw [if_pos e]
      exact runS_sti n ⟨⟨c.Span.Lo, c.Span.Hi + 1⟩, c.Height⟩ acc h hl c0 (by simp only; omega) (by simp only; omega) c3 c4
    · rw [if_neg e]
      refine runS_sti n ⟨⟨c.Span.Hi + 1, c.Span.Hi + 1⟩, H (c.Span.Hi + 1)⟩ (acc ++ [c]) (h.snoc hl ⟨c0, c1, by omega, c3⟩ c4) (fun x hx => ?_) (by simp only; omega) (Int.le_refl _) (by simp only; omega) rfl (fun h => by simp at h)
      simp only [List.getLast?_append, List.getLast?_singleton, Option.some_or, Option.some.injEq] at hx
      subst hx
      exact ⟨rfl, fun h => e h.symm⟩
theorem standS_sti {w : api_Water} {s : api_Span} (h : Ask w s) : StI (hgt w) s.Lo s.Hi (standS (hgt w) s) ∧ ∃ x, (standS (hgt w) s).getLast? = some x ∧ x.Span.Hi = s.Hi := by
  have := h.l1
  exact runS_sti _ _ [] ⟨by simp, by simp, by simp⟩ (by simp) (Int.le_refl _) (Int.le_refl _) (by simp only; unfold left; omega) rfl (fun _ => rfl)
theorem StI.lt {H : Int → Int} {lo top : Int} {l : List api_Stand} (h : StI H lo top l) {i : Nat} : ∀ (d : Nat) (hj : i + d + 1 < l.length), (l[i]'(by omega)).Span.Lo < (l[i + d + 1]).Span.Lo
  | 0, hj => by
    have a := (h.ch i l[i] l[i + 1] (List.getElem?_eq_getElem _) (List.getElem?_eq_getElem _)).1
    have b := h.el l[i] (List.getElem_mem _)
    simp only [Nat.add_zero]
    omega
  | d + 1, hj => by
    have ih := h.lt (i := i) d (by omega)
    have a := (h.ch (i + d + 1) (l[i + d + 1]'(by omega)) (l[i + d + 1 + 1]'(by omega)) (List.getElem?_eq_getElem _) (List.getElem?_eq_getElem _)).1
    have b := h.el (l[i + d + 1]'(by omega)) (List.getElem_mem _)
    simp only [← Nat.add_assoc]
    omega
/-- Turns stand behind the stand where they were looked for. -/
theorem turnS_mem (sg : Int) : ∀ (l : List api_Stand) (x : api_Stand), x ∈ turnS sg l → ∃ k, ∃ h : k + 1 < l.length, x = l[k + 1]
  | a :: b :: c :: r, x, hx => by
    unfold turnS at hx
    have ih := turnS_mem sg (b :: c :: r) x
    have step : x ∈ turnS sg (b :: c :: r) → ∃ k, ∃ h : k + 1 < (a :: b :: c :: r).length, x = (a :: b :: c :: r)[k + 1] := fun hx => by
      obtain ⟨k, h, e⟩ := ih hx
      exact ⟨k + 1, by have := h; simp only [List.length_cons] at this ⊢; omega, by simpa using e⟩
    split at hx
    · rcases List.mem_cons.1 hx with rfl | hx
      · exact ⟨0, by simp, rfl⟩
      · exact step hx
    · exact step hx
  | [], x, hx => by simp [turnS] at hx
  | [_], x, hx => by simp [turnS] at hx
  | [_, _], x, hx => by simp [turnS] at hx
/-- Whether a stand is a turn. -/
def isTurn (sg : Int) (l : List api_Stand) (i : Nat) : Prop := ∃ a b c, 1 ≤ i ∧ l[i - 1]? = some a ∧ l[i]? = some b ∧ l[i + 1]? = some c ∧ sg * a.Height < sg * b.Height ∧ sg * c.Height < sg * b.Height
theorem turn_step {H : Int → Int} {lo top sg : Int} {l A : List api_Stand} (h : StI H lo top l) {i high : Nat} (hi : i < l.length) (hA : A.drop high = turnS sg (l.drop (i - 1))) :
    (isTurn sg l i ∧ high < A.length ∧ A[high]? = some l[i] ∧ A.drop (high + 1) = turnS sg (l.drop i)) ∨ (¬ isTurn sg l i ∧ (∀ x, A[high]? = some x → x ≠ l[i]) ∧ A.drop high = turnS sg (l.drop i)) := by
  have hne : ∀ x, x ∈ turnS sg (l.drop i) → x ≠ l[i] := by
    intro x hx e
    obtain ⟨k, hk, e2⟩ := turnS_mem sg _ x hx
    simp only [List.length_drop] at hk
    rw [List.getElem_drop] at e2
    have := h.lt (i := i) k (by omega)
    have e3 : x.Span.Lo = (l[i + (k + 1)]'(by omega)).Span.Lo := congrArg (·.Span.Lo) e2
    have e4 : x.Span.Lo = l[i].Span.Lo := congrArg (·.Span.Lo) e
    simp only [← Nat.add_assoc] at e3
    omega
  have hd : ∀ x, A[high]? = some x → A.drop high = turnS sg (l.drop i) → x ≠ l[i] := by
    intro x hx e
    refine hne x ?_
    rw [← e]
    obtain ⟨h1, h2⟩ := List.getElem?_eq_some_iff.1 hx
    rw [List.drop_eq_getElem_cons h1, h2]
    exact List.mem_cons_self
  cases i with
  | zero =>
    right
    simp only [Nat.zero_sub] at hA
    refine ⟨fun ⟨_, _, _, h0, _⟩ => by omega, fun x hx => hd x hx hA, hA⟩
  | succ k =>
    simp only [Nat.add_sub_cancel] at hA
    by_cases h2 : k + 2 < l.length
    · have ht := turnS_drop sg l k h2
      by_cases hc : sg * (l[k]'(by omega)).Height < sg * (l[k + 1]'(by omega)).Height ∧ sg * l[k + 2].Height < sg * (l[k + 1]'(by omega)).Height
      · left
        rw [if_pos hc] at ht
        rw [ht] at hA
        have hlt : high < A.length := by
          refine Nat.lt_of_not_le fun hge => ?_
          rw [List.drop_eq_nil_of_le hge] at hA
          simp at hA
        rw [List.drop_eq_getElem_cons hlt] at hA
        simp only [List.cons_append, List.nil_append, List.cons.injEq] at hA
        refine ⟨⟨_, _, _, by omega, List.getElem?_eq_getElem (by omega), List.getElem?_eq_getElem hi, List.getElem?_eq_getElem h2, ?_⟩, hlt, ?_, hA.2⟩
        · simpa using hc
        · rw [List.getElem?_eq_getElem hlt, hA.1]
      · right
        rw [if_neg hc, List.nil_append] at ht
        rw [ht] at hA
        refine ⟨fun ⟨a, b, c, _, ha, hb, hcc, h3⟩ => hc ?_, fun x hx => hd x hx hA, hA⟩
        simp only [Nat.add_sub_cancel] at ha
        have ka : k < l.length := by omega
        rw [List.getElem?_eq_getElem ka, Option.some.injEq] at ha
        rw [List.getElem?_eq_getElem hi, Option.some.injEq] at hb
        rw [List.getElem?_eq_getElem h2, Option.some.injEq] at hcc
        rw [← ha, ← hb, ← hcc] at h3
        exact h3
    · right
      rw [turnS_short sg (l.drop k) (by simp; omega)] at hA
      have e : turnS sg (l.drop (k + 1)) = [] := turnS_short sg _ (by simp; omega)
      refine ⟨fun ⟨a, b, c, _, ha, hb, hcc, h3⟩ => ?_, fun x hx => hd x hx (hA.trans e.symm), hA.trans e.symm⟩
      have := (List.getElem?_eq_some_iff.1 hcc).1
      omega
/-- What was met last tells which way it goes. -/
def Dir (l : List api_Stand) (i : Nat) (last : Int) : Prop := (i = 0 → last = 0) ∧ ∀ a b, 1 ≤ i → l[i - 1]? = some a → l[i]? = some b → (last = 1 → b.Height < a.Height) ∧ (last = -1 → a.Height < b.Height)
theorem holds_TideHighAndLow {w : api_Water} {s : api_Span} (h0 : ok_api_Water w) (h1 : ok_api_Span s) : law02_TideHighAndLow w s = some true := by
  have hw := LenW.of h0
  unfold law02_TideHighAndLow
  obtain ⟨b, hb, _⟩ := few_spec w hw.c
  rw [hb, Option.bind_some]
  split
  · rw [sanity_true]; rfl
  · unfold tide_HighWaters tide_LowWaters
    rw [Stands_eq w hw, turns_eq w hw s 1 (.inl rfl), turns_eq w hw s (-1) (.inr rfl)]
    simp only [Option.bind_some, decide_true, Bool.not_true, Bool.or_self, Bool.false_eq_true, if_false]
    by_cases hq : askS w s = 0
    · have ask := ask_of hw hq
      obtain ⟨g, l0, l1, l2, l3⟩ := ask
      have e1 : standsS w s = (standS (hgt w) s, 0) := by unfold standsS; rw [if_pos hq]
      have hlen := standsS_len hw s
      rw [e1] at hlen ⊢
      obtain ⟨P, z, hz, hzH⟩ := standS_sti (ask_of hw hq)
      simp only at hlen ⊢
      generalize standS (hgt w) s = L at *
      rw [if_neg (by simp)]
      have hn : 0 < L.length := by
        cases L with
        | nil => simp at hz
        | cons => simp
      have c0 : decide ((L.length : Int) = 0) = false := by simp; intro h; simp [h] at hn
      have e2 : ix L 0 = some L[0] := ix_lt hn
      have c1 : decide (L[0].Span.Lo = s.Lo) = true := by rw [decide_eq_true_eq]; exact P.hd _ (List.getElem?_eq_getElem hn)
      have e3 : ix L (w64 ((L.length : Int) - 1)) = some z := by
        rw [w64_id (by omega) (by omega), show (L.length : Int) - 1 = ((L.length - 1 : Nat) : Int) by omega]
        rw [List.getLast?_eq_getElem?] at hz
        unfold ix
        rw [if_pos (by omega)]
        simpa using hz
      simp only [c0, e2, gb, Bool.not_false, if_true, Option.bind_some, c1, Bool.not_true, Bool.or_self, e3, hzH, decide_true, Bool.false_eq_true, if_false]
      generalize hA : turnS 1 L = A
      generalize hB : turnS (-1) L = B
      have lA : A.length ≤ L.length := hA ▸ turnS_len 1 L
      have lB : B.length ≤ L.length := hB ▸ turnS_len (-1) L
      suffices h : ∃ r, Lp (law02_TideHighAndLow_b2 w (L, 0) (A, 0) (B, 0)) fuel (0, 0, 0, 0) = some r ∧ r = true by obtain ⟨r, h, rfl⟩ := h; exact h
      refine lp_inv' (fun (i : Nat) (st : Int × Int × Int × Int) => st.2.2.2 = (i : Int) ∧ ∃ high low : Nat, st.1 = (high : Int) ∧ st.2.1 = (low : Int) ∧ high ≤ A.length ∧ low ≤ B.length ∧ A.drop high = turnS 1 (L.drop (i - 1)) ∧ B.drop low = turnS (-1) (L.drop (i - 1)) ∧ Dir L i st.2.2.1) _ L.length (by omega) ⟨rfl, 0, 0, rfl, rfl, by omega, by omega, by simpa using hA.symm, by simpa using hB.symm, fun _ => rfl, fun _ _ h => by omega⟩ fun i st hi hI => ?_
      obtain ⟨hi', lo', last, i'⟩ := st
      simp only at hI
      obtain ⟨rfl, high, low, rfl, rfl, a0, b0, a1, b1, hdir⟩ := hI
      unfold law02_TideHighAndLow_b2
      simp only
      by_cases h : i < L.length
      · left
        refine ⟨h, ?_⟩
        have hel := P.el _ (List.getElem_mem h)
        rw [if_pos (by simpa using h), ix_lt h, Option.bind_some, Height_eq w hw, Option.bind_some]
        have e4 : heightS w L[i].Span.Lo = (L[i].Height, 0) := by
          unfold heightS
          have hc : checkS w = 0 := by
            unfold askS at hq
            split at hq
            · assumption
            · contradiction
          rw [if_pos hc, if_pos (by omega), hel.2.2.2]
        have c3 : decide (L[i].Span.Hi < L[i].Span.Lo) = false := by rw [decide_eq_false_iff_not]; omega
        rw [e4]
        simp only [decide_true, Bool.not_true, Bool.not_false, gb, if_true, Option.bind_some, c3, Bool.true_and, Bool.false_or]
        -- what follows the tests
        have main : ∃ s', (Option.bind (if decide ((high : Int) < (A.length : Int)) = true then ix A (high : Int) else some default) fun x10 =>
            Option.bind (if decide ((high : Int) < (A.length : Int)) = true then some L[i] else some default) fun x11 =>
            if (decide ((high : Int) < (A.length : Int)) && decide (x10 = x11)) = true then law02_TideHighAndLow_j4 (L, 0) (B, 0) (low : Int) last (i : Int) (w64 ((high : Int) + 1)) 1
            else law02_TideHighAndLow_j4 (L, 0) (B, 0) (low : Int) last (i : Int) (high : Int) 0) = some (.inl s') ∧ s'.2.2.2 = ((i + 1 : Nat) : Int) ∧ ∃ high low : Nat, s'.1 = (high : Int) ∧ s'.2.1 = (low : Int) ∧ high ≤ A.length ∧ low ≤ B.length ∧ A.drop high = turnS 1 (L.drop (i + 1 - 1)) ∧ B.drop low = turnS (-1) (L.drop (i + 1 - 1)) ∧ Dir L (i + 1) s'.2.2.1 := by
          have tA := turn_step P (sg := 1) h a1
          have tB := turn_step P (sg := -1) h b1
          have nAB : ¬ (isTurn 1 L i ∧ isTurn (-1) L i) := by
            rintro ⟨⟨a, b, c, _, q1, q2, q3, q4, q5⟩, ⟨a', b', c', _, q1', q2', q3', q4', q5'⟩⟩
            rw [q1] at q1'; rw [q2] at q2'
            simp only [Option.some.injEq] at q1' q2'
            subst q1' q2'
            omega
          have lowpart : ∀ (hA' : Nat) (now : Int), (now = 1 ∨ now = 0) → (now = 1 → isTurn 1 L i) → (now = 0 → ¬ isTurn 1 L i) → hA' ≤ A.length → A.drop hA' = turnS 1 (L.drop i) → ∃ s', law02_TideHighAndLow_j4 (L, 0) (B, 0) (low : Int) last (i : Int) (hA' : Int) now = some (.inl s') ∧ s'.2.2.2 = ((i + 1 : Nat) : Int) ∧ ∃ high low : Nat, s'.1 = (high : Int) ∧ s'.2.1 = (low : Int) ∧ high ≤ A.length ∧ low ≤ B.length ∧ A.drop high = turnS 1 (L.drop (i + 1 - 1)) ∧ B.drop low = turnS (-1) (L.drop (i + 1 - 1)) ∧ Dir L (i + 1) s'.2.2.1 := by
            intro hA' now hnow n1 n0 hle hdrop
            have j5 : ∀ (lB' : Nat) (now' : Int), lB' ≤ B.length → B.drop lB' = turnS (-1) (L.drop i) → (now' = 1 → isTurn 1 L i) → (now' = -1 → isTurn (-1) L i) → (now' = 0 → ¬ isTurn 1 L i ∧ ¬ isTurn (-1) L i) → (now' = 1 ∨ now' = -1 ∨ now' = 0) → ∃ s', law02_TideHighAndLow_j5 last (i : Int) (hA' : Int) (lB' : Int) now' = some (.inl s') ∧ s'.2.2.2 = ((i + 1 : Nat) : Int) ∧ ∃ high low : Nat, s'.1 = (high : Int) ∧ s'.2.1 = (low : Int) ∧ high ≤ A.length ∧ low ≤ B.length ∧ A.drop high = turnS 1 (L.drop (i + 1 - 1)) ∧ B.drop low = turnS (-1) (L.drop (i + 1 - 1)) ∧ Dir L (i + 1) s'.2.2.1 := by
              intro lB' now' k0 k1 k2 k3 k4 k5
              have hnl : ¬ (now' ≠ 0 ∧ now' = last) := by
                rintro ⟨z0, rfl⟩
                rcases k5 with rfl | rfl | rfl
                · obtain ⟨a, b, c, q0, q1, q2, q3, q4, q5⟩ := k2 rfl
                  have := (hdir.2 a b q0 q1 q2).1 rfl
                  omega
                · obtain ⟨a, b, c, q0, q1, q2, q3, q4, q5⟩ := k3 rfl
                  have := (hdir.2 a b q0 q1 q2).2 rfl
                  omega
                · exact z0 rfl
              unfold law02_TideHighAndLow_j5 law02_TideHighAndLow_j3
              rw [w64s' h (by omega), if_neg (by simpa using fun h => fun h2 => hnl ⟨h, h2⟩)]
              by_cases hz0 : now' = 0
              · rw [if_neg (by simp [hz0])]
                refine ⟨_, rfl, rfl, hA', lB', rfl, rfl, hle, k0, hdrop, k1, by omega, fun a b _ qa qb => ?_⟩
                simp only [Nat.add_sub_cancel] at qa
                obtain ⟨m1, m2⟩ := k4 hz0
                have hne := (P.ch i a b qa qb).2
                have hpre : 1 ≤ i → ∃ p, L[i - 1]? = some p := fun h1 => ⟨_, List.getElem?_eq_getElem (by omega)⟩
                have hi0 : i = 0 → last ≠ 1 ∧ last ≠ -1 := fun z => by have := hdir.1 z; omega
                refine ⟨fun hl => ?_, fun hl => ?_⟩
                · rcases Nat.eq_zero_or_pos i with hz | hp
                  · exact absurd hl (hi0 hz).1
                  · obtain ⟨p, hp'⟩ := hpre hp
                    have d := (hdir.2 p a hp hp' qa).1 hl
                    have h6 : ¬ a.Height < b.Height := fun hlt => m2 ⟨p, a, b, hp, hp', qa, qb, by omega, by omega⟩
                    omega
                · rcases Nat.eq_zero_or_pos i with hz | hp
                  · exact absurd hl (hi0 hz).2
                  · obtain ⟨p, hp'⟩ := hpre hp
                    have d := (hdir.2 p a hp hp' qa).2 hl
                    have h6 : ¬ b.Height < a.Height := fun hlt => m1 ⟨p, a, b, hp, hp', qa, qb, by omega, by omega⟩
                    omega
              · rw [if_pos (by simp [hz0])]
                refine ⟨_, rfl, rfl, hA', lB', rfl, rfl, hle, k0, hdrop, k1, by omega, fun a b _ qa qb => ?_⟩
                simp only [Nat.add_sub_cancel] at qa
                refine ⟨fun hl => ?_, fun hl => ?_⟩
                · obtain ⟨a', b', c', q0, q1, q2, q3, q4, q5⟩ := k2 hl
                  rw [qa] at q2; rw [qb] at q3
                  simp only [Option.some.injEq] at q2 q3
                  subst q2 q3
                  omega
                · obtain ⟨a', b', c', q0, q1, q2, q3, q4, q5⟩ := k3 hl
                  rw [qa] at q2; rw [qb] at q3
                  simp only [Option.some.injEq] at q2 q3
                  subst q2 q3
                  omega
            unfold law02_TideHighAndLow_j4
            simp only [gb]
            rcases tB with ⟨t1, t2, t3, t4⟩ | ⟨t1, t2, t3⟩
            · have c5 : decide ((low : Int) < (B.length : Int)) = true := by simpa using t2
              have e5 : ix B (low : Int) = some L[i] := by unfold ix; rw [if_pos (by omega)]; simpa using t3
              have now0 : now = 0 := by
                rcases hnow with rfl | rfl
                · exact absurd ⟨n1 rfl, t1⟩ nAB
                · rfl
              subst now0
              simp only [c5, if_true, e5, ix_lt h, Option.bind_some, decide_true, Bool.and_self]
              have := j5 (low + 1) (-1) t2 t4 (by omega) (fun _ => t1) (by omega) (by omega)
              rw [w64s' (n := B.length) t2 (by omega)]
              exact this
            · have j := j5 low now b0 t3 n1 (by omega) (fun z => ⟨n0 z, t1⟩) (by omega)
              by_cases h5 : low < B.length
              · have c5 : decide ((low : Int) < (B.length : Int)) = true := by simpa using h5
                have hx := t2 B[low] (List.getElem?_eq_getElem h5)
                simp only [c5, if_true, ix_lt h5, ix_lt h, Option.bind_some, Bool.true_and, decide_eq_true_eq]
                rw [if_neg hx]
                exact j
              · have c5 : decide ((low : Int) < (B.length : Int)) = false := by simpa using h5
                simp only [c5, Bool.false_eq_true, if_false, Option.bind_some, Bool.false_and]
                exact j
          rcases tA with ⟨t1, t2, t3, t4⟩ | ⟨t1, t2, t3⟩
          · have c5 : decide ((high : Int) < (A.length : Int)) = true := by simpa using t2
            have e5 : ix A (high : Int) = some L[i] := by unfold ix; rw [if_pos (by omega)]; simpa using t3
            simp only [c5, if_true, e5, Option.bind_some, decide_true, Bool.and_self]
            rw [w64s' (n := A.length) t2 (by omega)]
            exact lowpart (high + 1) 1 (.inl rfl) (fun _ => t1) (by omega) t2 t4
          · have j := lowpart high 0 (.inr rfl) (by omega) (fun _ => t1) a0 t3
            by_cases h5 : high < A.length
            · have c5 : decide ((high : Int) < (A.length : Int)) = true := by simpa using h5
              have hx := t2 A[high] (List.getElem?_eq_getElem h5)
              simp only [c5, if_true, ix_lt h5, Option.bind_some, Bool.true_and, decide_eq_true_eq]
              rw [if_neg hx]
              exact j
            · have c5 : decide ((high : Int) < (A.length : Int)) = false := by simpa using h5
              simp only [c5, Bool.false_eq_true, if_false, Option.bind_some, Bool.false_and]
              exact j
        cases i with
        | zero =>
          simp only [Int.natCast_zero, Int.lt_irrefl, decide_false, Bool.false_and, Bool.false_eq_true, if_false, Option.bind_some] at main ⊢
          exact main
        | succ k =>
          have e0 : decide ((0 : Int) < ((k + 1 : Nat) : Int)) = true := by rw [decide_eq_true_eq]; omega
          have hk : k < L.length := by omega
          have e6 : w64 (((k + 1 : Nat) : Int) - 1) = (k : Int) := by rw [w64_id (by omega) (by omega)]; omega
          have hch := P.ch k L[k] L[k + 1] (List.getElem?_eq_getElem hk) (List.getElem?_eq_getElem h)
          have hek := P.el _ (List.getElem_mem hk)
          have c4 : decide (L[k + 1].Span.Lo = w64 (L[k].Span.Hi + 1)) = true := by rw [w64_id (by omega) (by omega), decide_eq_true_eq]; omega
          have c5 : decide (L[k + 1].Height = L[k].Height) = false := by rw [decide_eq_false_iff_not]; exact fun h => hch.2 h.symm
          simp only [e0, e6, ix_lt hk, if_true, Option.bind_some, c4, c5, Bool.true_and, Bool.not_true, Bool.not_false, Bool.or_self, Bool.false_eq_true, if_false]
          exact main
      · right
        have e : i = L.length := by omega
        rw [if_neg (by simpa using h)]
        unfold law02_TideHighAndLow_j1
        rw [sanity_true]
        refine ⟨_, rfl, ?_⟩
        have ea : A.drop high = [] := by rw [a1]; exact turnS_short 1 _ (by simp; omega)
        have eb : B.drop low = [] := by rw [b1]; exact turnS_short (-1) _ (by simp; omega)
        have ha := List.drop_eq_nil_iff.1 ea
        have hb := List.drop_eq_nil_iff.1 eb
        have e7 : decide ((high : Int) = (A.length : Int)) = true := by rw [decide_eq_true_eq]; omega
        have e8 : decide ((low : Int) = (B.length : Int)) = true := by rw [decide_eq_true_eq]; omega
        simp only [e7, e8, Bool.and_self]
    · have e : standsS w s = ([], askS w s) := by unfold standsS; rw [if_neg hq]
      rw [e]
      simp only
      rw [if_pos (by simp [hq]), sanity_true]
      rfl
end Go.Mx
