/- TideSame: the plain law. Conditions: none. -/
import Derived.Test.YtphmekpaalfliaaLawS
set_option linter.unusedVariables false
namespace Go.Mx
/-- The first minute at which two waters differ. -/
def diffS (A B : Int → Int) : Nat → Int → Int × Bool × Int
  | 0, _ => (0, true, 0)
  | n + 1, t => if A t = B t then diffS A B n (t + 1) else (t, false, 0)
theorem lp_spanE {τ σ ρ : Type} {body : σ → Option (σ ⊕ ρ)} {lo hi : Int} (h1 : lo ≤ hi + 1) (h2 : hi - lo ≤ 4611686018427387904) (st : τ → Int → σ) (F : τ → Int → ρ) (J : Int → τ → Prop) {a : τ} {s0 : σ} (e0 : s0 = st a lo) (h0 : J lo a)
    (step : ∀ a t, lo ≤ t → t ≤ hi → J t a → (∃ a', body (st a t) = some (.inl (st a' (t + 1))) ∧ F a t = F a' (t + 1) ∧ J (t + 1) a') ∨ body (st a t) = some (.inr (F a t)))
    (last : ∀ a, J (hi + 1) a → body (st a (hi + 1)) = some (.inr (F a (hi + 1)))) : Lp body fuel s0 = some (F a lo) := by
  suffices h : ∃ r, Lp body fuel s0 = some r ∧ r = F a lo by obtain ⟨r, h, rfl⟩ := h; exact h
  refine lp_inv' (fun i s => ∃ b, s = st b (lo + i) ∧ F a lo = F b (lo + i) ∧ J (lo + i) b) _ (hi + 1 - lo).toNat (by omega) ⟨a, by simpa using e0, by simp, by simpa using h0⟩ fun i s hi' hI => ?_
  obtain ⟨b, rfl, q1, q2⟩ := hI
  by_cases h : lo + i ≤ hi
  · rcases step b (lo + i) (by omega) h q2 with ⟨a', p1, p2, p3⟩ | p1
    · refine .inl ⟨by omega, _, p1, a', ?_, ?_, ?_⟩
      · congr 1; omega
      · rw [q1, p2]; congr 1; omega
      · rw [show lo + ((i + 1 : Nat) : Int) = lo + i + 1 by omega]; exact p3
    · exact .inr ⟨_, p1, q1.symm⟩
  · have e : lo + (i : Int) = hi + 1 := by omega
    rw [e] at q1 q2 ⊢
    exact .inr ⟨_, last b q2, q1.symm⟩
/-- What is said of two waters. -/
def sameS (a b : api_Water) (s : api_Span) : Int × Bool × Int :=
  if checkS a = 0 then (if askS b s = 0 then diffS (hgt a) (hgt b) (left s.Hi s.Lo) s.Lo else (0, false, askS b s)) else (0, false, checkS a)
theorem minutes_eq {b : api_Water} (hb : LenW b) (s : api_Span) (h : checkS b = 0) : tide_minutes s = askS b s := by
  have h1 := asked_eq b hb s
  unfold tide_asked at h1
  rw [Check_eq b hb, Option.bind_some, if_neg (by simp [h]), Option.some.injEq] at h1
  exact h1
theorem Same_eq (a b : api_Water) (ha : LenW a) (hb : LenW b) (s : api_Span) : tide_Same a b s = some (sameS a b s) := by
  unfold tide_Same sameS
  have hf : fuel = fuel - 3 + 1 + 1 + 1 := by unfold fuel; rfl
  rw [hf]
  have b0 : tide_Same_b4 a b s 0 = if checkS a = 0 then some (.inl 1) else some (.inr (0, false, checkS a)) := by
    unfold tide_Same_b4
    rw [if_pos (by simp), show ix [a, b] 0 = some a from rfl, Option.bind_some, Check_eq a ha, Option.bind_some]
    by_cases h : checkS a = 0
    · rw [if_pos h, if_neg (by simp [h])]; rfl
    · rw [if_neg h, if_pos (by simp [h])]
  by_cases h : checkS a = 0
  · rw [if_pos h] at b0 ⊢
    rw [lp_next _ b0]
    have b1 : tide_Same_b4 a b s 1 = if checkS b = 0 then some (.inl 2) else some (.inr (0, false, checkS b)) := by
      unfold tide_Same_b4
      rw [if_pos (by simp), show ix [a, b] 1 = some b from rfl, Option.bind_some, Check_eq b hb, Option.bind_some]
      by_cases h : checkS b = 0
      · rw [if_pos h, if_neg (by simp [h])]; rfl
      · rw [if_neg h, if_pos (by simp [h])]
    by_cases h2 : checkS b = 0
    · rw [if_pos h2] at b1
      rw [lp_next _ b1]
      have b2 : tide_Same_b4 a b s 2 = some (.inr (if askS b s = 0 then diffS (hgt a) (hgt b) (left s.Hi s.Lo) s.Lo else (0, false, askS b s))) := by
        unfold tide_Same_b4
        rw [if_neg (by simp)]
        unfold tide_Same_j1
        rw [minutes_eq hb s h2]
        by_cases h3 : askS b s = 0
        · rw [if_neg (by simp [h3]), if_pos h3]
          obtain ⟨g, l0, l1, l2, l3⟩ := ask_of hb h3
          have ga := checkS_good ha h
          rw [heights_self ga, heights_self g, Option.bind_some, Option.bind_some]
          rw [lp_spanE (lo := s.Lo) (hi := s.Hi) (by omega) (by omega) (fun (_ : Unit) t => t) (fun _ t => diffS (hgt a) (hgt b) (left s.Hi t) t) (fun _ _ => True) (a := ()) rfl trivial (fun _ t ht0 ht1 _ => ?_) (fun _ _ => ?_)]
          · rfl
          · unfold tide_Same_b3
            rw [if_pos (by simpa using ht1), heights_eq ga (by omega) (by omega), heights_eq g (by omega) (by omega), left_succ ht1]
            simp only [Option.bind_some, diffS]
            by_cases e : hgt a t = hgt b t
            · left
              rw [if_neg (by simp [e]), w64_id (by omega) (by omega), if_pos e]
              exact ⟨(), rfl, rfl, trivial⟩
            · right
              rw [if_pos (by simp [e]), if_neg e]
          · unfold tide_Same_b3
            rw [if_neg (by simp; omega), left_end]
            rfl
        · rw [if_pos (by simp [h3]), if_neg h3]; rfl
      rw [lp_done _ b2]
    · rw [if_neg h2] at b1
      rw [lp_done _ b1]
      have : askS b s = checkS b := by unfold askS; rw [if_neg h2]
      rw [this, if_neg h2]
  · rw [if_neg h] at b0 ⊢
    rw [lp_done _ b0]
theorem RSame_eq (a b : api_Water) (ha : LenW a) (hb : LenW b) (s : api_Span) : ref02_Same a b s = some (sameS a b s) := by
  unfold ref02_Same sameS
  rw [RCheck_eq a ha, Watched_eq b hb, Option.bind_some, Option.bind_some]
  by_cases h : checkS a = 0
  · rw [if_pos h, if_neg (by simp [h])]
    by_cases h3 : askS b s = 0
    · rw [if_neg (by simp [h3]), if_pos h3]
      obtain ⟨g, l0, l1, l2, l3⟩ := ask_of hb h3
      have ga := checkS_good ha h
      rw [lp_spanE (lo := s.Lo) (hi := s.Hi) (by omega) (by omega) (fun (_ : Unit) t => t) (fun _ t => diffS (hgt a) (hgt b) (left s.Hi t) t) (fun _ _ => True) (a := ()) rfl trivial (fun _ t ht0 ht1 _ => ?_) (fun _ _ => ?_)]
      · unfold ref02_Same_b2
        rw [if_pos (by simpa using ht1), At_eq ga (by omega) (by omega), At_eq g (by omega) (by omega), left_succ ht1]
        simp only [Option.bind_some, diffS]
        by_cases e : hgt a t = hgt b t
        · left
          rw [if_neg (by simp [e]), w64_id (by omega) (by omega), if_pos e]
          exact ⟨(), rfl, rfl, trivial⟩
        · right
          rw [if_pos (by simp [e]), if_neg e]
      · unfold ref02_Same_b2
        rw [if_neg (by simp; omega), left_end]
        rfl
    · rw [if_pos (by simp [h3]), if_neg h3]
  · rw [if_neg h, if_pos (by simp [h])]
theorem holds_TideSame {a b : api_Water} {s : api_Span} (h0 : ok_api_Water a) (h1 : ok_api_Water b) (h2 : ok_api_Span s) : law02_TideSame a b s = some true := by
  have ha := LenW.of h0
  have hb := LenW.of h1
  unfold law02_TideSame
  obtain ⟨x, hx, _⟩ := few_spec a ha.c
  obtain ⟨y, hy, _⟩ := few_spec b hb.c
  rw [hx, hy, Option.bind_some]
  have hg : ∃ z, (if (!(!x)) = true then some y else some default) = some z := by
    cases x with
    | true => exact ⟨y, rfl⟩
    | false => exact ⟨default, rfl⟩
  obtain ⟨z, hz⟩ := hg
  unfold gb
  rw [hz, Option.bind_some]
  split
  · rw [sanity_true]; rfl
  · rw [Same_eq a b ha hb, RSame_eq a b ha hb, sanity_true]
    simp
end Go.Mx
