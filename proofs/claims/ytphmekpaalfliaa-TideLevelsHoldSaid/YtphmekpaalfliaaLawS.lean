/- Plain laws of water, fifth part: spans, stands, peaks, turns. Conditions: none. -/
import Derived.Test.YtphmekpaalfliaaLawW
set_option linter.unusedVariables false
namespace Go.Mx

/-- How many minutes are left. -/
def left (hi t : Int) : Nat := (hi + 1 - t).toNat
theorem left_succ {hi t : Int} (h : t ≤ hi) : left hi t = left hi (t + 1) + 1 := by unfold left; omega
theorem left_end (hi : Int) : left hi (hi + 1) = 0 := by unfold left; omega
theorem lp_span {τ σ ρ : Type} {body : σ → Option (σ ⊕ ρ)} {lo hi : Int} (h1 : lo ≤ hi + 1) (h2 : hi - lo ≤ 4611686018427387904) (st : τ → Int → σ) (F : τ → Int → ρ) (J : Int → τ → Prop) {a : τ} {s0 : σ} (e0 : s0 = st a lo) (h0 : J lo a)
    (step : ∀ a t, lo ≤ t → t ≤ hi → J t a → ∃ a', body (st a t) = some (.inl (st a' (t + 1))) ∧ F a t = F a' (t + 1) ∧ J (t + 1) a')
    (last : ∀ a, J (hi + 1) a → body (st a (hi + 1)) = some (.inr (F a (hi + 1)))) : Lp body fuel s0 = some (F a lo) := by
  suffices h : ∃ r, Lp body fuel s0 = some r ∧ r = F a lo by obtain ⟨r, h, rfl⟩ := h; exact h
  refine lp_inv' (fun i s => ∃ b, s = st b (lo + i) ∧ F a lo = F b (lo + i) ∧ J (lo + i) b) _ (hi + 1 - lo).toNat (by omega) ⟨a, by simpa using e0, by simp, by simpa using h0⟩ fun i s hi' hI => ?_
  obtain ⟨b, rfl, q1, q2⟩ := hI
  by_cases h : lo + i ≤ hi
  · obtain ⟨a', p1, p2, p3⟩ := step b (lo + i) (by omega) h q2
    refine .inl ⟨by omega, _, p1, a', ?_, ?_, ?_⟩
    · congr 1; omega
    · rw [q1, p2]; congr 1; omega
    · rw [show lo + ((i + 1 : Nat) : Int) = lo + i + 1 by omega]; exact p3
  · have e : lo + (i : Int) = hi + 1 := by omega
    rw [e] at q1 q2 ⊢
    exact .inr ⟨_, last b q2, q1.symm⟩

/-- What is said of a water and a span. -/
def askS (w : api_Water) (s : api_Span) : Int := if checkS w = 0 then (if 0 ≤ s.Lo ∧ s.Lo ≤ s.Hi ∧ s.Hi ≤ 1048576 then (if 10080 ≤ s.Hi - s.Lo then 2 else 0) else 1) else checkS w
theorem asked_eq (w : api_Water) (hw : LenW w) (s : api_Span) : tide_asked w s = some (askS w s) := by
  unfold tide_asked askS
  rw [Check_eq w hw, Option.bind_some]
  by_cases he : checkS w = 0
  · rw [if_pos he, if_neg (by simp [he])]
    unfold tide_minutes
    by_cases h : 0 ≤ s.Lo ∧ s.Lo ≤ s.Hi ∧ s.Hi ≤ 1048576
    · rw [if_pos h, if_neg (by simp; omega), w64_id (by omega) (by omega)]
      simp
    · rw [if_neg h, if_pos (by simp; omega)]
  · rw [if_neg he, if_pos (by simp [he])]
theorem Watched_eq (w : api_Water) (hw : LenW w) (s : api_Span) : ref02_Watched w s = some (askS w s) := by
  unfold ref02_Watched askS
  rw [RCheck_eq w hw, Option.bind_some]
  by_cases he : checkS w = 0
  · rw [if_pos he, if_neg (by simp [he])]
    by_cases h : 0 ≤ s.Lo ∧ s.Lo ≤ s.Hi ∧ s.Hi ≤ 1048576
    · rw [if_pos h, if_neg (by simp; omega), w64_id (by omega) (by omega)]
      by_cases h2 : 10080 ≤ s.Hi - s.Lo
      · rw [if_pos h2, if_pos (by simpa using h2)]
      · rw [if_neg h2, if_neg (by simpa using h2)]
    · rw [if_neg h, if_pos (by simp; omega)]
  · rw [if_neg he, if_pos (by simp [he])]
/-- What was asked may be answered. -/
structure Ask (w : api_Water) (s : api_Span) : Prop where
  g : GoodW w
  l0 : 0 ≤ s.Lo
  l1 : s.Lo ≤ s.Hi
  l2 : s.Hi ≤ 1048576
  l3 : s.Hi - s.Lo < 10080
theorem ask_of {w : api_Water} {s : api_Span} (hw : LenW w) (h : askS w s = 0) : Ask w s := by
  unfold askS at h
  split at h
  · split at h
    · split at h
      · cases h
      · exact ⟨checkS_good hw (by assumption), by omega, by omega, by omega, by omega⟩
    · cases h
  · contradiction

/-- Stands, from one on. -/
def runS (H : Int → Int) : Nat → api_Stand → List api_Stand → List api_Stand
  | 0, c, acc => acc ++ [c]
  | n + 1, c, acc => if H (c.Span.Hi + 1) = c.Height then runS H n ⟨⟨c.Span.Lo, c.Span.Hi + 1⟩, c.Height⟩ acc else runS H n ⟨⟨c.Span.Hi + 1, c.Span.Hi + 1⟩, H (c.Span.Hi + 1)⟩ (acc ++ [c])
def standS (H : Int → Int) (s : api_Span) : List api_Stand := runS H (left s.Hi (s.Lo + 1)) ⟨⟨s.Lo, s.Lo⟩, H s.Lo⟩ []
theorem app_one {α : Type} {l : List α} {x : α} (h : l.length ≤ 1000000) : app l [x] = some (l ++ [x]) := by
  unfold app
  rw [if_pos (by simp; omega)]
theorem Collect_eq {w : api_Water} {s : api_Span} (h : Ask w s) : slices_Collect_api_Stand__tide_stands_1 w s = some (standS (hgt w) s) := by
  obtain ⟨g, l0, l1, l2, l3⟩ := h
  unfold slices_Collect_api_Stand__tide_stands_1 slices_AppendSeq_api_Stand__tide_stands_1
  rw [heights_self g, Option.bind_some, heights_eq g l0 (by omega), Option.bind_some, w64_id (by omega) (by omega)]
  rw [lp_span (lo := s.Lo + 1) (hi := s.Hi) (by omega) (by omega) (fun (a : api_Stand × List api_Stand) t => (t, a.1.Span.Lo, a.1.Span.Hi, a.1.Height, a.2)) (fun a t => runS (hgt w) (left s.Hi t) a.1 a.2) (fun t a => a.1.Span.Hi = t - 1 ∧ a.2.length ≤ (t - s.Lo).toNat) (a := (⟨⟨s.Lo, s.Lo⟩, hgt w s.Lo⟩, [])) rfl ⟨by simp only; omega, by simp⟩ (fun a t ht0 ht1 hJ => ?_) (fun a hJ => ?_)]
  · rfl
  · obtain ⟨⟨⟨lo, hi⟩, h⟩, acc⟩ := a
    simp only at hJ ⊢
    obtain ⟨rfl, hJ⟩ := hJ
    unfold slices_AppendSeq_api_Stand__tide_stands_1_b2
    simp only
    rw [if_pos (by simpa using ht1), heights_eq g (by omega) (by omega), Option.bind_some, left_succ ht1]
    simp only [runS, Int.sub_add_cancel]
    by_cases e : hgt w t = h
    · rw [if_pos (by simpa using e), if_pos e]
      unfold slices_AppendSeq_api_Stand__tide_stands_1_j3
      rw [w64_id (by omega) (by omega)]
      exact ⟨(⟨⟨lo, t⟩, h⟩, acc), rfl, rfl, by simp only; omega, by simp only; omega⟩
    · rw [if_neg (by simpa using e), if_neg e, app_one (by omega), Option.bind_some]
      unfold slices_AppendSeq_api_Stand__tide_stands_1_j3
      rw [w64_id (by omega) (by omega)]
      exact ⟨(⟨⟨t, t⟩, hgt w t⟩, acc ++ [⟨⟨lo, t - 1⟩, h⟩]), rfl, rfl, by simp only; omega, by simp; omega⟩
  · obtain ⟨⟨⟨lo, hi⟩, h⟩, acc⟩ := a
    simp only at hJ ⊢
    unfold slices_AppendSeq_api_Stand__tide_stands_1_b2
    simp only
    rw [if_neg (by simp; omega), left_end]
    unfold slices_AppendSeq_api_Stand__tide_stands_1_j1
    rw [app_one (by omega)]
    rfl
/-- Stands as they are said. -/
def standsS (w : api_Water) (s : api_Span) : List api_Stand × Int := if askS w s = 0 then (standS (hgt w) s, 0) else ([], askS w s)
theorem Stands_eq (w : api_Water) (hw : LenW w) (s : api_Span) : tide_Stands w s = some (standsS w s) := by
  unfold tide_Stands standsS
  rw [asked_eq w hw, Option.bind_some]
  by_cases h : askS w s = 0
  · rw [if_neg (by simp [h]), if_pos h]
    simp only [tide_stands]
    rw [Collect_eq (ask_of hw h)]
    rfl
  · rw [if_pos (by simp [h]), if_neg h]
theorem ix_last {α : Type} {l : List α} {x : α} : ix (l ++ [x]) (l.length : Int) = some x := by
  unfold ix
  rw [if_pos (by omega)]
  simp
theorem put_last {α : Type} {l : List α} {x y : α} : put (l ++ [x]) (l.length : Int) y = l ++ [y] := by
  unfold put
  simp
theorem len_snoc {α : Type} {l : List α} {x : α} (h : l.length ≤ 1000000) : w64 (((l ++ [x]).length : Int) - 1) = (l.length : Int) := by
  simp only [List.length_append, List.length_cons, List.length_nil]
  rw [w64_id (by omega) (by omega)]; omega
theorem Standing_eq (w : api_Water) (hw : LenW w) (s : api_Span) : ref02_Standing w s = some ⟨(standsS w s).1, (standsS w s).2⟩ := by
  unfold ref02_Standing standsS
  rw [Watched_eq w hw, Option.bind_some]
  by_cases h : askS w s = 0
  · rw [if_neg (by simp [h]), if_pos h]
    obtain ⟨g, l0, l1, l2, l3⟩ := ask_of hw h
    refine lp_span (τ := Option api_Stand × List api_Stand) (lo := s.Lo) (hi := s.Hi) (by omega) (by omega) (fun a t => (t, a.2 ++ a.1.toList)) (fun a t => match a.1 with
      | some c => (⟨runS (hgt w) (left s.Hi t) c a.2, 0⟩ : ref02_Stands)
      | none => ⟨runS (hgt w) (left s.Hi (t + 1)) ⟨⟨t, t⟩, hgt w t⟩ [], 0⟩) (fun t a => match a.1 with
      | some c => c.Span.Hi = t - 1 ∧ a.2.length ≤ (t - s.Lo).toNat
      | none => a.2 = [] ∧ t = s.Lo) (a := (none, [])) rfl ⟨rfl, rfl⟩ (fun a t ht0 ht1 hJ => ?_) (fun a hJ => ?_)
    · obtain ⟨_ | ⟨⟨lo, hi⟩, h⟩, acc⟩ := a
      · simp only at hJ ⊢
        obtain ⟨rfl, rfl⟩ := hJ
        unfold ref02_Standing_b2
        simp only [Option.toList_none, List.append_nil]
        rw [if_pos (by simpa using ht1), At_eq g (by omega) (by omega), Option.bind_some]
        simp only [List.length_nil, Int.natCast_zero, Int.lt_irrefl, decide_false, gb, Bool.false_eq_true, if_false, Option.bind_some, Bool.false_and]
        rw [app_one (by simp), Option.bind_some]
        unfold ref02_Standing_j3
        rw [w64_id (by omega) (by omega)]
        exact ⟨(some ⟨⟨s.Lo, s.Lo⟩, hgt w s.Lo⟩, []), rfl, rfl, by simp only; omega, by simp⟩
      · simp only [Option.toList_some] at hJ ⊢
        obtain ⟨rfl, hJ⟩ := hJ
        unfold ref02_Standing_b2
        simp only
        rw [if_pos (by simpa using ht1), At_eq g (by omega) (by omega), Option.bind_some, left_succ ht1, len_snoc (by omega), ix_last]
        simp only [runS, Int.sub_add_cancel]
        have e0 : decide ((0 : Int) < ((acc ++ [(⟨⟨lo, t - 1⟩, h⟩ : api_Stand)]).length : Int)) = true := by rw [decide_eq_true_eq, List.length_append]; simp only [List.length_cons]; omega
        simp only [e0, gb, if_true, Option.bind_some, Bool.true_and]
        by_cases e : hgt w t = h
        · rw [if_pos (by simpa using e.symm), if_pos e, put_last]
          unfold ref02_Standing_j3
          rw [w64_id (by omega) (by omega)]
          exact ⟨(some ⟨⟨lo, t⟩, h⟩, acc), rfl, rfl, by simp only; omega, by simp only; omega⟩
        · rw [if_neg (by simpa using fun h => e h.symm), if_neg e, app_one (by simp; omega), Option.bind_some]
          unfold ref02_Standing_j3
          rw [w64_id (by omega) (by omega)]
          exact ⟨(some ⟨⟨t, t⟩, hgt w t⟩, acc ++ [⟨⟨lo, t - 1⟩, h⟩]), rfl, rfl, by simp only; omega, by simp; omega⟩
    · obtain ⟨_ | ⟨⟨lo, hi⟩, h⟩, acc⟩ := a
      · simp only at hJ
        omega
      · simp only [Option.toList_some] at hJ ⊢
        unfold ref02_Standing_b2
        simp only
        rw [if_neg (by simp; omega), left_end]
        rfl
  · rw [if_pos (by simp [h]), if_neg h]
theorem SameStands_self (l : List api_Stand) (hl : Len l) : ref02_SameStands l l = some true := by
  unfold ref02_SameStands
  rw [if_neg (by simp)]
  refine lp_list l hl (fun (_ : Unit) i => i) (fun _ _ => true) (fun _ _ => True) (a := ()) rfl trivial (fun a i hi _ => ?_) (fun a _ => ?_)
  · unfold ref02_SameStands_b2
    rw [if_pos (by simpa using hi), ix_lt hi]
    simp only [Option.bind_some]
    left
    rw [if_neg (by simp), w64s' hi hl]
    exact ⟨(), rfl, trivial, trivial⟩
  · unfold ref02_SameStands_b2
    rw [if_neg (by simp)]; rfl

theorem runS_len (H : Int → Int) : ∀ (n : Nat) (c : api_Stand) (acc : List api_Stand), (runS H n c acc).length ≤ acc.length + n + 1
  | 0, c, acc => by simp [runS]
  | n + 1, c, acc => by
    unfold runS
    split
    · have := runS_len H n ⟨⟨c.Span.Lo, c.Span.Hi + 1⟩, c.Height⟩ acc; omega
    · have := runS_len H n ⟨⟨c.Span.Hi + 1, c.Span.Hi + 1⟩, H (c.Span.Hi + 1)⟩ (acc ++ [c])
      simp only [List.length_append, List.length_cons, List.length_nil] at this
      omega
theorem standS_len {w : api_Water} {s : api_Span} (h : Ask w s) : (standS (hgt w) s).length ≤ 10081 := by
  have := runS_len (hgt w) (left s.Hi (s.Lo + 1)) ⟨⟨s.Lo, s.Lo⟩, hgt w s.Lo⟩ []
  have h3 := h.l3
  unfold left at this
  unfold standS left
  simp only [List.length_nil] at this
  omega
theorem standsS_len {w : api_Water} (hw : LenW w) (s : api_Span) : (standsS w s).1.length ≤ 10081 := by
  unfold standsS
  split
  · exact standS_len (ask_of hw (by assumption))
  · simp
theorem runS_all (H : Int → Int) (P : Int → Prop) (hP : ∀ t, P (H t)) : ∀ (n : Nat) (c : api_Stand) (acc : List api_Stand), (∀ x ∈ acc, P x.Height) → P c.Height → ∀ x ∈ runS H n c acc, P x.Height
  | 0, c, acc, h1, h2, x, hx => by
    simp only [runS, List.mem_append, List.mem_singleton] at hx
    rcases hx with hx | rfl
    · exact h1 x hx
    · exact h2
  | n + 1, c, acc, h1, h2, x, hx => by
    unfold runS at hx
    split at hx
    · exact runS_all H P hP n ⟨⟨c.Span.Lo, c.Span.Hi + 1⟩, c.Height⟩ acc h1 h2 x hx
    · refine runS_all H P hP n _ _ (fun y hy => ?_) (hP _) x hx
      simp only [List.mem_append, List.mem_singleton] at hy
      rcases hy with hy | rfl
      · exact h1 y hy
      · exact h2
theorem standsS_bound {w : api_Water} (hw : LenW w) (s : api_Span) : ∀ x ∈ (standsS w s).1, -32000 ≤ x.Height ∧ x.Height ≤ 32000 := by
  unfold standsS
  split
  · rename_i h
    have g := (ask_of hw h).g
    exact runS_all (hgt w) (fun h => -32000 ≤ h ∧ h ≤ 32000) (fun t => hgt_bound g t) _ _ _ (by simp) (hgt_bound g _)
  · simp

/-- The highest so far (sign 1), or the lowest (sign -1): its height, its first minute. -/
def better (sg : Int) (p q : Int × Int) : Int × Int := if sg * p.1 < sg * q.1 then q else p
def exS (H : Int → Int) (sg : Int) : Nat → Int → Int × Int → Int × Int
  | 0, _, p => p
  | n + 1, t, p => exS H sg n (t + 1) (better sg p (H t, t))
def extremeS (w : api_Water) (s : api_Span) (sg : Int) : Int × Int × Int :=
  if askS w s = 0 then ((exS (hgt w) sg (left s.Hi (s.Lo + 1)) (s.Lo + 1) (hgt w s.Lo, s.Lo)).1, (exS (hgt w) sg (left s.Hi (s.Lo + 1)) (s.Lo + 1) (hgt w s.Lo, s.Lo)).2, 0) else (0, 0, askS w s)
/-- The best of the stands done and the one under way. -/
def comb (sg : Int) (c b : api_Stand) (is : Bool) : Int × Int := if is = true then better sg (b.Height, b.Span.Lo) (c.Height, c.Span.Lo) else (c.Height, c.Span.Lo)
theorem sign_cases {sg n : Int} (hs : sg = 1 ∨ sg = -1) (h0 : -40000 ≤ n) (h1 : n ≤ 40000) : w64 (sg * n) = sg * n := by
  rcases hs with rfl | rfl
  · exact w64_id (by omega) (by omega)
  · exact w64_id (by omega) (by omega)
theorem extreme_eq (w : api_Water) (hw : LenW w) (s : api_Span) (sg : Int) (hs : sg = 1 ∨ sg = -1) : tide_extreme w s sg = some (extremeS w s sg) := by
  unfold tide_extreme extremeS
  rw [asked_eq w hw, Option.bind_some]
  by_cases h : askS w s = 0
  · rw [if_neg (by simp [h]), if_pos h]
    obtain ⟨g, l0, l1, l2, l3⟩ := ask_of hw h
    simp only [tide_stands]
    rw [heights_self g, Option.bind_some, heights_eq g l0 (by omega), Option.bind_some, w64_id (by omega) (by omega)]
    refine lp_span (τ := api_Stand × api_Stand × Bool) (lo := s.Lo + 1) (hi := s.Hi) (by omega) (by omega) (fun a t => (t, a.1.Span.Lo, a.1.Span.Hi, a.1.Height, a.2.1.Span.Lo, a.2.1.Span.Hi, a.2.1.Height, a.2.2)) (fun a t => ((exS (hgt w) sg (left s.Hi t) t (comb sg a.1 a.2.1 a.2.2)).1, (exS (hgt w) sg (left s.Hi t) t (comb sg a.1 a.2.1 a.2.2)).2, 0)) (fun t a => (-32000 ≤ a.1.Height ∧ a.1.Height ≤ 32000) ∧ (-32000 ≤ a.2.1.Height ∧ a.2.1.Height ≤ 32000)) (a := (⟨⟨s.Lo, s.Lo⟩, hgt w s.Lo⟩, ⟨⟨0, 0⟩, 0⟩, false)) rfl ⟨hgt_bound g _, by simp⟩ (fun a t ht0 ht1 hJ => ?_) (fun a hJ => ?_)
    · obtain ⟨⟨⟨lo, hi⟩, h⟩, ⟨⟨lo2, hi2⟩, h2⟩, is⟩ := a
      simp only at hJ ⊢
      obtain ⟨⟨b0, b1⟩, b2, b3⟩ := hJ
      unfold tide_extreme_b3
      simp only
      rw [show (tide_stands w s).2.Hi = s.Hi from rfl, if_pos (decide_eq_true ht1), heights_eq g (by omega) (by omega), Option.bind_some, left_succ ht1, sign_cases hs (by omega) (by omega), sign_cases hs (by omega) (by omega)]
      simp only [exS]
      have bt := hgt_bound g t
      by_cases e : hgt w t = h
      · rw [if_pos (by simpa using e)]
        unfold tide_extreme_j4
        rw [w64_id (by omega) (by omega)]
        refine ⟨(⟨⟨lo, t⟩, h⟩, ⟨⟨lo2, hi2⟩, h2⟩, is), rfl, ?_, ⟨b0, b1⟩, b2, b3⟩
        have : better sg (comb sg ⟨⟨lo, hi⟩, h⟩ ⟨⟨lo2, hi2⟩, h2⟩ is) (hgt w t, t) = comb sg ⟨⟨lo, t⟩, h⟩ ⟨⟨lo2, hi2⟩, h2⟩ is := by
          unfold better comb better
          rw [e]
          cases is with
          | false => simp
          | true =>
            simp only [if_true]
            by_cases hc : sg * h2 < sg * h
            · simp [hc]
            · simp [hc]
        rw [this]
      · rw [if_neg (by simpa using e)]
        have hj5 : ∀ (a b c : Int) (z : Bool), tide_extreme_j5 t (hgt w t) a b c z = some (.inl (t + 1, t, t, hgt w t, a, b, c, z)) := by
          intro a b c z
          unfold tide_extreme_j5 tide_extreme_j4
          rw [w64_id (by omega) (by omega)]
        simp only [hj5]
        by_cases hc : is = false ∨ sg * h2 < sg * h
        · rw [if_pos (by cases is <;> simp_all)]
          refine ⟨(⟨⟨t, t⟩, hgt w t⟩, ⟨⟨lo, hi⟩, h⟩, true), rfl, ?_, ⟨by simp only; omega, by simp only; omega⟩, b0, b1⟩
          have : comb sg ⟨⟨lo, hi⟩, h⟩ ⟨⟨lo2, hi2⟩, h2⟩ is = (h, lo) := by
            unfold comb better
            cases is with
            | false => rfl
            | true => simp only [if_true]; rw [if_pos (by simpa using hc)]
          rw [this]
          rfl
        · have his : is = true := by cases is <;> simp_all
          subst his
          rw [if_neg (by simpa using hc)]
          refine ⟨(⟨⟨t, t⟩, hgt w t⟩, ⟨⟨lo2, hi2⟩, h2⟩, true), rfl, ?_, ⟨by simp only; omega, by simp only; omega⟩, b2, b3⟩
          have : comb sg ⟨⟨lo, hi⟩, h⟩ ⟨⟨lo2, hi2⟩, h2⟩ true = (h2, lo2) := by
            unfold comb better
            simp only [if_true]; rw [if_neg (by simpa using hc)]
          rw [this]
          rfl
    · obtain ⟨⟨⟨lo, hi⟩, h⟩, ⟨⟨lo2, hi2⟩, h2⟩, is⟩ := a
      simp only at hJ ⊢
      unfold tide_extreme_b3
      simp only
      rw [show (tide_stands w s).2.Hi = s.Hi from rfl, if_neg (show ¬ decide (s.Hi + 1 ≤ s.Hi) = true by rw [decide_eq_true_eq]; omega), left_end]
      unfold tide_extreme_j1 tide_extreme_j2
      rw [sign_cases hs (by omega) (by omega), sign_cases hs (by omega) (by omega)]
      simp only [exS, comb, better]
      cases is with
      | false => simp
      | true =>
        by_cases hc : sg * h2 < sg * h
        · simp [hc]
        · simp [hc]
  · rw [if_pos (by simp [h]), if_neg h]
theorem RExtreme_eq (w : api_Water) (hw : LenW w) (s : api_Span) (high : Bool) : ref02_Extreme w s high = some ⟨(extremeS w s (if high = true then 1 else -1)).1, (extremeS w s (if high = true then 1 else -1)).2.1, (extremeS w s (if high = true then 1 else -1)).2.2⟩ := by
  unfold ref02_Extreme extremeS
  rw [Watched_eq w hw, Option.bind_some]
  by_cases h : askS w s = 0
  · rw [if_neg (by simp [h]), if_pos h]
    obtain ⟨g, l0, l1, l2, l3⟩ := ask_of hw h
    generalize hsg : (if high = true then (1 : Int) else -1) = sg
    rw [At_eq g l0 (by omega), Option.bind_some]
    have hbet : ∀ (p : Int × Int) (x t : Int), ((high && decide (p.1 < x)) || (!high && decide (x < p.1))) = decide (sg * p.1 < sg * x) := by
      intro p x t
      cases high with
      | true => simp only [if_true] at hsg; subst hsg; simp
      | false =>
        simp only [Bool.false_eq_true, if_false] at hsg
        subst hsg
        simp only [Bool.false_and, Bool.not_false, Bool.true_and, Bool.false_or, decide_eq_decide]
        omega
    have h0 : exS (hgt w) sg (left s.Hi s.Lo) s.Lo (hgt w s.Lo, s.Lo) = exS (hgt w) sg (left s.Hi (s.Lo + 1)) (s.Lo + 1) (hgt w s.Lo, s.Lo) := by
      rw [left_succ l1]
      simp [exS, better]
    rw [← h0]
    refine lp_span (τ := Int × Int) (lo := s.Lo) (hi := s.Hi) (by omega) (by omega) (fun a t => (t, a.1, a.2)) (fun a t => (⟨(exS (hgt w) sg (left s.Hi t) t a).1, (exS (hgt w) sg (left s.Hi t) t a).2, 0⟩ : ref02_Peak)) (fun _ _ => True) (a := (hgt w s.Lo, s.Lo)) rfl trivial (fun a t ht0 ht1 hJ => ?_) (fun a hJ => ?_)
    · obtain ⟨x, y⟩ := a
      unfold ref02_Extreme_b2
      simp only
      rw [if_pos (by simpa using ht1), At_eq g (by omega) (by omega), Option.bind_some, left_succ ht1]
      simp only [exS]
      have hb := hbet (x, y) (hgt w t) t
      simp only at hb
      rw [hb]
      unfold ref02_Extreme_j3
      rw [w64_id (by omega) (by omega)]
      refine ⟨better sg (x, y) (hgt w t, t), ?_, rfl, trivial⟩
      unfold better
      simp only [decide_eq_true_eq]
      split <;> rfl
    · obtain ⟨x, y⟩ := a
      unfold ref02_Extreme_b2
      simp only
      rw [if_neg (by simp; omega), left_end]
      rfl
  · rw [if_pos (by simp [h]), if_neg h]
end Go.Mx
