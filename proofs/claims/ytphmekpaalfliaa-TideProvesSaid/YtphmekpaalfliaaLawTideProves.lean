/- TideProves: the plain law. Conditions: none. -/
import Derived.Test.YtphmekpaalfliaaLawW
import Derived.Test.YtphmekpaalfliaaLawQ
set_option linter.unusedVariables false
namespace Go.Mx

/-- The greatest common divisor. -/
def gcdI (a b : Int) : Int := (Nat.gcd a.toNat b.toNat : Nat)
theorem gcd_step {g n : Int} (hg : 0 ≤ g) (hn : 0 < n) : gcdI n (g.tmod n) = gcdI g n := by
  rw [Int.tmod_eq_emod_of_nonneg hg]
  obtain ⟨g', rfl⟩ := Int.eq_ofNat_of_zero_le hg
  obtain ⟨n', rfl⟩ := Int.eq_ofNat_of_zero_le (show 0 ≤ n by omega)
  unfold gcdI
  have e : ((g' : Int) % (n' : Int)).toNat = g' % n' := by omega
  rw [e]
  simp only [Int.toNat_natCast]
  rw [Nat.gcd_comm n' (g' % n'), ← Nat.gcd_rec, Nat.gcd_comm]
theorem gcd_zero {g : Int} (hg : 0 ≤ g) : gcdI g 0 = g := by unfold gcdI; simp; omega
theorem zero_gcd {g : Int} (hg : 0 ≤ g) : gcdI 0 g = g := by unfold gcdI; simp; omega
theorem rem_eq {g n : Int} (hn : 0 < n) : rem g n = some (g.tmod n) := by unfold rem; rw [if_neg (by omega)]
theorem inner_eq {g n : Int} (x1 : Int) (hg : 0 ≤ g) (hn : 0 ≤ n) (hb : n ≤ 4611686018427387904) : Lp (tide_gcd_b4 x1) fuel (g, n) = some (.inl (gcdI g n, w64 (x1 + 1))) := by
  suffices h : ∃ r, Lp (tide_gcd_b4 x1) fuel (g, n) = some r ∧ r = .inl (gcdI g n, w64 (x1 + 1)) by obtain ⟨r, h, rfl⟩ := h; exact h
  refine lp_inv' (fun (i : Nat) (s : Int × Int) => 0 ≤ s.1 ∧ 0 ≤ s.2 ∧ s.2 + i ≤ n ∧ gcdI s.1 s.2 = gcdI g n) _ (n.toNat + 1) (by omega) ⟨hg, hn, by simp, rfl⟩ fun i s hi hI => ?_
  obtain ⟨a, b⟩ := s
  simp only at hI
  obtain ⟨h1, h2, h3, h4⟩ := hI
  unfold tide_gcd_b4
  simp only
  by_cases h : 0 < b
  · left
    have l := Int.tmod_lt_of_pos a h
    have l0 := Int.tmod_nonneg b h1
    rw [if_pos (by simpa using h), rem_eq h, Option.bind_some]
    exact ⟨by omega, _, rfl, by simp only; omega, l0, by simp only; omega, by rw [← h4]; exact gcd_step h1 h⟩
  · right
    have e : b = 0 := by omega
    subst e
    rw [if_neg (by simp)]
    exact ⟨_, rfl, by rw [← h4, gcd_zero h1]⟩
theorem common_eq {g n : Int} (hg : 0 ≤ g) (hn : 0 ≤ n) (hb : n ≤ 4611686018427387904) : ref02_common g n = some (gcdI g n) := by
  unfold ref02_common
  suffices h : ∃ r, Lp ref02_common_b2 fuel (g, n) = some r ∧ r = gcdI g n by obtain ⟨r, h, rfl⟩ := h; exact h
  refine lp_inv' (fun (i : Nat) (s : Int × Int) => 0 ≤ s.1 ∧ 0 ≤ s.2 ∧ s.2 + i ≤ n ∧ gcdI s.1 s.2 = gcdI g n) _ (n.toNat + 1) (by omega) ⟨hg, hn, by simp, rfl⟩ fun i s hi hI => ?_
  obtain ⟨a, b⟩ := s
  simp only at hI
  obtain ⟨h1, h2, h3, h4⟩ := hI
  unfold ref02_common_b2
  simp only
  by_cases h : 0 < b
  · left
    have l := Int.tmod_lt_of_pos a h
    have l0 := Int.tmod_nonneg b h1
    rw [if_pos (by simp; omega), rem_eq h, Option.bind_some]
    exact ⟨by omega, _, rfl, by simp only; omega, l0, by simp only; omega, by rw [← h4]; exact gcd_step h1 h⟩
  · right
    have e : b = 0 := by omega
    subst e
    rw [if_neg (by simp)]
    exact ⟨_, rfl, by rw [← h4, gcd_zero h1]⟩
theorem gcdI_le {g n : Int} (hg : 0 ≤ g) (hn : 0 ≤ n) : 0 ≤ gcdI g n ∧ (0 < g → gcdI g n ≤ g ∧ 0 < gcdI g n) := by
  unfold gcdI
  refine ⟨by omega, fun h => ?_⟩
  have h1 := Nat.gcd_le_left n.toNat (show 0 < g.toNat by omega)
  have h2 := Nat.gcd_pos_of_pos_left n.toNat (show 0 < g.toNat by omega)
  omega
/-- The common divisor of numbers, one after the other. -/
def gcdL : Int → List Int → Int
  | g, [] => g
  | g, x :: r => gcdL (gcdI g x) r
theorem gcd_eq (l : List Int) (hl : Len l) (h : ∀ x ∈ l, 0 ≤ x ∧ x ≤ 4611686018427387904) : tide_gcd l = some (gcdL 0 l) := by
  unfold tide_gcd
  refine lp_list l hl (fun (g : Int) i => (g, i)) gcdL (fun _ g => 0 ≤ g) rfl (by omega) (fun g i hi hJ => ?_) (fun g _ => ?_)
  · left
    unfold tide_gcd_b2
    simp only
    have hx := h _ (List.getElem_mem hi)
    rw [if_pos (by simpa using hi), ix_lt hi, Option.bind_some, inner_eq _ hJ hx.1 hx.2, w64s' hi hl]
    exact ⟨_, rfl, rfl, (gcdI_le hJ hx.1).1⟩
  · unfold tide_gcd_b2
    simp only
    rw [if_neg (by simp)]; rfl
theorem SameInts_self (l : List Int) (hl : Len l) : ref02_SameInts l l = some true := by
  unfold ref02_SameInts
  rw [if_neg (by simp)]
  refine lp_list l hl (fun (_ : Unit) i => i) (fun _ _ => true) (fun _ _ => True) (a := ()) rfl trivial (fun a i hi _ => ?_) (fun a _ => ?_)
  · unfold ref02_SameInts_b2
    rw [if_pos (by simpa using hi), ix_lt hi]
    simp only [Option.bind_some]
    left
    rw [if_neg (by simp), w64s' hi hl]
    exact ⟨(), rfl, trivial, trivial⟩
  · unfold ref02_SameInts_b2
    rw [if_neg (by simp)]; rfl
theorem SameCycle_self (c : api_Cycle) (hl : Len c.Heights) : ref02_SameCycle c c = some true := by
  unfold ref02_SameCycle
  rw [SameInts_self _ hl]
  simp
end Go.Mx

set_option linter.unusedVariables false
namespace Go.Mx

theorem Arr_7_int.ext' {a b : Arr_7_int} (h : a.toL = b.toL) : a = b := by
  cases a; cases b
  simp only [Arr_7_int.toL, List.cons.injEq, and_true] at h
  obtain ⟨h0, h1, h2, h3, h4, h5, h6⟩ := h
  subst h0; subst h1; subst h2; subst h3; subst h4; subst h5; subst h6; rfl

/-- What the specification holds of a part's values: the cycles, nothing, and the corrections. -/
def botL : List Int → List Int
  | [] => List.replicate 7 0
  | c :: r => r ++ (List.replicate (6 - r.length) 0 ++ [c])
def bot (v : List Int) : Arr_7_int := Arr_7_int.ofL (botL v)
theorem botL_len : ∀ {v : List Int}, v.length ≤ 7 → (botL v).length = 7
  | [], _ => rfl
  | c :: r, h => by simp only [List.length_cons] at h; simp [botL]; omega
theorem bot_toL {v : List Int} (h : v.length ≤ 7) : (bot v).toL = botL v := Arr_7_int.toL_of (botL_len h)

theorem bottomed_eq {w : api_Water} (hw : GoodW w) {t : Int} (h0 : 0 ≤ t) (h1 : t ≤ 1099511627776) : ref02_bottomed w t = some ⟨bot (pv w t)⟩ := by
  have hn := hw.nc
  unfold ref02_bottomed
  rw [Rcorrection_eq w (by have := hw.ns; unfold Len; omega) t h0 h1, Option.bind_some]
  refine lp_list w.Cycles (by omega) (fun (A : Arr_7_int) i => (i, A)) (fun A r => (⟨bot (pv w t)⟩ : ref02_bottom)) (fun i A => A.toL = (w.Cycles.take i).map (fun c => val c t) ++ (List.replicate (6 - i) 0 ++ [corr w.Shifts t])) (a := ⟨0, 0, 0, 0, 0, 0, corr w.Shifts t⟩) rfl (by simp [Arr_7_int.toL]) (fun A i hi hJ => ?_) (fun A hJ => ?_)
  · left
    unfold ref02_bottomed_b2
    simp only
    rw [if_pos (by simpa using hi), ix_lt hi, Option.bind_some, Of_eq (hw.cs _ (List.getElem_mem hi)) (by omega) h1, Option.bind_some]
    have hl : ((w.Cycles.take i).map (fun c => val c t)).length = i := by simp; omega
    have hr : List.replicate (6 - i) (0 : Int) = 0 :: List.replicate (6 - (i + 1)) 0 := by rw [show 6 - i = (6 - (i + 1)) + 1 by omega, List.replicate_succ]
    have hix : ix A.toL (i : Int) = some 0 := by
      unfold ix
      rw [if_pos (by omega), hJ, Int.toNat_natCast, List.getElem?_append_right (by omega), hl, hr]
      simp
    rw [hix, Option.bind_some]
    refine ⟨A.set i (val w.Cycles[i] t), ?_, trivial, ?_⟩
    · rw [w64s' hi (by omega)]
    · rw [Arr_7_int.toL_set, hJ]
      unfold put
      rw [Int.toNat_natCast, List.set_append_right _ _ (by omega), hl, hr, Nat.sub_self, List.cons_append, List.set_cons_zero, List.take_add_one, List.getElem?_eq_getElem hi, List.map_append]
      simp only [Option.toList_some, List.map_cons, List.map_nil, List.append_assoc, List.singleton_append]
  · unfold ref02_bottomed_b2
    simp only
    rw [if_neg (by simp)]
    unfold ref02_bottomed_j1
    simp only [Option.map_some, Option.some.injEq, Sum.inr.injEq, ref02_bottom.mk.injEq]
    refine Arr_7_int.ext' ?_
    rw [hJ, bot_toL (by rw [pv_len]; omega)]
    simp [botL, pv]

theorem lower_lit (a0 a1 a2 a3 a4 a5 a6 b0 b1 b2 b3 b4 b5 b6 : Int) : ref02_lower ⟨⟨a0, a1, a2, a3, a4, a5, a6⟩⟩ ⟨⟨b0, b1, b2, b3, b4, b5, b6⟩⟩ = some ⟨⟨min a0 b0, min a1 b1, min a2 b2, min a3 b3, min a4 b4, min a5 b5, min a6 b6⟩⟩ := rfl
theorem high_lit (w : api_Water) (a0 a1 a2 a3 a4 a5 a6 : Int) : ref02_high w ⟨⟨a0, a1, a2, a3, a4, a5, a6⟩⟩ = some (w64 (w64 (w64 (w64 (w64 (w64 (w64 (w.Level + a0) + a1) + a2) + a3) + a4) + a5) + a6)) := rfl

theorem lower_toL (a b : Arr_7_int) : ref02_lower ⟨a⟩ ⟨b⟩ = some ⟨Arr_7_int.ofL (List.zipWith min a.toL b.toL)⟩ := by
  cases a; cases b; exact lower_lit ..
theorem high_toL (w : api_Water) (a : Arr_7_int) : ref02_high w ⟨a⟩ = some (w64 (w.Level + a.toL.sum)) := by
  cases a
  rw [high_lit]
  simp only [w64_add, Arr_7_int.toL, List.sum_cons, List.sum_nil]
  congr 2; omega

theorem zip_rep (n : Nat) : List.zipWith min (List.replicate n (0 : Int)) (List.replicate n 0) = List.replicate n 0 := by
  induction n with
  | zero => rfl
  | succ n ih => simp only [List.replicate_succ, List.zipWith_cons_cons, ih]; rfl
theorem sum_rep (n : Nat) : (List.replicate n (0 : Int)).sum = 0 := by
  induction n with
  | zero => rfl
  | succ n ih => simp only [List.replicate_succ, List.sum_cons, ih]; rfl

theorem lower_bot {a b : List Int} (ha : a.length ≤ 7) (hab : a.length = b.length) (h0 : 1 ≤ a.length) : ref02_lower ⟨bot a⟩ ⟨bot b⟩ = some ⟨bot (vmin b a)⟩ := by
  rw [lower_toL, bot_toL ha, bot_toL (by omega)]
  have e : List.zipWith min (botL a) (botL b) = botL (vmin b a) := by
    cases a with
    | nil => simp at h0
    | cons c r =>
      cases b with
      | nil => simp at hab
      | cons d q =>
        simp only [List.length_cons, Nat.add_right_cancel_iff] at hab
        simp only [botL, vmin, List.zipWith_cons_cons, List.length_zipWith]
        rw [List.zipWith_append hab, hab, Nat.min_self, List.zipWith_append rfl, zip_rep]
        simp only [List.zipWith_cons_cons, List.zipWith_nil_left, Int.min_comm d c]
        congr 1
        exact List.zipWith_comm_of_comm (fun x y => Int.min_comm x y)
  rw [e]; rfl
theorem high_bot {w : api_Water} (hw : GoodW w) {v : List Int} (hv : OkV w v) : ref02_high w ⟨bot v⟩ = some (fl w v) := by
  have := hw.nc
  rw [high_toL, bot_toL (by rw [hv.1]; omega)]
  have e : (botL v).sum = v.sum := by
    cases v with
    | nil => have := hv.1; simp at this
    | cons c r => simp only [botL, List.sum_append, sum_rep, List.sum_cons, List.sum_nil]; omega
  rw [e, fl_w64 hw hv]

theorem mv_lower {w : api_Water} (hw : GoodW w) {s t : Int} (h : s ≤ t - 1) : ref02_lower ⟨bot (mv w (t - 1) (t - 1 - s).toNat)⟩ ⟨bot (pv w t)⟩ = some ⟨bot (mv w t (t - s).toNat)⟩ := by
  have hn := hw.nc
  rw [lower_bot (by rw [mv_len]; omega) (by rw [mv_len, pv_len]) (by rw [mv_len]; omega)]
  have := mv_next w (a := s) (t := t - 1) h
  rw [show t - 1 + 1 = t by omega] at this
  rw [this]

/-! ### Prove -/

theorem Rprove_eq (w : api_Water) (hw : LenW w) (s : api_Span) (height : Int) : ref02_Prove w s height = some ⟨(proveS w s height).1, (proveS w s height).2⟩ := by
  unfold ref02_Prove proveS
  rw [RExtreme_eq w hw s false, Option.bind_some]
  simp only [Bool.false_eq_true, if_false]
  by_cases hq : askS w s = 0
  · have A := ask_of hw hq
    have he : (extremeS w s (-1)).2.2 = 0 := by unfold extremeS; rw [if_pos hq]
    rw [if_neg (by simp [he])]
    simp only [if_pos hq]
    by_cases hl : (extremeS w s (-1)).1 < height
    · rw [if_pos (by simpa using hl)]; simp only [if_pos hl]
    · have h0 := A.l0; have h1 := A.l1; have h2 := A.l2; have h3 := A.l3
      rw [if_neg (by simpa using hl), bottomed_eq A.g h0 (by omega), Option.bind_some, w64_id (n := s.Lo + 1) (by omega) (by omega)]
      simp only [if_neg hl]
      have hg0 : ¬ GG w s.Lo s.Lo < height := by
        have := (lowest_iff hw hq height).1 hl s.Lo (Int.le_refl _) h1
        rw [GG_self]; omega
      have hleft : grd (GG w) height (left s.Hi s.Lo) s.Lo s.Lo = grd (GG w) height (left s.Hi (s.Lo + 1)) (s.Lo + 1) s.Lo := by
        rw [left_succ h1]
        simp only [grd]
        rw [if_neg hg0]
      rw [hleft]
      refine lp_span (lo := s.Lo + 1) (hi := s.Hi) (by omega) (by omega) (fun (a : List Int × Int) t => (t, a.1, bot (mv w (t - 1) (t - 1 - a.2).toNat))) (fun a t => (⟨(finP (a.1 ++ grd (GG w) height (left s.Hi t) t a.2)).1, (finP (a.1 ++ grd (GG w) height (left s.Hi t) t a.2)).2⟩ : ref02_Ints)) (fun t a => (a.1.length : Int) ≤ t - s.Lo ∧ a.2 ≤ t - 1) (a := ([], s.Lo)) ?_ ⟨by simp; omega, by simp⟩ (fun a t q0 q1 hJ => ?_) (fun a hJ => ?_) |>.trans (by simp)
      · simp only
        rw [show s.Lo + 1 - 1 = s.Lo by omega, show (s.Lo - s.Lo).toNat = 0 by omega]; rfl
      · obtain ⟨cuts, st⟩ := a
        simp only at hJ ⊢
        obtain ⟨hc, hb⟩ := hJ
        unfold ref02_Prove_b2
        simp only
        rw [if_pos (by simpa using q1), bottomed_eq A.g (by omega) (by omega), Option.bind_some, mv_lower A.g hb, Option.bind_some, high_bot A.g (mv_ok A.g _ _), Option.bind_some]
        have e : fl w (mv w t (t - st).toNat) = GG w st t := rfl
        rw [e, left_succ q1]
        simp only [grd]
        by_cases hlt : GG w st t < height
        · rw [if_pos (by simpa using hlt), if_pos hlt, app_one (by omega), Option.bind_some, Option.bind_some]
          refine ⟨(cuts ++ [t], t), ?_, by simp, ⟨by simp; omega, by simp⟩⟩
          unfold ref02_Prove_j3
          rw [w64_id (n := t + 1) (by omega) (by omega)]
          simp only
          rw [show t + 1 - 1 = t by omega, show (t - t).toNat = 0 by omega]; rfl
        · rw [if_neg (by simpa using hlt), if_neg hlt]
          refine ⟨(cuts, st), ?_, rfl, ⟨by simp only; omega, by simp only; omega⟩⟩
          unfold ref02_Prove_j3
          rw [w64_id (n := t + 1) (by omega) (by omega)]
          simp only
          rw [show t + 1 - 1 = t by omega]
      · obtain ⟨cuts, st⟩ := a
        unfold ref02_Prove_b2
        simp only
        rw [if_neg (by rw [decide_eq_true_eq]; omega), left_end]
        unfold ref02_Prove_j1 finP
        simp only [grd, List.append_nil]
        split <;> rename_i hh <;> simp only [decide_eq_true_eq] at hh
        · simp only [if_pos hh]; rfl
        · simp only [if_neg hh]; rfl
  · have he : (extremeS w s (-1)).2.2 = askS w s := by unfold extremeS; rw [if_neg hq]
    rw [if_pos (by simp [he, hq])]
    simp only [if_neg hq, he]

/-! ### CheckProof -/

theorem GG_less (w : api_Water) {s t : Int} (h : s ≤ t - 1) : GG w s t ≤ GG w s (t - 1) := by
  unfold GG fl
  have := mv_next w (a := s) (t := t - 1) h
  rw [show t - 1 + 1 = t by omega] at this
  rw [this]
  have := (vmin_right (a := pv w t) (b := mv w (t - 1) (t - 1 - s).toNat) (by rw [pv_len, mv_len])).sum
  omega

/-- As the specification looks: where a part ends. -/
def refg (w : api_Water) (h : Int) : Nat → Int → Int → List Int → Prop
  | 0, t, s, _ => h ≤ GG w s (t - 1)
  | n + 1, t, s, c :: cs => if c = t then h ≤ GG w s (t - 1) ∧ refg w h n (t + 1) t cs else refg w h n (t + 1) s (c :: cs)
  | n + 1, t, s, [] => refg w h n (t + 1) s []

theorem refg_good (w : api_Water) (h hi : Int) : ∀ (n : Nat) (t s : Int) (cs : List Int), (n : Int) = hi + 1 - t → s ≤ t - 1 → incr (t - 1) hi cs → (refg w h n t s cs ↔ h ≤ GG w s (t - 1) ∧ good (GG w) h n t s cs)
  | 0, t, s, cs, hn, hs, hin => by
    cases cs with
    | nil => simp [refg, good]
    | cons c r => obtain ⟨h1, h2, _⟩ := hin; omega
  | n + 1, t, s, cs, hn, hs, hin => by
    have hle := GG_less w hs
    cases cs with
    | nil =>
      show refg w h n (t + 1) s [] ↔ _
      rw [refg_good w h hi n (t + 1) s [] (by omega) (by omega) trivial, good_nil, show t + 1 - 1 = t by omega]
      exact ⟨fun k => ⟨by omega, k⟩, fun k => k.2⟩
    | cons c r =>
      obtain ⟨h1, h2, h3⟩ := hin
      by_cases e : c = t
      · subst e
        rw [good_cut]
        simp only [refg, if_true]
        rw [refg_good w h hi n (c + 1) c r (by omega) (by omega) (by rw [show c + 1 - 1 = c by omega]; exact h3), show c + 1 - 1 = c by omega]
      · rw [good_on e]
        simp only [refg, if_neg e]
        rw [refg_good w h hi n (t + 1) s (c :: r) (by omega) (by omega) ⟨by omega, h2, h3⟩, show t + 1 - 1 = t by omega]
        exact ⟨fun k => ⟨by omega, k⟩, fun k => k.2⟩

theorem incr_drop : ∀ (cs : List Int) (last hi : Int), incr last hi cs → ∀ (k : Nat) (hk : k < cs.length), last + 1 ≤ cs[k] ∧ cs[k] ≤ hi ∧ incr cs[k] hi (cs.drop (k + 1))
  | c :: r, last, hi, h, 0, hk => ⟨h.1, h.2.1, by simpa using h.2.2⟩
  | c :: r, last, hi, h, k + 1, hk => by
    have := incr_drop r c hi h.2.2 k (by simpa using hk)
    have h1 := h.1
    simp only [List.getElem_cons_succ, List.drop_succ_cons]
    exact ⟨by omega, this.2⟩

theorem Rcheck_j1 {w : api_Water} {s : api_Span} (A : Ask w s) (height : Int) (cuts : List Int) (hc : cuts.length ≤ 2000) (hin : incr s.Lo s.Hi cuts) : ref02_CheckProof_j1 w s height cuts = some (check8 (refg w height (left s.Hi (s.Lo + 1)) (s.Lo + 1) s.Lo cuts)) := by
  have h0 := A.l0; have h1 := A.l1; have h2 := A.l2; have h3 := A.l3
  unfold ref02_CheckProof_j1
  rw [bottomed_eq A.g h0 (by omega), Option.bind_some, w64_id (n := s.Lo + 1) (by omega) (by omega)]
  refine lp_span2 (lo := s.Lo + 1) (hi := s.Hi) (by omega) (by omega) (fun (a : Nat × Int) t => ((a.1 : Int), t, bot (mv w (t - 1) (t - 1 - a.2).toNat))) (fun a t => check8 (refg w height (left s.Hi t) t a.2 (cuts.drop a.1))) (fun t a => a.1 ≤ cuts.length ∧ a.2 ≤ t - 1 ∧ incr (t - 1) s.Hi (cuts.drop a.1)) (a := (0, s.Lo)) ?_ ⟨by simp, by simp, by simpa [show s.Lo + 1 - 1 = s.Lo by omega] using hin⟩ (fun a t q0 q1 hJ => ?_) (fun a hJ => ?_)
  · simp only
    rw [show s.Lo + 1 - 1 = s.Lo by omega, show (s.Lo - s.Lo).toNat = 0 by omega]; rfl
  · obtain ⟨k, st⟩ := a
    simp only at hJ ⊢
    obtain ⟨hk, hs, hi⟩ := hJ
    unfold ref02_CheckProof_b3
    simp only
    rw [if_pos (by simpa using q1), left_succ q1]
    have goOn : ∀ (hnot : ∀ c r, cuts.drop k = c :: r → c ≠ t), ((∃ a' : Nat × Int, (Option.bind (ref02_bottomed w t) fun y5 => Option.bind (ref02_lower (⟨bot (mv w (t - 1) (t - 1 - st).toNat)⟩ : ref02_bottom) y5) fun y6 => ref02_CheckProof_j4 t (k : Int) y6.L) = some (.inl ((a'.1 : Int), t + 1, bot (mv w (t + 1 - 1) (t + 1 - 1 - a'.2).toNat))) ∧ check8 (refg w height (left s.Hi (t + 1) + 1) t st (cuts.drop k)) = check8 (refg w height (left s.Hi (t + 1)) (t + 1) a'.2 (cuts.drop a'.1)) ∧ a'.1 ≤ cuts.length ∧ a'.2 ≤ t + 1 - 1 ∧ incr (t + 1 - 1) s.Hi (cuts.drop a'.1))) := by
      intro hnot
      refine ⟨(k, st), ?_, ?_, hk, by simp only; omega, ?_⟩
      · rw [bottomed_eq A.g (by omega) (by omega), Option.bind_some, mv_lower A.g hs, Option.bind_some]
        unfold ref02_CheckProof_j4
        rw [w64_id (n := t + 1) (by omega) (by omega), show t + 1 - 1 = t by omega]
      · cases hd : cuts.drop k with
        | nil => rfl
        | cons c r => simp only [refg, if_neg (hnot c r hd)]
      · simp only
        cases hd : cuts.drop k with
        | nil => trivial
        | cons c r =>
          rw [hd] at hi
          have := hnot c r hd
          exact ⟨by have := hi.1; omega, hi.2⟩
    by_cases hkl : k < cuts.length
    · have hd := List.drop_eq_getElem_cons hkl
      have dk : decide ((k : Int) < (cuts.length : Int)) = true := by simpa using hkl
      simp only [dk, ix_lt hkl, gb, if_true, Option.bind_some, Bool.true_and]
      by_cases hct : cuts[k] = t
      · rw [if_pos (by simpa using hct), high_bot A.g (mv_ok A.g _ _), Option.bind_some]
        have e : fl w (mv w (t - 1) (t - 1 - st).toNat) = GG w st (t - 1) := rfl
        rw [e, hd]
        simp only [refg, if_pos hct]
        by_cases hlt : GG w st (t - 1) < height
        · right
          rw [if_pos (by simpa using hlt), check8_f (fun k => by have := k.1; omega)]
        · left
          rw [if_neg (by simpa using hlt), bottomed_eq A.g (by omega) (by omega), Option.bind_some]
          refine ⟨(k + 1, t), ?_, check8_iff ⟨fun k => k.2, fun k => ⟨by omega, k⟩⟩, by simp only; omega, by simp only; omega, ?_⟩
          · unfold ref02_CheckProof_j4
            rw [w64_id (n := t + 1) (by omega) (by omega), w64s' hkl (by omega), show t + 1 - 1 = t by omega, show (t - t).toNat = 0 by omega]; rfl
          · rw [hd] at hi
            simp only
            rw [show t + 1 - 1 = cuts[k] by omega]
            exact hi.2.2
      · rw [if_neg (by simpa using hct)]
        exact .inl (goOn fun c r h => by rw [hd] at h; simp only [List.cons.injEq] at h; rw [← h.1]; exact hct)
    · have dk : decide ((k : Int) < (cuts.length : Int)) = false := by simp; omega
      simp only [dk, gb, Bool.false_eq_true, if_false, Option.bind_some, Bool.false_and]
      exact .inl (goOn fun c r h => by rw [List.drop_eq_nil_of_le (by omega)] at h; cases h)
  · obtain ⟨k, st⟩ := a
    obtain ⟨hk, hs, hi⟩ := hJ
    unfold ref02_CheckProof_b3
    simp only
    rw [if_neg (by rw [decide_eq_true_eq]; omega), left_end]
    unfold ref02_CheckProof_j2
    rw [high_bot A.g (mv_ok A.g _ _), Option.bind_some]
    have e : fl w (mv w (s.Hi + 1 - 1) (s.Hi + 1 - 1 - st).toNat) = GG w st (s.Hi + 1 - 1) := rfl
    rw [e]
    simp only [refg]
    by_cases hlt : GG w st (s.Hi + 1 - 1) < height
    · rw [if_pos (by simpa using hlt), check8_f (by omega)]; rfl
    · rw [if_neg (by simpa using hlt), check8_t (by omega)]; rfl

theorem Rcheck_eq (w : api_Water) (hw : LenW w) (s : api_Span) (height : Int) (cuts : List Int) (hc : Len cuts) : ref02_CheckProof w s height cuts = some (if askS w s = 0 then (if (2000 : Int) < cuts.length then 2 else check8 (provesS w s height cuts)) else askS w s) := by
  unfold ref02_CheckProof
  rw [Watched_eq w hw s, Option.bind_some]
  by_cases hq : askS w s = 0
  · have A := ask_of hw hq
    have h0 := A.l0; have h1 := A.l1; have h2 := A.l2; have h3 := A.l3
    rw [if_pos hq, if_neg (by simp [hq])]
    by_cases hm : (2000 : Int) < cuts.length
    · rw [if_pos (by simpa using hm), if_pos hm]
    · rw [if_neg (by simpa using hm), if_neg hm]
      have hlen : cuts.length ≤ 2000 := by omega
      refine (lp_list cuts hc (fun (_ : Int) i => i) (fun last r => check8 (incr last s.Hi r ∧ refg w height (left s.Hi (s.Lo + 1)) (s.Lo + 1) s.Lo cuts)) (fun i last => (incr s.Lo s.Hi cuts ↔ incr last s.Hi (cuts.drop i)) ∧ s.Lo ≤ last ∧ last = (if i = 0 then s.Lo else cuts.getD (i - 1) 0)) (a := s.Lo) rfl ⟨by simp, Int.le_refl _, by simp⟩ (fun last i hi hJ => ?_) (fun last hJ => ?_)).trans ?_
      · obtain ⟨q0, q1, q2⟩ := hJ
        rw [List.drop_eq_getElem_cons hi] at q0
        have body : ref02_CheckProof_b5 w s height cuts (i : Int) = if (last + 1 ≤ cuts[i] ∧ cuts[i] ≤ s.Hi) then some (.inl ((i + 1 : Nat) : Int)) else some (.inr 8) := by
          unfold ref02_CheckProof_b5
          simp only
          rw [if_pos (by simpa using hi), ix_lt hi, Option.bind_some, w64s' hi hc]
          by_cases a1 : cuts[i] ≤ s.Lo
          · have d1 : decide (cuts[i] ≤ s.Lo) = true := by simpa using a1
            simp only [d1, gb, Bool.not_true, Bool.true_or, Bool.false_and, Bool.false_eq_true, if_false, Option.bind_some, if_true]
            rw [if_neg (by omega)]
          · have d1 : decide (cuts[i] ≤ s.Lo) = false := by simpa using a1
            simp only [d1, gb, Bool.not_false, if_true, Option.bind_some, Bool.false_or]
            by_cases a2 : s.Hi < cuts[i]
            · have d2 : decide (s.Hi < cuts[i]) = true := by simpa using a2
              simp only [d2, Bool.not_true, Bool.false_and, Bool.false_eq_true, if_false, Option.bind_some, Bool.true_or, if_true]
              rw [if_neg (by omega)]
            · have d2 : decide (s.Hi < cuts[i]) = false := by simpa using a2
              cases i with
              | zero =>
                simp only [d2, Int.natCast_zero, Int.lt_irrefl, decide_false, Bool.and_false, Bool.false_eq_true, if_false, Option.bind_some, Bool.false_and, Bool.or_false]
                rw [if_pos (by simp at q2; omega)]
              | succ j =>
                have hj : j < cuts.length := by omega
                have dj : decide ((0 : Int) < ((j + 1 : Nat) : Int)) = true := by rw [decide_eq_true_eq]; omega
                have ej : max 0 (w64 (((j + 1 : Nat) : Int) - 1)) = (j : Int) := by rw [w64_id (by omega) (by omega)]; omega
                have el : last = cuts[j] := by
                  rw [q2, if_neg (by omega)]
                  simp [List.getD_eq_getElem?_getD, hj]
                simp only [d2, dj, ej, ix_lt hj, Bool.not_false, Bool.and_self, if_true, Option.bind_some, Bool.false_or, Bool.true_and]
                by_cases a3 : cuts[j + 1] ≤ cuts[j]
                · rw [if_pos (by simpa using a3), if_neg (by omega)]
                · rw [if_neg (by simpa using a3), if_pos (by omega)]
        rw [body]
        by_cases hcc : last + 1 ≤ cuts[i] ∧ cuts[i] ≤ s.Hi
        · rw [if_pos hcc]
          refine .inl ⟨cuts[i], rfl, check8_iff ⟨fun h => ⟨h.1.2.2, h.2⟩, fun h => ⟨⟨hcc.1, hcc.2, h.1⟩, h.2⟩⟩, ?_, by omega, ?_⟩
          · rw [q0]; exact ⟨fun h => h.2.2, fun h => ⟨hcc.1, hcc.2, h⟩⟩
          · rw [if_neg (by omega)]; simp [List.getD_eq_getElem?_getD, hi]
        · rw [if_neg hcc]
          exact .inr (by rw [check8_f (fun h => hcc ⟨h.1.1, h.1.2.1⟩)])
      · obtain ⟨q0, q1, q2⟩ := hJ
        unfold ref02_CheckProof_b5
        have hin : incr s.Lo s.Hi cuts := q0.2 (by rw [List.drop_length]; trivial)
        rw [if_neg (by simp), Rcheck_j1 A height cuts hlen hin]
        simp only [Option.map_some]
        rw [check8_iff (p := refg w height (left s.Hi (s.Lo + 1)) (s.Lo + 1) s.Lo cuts) (q := incr last s.Hi [] ∧ refg w height (left s.Hi (s.Lo + 1)) (s.Lo + 1) s.Lo cuts) ⟨fun h => ⟨trivial, h⟩, fun h => h.2⟩]
      · congr 1
        have hn : (left s.Hi (s.Lo + 1) : Int) = s.Hi + 1 - (s.Lo + 1) := by unfold left; omega
        have hn2 : left s.Hi (s.Lo + 1) = (s.Hi - s.Lo).toNat := by unfold left; omega
        unfold provesS
        refine check8_iff ⟨fun h => ⟨h.1, ?_⟩, fun h => ⟨h.1, ?_⟩⟩
        · have := (refg_good w height s.Hi _ (s.Lo + 1) s.Lo cuts hn (by omega) (by rw [show s.Lo + 1 - 1 = s.Lo by omega]; exact h.1)).1 h.2
          rw [show s.Lo + 1 - 1 = s.Lo by omega, hn2] at this
          exact this
        · refine (refg_good w height s.Hi _ (s.Lo + 1) s.Lo cuts hn (by omega) (by rw [show s.Lo + 1 - 1 = s.Lo by omega]; exact h.1)).2 ?_
          rw [show s.Lo + 1 - 1 = s.Lo by omega, hn2]
          exact h.2
  · rw [if_neg hq, if_pos (by simp [hq])]

theorem holds_TideProves {w : api_Water} {s : api_Span} {height : Int} {cuts : List Int} (h0 : ok_api_Water w) (h1 : ok_api_Span s) (h3 : OkI .i64 height) (h4 : ok_26 cuts) : law02_TideProves w s height cuts = some true := by
  have hw := LenW.of h0
  have hc : Len cuts := h4.1
  unfold law02_TideProves
  obtain ⟨b, hb, _⟩ := few_spec w hw.c
  rw [hb, Option.bind_some]
  split
  · rw [sanity_true]; rfl
  · have hl : ((proveS w s height).1.length : Int) ≤ 2000 := by
      unfold proveS
      split
      · split
        · simp
        · unfold finP
          split
          · simp
          · simp only; omega
      · simp
    rw [prove_eq w hw, Option.bind_some, Rprove_eq w hw, Option.bind_some, sanity_true, Option.bind_some]
    rw [SameInts_self _ (by unfold Len; omega), check_eq w hw s height cuts hc, Rcheck_eq w hw s height cuts hc]
    simp [gb]
end Go.Mx
